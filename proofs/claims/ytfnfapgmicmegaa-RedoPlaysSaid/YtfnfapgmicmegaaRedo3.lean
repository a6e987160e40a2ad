/- A log in memory; what stands next in it. -/
import Derived.Test.YtfnfapgmicmegaaRedo2
import Derived.Test.YtfnfapgmicmegaaDiskIs
import Derived.IntWalk
namespace Go.Proofs.Ytfnfapgmicmegaa
open Go.RowKit Go.Joins
set_option linter.unusedVariables false

/-- A log as plain data. -/
structure LM where
  frm : Nat
  size : Nat
  at_ : Nat
  next : Int
  dead : Bool
def logF (d : Nat) (l : LM) : Nat → Value
  | 0 => .pointer (some ⟨d, 0, none⟩)
  | 1 => .int .i64 l.frm
  | 2 => .int .i64 l.size
  | 3 => .int .i64 l.at_
  | 4 => .int .u64 l.next
  | 5 => .bool l.dead
  | _ => undef
def LogAt (w : World) (lb d : Nat) (l : LM) : Prop := w.rowIs lb 60 6 (logF d l)
theorem LogAt.cell {w : World} {lb d : Nat} {l : LM} (h : LogAt w lb d l) : w.cell? ⟨lb, 0, none⟩ = some (.pointer (some ⟨d, 0, none⟩)) ∧ w.cell? ⟨lb, 1, none⟩ = some (.int .i64 l.frm) ∧ w.cell? ⟨lb, 2, none⟩ = some (.int .i64 l.size) ∧
    w.cell? ⟨lb, 3, none⟩ = some (.int .i64 l.at_) ∧ w.cell? ⟨lb, 4, none⟩ = some (.int .u64 l.next) ∧ w.cell? ⟨lb, 5, none⟩ = some (.bool l.dead) :=
  ⟨World.rowIs.cell h (i := 0) (by decide), World.rowIs.cell h (i := 1) (by decide), World.rowIs.cell h (i := 2) (by decide), World.rowIs.cell h (i := 3) (by decide), World.rowIs.cell h (i := 4) (by decide), World.rowIs.cell h (i := 5) (by decide)⟩
theorem LogAt.frozen {w : World} {lb d : Nat} {l : LM} (h : LogAt w lb d l) (i : Nat) : w.frozen? ⟨lb, i, none⟩ = false := World.rowIs.frozen h i
theorem LogAt.lt {w : World} {lb d : Nat} {l : LM} (h : LogAt w lb d l) : lb < w.heap.size := World.rowIs.lt h
theorem LogAt.touch {w w' : World} {lb d : Nat} {l : LM} {F : List Nat} (h : LogAt w lb d l) (t : Touch F w w') (hF : lb ∉ F) : LogAt w' lb d l := rowIs_touch h t hF
theorem LogAt.below {w w' : World} {lb d : Nat} {l : LM} (h : LogAt w lb d l) (t : Below w.heap.size w w') : LogAt w' lb d l := h.touch (F := []) (Touch.of_below t) (by simp)
theorem IsDisk.below {w w' : World} {d : Nat} {F : List Nat} {m : DM} (h : IsDisk w d F m) (t : Below w.heap.size w w') : IsDisk w' d F m := h.touch (F := []) (Touch.of_below t) (fun _ _ h => by cases h)

/-- A sector. -/
def secM (m : DM) (i : Nat) : ByteArray := (lastW m.wait i).getD (m.sure.getD i ⟨#[]⟩)
theorem rdM_up {m : DM} (i : Nat) (h : m.down = false) (hi : i < m.sure.length) : rdM m (i : Int) = (secM m i, 0) := by
  unfold rdM secM; rw [h, if_neg (by decide), if_neg (by omega), Int.toNat_natCast]
theorem rdM_down {m : DM} (i : Int) (h : m.down = true) : rdM m i = (⟨#[]⟩, 11) := by unfold rdM; rw [h, if_pos rfl]
theorem lastW_size : ∀ (l : List (Int × ByteArray)) (acc : Option ByteArray) (k : Int) {s : ByteArray}, (∀ x ∈ l, x.2.size = 64) → (∀ t, acc = some t → t.size = 64) → l.foldl (fun acc x => if x.1 = k then some x.2 else acc) acc = some s → s.size = 64
  | [], acc, k, s, _, ha, h => ha s h
  | x :: l, acc, k, s, hl, ha, h => by
    refine lastW_size l _ k (fun y hy => hl y (by simp [hy])) (fun t ht => ?_) h
    simp only at ht
    split at ht
    · cases ht; exact hl x (by simp)
    · exact ha t ht
theorem secM_size {m : DM} {k : Nat} (h : DOk m k) (i : Nat) (hi : i < m.sure.length) : (secM m i).size = 64 := by
  unfold secM
  cases hl : lastW m.wait i with
  | some s => exact lastW_size m.wait none i h.size.2 (fun t ht => by cases ht) hl
  | none =>
    show (m.sure.getD i ⟨#[]⟩).size = 64
    have : m.sure[i]? = some (m.sure[i]) := List.getElem?_eq_getElem hi
    simp only [List.getD, this, Option.getD_some]
    exact h.size.1 _ (List.getElem_mem _)

/-- The sectors of page i of what stands at sector p. -/
def pgSecs (m : DM) (p i : Nat) : List ByteArray := (List.range 9).map fun k => secM m (p + 1 + i * 9 + k)
def txN (m : DM) (p : Nat) : Int := leN (cut (mT (secM m p)) 0 2)
/-- Does a mark with this number stand at p, with room for its pages? -/
def txHead (m : DM) (p : Nat) (next : Int) (left : Nat) : Bool :=
  mOk (secM m p) && decide (mN (secM m p) = next) && decide (1 ≤ txN m p ∧ txN m p ≤ 64 ∧ mT (secM m p) = textM (txN m p) ∧ 9 * txN m p ≤ (left : Int) - 1)
def txOk (m : DM) (p : Nat) (next : Int) (left : Nat) : Bool := txHead m p next left && (List.range (txN m p).toNat).all fun i => joinOk (pgSecs m p i)
def txPages (m : DM) (p n : Nat) : List ByteArray := (List.range n).map fun i => joinP (pgSecs m p i)
theorem txPages_snoc (m : DM) (p n : Nat) : txPages m p n ++ [joinP (pgSecs m p n)] = txPages m p (n + 1) := by simp [txPages, List.range_succ]
theorem pgSecs_length (m : DM) (p i : Nat) : (pgSecs m p i).length = 9 := by simp [pgSecs]
theorem pgSecs_take (m : DM) (p i k : Nat) (h : k < 9) : (pgSecs m p i).take k ++ [secM m (p + 1 + i * 9 + k)] = (pgSecs m p i).take (k + 1) := by
  apply takeL_snoc
  simp [pgSecs, h]

/-- The cells of some of a page's sectors; of some pages. -/
def secRow (m : DM) (p i k : Nat) : List Value := ((pgSecs m p i).take k).map Value.string
def pgRow (m : DM) (p i : Nat) : List Value := (txPages m p i).map Value.string
theorem secRow_snoc (m : DM) (p i k r : Nat) (h : k < 9) (hr : p + 1 + i * 9 + k = r) : secRow m p i k ++ [.string (secM m r)] = secRow m p i (k + 1) := by
  unfold secRow; rw [← hr, ← pgSecs_take m p i k h]; simp
theorem secRow_all (m : DM) (p i : Nat) : secRow m p i 9 = (pgSecs m p i).map Value.string := by
  unfold secRow; rw [List.take_of_length_le (by rw [pgSecs_length]; omega)]
theorem pgRow_snoc (m : DM) (p i : Nat) : pgRow m p i ++ [.string (joinP (pgSecs m p i))] = pgRow m p (i + 1) := by
  unfold pgRow; rw [← txPages_snoc]; simp
/-- What reading the next answers. -/
def RdPost (w : World) (m : DM) (l : LM) (e : Ending) (w' : World) : Prop :=
  (txOk m (l.frm + l.at_) l.next (l.size - l.at_) = true ∧ ∃ v, e = .returned (.tuple #[.agg #[.int .u64 l.next, v], .bool true, .int .i64 0]) ∧
      w'.ownsRow w.heap.size 9 1 v (txN m (l.frm + l.at_)).toNat ((txPages m (l.frm + l.at_) (txN m (l.frm + l.at_)).toNat).map Value.string) ∧ Below w.heap.size w w') ∨
  (txOk m (l.frm + l.at_) l.next (l.size - l.at_) = false ∧ e = .returned (.tuple #[.agg #[.int .u64 0, .slice none 0 0], .bool false, .int .i64 0]) ∧ Below w.heap.size w w')
theorem RdPost.no {w w' : World} {m : DM} {l : LM} (h : txOk m (l.frm + l.at_) l.next (l.size - l.at_) = false) (hb : Below w.heap.size w w') : RdPost w m l (.returned (.tuple #[.agg #[.int .u64 0, .slice none 0 0], .bool false, .int .i64 0])) w' := .inr ⟨h, rfl, hb⟩
theorem RdPost.yes {w w' : World} {m : DM} {l : LM} {p left n : Nat} {seq : Int} {v : Value} (hp : p = l.frm + l.at_) (hleft : left = l.size - l.at_) (hok : txOk m p l.next left = true) (hn : txN m p = (n : Int)) (hs : seq = l.next)
    (hrow : w'.ownsRow w.heap.size 9 1 v n (pgRow m p n)) (hb : Below w.heap.size w w') : RdPost w m l (.returned (.tuple #[.agg #[.int .u64 seq, v], .bool true, .int .i64 0])) w' := by
  subst hp hleft hs
  refine .inl ⟨hok, v, rfl, ?_, hb⟩
  rw [hn, Int.toNat_natCast]
  exact hrow
theorem txOk_yes {m : DM} {p left n : Nat} {next : Int} (hn : txN m p = (n : Int)) (hh : txHead m p next left = true) (h : ∀ j, j < n → joinOk (pgSecs m p j) = true) : txOk m p next left = true := by
  unfold txOk
  rw [hh, Bool.true_and, List.all_eq_true, hn, Int.toNat_natCast]
  intro j hj
  exact h j (List.mem_range.1 hj)
theorem txOk_pages {m : DM} {p left n i : Nat} {next : Int} (hn : txN m p = (n : Int)) (hi : i < n) (h : joinOk (pgSecs m p i) = false) : txOk m p next left = false := by
  unfold txOk
  rw [Bool.and_eq_false_iff]
  right
  rw [List.all_eq_false]
  exact ⟨i, by rw [hn]; simpa using hi, by simp [h]⟩
theorem txOk_head {m : DM} {p left : Nat} {next : Int} (h : txHead m p next left = false) : txOk m p next left = false := by unfold txOk; rw [h]; rfl

theorem read_up {w : World} {d : Nat} {F : List Nat} {m : DM} (h : IsDisk w d F m) (hup : m.down = false) (i : Nat) (hi : i < m.sure.length) (hi2 : i ≤ 1000000) :
    Calls Try.prog 48 #[.pointer (some ⟨d, 0, none⟩), .int .i64 i] w fun e w' => e = .returned (.tuple #[.string (secM m i), .int .i64 0]) ∧ w = w' := by
  have := is_read h i (by omega) (by omega)
  rwa [rdM_up i hup hi] at this
theorem read_dn {w : World} {d : Nat} {F : List Nat} {m : DM} (h : IsDisk w d F m) (hup : m.down = true) (i : Nat) (hi2 : i ≤ 1000000) :
    Calls Try.prog 48 #[.pointer (some ⟨d, 0, none⟩), .int .i64 i] w fun e w' => e = .returned (.tuple #[.string ⟨#[]⟩, .int .i64 11]) ∧ w = w' := by
  have := is_read h i (by omega) (by omega)
  rwa [rdM_down i hup] at this

set_option maxRecDepth 100000 in
set_option maxHeartbeats 2000000 in
/-- Reading while the disk is down. -/
theorem lread_down {w : World} {lb d : Nat} {l : LM} {m : DM} {F : List Nat} (hl : LogAt w lb d l) (hd : IsDisk w d F m) (hdown : m.down = true) (hs : l.frm + l.at_ ≤ 1000000) :
    Calls Try.prog 28 #[.pointer (some ⟨lb, 0, none⟩)] w fun e w' => e = .returned (.tuple #[.agg #[.int .u64 0, .slice none 0 0], .bool false, .int .i64 11]) ∧ Below w.heap.size w w' := by
  obtain ⟨c0, c1, c2, c3, c4, c5⟩ := hl.cell
  have hlt := hl.lt
  have hz2 : w.heap.size + 1 ≤ (w.alloc (.cells #[.int .u64 0, .slice none 0 0] 62)).heap.size := by simp
  obtain ⟨p, hp⟩ : ∃ p : Nat, p = l.frm + l.at_ := ⟨_, rfl⟩
  have HRD := fun (W : World) (h : Below w.heap.size w W) => Lib.hid (read_dn (hd.below h) hdown p (by omega))
  have hwr : IntKind.i64.wrap ((l.frm : Int) + (l.at_ : Int)) = (p : Int) := by rw [IntKind.wrap_i64]; omega
  clear hdown hl hp
  go_enter Try.func28, Try.ntmps28
  go_wp2_with fail
  go_quiet ((go_at_call 48; exact quiet_left (HRD _ (below_drewN (below_alloc (Below.refl _ _)) _)).out))
  go_wp2_with fail
  refine bodyPost_ret (v := .tuple #[.agg #[.int .u64 0, .slice none 0 0], .bool false, .int .i64 11]) (by simp [results, Try.results28, go_sem]) rfl ⟨rfl, ?_⟩
  exact ((below_drewN (below_alloc (Below.refl _ _)) _).setCell (by simp) _).setCell (by simp) _

/-- A transaction's two cells. -/
def txF (a b : Value) : Nat → Value
  | 0 => a
  | 1 => b
  | _ => undef
theorem txF_new (w : World) (a b : Value) : (w.alloc (.cells #[a, b] 62)).rowIs w.heap.size 62 2 (txF a b) :=
  World.rowIs_alloc w #[a, b] 62 (txF a b) (fun i hi => by
    rcases i with _ | _ | i
    · rfl
    · rfl
    · simp at hi; omega)
theorem mark_facts {m : DM} {p : Nat} {next : Int} {left : Nat} (h : txHead m p next left = true) : mOk (secM m p) = true ∧ mN (secM m p) = next ∧ 1 ≤ txN m p ∧ txN m p ≤ 64 ∧ mT (secM m p) = textM (txN m p) ∧ 9 * txN m p ≤ (left : Int) - 1 := by
  unfold txHead at h
  simp only [Bool.and_eq_true, decide_eq_true_eq] at h
  exact ⟨h.1.1, h.1.2, h.2.1, h.2.2.1, h.2.2.2.1, h.2.2.2.2⟩
theorem txHead_no {m : DM} {p : Nat} {next : Int} {left : Nat} (h : ¬ (mOk (secM m p) = true ∧ mN (secM m p) = next ∧ 1 ≤ txN m p ∧ txN m p ≤ 64 ∧ mT (secM m p) = textM (txN m p) ∧ 9 * txN m p ≤ (left : Int) - 1)) : txHead m p next left = false := by
  rw [← Bool.not_eq_true]; exact fun e => h (mark_facts e)

set_option maxRecDepth 100000 in
set_option maxHeartbeats 8000000 in
/-- Reading what stands next. -/
theorem lread_up {w : World} {lb d k : Nat} {l : LM} {m : DM} {F : List Nat} (hl : LogAt w lb d l) (hd : IsDisk w d F m) (hup : m.down = false) (hok : DOk m k) (hin : l.frm + l.size ≤ m.sure.length) (hat : l.at_ < l.size) :
    Calls Try.prog 28 #[.pointer (some ⟨lb, 0, none⟩)] w (RdPost w m l) := by
  obtain ⟨c0, c1, c2, c3, c4, c5⟩ := hl.cell
  have hlt := hl.lt
  have hfew := hok.few
  obtain ⟨p, hp⟩ : ∃ p : Nat, p = l.frm + l.at_ := ⟨_, rfl⟩
  obtain ⟨left, hleft⟩ : ∃ left : Nat, left = l.size - l.at_ := ⟨_, rfl⟩
  have NO : ∀ W', txOk m p l.next left = false → Below w.heap.size w W' → RdPost w m l (.returned (.tuple #[.agg #[.int .u64 0, .slice none 0 0], .bool false, .int .i64 0])) W' := fun W' h hb => RdPost.no (by rw [← hp, ← hleft]; exact h) hb
  have hpl : p + left ≤ m.sure.length := by omega
  have HRD := fun (W : World) (h : Below w.heap.size w W) => Lib.hid (fun i hi => read_up (hd.below h) hup i hi (by omega))
  have HP := Lib.hid hp
  have HLF := Lib.hid hleft
  have hsz := secM_size hok p (by omega)
  have hsz' : (secM m p).size ≤ 9223372036854775807 := by omega
  have HSZ := fun i hi => Lib.hid (secM_size hok i hi)
  have HNO := Lib.hid NO
  have hwr : IntKind.i64.wrap ((l.frm : Int) + (l.at_ : Int)) = (p : Int) := by rw [IntKind.wrap_i64]; omega
  have hl1 : 1 ≤ left := by omega
  have hla : (l.size : Int) - (l.at_ : Int) = (left : Int) := by omega
  have HLA := Lib.hid hla
  have HLG := Lib.hid hl
  clear hup hp hleft hla NO hl hsz hin
  go_enter Try.func28, Try.ntmps28
  go_wp2_with fail
  go_quiet ((go_at_call 48; exact quiet_left ((HRD _ (below_drewN (below_alloc (Below.refl _ _)) _)).out p (by omega))))
  go_wp2_with fail
  refine (markGet_any (secM m p) _ hsz').mono ?_
  rintro e w2 ⟨rfl, q2, hw2⟩
  have hb2 : Below w.heap.size w w2 := by rw [hw2]; exact below_drewN (below_drewN (below_alloc (Below.refl _ _)) _) _
  have hr2 : w2.rowIs w.heap.size 62 2 (txF (.int .u64 0) (.slice none 0 0)) := by rw [hw2]; exact txF_new w _ _
  have HR2 := Lib.hid hr2
  have HB2 := Lib.hid hb2
  have hs2 := World.rowIs.lt hr2
  clear c0 c1 c2 c3 c4 c5 hw2 hb2
  obtain ⟨c0, c1, c2, c3, c4, c5⟩ := (HLG.out.below HB2.out).cell
  have k0 := World.rowIs.cell hr2 (i := 0) (by decide)
  have k1 := World.rowIs.cell hr2 (i := 1) (by decide)
  have f0 := World.rowIs.frozen hr2 0
  have f1 := World.rowIs.frozen hr2 1
  simp only [txF] at k0 k1
  clear hr2
  cases hmo : mOk (secM m p)
  · have HF := Lib.hid (txOk_head (txHead_no (m := m) (p := p) (next := l.next) (left := left) (by rw [hmo]; rintro ⟨h, -⟩; cases h)))
    clear hmo
    go_wp2_with fail
    refine bodyPost_ret (v := .tuple #[.agg #[.int .u64 0, .slice none 0 0], .bool false, .int .i64 0]) (by simp [results, Try.results28, go_sem, k0, k1]) rfl ?_
    exact HNO.out _ HF.out ((HB2.out.setCell (by simp) _).setCell (by simp) _)
  · by_cases hn : mN (secM m p) = l.next
    · have hN : ∃ n : Nat, txN m p = (n : Int) ∧ n < 65536 := by
        have h := leN_bd (cut (mT (secM m p)) 0 2)
        have hl : (cut (mT (secM m p)) 0 2).length ≤ 2 := by unfold cut; simp; omega
        have : (256 : Int) ^ (cut (mT (secM m p)) 0 2).length ≤ 65536 := by
          generalize (cut (mT (secM m p)) 0 2).length = j at hl
          rcases j with _ | _ | _ | j <;> first | decide | omega
        unfold txN
        exact ⟨(leN (cut (mT (secM m p)) 0 2)).toNat, by omega, by omega⟩
      obtain ⟨n, hN, hn64⟩ := hN
      have hg : leN (cut (mT (secM m p)) 0 2) = (n : Int) := hN
      have hmz : (mT (secM m p)).size = 48 := by
        unfold mT; rw [hmo, if_pos rfl, ByteArray.size_extract, ((mOk_iff _).1 hmo).1]
        rfl
      have hmz1 : 48 ≤ (mT (secM m p)).size := by omega
      have hmz2 : (mT (secM m p)).size ≤ 48 := by omega
      have e1 : (mN (secM m p) != l.next) = false := by rw [hn]; simp
      have HMO := Lib.hid hmo
      have HNX := Lib.hid hn
      have HN := Lib.hid hN
      have HG := Lib.hid hg
      have x2 : ∀ x : Later w2, x.1.cell? ⟨lb, 2, none⟩ = some (.int .i64 l.size) := fun x => (x.cell (Nat.lt_of_lt_of_le hlt HB2.out.size)).trans c2
      have x3 : ∀ x : Later w2, x.1.cell? ⟨lb, 3, none⟩ = some (.int .i64 l.at_) := fun x => (x.cell (Nat.lt_of_lt_of_le hlt HB2.out.size)).trans c3
      have q1 : IntKind.i64.wrap (n : Int) = (n : Int) := IntWalk.i64_in _ (by omega)
      have q2 : IntKind.i64.wrap (9 * (n : Int)) = 9 * (n : Int) := IntWalk.i64_in _ (by omega)
      have q3 : IntKind.i64.wrap ((l.size : Int) - (l.at_ : Int)) = (left : Int) := by rw [IntKind.wrap_i64, HLA.out]; omega
      have q4 : IntKind.i64.wrap ((left : Int) - 1) = (left : Int) - 1 := IntWalk.i64_in _ (by omega)
      have HTX := Lib.hid (fun W => text_any (n : Int) W (by omega) (by omega))
      clear hmo hn hN hg hmz
      have BAD : ¬ (1 ≤ n ∧ n ≤ 64 ∧ mT (secM m p) = textM n ∧ 9 * (n : Int) ≤ (left : Int) - 1) → Hid (txOk m p l.next left = false) := fun h => Lib.hid (txOk_head (txHead_no (by
        rw [HN.out]; rintro ⟨-, -, h1, h2, h3, h4⟩; exact h ⟨by omega, by omega, h3, h4⟩)))
      by_cases b1 : n < 1
      · have HF := BAD (by omega)
        have g1 : decide ((n : Int) < 1) = true := by simp; omega
        clear BAD b1
        go_wp2_with fail
        refine (get_any (mT (secM m p)) 0 2 _ (by omega) (by omega) (by omega)).mono ?_
        rintro e w4 ⟨rfl, rfl⟩
        rw [HG.out]
        go_wp2_with fail
        go_quiet (fail)
        go_wp2_with fail
        refine bodyPost_ret (v := .tuple #[.agg #[.int .u64 0, .slice none 0 0], .bool false, .int .i64 0]) (by simp [results, Try.results28, go_sem, k0, k1]) rfl ?_
        exact HNO.out _ HF.out (((below_drewN HB2.out _).setCell (by simp) _).setCell (by simp) _)
      · by_cases b2 : 64 < n
        · have HF := BAD (by omega)
          have g1 : decide ((n : Int) < 1) = false := by simp; omega
          have g2 : decide (64 < (n : Int)) = true := by simp; omega
          clear BAD b1 b2
          go_wp2_with fail
          refine (get_any (mT (secM m p)) 0 2 _ (by omega) (by omega) (by omega)).mono ?_
          rintro e w4 ⟨rfl, rfl⟩
          rw [HG.out]
          go_wp2_with fail
          go_quiet (fail)
          go_wp2_with fail
          refine bodyPost_ret (v := .tuple #[.agg #[.int .u64 0, .slice none 0 0], .bool false, .int .i64 0]) (by simp [results, Try.results28, go_sem, k0, k1]) rfl ?_
          exact HNO.out _ HF.out (((below_drewN HB2.out _).setCell (by simp) _).setCell (by simp) _)
        · have g1 : decide ((n : Int) < 1) = false := by simp; omega
          have g2 : decide (64 < (n : Int)) = false := by simp; omega
          by_cases b3 : mT (secM m p) = textM n
          · have st := str_eq b3
            by_cases b4 : 9 * (n : Int) ≤ (left : Int) - 1
            · have g4 : decide ((left : Int) - 1 < 9 * (n : Int)) = false := by simp; omega
              have hhead : txHead m p l.next left = true := by
                unfold txHead
                rw [HMO.out, HNX.out, HN.out, b3]
                simp; omega
              have HHD := Lib.hid hhead
              have B4 := Lib.hid b4
              clear BAD b3 hhead
              go_wp2_with fail
              refine (get_any (mT (secM m p)) 0 2 _ (by omega) (by omega) (by omega)).mono ?_
              rintro e w4 ⟨rfl, rfl⟩
              rw [HG.out]
              go_wp2_with fail
              refine wp_region_later (by kernel_rfl) (by kernel_rfl) ?_
              repeat (first | go_big_quiet_step ((go_at_call 36; refine Later.call (HTX.out _))) | quiet_step ((go_at_call 36; refine Later.call (HTX.out _))))
              refine wpQuiet_nil ?_
              rintro w3 ⟨y3, hw3⟩
              have hb3 : Below w2.heap.size w2 w3 := by rw [hw3]; exact y3.2
              clear hw3
              have HR3 := Lib.hid (rowIs_touch HR2.out (F := []) (Touch.of_below hb3) (by simp))
              have HB3 := Lib.hid (below_step hb3 HB2.out)
              have hs3 : w.heap.size < w3.heap.size := Nat.lt_of_lt_of_le hs2 hb3.size
              clear x2 x3 c0 c1 c2 c3 c4 c5 k0 k1 f0 f1 q1 q2 q3 q4 g1 g2 g4 st HB2 HR2 hb3 HTX e1 hs2
              have q1 : IntKind.i64.wrap (n : Int) = (n : Int) := IntWalk.i64_in _ (by omega)
              obtain ⟨i0, hi, hz0, hz1, hz2⟩ := info_parts Try.infoStr
              go_wp2_with fail
              go_loopw [97] (fun c wr => ∃ i : Nat, i ≤ n ∧ c = .int .i64 i ∧ (∀ j, j < i → joinOk (pgSecs m p j) = true) ∧ ∃ v, wr.rowIs w3.heap.size 62 2 (txF (.int .u64 (mN (secM m p))) v) ∧
                wr.ownsRow (w3.heap.size + 1) 9 1 v i (pgRow m p i) ∧ Below w3.heap.size w3 wr) (fun c _ => n - (intOf c).toNat)
              case atStart => exact ⟨0, Nat.zero_le _, rfl, fun j hj => absurd hj (by omega), _, txF_new _ _ _, World.ownsRow_nil _ _ _ _, below_alloc (Below.refl _ _)⟩
              case round =>
                obtain ⟨i, hin, rfl, hjoin, v, hrow, hown, hb⟩ := hrel
                have HJ := Lib.hid hjoin
                have HROW := Lib.hid hrow
                have HOWN := Lib.hid hown
                have HB := Lib.hid hb
                have htl := World.rowIs.lt hrow
                clear hjoin hrow hown hb
                obtain ⟨wo, rfl⟩ : ∃ wo : World, wo = wr := ⟨_, rfl⟩
                by_cases hlt2 : i < n
                · have HBW := Lib.hid (below_step HB.out HB3.out)
                  go_wp2_with fail
                  go_loopw [14, 100] (fun u c wr => ∃ k : Nat, k ≤ 9 ∧ c = .int .i64 k ∧ wr.ownsRow wo.heap.size 9 1 u k (secRow m p i k) ∧ Below wo.heap.size wo wr) (fun _ c _ => 9 - (intOf c).toNat)
                  case atStart => exact ⟨0, Nat.zero_le _, rfl, World.ownsRow_nil _ _ _ _, Below.refl _ _⟩
                  case round =>
                    obtain ⟨k, hk9, rfl, hall, hbx⟩ := hrel
                    have HALL := Lib.hid hall
                    have HBX := Lib.hid hbx
                    have hszx := hbx.size
                    clear hall hbx
                    by_cases hkl : k < 9
                    · have HBWX := Lib.hid (below_step HBX.out HBW.out)
                      obtain ⟨c0, c1, c2, c3, c4, c5⟩ := (HLG.out.below HBWX.out).cell
                      clear c2 c4 c5
                      obtain ⟨p1, hp1⟩ : ∃ p1 : Nat, p1 = p + 1 := ⟨_, rfl⟩
                      obtain ⟨i9, hi9⟩ : ∃ i9 : Nat, i9 = i * 9 := ⟨_, rfl⟩
                      obtain ⟨pi, hpi⟩ : ∃ pi : Nat, pi = p1 + i9 := ⟨_, rfl⟩
                      obtain ⟨r, hr⟩ : ∃ r : Nat, r = pi + k := ⟨_, rfl⟩
                      have w1 : IntKind.i64.wrap ((p : Int) + 1) = (p1 : Int) := by rw [IntKind.wrap_i64]; omega
                      have w2' : IntKind.i64.wrap ((i : Int) * 9) = (i9 : Int) := by rw [IntKind.wrap_i64]; omega
                      have w3' : IntKind.i64.wrap ((p1 : Int) + (i9 : Int)) = (pi : Int) := by rw [IntKind.wrap_i64]; omega
                      have w4' : IntKind.i64.wrap ((pi : Int) + (k : Int)) = (r : Int) := by rw [IntKind.wrap_i64]; omega
                      have hrl : r < m.sure.length := by omega
                      have er : p + 1 + i * 9 + k = r := by omega
                      have HTK := Lib.hid (secRow_snoc m p i k r hkl er)
                      have HRS := (HRD _ HBWX.out)
                      clear hp1 hi9 hpi hr er
                      go_wp2_with fail
                      go_quiet ((go_at_call 48; exact quiet_left ((HRD _ (below_drewN HBWX.out _)).out r hrl)))
                      clear c0 c1 c3 w1 w2' w3' w4'
                      go_wp2_with (at_builtin; refine wpList_append_own _ rfl (.tmp 130) (.tmp 132) 22 rfl wo.heap.size 9 i0 (.string ⟨#[]⟩) 1 16 Try.underlying22 hi hz0 hz1 hz2 rfl (by decide) _ _ _ rfl ((show (wr.drewN nq).ownsRow _ _ _ _ _ _ from HALL.out).alloc _) ⟨wr.heap.size, 0, none⟩ 1 1 [.string (secM m r)] rfl rfl ?c1 ?c2 ?c3 ?c4 ?c5 ?_)
                      case c1 => exact cell_one_new _ _ _
                      case c2 => intro u hu; simp at hu; subst hu; rfl
                      case c3 => unfold maxLen; omega
                      case c4 => omega
                      case c5 => simp; omega
                      intro v' w5 hown' hgrow _
                      rw [HTK.out] at hown'
                      have HO' := Lib.hid hown'
                      have HB5 := Lib.hid (((below_drewN HBX.out nq).alloc hszx (.cells #[.string (secM m r)] 9)).grown hgrow (by simp; omega) (fun q hq => (HALL.out.lt q hq).1))
                      clear hown' hgrow
                      go_wp2_with fail
                      go_roundw
                      case rel => exact ⟨k + 1, by omega, by go_num, HO'.out, HB5.out⟩
                      case measure => simp [intOf]; omega
                    · obtain rfl : k = 9 := by omega
                      have hall := HALL.out
                      rw [secRow_all] at hall
                      obtain ⟨g, cap, hv⟩ := ownsRow_form hall (by omega)
                      rw [hv] at hall
                      have hst : StrsAt wr (some ⟨g, 0, none⟩) (pgSecs m p i) := .inr ⟨g, 0, rfl, fun j x hx => by
                        have := hall.cells rfl (j := j) (u := .string x) (by simp [hx])
                        have e : (⟨g, 0, none⟩ : Addr).add j = ⟨g, j, none⟩ := by unfold Addr.add; split <;> simp_all
                        rw [e] at this
                        rw [Nat.zero_add]; exact this⟩
                      have HST := Lib.hid hst
                      have HSS : Hid (∀ s ∈ pgSecs m p i, s.size = 64) := Lib.hid (fun s hs => by
                        simp only [pgSecs, List.mem_map, List.mem_range] at hs
                        obtain ⟨k, hk, rfl⟩ := hs
                        exact (HSZ _ (by omega)).out)
                      subst hv
                      clear HALL hall hst
                      go_wp2_with fail
                      refine (joined_any (pgSecs_length m p i) HST.out HSS.out).mono ?_
                      rintro e w6 ⟨r, rfl, hjr, hb6⟩
                      have HB6 := Lib.hid (below_step hb6 HBX.out)
                      have HB7 := Lib.hid (below_step HB6.out HBW.out)
                      have HJR := Lib.hid hjr
                      have hs6 := HB6.out.size
                      clear hjr hb6
                      cases hjo : joinOk (pgSecs m p i)
                      · have HF := Lib.hid (txOk_pages (left := left) (next := l.next) HN.out hlt2 hjo)
                        have hr7 := rowIs_touch HR3.out (F := []) (Touch.of_below (below_step HB6.out HB.out)) (by simp)
                        have k0 := World.rowIs.cell hr7 (i := 0) (by decide)
                        have k1 := World.rowIs.cell hr7 (i := 1) (by decide)
                        have f0 := World.rowIs.frozen hr7 0
                        have f1 := World.rowIs.frozen hr7 1
                        simp only [txF] at k0 k1
                        clear hjo hr7
                        go_wp2_with fail
                        refine bodyPost_ret (v := .tuple #[.agg #[.int .u64 0, .slice none 0 0], .bool false, .int .i64 0]) (by simp [results, Try.results28, go_sem, k0, k1]) rfl ?_
                        exact HNO.out _ HF.out ((HB7.out.setCell (by simp) _).setCell (by simp) _)
                      · have HJO := Lib.hid hjo
                        clear hjo
                        have hrow6 := rowIs_touch HROW.out (F := []) (Touch.of_below HB6.out) (by simp)
                        have hown6 := ownsRow_touch HOWN.out (F := []) (Touch.of_below HB6.out) (by simp)
                        have k1 := World.rowIs.cell hrow6 (i := 1) (by decide)
                        simp only [txF] at k1
                        have HROW6 := Lib.hid hrow6
                        have HOWN6 := Lib.hid hown6
                        have hlt6 := World.rowIs.lt hrow6
                        clear hrow6 hown6
                        have HPS := Lib.hid (pgRow_snoc m p i)
                        have hbv : ∀ q, Value.ownBlock v = some q → w3.heap.size + 1 ≤ q := fun q hq => (HOWN.out.lt q hq).1
                        have HBV := Lib.hid hbv
                        have hrow6a := rowIs_touch HROW6.out (F := []) ((Touch.refl _ _).alloc (.cells #[.string r] 9)) (by simp)
                        have HR6A := Lib.hid hrow6a
                        have hs63 : w3.heap.size + 1 ≤ w6.heap.size := by omega
                        have HJ7 : Hid (∀ j, j < i + 1 → joinOk (pgSecs m p j) = true) := Lib.hid (fun j hj => by
                          rcases Nat.lt_or_ge j i with h | h
                          · exact HJ.out j h
                          · obtain rfl : j = i := by omega
                            exact HJO.out)
                        have hrp : r = joinP (pgSecs m p i) := HJR.out HJO.out
                        subst hrp
                        have HWO := Lib.hid (below_step HB6.out HB.out)
                        clear hbv hrow6a
                        go_wp2_with (at_builtin; refine wpList_append_own _ rfl (.tmp 144) (.tmp 146) 22 rfl (w3.heap.size + 1) 9 i0 (.string ⟨#[]⟩) 1 16 Try.underlying22 hi hz0 hz1 hz2 rfl (by decide) v i (pgRow m p i) rfl (HOWN6.out.alloc _) ⟨w6.heap.size, 0, none⟩ 1 1 [.string (joinP (pgSecs m p i))] rfl rfl (cell_one_new _ _ _) (by intro u hu; simp at hu; subst hu; rfl) (by unfold maxLen; omega) (by omega) (by simp; omega) ?_; intro v' w7 hown' hgrow _; obtain ⟨g2, cap2, rfl⟩ := ownsRow_form hown' (by omega); rw [HPS.out] at hown'; have hrow7 := rowIs_touch HR6A.out (Touch.of_grown hgrow) (fun hm => by (have := HBV.out _ (Option.mem_toList.1 hm)); omega); have k1 := World.rowIs.cell hrow7 (i := 1) (by decide); have f1 := World.rowIs.frozen hrow7 1; simp only [txF] at k1; have HOW := Lib.hid hown'; have HGR := Lib.hid hgrow; have HR7 := Lib.hid hrow7; clear hown' hgrow hrow7)
                        go_roundw
                        case rel =>
                          refine ⟨i + 1, by omega, by go_num, HJ7.out, .slice (some ⟨g2, 0, none⟩) (i + 1) cap2, ?_, ?_, ?_⟩
                          · refine World.rowIs.congr (World.rowIs.set HR7.out 1 _) (fun t ht => ?_)
                            rcases t with _ | _ | t
                            · rfl
                            · rfl
                            · omega
                          · refine ownsRow_touch HOW.out ((Touch.refl [w3.heap.size] _).setCell (.inl (by simp)) _) (fun q hq => ?_)
                            have := (HOW.out.lt q hq).1
                            simp; omega
                          · refine Below.setCell ?_ (by simp) _
                            refine Below.grown (below_alloc HWO.out) HGR.out (by simp; omega) (fun q hq => ?_)
                            have := HBV.out q hq
                            omega
                        case measure => simp [intOf]; omega
                · obtain rfl : i = n := by omega
                  have hpos : 1 ≤ i := by have := (mark_facts HHD.out).2.2.1; rw [HN.out] at this; omega
                  obtain ⟨g, cap, hv⟩ := ownsRow_form HOWN.out (by omega)
                  subst hv
                  have k2 := World.rowIs.cell HROW.out (i := 0) (by decide)
                  have k3 := World.rowIs.cell HROW.out (i := 1) (by decide)
                  simp only [txF] at k2 k3
                  have hr7 := rowIs_touch HR3.out (F := []) (Touch.of_below HB.out) (by simp)
                  have k0 := World.rowIs.cell hr7 (i := 0) (by decide)
                  have k1 := World.rowIs.cell hr7 (i := 1) (by decide)
                  have f0 := World.rowIs.frozen hr7 0
                  have f1 := World.rowIs.frozen hr7 1
                  simp only [txF] at k0 k1
                  clear hr7
                  go_wp2_with fail
                  refine bodyPost_ret (v := .tuple #[.agg #[.int .u64 (mN (secM m p)), .slice (some ⟨g, 0, none⟩) i cap], .bool true, .int .i64 0]) (by simp [results, Try.results28, go_sem, k0, k1]) rfl ?_
                  have hbF := below_step HB.out HB3.out
                  refine RdPost.yes HP.out HLF.out (txOk_yes HN.out HHD.out HJ.out) HN.out HNX.out ?_ ((hbF.setCell (by simp) _).setCell (by simp) _)
                  refine ownsRow_touch (ownsRow_le HOWN.out (by omega)) (((Touch.refl [w.heap.size] _).setCell (.inl (by simp)) _).setCell (.inl (by simp)) _) (fun q hq => ?_)
                  have := (HOWN.out.lt q hq).1
                  simp; omega
            · have HF := BAD (fun h => b4 h.2.2.2)
              have b5 : (left : Int) - 1 < 9 * (n : Int) := by omega
              have b6 : (left : Int) ≤ 9 * (n : Int) := by omega
              clear BAD b3 b4
              go_wp2_with fail
              refine (get_any (mT (secM m p)) 0 2 _ (by omega) (by omega) (by omega)).mono ?_
              rintro e w4 ⟨rfl, rfl⟩
              rw [HG.out]
              go_wp2_with fail
              refine wp_region_later (by kernel_rfl) (by kernel_rfl) ?_
              repeat (first | go_big_quiet_step ((go_at_call 36; refine Later.call (HTX.out _))) | quiet_step ((go_at_call 36; refine Later.call (HTX.out _))))
              refine wpQuiet_nil ?_
              intro _ hw'
              obtain ⟨⟨w3, hb3⟩, hw''⟩ := hw'
              subst hw''
              clear x2 x3
              have k0 := (hb3.cell (p := ⟨w.heap.size, 0, none⟩) hs2).trans k0
              have k1 := (hb3.cell (p := ⟨w.heap.size, 1, none⟩) hs2).trans k1
              have f0 := (hb3.frozen (p := ⟨w.heap.size, 0, none⟩) hs2).trans f0
              have f1 := (hb3.frozen (p := ⟨w.heap.size, 1, none⟩) hs2).trans f1
              have HB3 := Lib.hid (below_step hb3 HB2.out)
              clear hb3
              go_wp2_with fail
              refine bodyPost_ret (v := .tuple #[.agg #[.int .u64 0, .slice none 0 0], .bool false, .int .i64 0]) (by simp [results, Try.results28, go_sem, k0, k1]) rfl ?_
              exact HNO.out _ HF.out ((HB3.out.setCell (by simp) _).setCell (by simp) _)
          · have st := str_ne b3
            have HF := BAD (fun h => b3 h.2.2.1)
            clear BAD b3
            go_wp2_with fail
            refine (get_any (mT (secM m p)) 0 2 _ (by omega) (by omega) (by omega)).mono ?_
            rintro e w4 ⟨rfl, rfl⟩
            rw [HG.out]
            go_wp2_with fail
            refine wp_region_later (by kernel_rfl) (by kernel_rfl) ?_
            repeat (first | go_big_quiet_step ((go_at_call 36; refine Later.call (HTX.out _))) | quiet_step ((go_at_call 36; refine Later.call (HTX.out _))))
            refine wpQuiet_nil ?_
            intro _ hw'
            obtain ⟨⟨w3, hb3⟩, hw''⟩ := hw'
            subst hw''
            clear x2 x3
            have k0 := (hb3.cell (p := ⟨w.heap.size, 0, none⟩) hs2).trans k0
            have k1 := (hb3.cell (p := ⟨w.heap.size, 1, none⟩) hs2).trans k1
            have f0 := (hb3.frozen (p := ⟨w.heap.size, 0, none⟩) hs2).trans f0
            have f1 := (hb3.frozen (p := ⟨w.heap.size, 1, none⟩) hs2).trans f1
            have HB3 := Lib.hid (below_step hb3 HB2.out)
            clear hb3
            go_wp2_with fail
            refine bodyPost_ret (v := .tuple #[.agg #[.int .u64 0, .slice none 0 0], .bool false, .int .i64 0]) (by simp [results, Try.results28, go_sem, k0, k1]) rfl ?_
            exact HNO.out _ HF.out ((HB3.out.setCell (by simp) _).setCell (by simp) _)
    · have e1 : (mN (secM m p) != l.next) = true := by simpa using hn
      have HF := Lib.hid (txOk_head (txHead_no (m := m) (p := p) (next := l.next) (left := left) (by rintro ⟨-, h, -⟩; exact hn h)))
      clear hmo hn
      go_wp2_with fail
      refine bodyPost_ret (v := .tuple #[.agg #[.int .u64 0, .slice none 0 0], .bool false, .int .i64 0]) (by simp [results, Try.results28, go_sem, k0, k1]) rfl ?_
      exact HNO.out _ HF.out ((HB2.out.setCell (by simp) _).setCell (by simp) _)

end Go.Proofs.Ytfnfapgmicmegaa
