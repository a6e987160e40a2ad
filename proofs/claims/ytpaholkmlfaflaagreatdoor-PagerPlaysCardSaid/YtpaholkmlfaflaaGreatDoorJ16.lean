/- Lemmas on the way to the statement: Acts11, PPlay, PPlay2, PPlay3, Room. -/
import Derived.Test.YtpaholkmlfaflaaGreatDoorJ14
import Derived.Test.YtpaholkmlfaflaaGreatDoorJ10
set_option linter.unusedSimpArgs false
set_option linter.unusedVariables false
namespace Go.Proofs.YtpaholkmlfaflaaGreatDoor
open Go.RowKit Go.Maps Go.Joins
set_option linter.unusedVariables false

/-- An act. -/
structure ActD where
  b1 : Int
  b2 : Int
  b3 : Int
  no : Int
  n : Int
  lng : Int
  ka : Option Addr
  kn : Nat
  kc : Nat
  kf : Nat → Bool
  torn : Int
  by_ : Int

/-- The numbers of an act fit. -/
structure ActOk (x : ActD) : Prop where
  u1 : 0 ≤ x.b1 ∧ x.b1 ≤ 255
  u2 : 0 ≤ x.b2 ∧ x.b2 ≤ 255
  u3 : 0 ≤ x.b3 ∧ x.b3 ≤ 255
  no : -9223372036854775808 ≤ x.no ∧ x.no ≤ 9223372036854775807
  lng : 0 ≤ x.lng ∧ x.lng ≤ 65535
  n : -9223372036854775808 ≤ x.n ∧ x.n ≤ 9223372036854775807
  k : x.kn ≤ 9223372036854775807
  torn : -9223372036854775808 ≤ x.torn ∧ x.torn ≤ 9223372036854775807
  by_ : -9223372036854775808 ≤ x.by_ ∧ x.by_ ≤ 9223372036854775807

/-- The act lies in nine cells; its bools lie below block B. -/
structure ActAt (w : World) (B : Nat) (a : Addr) (x : ActD) : Prop where
  c0 : w.cell? a = some (.int .u8 x.b1)
  c1 : w.cell? (a.add 1) = some (.int .u8 x.b2)
  c2 : w.cell? (a.add 2) = some (.int .u8 x.b3)
  c3 : w.cell? (a.add 3) = some (.int .i64 x.no)
  c4 : w.cell? (a.add 4) = some (.int .i64 x.n)
  c5 : w.cell? (a.add 5) = some (.int .u16 x.lng)
  c6 : w.cell? (a.add 6) = some (.slice x.ka x.kn x.kc)
  c7 : w.cell? (a.add 7) = some (.int .i64 x.torn)
  c8 : w.cell? (a.add 8) = some (.int .i64 x.by_)
  keep : KeepAt w x.ka x.kn x.kf
  keepB : ∀ b off, x.ka = some ⟨b, off, none⟩ → 0 < x.kn → b < B
  ok : ActOk x
/-- A list of acts lies at block lb, below B. -/
def ActsAt (w : World) (B lb off : Nat) (l : List ActD) : Prop := lb < B ∧ ∀ (k : Nat) (x : ActD), l[k]? = some x → ActAt w B ⟨lb, off + k * 9, none⟩ x

theorem ActAt.below {w w' : World} {B lb o : Nat} {x : ActD} (h : ActAt w B ⟨lb, o, none⟩ x) (hb : Below B w w') (hl : lb < B) : ActAt w' B ⟨lb, o, none⟩ x := by
  have hk (j : Nat) : w'.cell? ((⟨lb, o, none⟩ : Addr).add j) = w.cell? ((⟨lb, o, none⟩ : Addr).add j) := hb.cell (by unfold Addr.add; split <;> exact hl)
  refine ⟨(hb.cell (p := ⟨lb, o, none⟩) hl).trans h.c0, (hk 1).trans h.c1, (hk 2).trans h.c2, (hk 3).trans h.c3, (hk 4).trans h.c4, (hk 5).trans h.c5, (hk 6).trans h.c6, (hk 7).trans h.c7, (hk 8).trans h.c8, ?_, h.keepB, h.ok⟩
  rcases h.keep with h0 | ⟨b, off, ha, hc⟩
  · exact .inl h0
  · refine .inr ⟨b, off, ha, fun i hi => ?_⟩
    exact (hb.cell (p := ⟨b, off + i, none⟩) (h.keepB b off ha (by omega))).trans (hc i hi)
theorem ActsAt.below {w w' : World} {B lb off : Nat} {l : List ActD} (h : ActsAt w B lb off l) (hb : Below B w w') : ActsAt w' B lb off l :=
  ⟨h.1, fun k x hx => (h.2 k x hx).below hb h.1⟩

/-- Is an act small? -/
def smallA (x : ActD) : Bool := decide (x.kn ≤ 1000)
/-- few. -/
def fewA (l : List ActD) : Bool := decide (l.length ≤ 60) && l.all smallA
theorem addr_add (b o j : Nat) : (⟨b, o, none⟩ : Addr).add j = ⟨b, o + j, none⟩ := by unfold Addr.add; split <;> simp_all

theorem few_stop {l : List ActD} {k : Nat} {x : ActD} (h : l[k]? = some x) (hx : 60 ≤ k ∨ 1000 < x.kn) : fewA l = false := by
  unfold fewA
  rcases hx with hx | hx
  · have : k < l.length := (List.getElem?_eq_some_iff.1 h).1
    simp; intro h'; omega
  · have hm := List.mem_of_getElem? h
    have : l.all smallA = false := by
      rw [List.all_eq_false]
      exact ⟨x, hm, by simp [smallA]; omega⟩
    rw [this]; simp
theorem few_all {l : List ActD} (h0 : l.length ≤ 60) (h : ∀ (k : Nat) (x : ActD), l[k]? = some x → smallA x = true) : fewA l = true := by
  unfold fewA
  simp only [Bool.and_eq_true, decide_eq_true_eq, List.all_eq_true]
  refine ⟨h0, fun x hx => ?_⟩
  obtain ⟨k, hk⟩ := List.mem_iff_getElem?.1 hx
  exact h k x hk

set_option maxRecDepth 100000 in
set_option maxHeartbeats 2000000 in
theorem few_any {w : World} {B lb off n c : Nat} {l : List ActD} (h : ActsAt w B lb off l) (hn : n = l.length) (hm : n ≤ 9223372036854775807) :
    Calls Tryz.prog 21 #[.slice (some ⟨lb, off, none⟩) n c] w fun e w' => e = .returned (.bool (fewA l)) ∧ w = w' := by
  have HN := Lib.hid hn
  clear hn
  go_enter Tryz.func21, Tryz.ntmps21
  go_wp2_with fail
  go_loop [3] (fun v => ∃ k : Nat, k ≤ n ∧ k ≤ 60 ∧ v = .int .i64 k ∧ ∀ (j : Nat) (x : ActD), j < k → l[j]? = some x → smallA x = true) (fun v => n - (intOf v).toNat)
  case atStart => exact ⟨0, Nat.zero_le _, Nat.zero_le _, rfl, fun j x hj => absurd hj (by omega)⟩
  case round =>
    obtain ⟨k, hk, hk3, rfl, hall⟩ := hrel
    have HA := Lib.hid hall
    clear hall
    by_cases hlt : k < n
    · obtain ⟨x, hx⟩ : ∃ x, l[k]? = some x := ⟨l[k]'(by rw [← HN.out]; exact hlt), List.getElem?_eq_getElem _⟩
      have hX := h.2 k x hx
      have c6 := hX.c6
      rw [addr_add] at c6
      have k2 := hX.ok.k
      have HX := Lib.hid hx
      clear hX hx
      have HB := Lib.hid h
      clear h
      by_cases q0 : k < 60
      · by_cases q1 : x.kn ≤ 1000
        · go_wp2_with fail
          go_round
          case rel =>
            refine ⟨k + 1, by omega, by omega, by go_num, fun j y hj hy => ?_⟩
            by_cases e : j = k
            · subst e; have := HX.out.symm.trans hy; cases this; simp [smallA, q1]
            · exact HA.out j y (by omega) hy
          case measure => simp [intOf]; omega
        · have F := Lib.hid (few_stop HX.out (.inr (by omega)))
          go_wp2_with fail
          go_ret
          rw [F.out]
          exact ⟨rfl, rfl⟩
      · have F := Lib.hid (few_stop HX.out (.inl (by omega)))
        go_wp2_with fail
        go_ret
        rw [F.out]
        exact ⟨rfl, rfl⟩
    · obtain rfl : k = n := by omega
      have F := Lib.hid (few_all (l := l) (by rw [← HN.out]; exact hk3) (fun j x hx => HA.out j x (by have := (List.getElem?_eq_some_iff.1 hx).1; have := HN.out; omega) hx))
      go_wp2_with fail
      go_ret
      rw [F.out]
      exact ⟨rfl, rfl⟩

theorem few_nil (w : World) (a : Option Addr) (c : Nat) :
    Calls Tryz.prog 21 #[.slice a 0 c] w fun e w' => e = .returned (.bool true) ∧ w = w' := by
  go_enter Tryz.func21, Tryz.ntmps21
  go_wp2_with fail
  refine wp_loop_rounds 1 ?_
  rw [rounds_succ]
  go_wp2_with fail
  go_ret
  exact ⟨rfl, rfl⟩

/-- A list of acts, wherever it lies (an empty one has no place). -/
def ActsIn (w : World) (B : Nat) (a : Option Addr) (n : Nat) (l : List ActD) : Prop := n = l.length ∧ n ≤ 9223372036854775807 ∧ (n = 0 ∨ ∃ lb off, a = some ⟨lb, off, none⟩ ∧ ActsAt w B lb off l)
theorem few_in {w : World} {B n c : Nat} {a : Option Addr} {l : List ActD} (h : ActsIn w B a n l) :
    Calls Tryz.prog 21 #[.slice a n c] w fun e w' => e = .returned (.bool (fewA l)) ∧ w = w' := by
  obtain ⟨hn, hm, h0 | ⟨lb, off, rfl, hA⟩⟩ := h
  · subst h0
    have : l = [] := List.eq_nil_of_length_eq_zero hn.symm
    subst this
    exact few_nil w a c
  · exact few_any hA hn hm
theorem fewA_length {l : List ActD} (h : fewA l = true) : l.length ≤ 60 := by
  unfold fewA at h; simp at h; exact h.1
theorem ActsIn.at_ {w w' : World} {B n k : Nat} {a : Option Addr} {l : List ActD} (h : ActsIn w B a n l) (hb : Below B w w') (hk : k < n) :
    ∃ lb off x, a = some ⟨lb, off, none⟩ ∧ l[k]? = some x ∧ ActAt w' B ⟨lb, off + k * 9, none⟩ x ∧ lb < B := by
  obtain ⟨hn, hm, h0 | ⟨lb, off, rfl, hA⟩⟩ := h
  · omega
  · have hx : l[k]? = some (l[k]'(by omega)) := List.getElem?_eq_getElem _
    exact ⟨lb, off, _, rfl, hx, (hA.2 k _ hx).below hb hA.1, hA.1⟩

end Go.Proofs.YtpaholkmlfaflaaGreatDoor

namespace Go.Proofs.YtpaholkmlfaflaaGreatDoor
open Go.RowKit Go.Maps Go.Joins
set_option linter.unusedVariables false
/-- An act's cells. -/
def actF (x : ActD) : Nat → Value
  | 0 => .int .u8 x.b1
  | 1 => .int .u8 x.b2
  | 2 => .int .u8 x.b3
  | 3 => .int .i64 x.no
  | 4 => .int .i64 x.n
  | 5 => .int .u16 x.lng
  | 6 => .slice x.ka x.kn x.kc
  | 7 => .int .i64 x.torn
  | _ => .int .i64 x.by_
/-- The blocks of a pager. -/
def pgB (p lb hb : Nat) (FD FP : List Nat) : List Nat := p :: lb :: hb :: (FD ++ FP)
structure PPm (w0 w : World) (p d lb pb hb : Nat) (FD FP F : List Nat) (K : Nat) (M : PM) (rb : Nat) (R : RM) (B : Nat) (x : ActD) : Prop where
  play : PlayAt w0 w p d lb pb hb FD FP K M
  ref : IsRm w rb F R
  fr : ∀ y ∈ F, w0.heap.size ≤ y
  off : Off F (pgB p lb hb FD FP)
  box : w.rowIs B 58 9 (actF x)
  bx : B ∉ pgB p lb hb FD FP
  bf : B ∉ F
def IsPB (w0 w : World) (d p rb K : Nat) (M : PM) (R : RM) (B : Nat) (x : ActD) : Prop := ∃ lb pb hb FD FP F, PPm w0 w p d lb pb hb FD FP F K M rb R B x
section
variable {w0 w w' : World} {p d lb pb hb rb B K J k : Nat} {FD FP F : List Nat} {M M' : PM} {R R' : RM} {x : ActD} {G : Int}
theorem pgB_lt (h : PgIn w p d lb pb hb FD FP K k M) : ∀ y ∈ pgB p lb hb FD FP, y < w.heap.size := fun y hy => by
  obtain ⟨a, b, c, e, f⟩ := h.lt
  simp only [pgB, List.mem_cons, List.mem_append] at hy
  rcases hy with rfl | rfl | rfl | hy | hy
  · exact a
  · exact b
  · exact c
  · exact e y hy
  · exact f y hy
theorem PPm.below (h : PPm w0 w p d lb pb hb FD FP F K M rb R B x) (hb' : Below w.heap.size w w') : PPm w0 w' p d lb pb hb FD FP F K M rb R B x :=
  ⟨h.play.move hb', h.ref.below hb', h.fr, h.off, rowIs_touch h.box (F := []) (Touch.of_below hb') (by simp), h.bx, h.bf⟩
theorem IsPB.move (h : IsPB w0 w d p rb K M R B x) (hb' : Below w.heap.size w w') : IsPB w0 w' d p rb K M R B x := by
  obtain ⟨lb, pb, hb, FD, FP, F, h⟩ := h
  exact ⟨lb, pb, hb, FD, FP, F, h.below hb'⟩
theorem IsPB.drew (h : IsPB w0 w d p rb K M R B x) : IsPB w0 w.drew d p rb K M R B x := h.move (Below.refl _ _).drew
theorem IsPB.mono (h : IsPB w0 w d p rb K M R B x) (hJ : K ≤ J) : IsPB w0 w d p rb J M R B x := by
  obtain ⟨lb, pb, hb, FD, FP, F, h⟩ := h
  exact ⟨lb, pb, hb, FD, FP, F, { h with play := { h.play with pin := h.play.pin.mono hJ } }⟩
theorem IsPB.below (h : IsPB w0 w d p rb K M R B x) : Below w0.heap.size w0 w := by
  obtain ⟨lb, pb, hb, FD, FP, F, h⟩ := h
  exact h.play.below
/-- The pager has turned. -/
theorem pgB_sub {FD' FP' : List Nat} {n : Nat} (f1 : ∀ y ∈ FD', y ∈ FD ∨ n ≤ y) (f2 : ∀ y ∈ FP', y ∈ FP ∨ n ≤ y) : ∀ y ∈ pgB p lb hb FD' FP', y ∈ pgB p lb hb FD FP ∨ n ≤ y := fun y hy => by
  simp only [pgB, List.mem_cons, List.mem_append] at hy ⊢
  rcases hy with rfl | rfl | rfl | hy | hy
  · simp
  · simp
  · simp
  · rcases f1 y hy with h | h
    · simp [h]
    · exact .inr h
  · rcases f2 y hy with h | h
    · simp [h]
    · exact .inr h
theorem PPm.pgo' {FD' FP' : List Nat} (h : PPm w0 w p d lb pb hb FD FP F K M rb R B x) (h1 : PgIn w' p d lb pb hb FD' FP' J 0 M') (t1 : Touch (pgB p lb hb FD FP) w w') (f1 : ∀ y ∈ FD', y ∈ FD ∨ w.heap.size ≤ y) (f2 : ∀ y ∈ FP', y ∈ FP ∨ w.heap.size ≤ y) : PPm w0 w' p d lb pb hb FD' FP' F J M' rb R B x := by
  have hpl := h.play
  have hs := hpl.below.size
  have hlt := pgB_lt hpl.pin
  have hsub := pgB_sub (p := p) (lb := lb) (hb := hb) f1 f2
  have hge : ∀ y ∈ pgB p lb hb FD FP, w0.heap.size ≤ y := fun y hy => by
    simp only [pgB, List.mem_cons, List.mem_append] at hy
    rcases hy with rfl | rfl | rfl | hy | hy
    · exact hpl.fb
    · exact hpl.fl
    · exact hpl.fh
    · exact hpl.fd y hy
    · exact hpl.fp y hy
  refine ⟨⟨h1, hpl.fb, hpl.fl, hpl.fh, fun y hy => ?_, fun y hy => ?_, hpl.below.trans (t1.below hs hge)⟩, h.ref.touch t1 h.off, h.fr, fun y hy hm => ?_, rowIs_touch h.box t1 h.bx, fun hm => ?_, h.bf⟩
  · exact (f1 y hy).elim (hpl.fd y) (fun h => Nat.le_trans hs h)
  · exact (f2 y hy).elim (hpl.fp y) (fun h => Nat.le_trans hs h)
  · rcases hsub y hm with h' | h'
    · exact h.off y hy h'
    · have := h.ref.lt y hy; omega
  · rcases hsub B hm with h' | h'
    · exact h.bx h'
    · have := World.rowIs.lt h.box; omega
theorem PPm.pgo (h : PPm w0 w p d lb pb hb FD FP F K M rb R B x) (s : PgGo w w' p d lb pb hb FD FP J k M') (hw : k = 0 ∨ M'.m.wait = []) : IsPB w0 w' d p rb J M' R B x := by
  obtain ⟨FD', FP', h1, t1, f1, f2⟩ := s
  have h1 : PgIn w' p d lb pb hb FD' FP' J 0 M' := by
    rcases hw with rfl | hw
    · exact h1
    · exact h1.rek (h1.ok.disk.calm hw)
  exact ⟨lb, pb, hb, FD', FP', F, h.pgo' h1 t1 f1 f2⟩
/-- The document's pager has turned. -/
theorem PPm.rgo (h : PPm w0 w p d lb pb hb FD FP F K M rb R B x) (s : RmGo w w' rb F R') : IsPB w0 w' d p rb K M R' B x := by
  obtain ⟨F', h1, t1, f1⟩ := s
  have hpl := h.play
  have hs := hpl.below.size
  have hlt := pgB_lt hpl.pin
  have hoff : ∀ y ∈ pgB p lb hb FD FP, y ∉ F := fun y hy hm => h.off y hm hy
  refine ⟨lb, pb, hb, FD, FP, F', ⟨hpl.pin.touch t1 (hoff _ (by simp [pgB])) (hoff _ (by simp [pgB])) (hoff _ (by simp [pgB])) (fun y hy => hoff y (by simp [pgB, hy])) (fun y hy => hoff y (by simp [pgB, hy])), hpl.fb, hpl.fl, hpl.fh, hpl.fd, hpl.fp, hpl.below.trans (t1.below hs h.fr)⟩, h1, fun y hy => ?_, fun y hy hm => ?_, rowIs_touch h.box t1 h.bf, h.bx, fun hm => ?_⟩
  · exact (f1 y hy).elim (h.fr y) (fun h => Nat.le_trans hs h)
  · rcases f1 y hy with h' | h'
    · exact h.off y h' hm
    · have := hlt y hm; omega
  · rcases f1 B hm with h' | h'
    · exact h.bf h'
    · have := World.rowIs.lt h.box; omega
/-! The calls. -/
theorem pb_alloc (h : IsPB w0 w d p rb K M R B x) (hs : Snd M) (hK : K ≤ 1000000000) (kind : Int) :
    Calls Tryz.prog 23 #[.pointer (some ⟨p, 0, none⟩), .int .i64 kind] w fun e w' => e = .returned (.tuple #[.int .i64 (allocP M kind).1, .int .i64 (allocP M kind).2.1]) ∧ IsPB w0 w' d p rb (K + 8) (allocP M kind).2.2 R B x := by
  obtain ⟨lb, pb, hb, FD, FP, F, h⟩ := h
  exact (Alloc_any h.play.pin hs (by omega) kind).mono fun e w' ⟨he, s⟩ => ⟨he, h.pgo (PgGo.of_step s) (.inl rfl)⟩
theorem pb_write (h : IsPB w0 w d p rb K M R B x) (hs : Snd M) (hK : K ≤ 1000000000) (no kind : Int) (r : ByteArray) :
    Calls Tryz.prog 27 #[.pointer (some ⟨p, 0, none⟩), .int .i64 no, .int .i64 kind, .string r] w fun e w' => e = .returned (.int .i64 (writeP M no kind r).1) ∧ IsPB w0 w' d p rb (K + 4) (writeP M no kind r).2 R B x := by
  obtain ⟨lb, pb, hb, FD, FP, F, h⟩ := h
  exact (Write_any h.play.pin hs (by omega) no kind r).mono fun e w' ⟨he, s⟩ => ⟨he, h.pgo (PgGo.of_step s) (.inl rfl)⟩
theorem pb_free (h : IsPB w0 w d p rb K M R B x) (hs : Snd M) (hK : K ≤ 1000000000) (no : Int) :
    Calls Tryz.prog 30 #[.pointer (some ⟨p, 0, none⟩), .int .i64 no] w fun e w' => e = .returned (.int .i64 (freeP M no).1) ∧ IsPB w0 w' d p rb (K + 10) (freeP M no).2 R B x := by
  obtain ⟨lb, pb, hb, FD, FP, F, h⟩ := h
  exact (Free_any h.play.pin hs (by omega) no).mono fun e w' ⟨he, s⟩ => ⟨he, h.pgo (PgGo.of_step s) (.inl rfl)⟩
theorem pb_root (h : IsPB w0 w d p rb K M R B x) (hK : K ≤ 1000000000) (i n : Int) (n0 : 0 ≤ n) :
    Calls Tryz.prog 32 #[.pointer (some ⟨p, 0, none⟩), .int .i64 i, .int .u64 n] w fun e w' => e = .returned (.int .i64 (setRootP M i n).1) ∧ IsPB w0 w' d p rb (K + 4) (setRootP M i n).2 R B x := by
  obtain ⟨lb, pb, hb, FD, FP, F, h⟩ := h
  exact (SetRoot_any h.play.pin (by omega) i n n0).mono fun e w' ⟨he, s⟩ => ⟨he, h.pgo (PgGo.of_step s) (.inl rfl)⟩
theorem pb_abort (h : IsPB w0 w d p rb K M R B x) :
    Calls Tryz.prog 25 #[.pointer (some ⟨p, 0, none⟩)] w fun e w' => e = .returned (.tuple #[]) ∧ IsPB w0 w' d p rb K (abortP M) R B x := by
  obtain ⟨lb, pb, hb, FD, FP, F, h⟩ := h
  exact (Abort_any h.play.pin).mono fun e w' ⟨he, s⟩ => ⟨he, h.pgo (PgGo.of_step s) (.inl rfl)⟩
theorem pb_commit (h : IsPB w0 w d p rb K M R B x) (hK : K ≤ 1000000000) (hw : (commitP M).2.m.wait = []) :
    Calls Tryz.prog 34 #[.pointer (some ⟨p, 0, none⟩)] w fun e w' => e = .returned (.int .i64 (commitP M).1) ∧ IsPB w0 w' d p rb (K + 100) (commitP M).2 R B x := by
  obtain ⟨lb, pb, hb, FD, FP, F, h⟩ := h
  exact (Commit_any h.play.pin (by omega) (by omega)).mono fun e w' ⟨he, s⟩ => ⟨he, h.pgo s (.inr hw)⟩
theorem pb_ck (h : IsPB w0 w d p rb K M R B x) (hw : (ckP M).2.m.wait = []) :
    Calls Tryz.prog 37 #[.pointer (some ⟨p, 0, none⟩)] w fun e w' => e = .returned (.int .i64 (ckP M).1) ∧ IsPB w0 w' d p rb K (ckP M).2 R B x := by
  obtain ⟨lb, pb, hb, FD, FP, F, h⟩ := h
  exact (ck_any h.play.pin (by omega)).mono fun e w' ⟨he, s⟩ => ⟨he, h.pgo (PgGo.of_lay s h.play.pin.lt.2.2.2.2) (.inr hw)⟩
theorem pb_dirty (h : IsPB w0 w d p rb K M R B x) :
    Calls Tryz.prog 38 #[.pointer (some ⟨p, 0, none⟩)] w fun e w' => e = .returned (.int .i64 (cntD M)) ∧ Below w.heap.size w w' := by
  obtain ⟨lb, pb, hb, FD, FP, F, h⟩ := h
  exact Dirty_any h.play.pin
theorem pb_most (h : IsPB w0 w d p rb K M R B x) :
    Calls Tryz.prog 15 #[.pointer (some ⟨p, 0, none⟩)] w fun e w' => e = .returned (.int .i64 M.most) ∧ w = w' := by
  obtain ⟨lb, pb, hb, FD, FP, F, h⟩ := h
  exact most_any h.play.pin
theorem pb_pages (h : IsPB w0 w d p rb K M R B x) (hK : K ≤ 1000000000) :
    Calls Tryz.prog 20 #[.pointer (some ⟨p, 0, none⟩)] w fun e w' => e = .returned (.int .i64 (pagesP M)) ∧ IsPB w0 w' d p rb (K + 2) M R B x := by
  obtain ⟨lb, pb, hb, FD, FP, F, h⟩ := h
  exact (pages_any h.play.pin (by omega)).mono fun e w' ⟨he, s⟩ => ⟨he, h.pgo (PgGo.of_step s) (.inl rfl)⟩
theorem pb_read (h : IsPB w0 w d p rb K M R B x) (hs : Snd M) (hK : K ≤ 1000000000) (no : Int) :
    Calls Tryz.prog 18 #[.pointer (some ⟨p, 0, none⟩), .int .i64 no] w fun e w' => e = .returned (.tuple #[.int .i64 (readP M no).1, .string (readP M no).2.1, .int .i64 (readP M no).2.2]) ∧ IsPB w0 w' d p rb (K + 4) M R B x := by
  obtain ⟨lb, pb, hb, FD, FP, F, h⟩ := h
  exact (Read_any h.play.pin hs (by omega) no).mono fun e w' ⟨he, s⟩ => ⟨he, h.pgo (PgGo.of_step s) (.inl rfl)⟩
theorem pb_count (h : IsPB w0 w d p rb K M R B x) (hk : RmOk R) :
    Calls Tryz.prog 35 #[.pointer (some ⟨rb, 0, none⟩)] w fun e w' => e = .returned (.int .i64 (cntR R)) ∧ w = w' := by
  obtain ⟨lb, pb, hb, FD, FP, F, h⟩ := h
  exact count11_any h.ref (by rw [hk.dl]; exact hk.m0) (by rw [hk.dl]; have := hk.big; omega)
theorem pb_ralloc (h : IsPB w0 w d p rb K M R B x) (hk : RmOk R) (kind : Int) :
    Calls Tryz.prog 24 #[.pointer (some ⟨rb, 0, none⟩), .int .i64 kind] w fun e w' => e = .returned (.tuple #[.int .i64 (allocR R kind).1, .int .i64 (allocR R kind).2.1]) ∧ IsPB w0 w' d p rb K M (allocR R kind).2.2 B x := by
  obtain ⟨lb, pb, hb, FD, FP, F, h⟩ := h
  exact (alloc11_any h.ref hk kind).mono fun e w' ⟨he, s⟩ => ⟨he, h.rgo s⟩
theorem pb_rwrite (h : IsPB w0 w d p rb K M R B x) (hk : RmOk R) (no kind : Int) (r : ByteArray) (n1 : -9223372036854775808 ≤ no) (n2 : no ≤ 9223372036854775807) :
    Calls Tryz.prog 29 #[.pointer (some ⟨rb, 0, none⟩), .int .i64 no, .int .i64 kind, .string r] w fun e w' => e = .returned (.int .i64 (writeR R no kind r).1) ∧ IsPB w0 w' d p rb K M (writeR R no kind r).2 B x := by
  obtain ⟨lb, pb, hb, FD, FP, F, h⟩ := h
  exact (write11_any h.ref hk no kind r n1 n2).mono fun e w' ⟨he, s⟩ => ⟨he, h.rgo s⟩
theorem pb_rfree (h : IsPB w0 w d p rb K M R B x) (hk : RmOk R) (no : Int) (n1 : -9223372036854775808 ≤ no) (n2 : no ≤ 9223372036854775807) :
    Calls Tryz.prog 31 #[.pointer (some ⟨rb, 0, none⟩), .int .i64 no] w fun e w' => e = .returned (.int .i64 (giveR R no).1) ∧ IsPB w0 w' d p rb K M (giveR R no).2 B x := by
  obtain ⟨lb, pb, hb, FD, FP, F, h⟩ := h
  exact (give11_any h.ref hk no n1 n2).mono fun e w' ⟨he, s⟩ => ⟨he, h.rgo s⟩
theorem pb_rroot (h : IsPB w0 w d p rb K M R B x) (hk : RmOk R) (i n : Int) (i1 : -9223372036854775808 ≤ i) (i2 : i ≤ 9223372036854775807) (n0 : 0 ≤ n) (n1 : n ≤ 18446744073709551615) :
    Calls Tryz.prog 33 #[.pointer (some ⟨rb, 0, none⟩), .int .i64 i, .int .u64 n] w fun e w' => e = .returned (.int .i64 (setRootR R i n).1) ∧ IsPB w0 w' d p rb K M (setRootR R i n).2 B x := by
  obtain ⟨lb, pb, hb, FD, FP, F, h⟩ := h
  exact (setRoot11_any h.ref hk i n i1 i2 n0 n1).mono fun e w' ⟨he, s⟩ => ⟨he, h.rgo s⟩
theorem pb_keep (h : IsPB w0 w d p rb K M R B x) (hk : RmOk R) :
    Calls Tryz.prog 36 #[.pointer (some ⟨rb, 0, none⟩)] w fun e w' => e = .returned (.tuple #[]) ∧ IsPB w0 w' d p rb K M (keepR R) B x := by
  obtain ⟨lb, pb, hb, FD, FP, F, h⟩ := h
  exact (keep11_any h.ref hk).mono fun e w' ⟨he, s⟩ => ⟨he, h.rgo s⟩
theorem pb_rabort (h : IsPB w0 w d p rb K M R B x) (hk : RmOk R) :
    Calls Tryz.prog 26 #[.pointer (some ⟨rb, 0, none⟩)] w fun e w' => e = .returned (.tuple #[]) ∧ IsPB w0 w' d p rb K M (abortR R) B x := by
  obtain ⟨lb, pb, hb, FD, FP, F, h⟩ := h
  exact (abort11_any h.ref hk).mono fun e w' ⟨he, s⟩ => ⟨he, h.rgo s⟩
/-- The box of an act that has just been made. -/
theorem box_new (w : World) (x : ActD) : (w.alloc (.cells #[.int .u8 x.b1, .int .u8 x.b2, .int .u8 x.b3, .int .i64 x.no, .int .i64 x.n, .int .u16 x.lng, .slice x.ka x.kn x.kc, .int .i64 x.torn, .int .i64 x.by_] 58)).rowIs w.heap.size 58 9 (actF x) := by
  refine World.rowIs_alloc w _ _ _ (fun i hi => ?_)
  rcases i with _ | _ | _ | _ | _ | _ | _ | _ | _ | i <;> first | rfl | (exfalso; simp at hi; done) | (exfalso; simp at hi; omega) | (exfalso; omega)
theorem IsPB.box (h : IsPB w0 w d p rb K M R B x) {B2 : Nat} {y : ActD} (hb' : Below w.heap.size w w') (hr : w'.rowIs B2 58 9 (actF y)) (hB : w.heap.size ≤ B2) : IsPB w0 w' d p rb K M R B2 y := by
  obtain ⟨lb, pb, hb, FD, FP, F, h⟩ := h
  have h1 := h.below hb'
  refine ⟨lb, pb, hb, FD, FP, F, h1.play, h1.ref, h1.fr, h1.off, hr, fun hm => ?_, fun hm => ?_⟩
  · have := pgB_lt h.play.pin _ hm; omega
  · have := h.ref.lt _ hm; omega
theorem IsPB.cells (h : IsPB w0 w d p rb K M R B x) : w.cell? ⟨B, 0, none⟩ = some (.int .u8 x.b1) ∧ w.cell? ⟨B, 1, none⟩ = some (.int .u8 x.b2) ∧ w.cell? ⟨B, 2, none⟩ = some (.int .u8 x.b3) ∧ w.cell? ⟨B, 3, none⟩ = some (.int .i64 x.no) ∧ w.cell? ⟨B, 4, none⟩ = some (.int .i64 x.n) ∧ w.cell? ⟨B, 5, none⟩ = some (.int .u16 x.lng) ∧ w.cell? ⟨B, 6, none⟩ = some (.slice x.ka x.kn x.kc) ∧ w.cell? ⟨B, 7, none⟩ = some (.int .i64 x.torn) ∧ w.cell? ⟨B, 8, none⟩ = some (.int .i64 x.by_) := by
  obtain ⟨lb, pb, hb, FD, FP, F, h⟩ := h
  have hb := h.box
  exact ⟨World.rowIs.cell hb (i := 0) (by decide), World.rowIs.cell hb (i := 1) (by decide), World.rowIs.cell hb (i := 2) (by decide), World.rowIs.cell hb (i := 3) (by decide), World.rowIs.cell hb (i := 4) (by decide), World.rowIs.cell hb (i := 5) (by decide), World.rowIs.cell hb (i := 6) (by decide), World.rowIs.cell hb (i := 7) (by decide), World.rowIs.cell hb (i := 8) (by decide)⟩
end
end Go.Proofs.YtpaholkmlfaflaaGreatDoor

namespace Go.Proofs.YtpaholkmlfaflaaGreatDoor
open Go.RowKit Go.Maps Go.Joins
set_option linter.unusedVariables false
section
variable {M : PM} {R : RM} {N : Nat} {G : Int}
theorem Rel.rmok (h : Rel M R N G) (hr : R.room ≤ 1000000) : RmOk R := by
  obtain ⟨_, _, hl⟩ := h.log
  have h1 := hl.most1
  have h2 := h.most
  exact ⟨h.way, h.sure, h.dl, h.big, by omega, hr⟩
theorem Rel.wt (h : Rel M R N G) : M.m.wait = [] := h.log.elim fun _ h => h.elim fun _ h => h.wait
/-- The document's pager has as much room as it had. -/
def RmEq (R R' : RM) : Prop := R'.room = R.room ∧ R'.most = R.most
theorem writeR_eq (R : RM) (no kind : Int) (r : ByteArray) : RmEq R (writeR R no kind r).2 := by
  unfold writeR
  split
  · exact ⟨rfl, rfl⟩
  · split
    · exact ⟨rfl, rfl⟩
    · split <;> exact ⟨rfl, rfl⟩
theorem allocR_eq (R : RM) (kind : Int) : RmEq R (allocR R kind).2.2 := by
  unfold allocR
  split
  · exact ⟨rfl, rfl⟩
  · split
    · split <;> exact ⟨rfl, rfl⟩
    · split
      · exact ⟨rfl, rfl⟩
      · split <;> exact ⟨rfl, rfl⟩
theorem giveR_eq (R : RM) (no : Int) : RmEq R (giveR R no).2 := by
  unfold giveR
  split
  · exact ⟨rfl, rfl⟩
  · split
    · exact ⟨rfl, rfl⟩
    · split <;> exact ⟨rfl, rfl⟩
theorem setRootR_eq (R : RM) (i n : Int) : RmEq R (setRootR R i n).2 := by
  unfold setRootR
  split
  · exact ⟨rfl, rfl⟩
  · split <;> exact ⟨rfl, rfl⟩
theorem writeP_size (M : PM) (no kind : Int) (r : ByteArray) : (writeP M no kind r).2.size = M.size := by
  unfold writeP
  split
  · exact setP_size _ _ _ _
  · rfl
theorem freeP_size (M : PM) (no : Int) : (freeP M no).2.size = M.size := by
  unfold freeP
  split
  · rfl
  · split
    · rfl
    · split
      · rfl
      · dsimp only
        split
        · rw [setP_size]
        · rw [setHeadP_size, setP_size]
theorem setRootP_size (M : PM) (i n : Int) : (setRootP M i n).2.size = M.size := by
  unfold setRootP
  split
  · rfl
  · split
    · rfl
    · exact setP_size _ _ _ _
theorem layP_size (M : PM) : (layP M).2.size = M.size := by
  unfold layP
  dsimp only
  split <;> rfl
theorem apP_size (M : PM) : (apP M).2.size = M.size := rfl
theorem endP_size (x : Int × PM) : (endP x).2.size = x.2.size := by
  unfold endP
  split <;> rfl
theorem commitP_size (M : PM) : (commitP M).2.size = M.size := by
  unfold commitP
  split
  · rfl
  · split
    · rfl
    · split
      · rfl
      · dsimp only
        rw [endP_size]
        split
        · split
          · rw [apP_size, layP_size, apP_size]
          · rw [layP_size, apP_size]
        · rw [apP_size]
theorem ckP_size (M : PM) : (ckP M).2.size = M.size := by
  unfold ckP
  split
  · rfl
  · exact layP_size M
theorem Rel.writeI (h : Rel M R N G) (no kind : Int) (room : ByteArray) (hf : 0 ≤ no → R.way.kinds[no.toNat]? ≠ some 255) : (writeP M no kind room).1 = (writeR R no kind room).1 ∧ Rel (writeP M no kind room).2 (writeR R no kind room).2 N G := by
  by_cases h0 : 0 ≤ no
  · obtain ⟨n, rfl⟩ := Int.eq_ofNat_of_zero_le h0
    exact h.write n kind room (hf h0)
  · have e1 : writeP M no kind room = (1, M) := by
      unfold writeP
      rw [if_neg]
      intro hh
      have := hh.1
      unfold withinP at this
      rw [decide_eq_true_iff] at this
      omega
    have e2 : writeR R no kind room = (1, R) := by
      unfold writeR
      rw [if_pos (.inl (by omega))]
    rw [e1, e2]
    exact ⟨rfl, h⟩
/-- Whether a page can be read is told by its number. -/
theorem Rel.readErr (h : Rel M R N G) (no : Int) : ((no < 0 ∨ lenR R ≤ no) → (readP M no).2.2 = 1) ∧ (¬ (no < 0 ∨ lenR R ≤ no) → (readP M no).2.2 = 0) := by
  have hl : lenR R = R.way.kinds.length := rfl
  refine ⟨fun hh => ?_, fun hh => ?_⟩
  · unfold readP
    by_cases h0 : no < 0
    · rw [if_pos h0]
    · rw [if_neg h0, h.rd0, if_neg (by simp)]
      simp only
      rw [h.used, if_pos (by omega)]
  · obtain ⟨n, rfl⟩ := Int.eq_ofNat_of_zero_le (show 0 ≤ no by omega)
    rw [h.readAt (i := n) (by omega)]
end
/-- What was told, beside a play: its box is N. -/
structure PNm (w0 w : World) (p d lb pb hb : Nat) (FD FP : List Nat) (K : Nat) (M : PM) (rb : Nat) (R : RM) (B : Nat) (x : ActD) (k r kS rS fS kW rW fW dv : Value) : Prop where
  pp : PPm w0 w p d lb pb hb FD FP (rmB rb kS rS fS kW rW fW dv) K M rb R B x
  rm : RmAt w rb kS rS fS kW rW fW dv R
  st : StRow w 0 k r (.slice none 0 0) { R.way with free := [] }
  so : Off (stB k r (.slice none 0 0)) (pgB p lb hb FD FP)
def IsPT (w0 w : World) (d p rb K : Nat) (M : PM) (R : RM) (B : Nat) (x : ActD) (k r kS rS fS kW rW fW dv : Value) : Prop := ∃ lb pb hb FD FP, PNm w0 w p d lb pb hb FD FP K M rb R B x k r kS rS fS kW rW fW dv
/-- .. and the told state's own box. -/
def IsPN (w0 w : World) (d p rb K : Nat) (M : PM) (R : RM) (B : Nat) (x : ActD) (k r kS rS fS kW rW fW dv : Value) (Nb : Nat) : Prop := ∃ lb pb hb FD FP, PNm w0 w p d lb pb hb FD FP K M rb R B x k r kS rS fS kW rW fW dv ∧ w.rowIs Nb 37 11 (stCF k r (.slice none 0 0) R.way) ∧ Nb ∉ pgB p lb hb FD FP
section
variable {w0 w w' : World} {p d lb pb hb rb B K J k' N Nb : Nat} {FD FP F : List Nat} {M M' : PM} {R R' : RM} {x : ActD} {G : Int} {k r kS rS fS kW rW fW dv : Value}
theorem PNm.below (h : PNm w0 w p d lb pb hb FD FP K M rb R B x k r kS rS fS kW rW fW dv) (hb' : Below w.heap.size w w') : PNm w0 w' p d lb pb hb FD FP K M rb R B x k r kS rS fS kW rW fW dv :=
  ⟨h.pp.below hb', h.rm.touch (G := []) (Touch.of_below hb') (fun _ _ => by simp), h.st.below hb', h.so⟩
theorem IsPT.toPB (h : IsPT w0 w d p rb K M R B x k r kS rS fS kW rW fW dv) : IsPB w0 w d p rb K M R B x := by
  obtain ⟨lb, pb, hb, FD, FP, h⟩ := h
  exact ⟨lb, pb, hb, FD, FP, _, h.pp⟩
theorem IsPN.toPB (h : IsPN w0 w d p rb K M R B x k r kS rS fS kW rW fW dv Nb) : IsPB w0 w d p rb K M R B x := by
  obtain ⟨lb, pb, hb, FD, FP, h, _⟩ := h
  exact ⟨lb, pb, hb, FD, FP, _, h.pp⟩
theorem IsPN.move (h : IsPN w0 w d p rb K M R B x k r kS rS fS kW rW fW dv Nb) (hb' : Below w.heap.size w w') : IsPN w0 w' d p rb K M R B x k r kS rS fS kW rW fW dv Nb := by
  obtain ⟨lb, pb, hb, FD, FP, h, h2, h3⟩ := h
  exact ⟨lb, pb, hb, FD, FP, h.below hb', rowIs_touch h2 (F := []) (Touch.of_below hb') (by simp), h3⟩
theorem IsPN.drew (h : IsPN w0 w d p rb K M R B x k r kS rS fS kW rW fW dv Nb) : IsPN w0 w.drew d p rb K M R B x k r kS rS fS kW rW fW dv Nb := h.move (Below.refl _ _).drew
theorem IsPT.new (h : IsPT w0 w d p rb K M R B x k r kS rS fS kW rW fW dv) : IsPN w0 (w.alloc (.cells #[k, r, .slice none 0 0, x8 R.way 0, x8 R.way 1, x8 R.way 2, x8 R.way 3, x8 R.way 4, x8 R.way 5, x8 R.way 6, x8 R.way 7] 37)) d p rb K M R B x k r kS rS fS kW rW fW dv w.heap.size := by
  obtain ⟨lb, pb, hb, FD, FP, h⟩ := h
  refine ⟨lb, pb, hb, FD, FP, h.below (below_alloc (Below.refl _ _)), stCF_new _ _ _ _ _, fun hm => ?_⟩
  have := pgB_lt h.pp.play.pin _ hm
  omega
theorem pb_told (h : IsPB w0 w d p rb K M R B x) (hr : Rel M R N G) (hK : K ≤ 1000000000) :
    Calls Tryz.prog 12 #[.pointer (some ⟨p, 0, none⟩)] w fun e w' => ∃ k r kS rS fS kW rW fW dv, e = .returned (.tuple #[stV k r (.slice none 0 0) R.way, .bool true]) ∧ IsPT w0 w' d p rb (K + 10 * R.way.kinds.length + 100) M R B x k r kS rS fS kW rW fW dv := by
  obtain ⟨lb, pb, hb, FD, FP, F, h⟩ := h
  refine (told_any h.play.pin hr (by omega)).mono ?_
  rintro e w' ⟨k, r, FP', he, ho⟩
  have hlt := pgB_lt h.play.pin
  have h2 := h.pgo' ho.pin (ho.t.mono (fun y hy => .inl (by simp [pgB, hy]))) (fun y hy => .inl hy) ho.fp
  obtain ⟨kS, rS, fS, kW, rW, fW, dv, hrm, hF⟩ := h2.ref
  subst hF
  refine ⟨k, r, kS, rS, fS, kW, rW, fW, dv, he, lb, pb, hb, FD, FP', h2, hrm, ho.st.base (Nat.zero_le _), fun y hy hm => ?_⟩
  have hge := (ho.st.lt y hy).1
  have hm' := hm
  simp only [pgB, List.mem_cons, List.mem_append] at hm
  rcases hm with rfl | rfl | rfl | hm | hm
  · have := hlt y (by simp [pgB]); omega
  · have := hlt y (by simp [pgB]); omega
  · have := hlt y (by simp [pgB]); omega
  · have := hlt y (by simp [pgB, hm]); omega
  · exact ho.off y hy hm
theorem pn_same (h : IsPN w0 w d p rb K M R B x k r kS rS fS kW rW fW dv Nb) (hr : Rel M R N G) :
    Calls Tryz.prog 13 #[stV k r (.slice none 0 0) R.way, stV kW rW fW R.way] w fun e w' => e = .returned (.bool true) ∧ IsPN w0 w' d p rb K M R B x k r kS rS fS kW rW fW dv Nb := by
  have h0 := h
  obtain ⟨lb, pb, hb, FD, FP, h, _⟩ := h
  have hl := hr.way.lr
  have h1 := hr.way.one
  have h2 := hr.way.le
  have h3 := hr.big
  exact (same11_any h.st h.rm.way rfl rfl rfl hl h1 (by omega)).mono fun e w' ⟨he, hb'⟩ => ⟨he, h0.move hb'⟩
theorem pn_dirty (h : IsPN w0 w d p rb K M R B x k r kS rS fS kW rW fW dv Nb) (hr : Rel M R N G) :
    Calls Tryz.prog 38 #[.pointer (some ⟨p, 0, none⟩)] w fun e w' => e = .returned (.int .i64 (cntR R)) ∧ IsPN w0 w' d p rb K M R B x k r kS rS fS kW rW fW dv Nb := by
  rw [← hr.cntDR]
  exact (pb_dirty h.toPB).mono fun e w' ⟨he, hb'⟩ => ⟨he, h.move hb'⟩
theorem pn_count (h : IsPN w0 w d p rb K M R B x k r kS rS fS kW rW fW dv Nb) (hk : RmOk R) :
    Calls Tryz.prog 35 #[.pointer (some ⟨rb, 0, none⟩)] w fun e w' => e = .returned (.int .i64 (cntR R)) ∧ IsPN w0 w' d p rb K M R B x k r kS rS fS kW rW fW dv Nb :=
  (pb_count h.toPB hk).mono fun e w' ⟨he, hw⟩ => ⟨he, hw ▸ h⟩
theorem pn_most (h : IsPN w0 w d p rb K M R B x k r kS rS fS kW rW fW dv Nb) (hr : Rel M R N G) :
    Calls Tryz.prog 15 #[.pointer (some ⟨p, 0, none⟩)] w fun e w' => e = .returned (.int .i64 R.most) ∧ IsPN w0 w' d p rb K M R B x k r kS rS fS kW rW fW dv Nb := by
  rw [← hr.most]
  exact (pb_most h.toPB).mono fun e w' ⟨he, hw⟩ => ⟨he, hw ▸ h⟩
theorem pn_pages (h : IsPN w0 w d p rb K M R B x k r kS rS fS kW rW fW dv Nb) (hr : Rel M R N G) (hK : K ≤ 1000000000) :
    Calls Tryz.prog 20 #[.pointer (some ⟨p, 0, none⟩)] w fun e w' => e = .returned (.int .i64 (lenR R)) ∧ IsPN w0 w' d p rb (K + 2) M R B x k r kS rS fS kW rW fW dv Nb := by
  obtain ⟨lb, pb, hb, FD, FP, h, h2, h3⟩ := h
  rw [← hr.pages]
  refine (pages_any h.pp.play.pin (by omega)).mono ?_
  rintro e w' ⟨he, FP', p1, t1, f1⟩
  have hlt := pgB_lt h.pp.play.pin
  have t2 : Touch (pgB p lb hb FD FP) w w' := t1.mono (fun y hy => .inl (by simp [pgB, hy]))
  have hsub := pgB_sub (p := p) (lb := lb) (hb := hb) (FD := FD) (FD' := FD) (FP := FP) (FP' := FP') (n := w.heap.size) (fun y hy => .inl hy) f1
  refine ⟨he, lb, pb, hb, FD, FP', ⟨h.pp.pgo' p1 t2 (fun y hy => .inl hy) f1, h.rm.touch t2 h.pp.off, h.st.touch t2 h.so, fun y hy hm => ?_⟩, rowIs_touch h2 t2 h3, fun hm => ?_⟩
  · rcases hsub y hm with h' | h'
    · exact h.so y hy h'
    · have := (h.st.lt y hy).2; omega
  · rcases hsub Nb hm with h' | h'
    · exact h3 h'
    · have := World.rowIs.lt h2; omega
theorem IsPN.cells (h : IsPN w0 w d p rb K M R B x k r kS rS fS kW rW fW dv Nb) : w.cell? ⟨Nb, 0, none⟩ = some k ∧ w.cell? ⟨Nb, 1, none⟩ = some r ∧ w.cell? ⟨Nb, 2, none⟩ = some (.slice none 0 0) ∧ w.cell? ⟨Nb, 3, none⟩ = some (x8 R.way 0) ∧ w.cell? ⟨Nb, 4, none⟩ = some (x8 R.way 1) ∧ w.cell? ⟨Nb, 5, none⟩ = some (x8 R.way 2) ∧ w.cell? ⟨Nb, 6, none⟩ = some (x8 R.way 3) ∧ w.cell? ⟨Nb, 7, none⟩ = some (x8 R.way 4) ∧ w.cell? ⟨Nb, 8, none⟩ = some (x8 R.way 5) ∧ w.cell? ⟨Nb, 9, none⟩ = some (x8 R.way 6) ∧ w.cell? ⟨Nb, 10, none⟩ = some (x8 R.way 7) ∧
    w.cell? ⟨rb, 0, none⟩ = some (.int .i64 R.most) ∧ w.cell? ⟨rb, 13, none⟩ = some kW ∧ w.cell? ⟨rb, 14, none⟩ = some rW ∧ w.cell? ⟨rb, 15, none⟩ = some fW ∧ w.cell? ⟨rb, 16, none⟩ = some (x8 R.way 0) ∧ w.cell? ⟨rb, 17, none⟩ = some (x8 R.way 1) ∧ w.cell? ⟨rb, 18, none⟩ = some (x8 R.way 2) ∧ w.cell? ⟨rb, 19, none⟩ = some (x8 R.way 3) ∧ w.cell? ⟨rb, 20, none⟩ = some (x8 R.way 4) ∧ w.cell? ⟨rb, 21, none⟩ = some (x8 R.way 5) ∧ w.cell? ⟨rb, 22, none⟩ = some (x8 R.way 6) ∧ w.cell? ⟨rb, 23, none⟩ = some (x8 R.way 7) := by
  obtain ⟨lb, pb, hb, FD, FP, h, h2, h3⟩ := h
  exact ⟨World.rowIs.cell h2 (i := 0) (by decide), World.rowIs.cell h2 (i := 1) (by decide), World.rowIs.cell h2 (i := 2) (by decide), World.rowIs.cell h2 (i := 3) (by decide), World.rowIs.cell h2 (i := 4) (by decide), World.rowIs.cell h2 (i := 5) (by decide), World.rowIs.cell h2 (i := 6) (by decide), World.rowIs.cell h2 (i := 7) (by decide), World.rowIs.cell h2 (i := 8) (by decide), World.rowIs.cell h2 (i := 9) (by decide), World.rowIs.cell h2 (i := 10) (by decide), World.rowIs.cell h.rm.cells (i := 0) (by decide), h.rm.loads⟩
theorem IsPN.forms (h : IsPN w0 w d p rb K M R B x k r kS rS fS kW rW fW dv Nb) : ∃ a1 c1 a2 c2 a3 c3 a4 c4 a5 c5, k = .slice a1 R.way.kinds.length c1 ∧ r = .slice a2 R.way.rooms.length c2 ∧ kW = .slice a3 R.way.kinds.length c3 ∧ rW = .slice a4 R.way.rooms.length c4 ∧ fW = .slice a5 R.way.free.length c5 := by
  obtain ⟨lb, pb, hb, FD, FP, h, h2, h3⟩ := h
  obtain ⟨a1, c1, e1⟩ := h.st.kf
  obtain ⟨a2, c2, e2⟩ := h.st.rf
  obtain ⟨a3, c3, e3⟩ := h.rm.way.kf
  obtain ⟨a4, c4, e4⟩ := h.rm.way.rf
  obtain ⟨a5, c5, e5⟩ := h.rm.way.ff
  exact ⟨a1, c1, a2, c2, a3, c3, a4, c4, a5, c5, e1, e2, e3, e4, e5⟩
theorem pb_open (h : IsPB w0 w d p rb K M R B x) (hr : Rel M R N G) (hN : N ≤ 65536) (r1 : 2 ≤ R.room) (r2 : R.room ≤ 65536) :
    Calls Tryz.prog 11 #[.pointer (some ⟨d, 0, none⟩), .int .i64 R.room] w fun e w' => ∃ p', e = .returned (.tuple #[.pointer (some ⟨p', 0, none⟩), .int .i64 0]) ∧ IsPB w0 w' d p' rb 2 (abortP M) R B x := by
  obtain ⟨lb, pb, hb, FD, FP, F, h⟩ := h
  have ho := Open_any h.play.pin.disk h.play.pin.ok.disk R.room r1 r2
  have hro : ({ abortP M with room := R.room } : PM) = abortP M := by rw [← hr.room]; rfl
  rw [hr.opens hN R.room, hro] at ho
  refine ho.mono ?_
  rintro e w' ⟨hb', v, he, q, lq, pq, hq, FQ, rfl, h1, h2, h3, h4, h5⟩
  have hs := h.play.below.size
  have hlt := pgB_lt h.play.pin
  have h0 := h.below hb'
  have hsub : ∀ y ∈ pgB q lq hq FD FQ, y ∈ FD ∨ w.heap.size ≤ y := fun y hy => by
    simp only [pgB, List.mem_cons, List.mem_append] at hy
    rcases hy with rfl | rfl | rfl | hy | hy
    · exact .inr h2
    · exact .inr h3
    · exact .inr h4
    · exact .inl hy
    · exact .inr (h5 y hy)
  refine ⟨q, he, lq, pq, hq, FD, FQ, F, ⟨h1, Nat.le_trans hs h2, Nat.le_trans hs h3, Nat.le_trans hs h4, h.play.fd, fun y hy => Nat.le_trans hs (h5 y hy), h0.play.below⟩, h0.ref, h.fr, fun y hy hm => ?_, h0.box, fun hm => ?_, h.bf⟩
  · rcases hsub y hm with h' | h'
    · exact h.off y hy (by simp [pgB, h'])
    · have := h.ref.lt y hy; omega
  · rcases hsub B hm with h' | h'
    · exact h.bx (by simp [pgB, h'])
    · have := World.rowIs.lt h.box; omega
end
end Go.Proofs.YtpaholkmlfaflaaGreatDoor

namespace Go.Proofs.YtpaholkmlfaflaaGreatDoor
open Go.RowKit Go.Maps Go.Joins
set_option linter.unusedVariables false
/-- Between the rounds: no box. -/
def IsPP (w0 w : World) (d p rb K : Nat) (M : PM) (R : RM) : Prop := ∃ lb pb hb FD FP F, PlayAt w0 w p d lb pb hb FD FP K M ∧ IsRm w rb F R ∧ (∀ y ∈ F, w0.heap.size ≤ y) ∧ Off F (pgB p lb hb FD FP)
section
variable {w0 w w' : World} {p d lb pb hb rb B K J k' N Nb : Nat} {FD FP F : List Nat} {M M' : PM} {R R' : RM} {x : ActD} {G : Int} {k r kS rS fS kW rW fW dv : Value}
theorem IsPB.toPP (h : IsPB w0 w d p rb K M R B x) : IsPP w0 w d p rb K M R := by
  obtain ⟨lb, pb, hb, FD, FP, F, h⟩ := h
  exact ⟨lb, pb, hb, FD, FP, F, h.play, h.ref, h.fr, h.off⟩
theorem IsPP.below (h : IsPP w0 w d p rb K M R) : Below w0.heap.size w0 w := by
  obtain ⟨lb, pb, hb, FD, FP, F, h, _⟩ := h
  exact h.below
theorem IsPP.box (h : IsPP w0 w d p rb K M R) {B2 : Nat} {y : ActD} (hb' : Below w.heap.size w w') (hr : w'.rowIs B2 58 9 (actF y)) (hB : w.heap.size ≤ B2) : IsPB w0 w' d p rb K M R B2 y := by
  obtain ⟨lb, pb, hb, FD, FP, F, h1, h2, h3, h4⟩ := h
  refine ⟨lb, pb, hb, FD, FP, F, h1.move hb', h2.below hb', h3, h4, hr, fun hm => ?_, fun hm => ?_⟩
  · have := pgB_lt h1.pin _ hm; omega
  · have := h2.lt _ hm; omega
/-- The box of a round's act. -/
theorem IsPP.act (h : IsPP w0 w d p rb K M R) (x : ActD) : IsPB w0 (w.alloc (.cells #[.int .u8 x.b1, .int .u8 x.b2, .int .u8 x.b3, .int .i64 x.no, .int .i64 x.n, .int .u16 x.lng, .slice x.ka x.kn x.kc, .int .i64 x.torn, .int .i64 x.by_] 58)) d p rb K M R w.heap.size x :=
  h.box (below_alloc (Below.refl _ _)) (box_new w x) (Nat.le_refl _)
theorem IsPB.pgok (h : IsPB w0 w d p rb K M R B x) : PgOk M 0 := by
  obtain ⟨lb, pb, hb, FD, FP, F, h⟩ := h
  exact h.play.pin.ok
theorem IsPB.kinds (h : IsPB w0 w d p rb K M R B x) (hl : 0 < R.way.kinds.length) : ∃ g c, w.cell? ⟨rb, 13, none⟩ = some (.slice (some ⟨g, 0, none⟩) R.way.kinds.length c) ∧ ∀ i, i < R.way.kinds.length → w.cell? ⟨g, i, none⟩ = some (.int .i64 (R.way.kinds.getD i 0)) := by
  obtain ⟨lb, pb, hb, FD, FP, F, h⟩ := h
  obtain ⟨kS, rS, fS, kW, rW, fW, dv, hrm, hF⟩ := h.ref
  obtain ⟨g, c, e, hc⟩ := kinds_form hrm hl
  exact ⟨g, c, by rw [← e]; exact hrm.loads.1, hc⟩
theorem pp_start (h : PlayAt w0 w p d lb pb hb FD FP K M) {v : Value} (hn : NewRm w w' v R) : ∃ rb, v = .pointer (some ⟨rb, 0, none⟩) ∧ IsPP w0 w' d p rb K M R := by
  obtain ⟨rb, F, rfl, h1, h2, h3⟩ := hn
  have hs := h.below.size
  refine ⟨rb, rfl, lb, pb, hb, FD, FP, F, h.move h2, h1, fun y hy => Nat.le_trans hs (h3 y hy), fun y hy hm => ?_⟩
  have := pgB_lt h.pin _ hm
  have := h3 y hy
  omega
end
section
variable {M : PM} {R : RM} {N : Nat} {G : Int}
theorem allocR_big {R : RM} {kind : Int} (h : (allocR R kind).2.1 = 10) : (allocR R kind).2.2 = R := by
  unfold allocR at h ⊢
  split
  · rfl
  · rename_i hk
    rw [if_neg hk] at h
    split
    · rename_i f hf
      rw [hf] at h
      dsimp only at h
      split
      · rfl
      · rename_i hb
        rw [if_neg hb] at h
        simp at h
    · rename_i hf
      rw [hf] at h
      dsimp only at h
      split
      · rfl
      · rename_i h1
        rw [if_neg h1] at h
        split
        · rfl
        · rename_i hb
          rw [if_neg hb] at h
          simp at h
theorem giveR_big {R : RM} {no : Int} (h : (giveR R no).1 = 10) : (giveR R no).2 = R := by
  unfold giveR at h ⊢
  split
  · rfl
  · rename_i h1
    rw [if_neg h1] at h
    split
    · rfl
    · rename_i h2
      rw [if_neg h2] at h
      split
      · rfl
      · rename_i h3
        rw [if_neg h3] at h
        simp at h
/-- What an Alloc makes, beside a document's one. -/
theorem Rel.allocs (h : Rel M R N G) (kind : Int) : ∃ a f M' R', allocP M kind = (a, f, M') ∧ allocR R kind = (a, f, R') ∧ M'.size = M.size ∧ RmEq R R' ∧ (f ≠ 10 → Rel M' R' N G) ∧ (f = 10 → R' = R ∧ Rel (abortP M') (abortR R) N G) := by
  obtain ⟨e1, e2, e3, e4⟩ := h.alloc kind
  have h1 := allocP_size M kind
  have h2 := allocR_eq R kind
  have h3 := @allocR_big R kind
  generalize allocP M kind = X at *
  generalize allocR R kind = Y at *
  obtain ⟨a, f, M'⟩ := X
  obtain ⟨a2, f2, R'⟩ := Y
  simp only at *
  subst e1 e2
  exact ⟨_, _, _, _, rfl, rfl, h1, h2, e3, fun e => ⟨h3 e, by have := e4 e; rwa [h3 e] at this⟩⟩
theorem Rel.gives (h : Rel M R N G) (no : Int) : ∃ f M' R', freeP M no = (f, M') ∧ giveR R no = (f, R') ∧ M'.size = M.size ∧ RmEq R R' ∧ (f ≠ 10 → Rel M' R' N G) ∧ (f = 10 → R' = R ∧ Rel (abortP M') (abortR R) N G) := by
  obtain ⟨e1, e3, e4⟩ := h.give no
  have h1 := freeP_size M no
  have h2 := giveR_eq R no
  have h3 := @giveR_big R no
  generalize freeP M no = X at *
  generalize giveR R no = Y at *
  obtain ⟨f, M'⟩ := X
  obtain ⟨f2, R'⟩ := Y
  simp only at *
  subst e1
  exact ⟨_, _, _, rfl, rfl, h1, h2, e3, fun e => ⟨h3 e, by have := e4 e; rwa [h3 e] at this⟩⟩
theorem Rel.writes (h : Rel M R N G) (no kind : Int) (room : ByteArray) (hf : 0 ≤ no → R.way.kinds[no.toNat]? ≠ some 255) : ∃ f M' R', writeP M no kind room = (f, M') ∧ writeR R no kind room = (f, R') ∧ M'.size = M.size ∧ RmEq R R' ∧ Rel M' R' N G := by
  obtain ⟨e1, e3⟩ := h.writeI no kind room hf
  have h1 := writeP_size M no kind room
  have h2 := writeR_eq R no kind room
  generalize writeP M no kind room = X at *
  generalize writeR R no kind room = Y at *
  obtain ⟨f, M'⟩ := X
  obtain ⟨f2, R'⟩ := Y
  simp only at *
  subst e1
  exact ⟨_, _, _, rfl, rfl, h1, h2, e3⟩
theorem Rel.sroots (h : Rel M R N G) (i n : Int) (n0 : 0 ≤ n) (n1 : n ≤ 18446744073709551615) : ∃ f M' R', setRootP M i n = (f, M') ∧ setRootR R i n = (f, R') ∧ M'.size = M.size ∧ RmEq R R' ∧ Rel M' R' N G := by
  obtain ⟨e1, e3⟩ := h.setRoot i n n0 n1
  have h1 := setRootP_size M i n
  have h2 := setRootR_eq R i n
  generalize setRootP M i n = X at *
  generalize setRootR R i n = Y at *
  obtain ⟨f, M'⟩ := X
  obtain ⟨f2, R'⟩ := Y
  simp only at *
  subst e1
  exact ⟨_, _, _, rfl, rfl, h1, h2, e3⟩
end
end Go.Proofs.YtpaholkmlfaflaaGreatDoor

namespace Go.Proofs.YtpaholkmlfaflaaGreatDoor
open Go.RowKit Go.Maps Go.Joins
set_option linter.unusedVariables false
def roomAt (b : Int) (t : Nat) : Int := (b + (t : Int)) % 256
def roomN (lng : Int) : Nat := (lng % 500).toNat
def roomB (x : ActD) : ByteArray := S ((List.range (roomN x.lng)).map fun t => UInt8.ofNat (roomAt x.b3 t).toNat)
theorem roomAt_bd (b : Int) (t : Nat) : 0 ≤ roomAt b t ∧ roomAt b t < 256 := by unfold roomAt; omega
theorem room_conv {w : World} {n : Nat} {b : Int} (g c : Nat) (hown : w.ownsRow g 5 1 (.slice (some ⟨g, 0, none⟩) n c) n ((List.range n).map (fun t => Value.int .u8 (roomAt b t)))) :
    (convert 115 9 (.slice (some ⟨g, 0, none⟩) n c)).run Tryz.prog w = .ok (.string (S ((List.range n).map fun t => UInt8.ofNat (roomAt b t).toNat))) w := by
  have hconv := run_convert_bytes_back (P := Tryz.prog) w 115 9 5 ⟨g, 0, none⟩ c ((List.range n).map fun t => UInt8.ofNat (roomAt b t).toNat) Tryz.underlying115 Tryz.underlying5 Tryz.underlying9 (by
    intro t ht
    have ht' : t < n := by simpa using ht
    have e1 : (⟨g, 0, none⟩ : Addr).add t = ⟨g, t, none⟩ := by unfold Addr.add; split <;> simp_all
    have hbd := roomAt_bd b t
    have hm : (roomAt b t).toNat % 256 = (roomAt b t).toNat := by omega
    rw [e1, hown.cellAt t (by omega)]
    simp [ht', hm, Int.toNat_of_nonneg hbd.1])
  have e2 : ((List.range n).map fun t => UInt8.ofNat (roomAt b t).toNat).length = n := by simp
  rw [e2] at hconv
  exact hconv
set_option maxRecDepth 100000 in
set_option maxHeartbeats 1000000 in
theorem room_any (x : ActD) (hx : ActOk x) (w : World) :
    Calls Tryz.prog 28 #[.agg #[.int .u8 x.b1, .int .u8 x.b2, .int .u8 x.b3, .int .i64 x.no, .int .i64 x.n, .int .u16 x.lng, .slice x.ka x.kn x.kc, .int .i64 x.torn, .int .i64 x.by_]] w fun e w' => e = .returned (.string (roomB x)) ∧ Below w.heap.size w w' := by
  obtain ⟨i0, hi, hz0, hz1, hz2⟩ := info_parts Tryz.infoByteF
  obtain ⟨n, hn⟩ : ∃ n, n = roomN x.lng := ⟨_, rfl⟩
  have hnl := hx.lng
  have hb3 := hx.u3
  have hn5 : n < 500 := by rw [hn]; unfold roomN; omega
  have hq : x.lng % 500 = (n : Int) := by rw [hn]; unfold roomN; omega
  have hrB : roomB x = S ((List.range n).map fun t => UInt8.ofNat (roomAt x.b3 t).toNat) := by rw [hn]; rfl
  rw [hrB]
  clear hrB hn hx
  go_enter Tryz.func28, Tryz.ntmps28
  go_upto_region 1 with fail
  refine wp_name (fun W hW => ?_)
  have hbW : Below w.heap.size w W := by rw [← hW]; exact below_alloc (Below.refl _ _)
  have hWs : W.heap.size = w.heap.size + 1 := by rw [← hW]; simp
  have k5 : W.cell? ⟨w.heap.size, 5, none⟩ = some (.int .u16 x.lng) := by rw [← hW]; simp [World.cell?_alloc_new]
  have k2 : W.cell? ⟨w.heap.size, 2, none⟩ = some (.int .u8 x.b3) := by rw [← hW]; simp [World.cell?_alloc_new]
  have HWS := Lib.hid hWs
  have HBW := Lib.hid hbW
  have HK2 := Lib.hid k2
  clear hW hWs hbW
  go_wp2_with (at_make; refine wpList_make_full _ rfl (.tmp 8) (.tmp 8) 115 rfl W.heap.size 5 i0 (.int .u8 0) 1 Tryz.underlying115 hi hz0 hz1 .i64 .i64 (x.lng % 500) (x.lng % 500) n rfl rfl hq hq (by rw [hz2]; omega) (by unfold maxLen; omega) (Nat.le_refl _) ?_; intro w1 hown hgr)
  have hb : Below W.heap.size W w1 := (Below.refl _ _).grown hgr (Nat.le_refl _) (by intro k h; cases h)
  clear hgr k2 k5
  have e1 := toList_madeCells_one (Value.int .u8 0) n
  have e2 : (Value.int .u8 0).cells = #[Value.int .u8 0] := rfl
  rw [e2, Nat.mul_one, e1] at hown
  have HO := Lib.hid hown
  have HB := Lib.hid hb
  clear e1 e2 hown hb hq
  go_loopw [4] (fun c wr => ∃ j : Nat, j ≤ n ∧ c = .int .i64 j ∧ wr.ownsRow W.heap.size 5 1 (.slice (some ⟨W.heap.size, 0, none⟩) n n) n (fillF n j (fun t => .int .u8 (roomAt x.b3 t)) (.int .u8 0)) ∧ Below W.heap.size W wr) (fun c _ => n - (intOf c).toNat)
  case atStart => exact ⟨0, Nat.zero_le _, rfl, by rw [fillF_zero]; exact HO.out, HB.out⟩
  case round =>
    obtain ⟨j, hj, rfl, hown, hb⟩ := hrel
    by_cases hlt : j < n
    · have hf := hown.frozenAt j
      have hcell : wr.cell? ⟨W.heap.size, j, none⟩ = some (.int .u8 0) := by rw [hown.cellAt j (by omega), fillF_get _ _ _ _ hlt]
      have k2 : wr.cell? ⟨w.heap.size, 2, none⟩ = some (.int .u8 x.b3) := (hb.cell (p := ⟨w.heap.size, 2, none⟩) (by show w.heap.size < W.heap.size; have := HWS.out; omega)).trans HK2.out
      have hs := (hown.stored j (.int .u8 (roomAt x.b3 j))).1
      rw [fillF_set n j (fun t => .int .u8 (roomAt x.b3 t))] at hs
      have HS := Lib.hid hs
      have HBR := Lib.hid hb
      have hra : ((x.b3 + (j : Int)) % 256) = roomAt x.b3 j := rfl
      have HRA := Lib.hid hra
      clear hs hown hb hra
      go_wp2_with fail
      try rw [HRA.out]
      go_roundw
      case rel => exact ⟨j + 1, by omega, by go_num, HS.out, HBR.out.setCell (by simp) _⟩
      case measure => simp [intOf]; omega
    · obtain rfl : j = n := by omega
      rw [fillF_all] at hown
      have HC := room_conv _ _ hown
      have HBR := Lib.hid hb
      clear hown hb
      go_wp2_with fail
      go_ret
      exact ⟨rfl, HBW.out.trans (HBR.out.mono (by have := HWS.out; omega))⟩
end Go.Proofs.YtpaholkmlfaflaaGreatDoor

