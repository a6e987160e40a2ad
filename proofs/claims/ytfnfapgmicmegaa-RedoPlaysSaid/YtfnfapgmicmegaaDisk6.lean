/- The contracts of New, Load and Image. -/
import Derived.Test.YtfnfapgmicmegaaDisk5
namespace Go.Proofs.Ytfnfapgmicmegaa
open Go.RowKit Go.Maps Go.Joins
set_option linter.unusedVariables false

/-! A row that is filled from the left. -/
def fillF (n j : Nat) (f : Nat → Value) (z : Value) : List Value := (List.range n).map fun t => if t < j then f t else z
theorem fillF_zero (n : Nat) (f : Nat → Value) (z : Value) : fillF n 0 f z = List.replicate n z := by
  apply List.ext_getElem (by simp [fillF])
  intro i h1 h2
  simp [fillF]
theorem fillF_get (n j : Nat) (f : Nat → Value) (z : Value) (h : j < n) : (fillF n j f z)[j]? = some z := by
  simp [fillF, h]
theorem fillF_set (n j : Nat) (f : Nat → Value) (z : Value) : (fillF n j f z).set j (f j) = fillF n (j + 1) f z := by
  apply List.ext_getElem (by simp [fillF])
  intro i h1 h2
  simp only [List.getElem_set, fillF, List.getElem_map, List.getElem_range]
  by_cases hij : j = i
  · subst hij; simp
  · by_cases hlt : i < j
    · simp [hij, hlt, Nat.lt_succ_of_lt hlt]
    · have : ¬ i < j + 1 := by omega
      simp [hij, hlt, this]
theorem fillF_all (n : Nat) (f : Nat → Value) (z : Value) : fillF n n f z = (List.range n).map f := by
  unfold fillF
  apply List.map_congr_left
  intro t ht
  rw [if_pos (List.mem_range.1 ht)]

/-! Making a disk. -/
def newM (su : List ByteArray) : DM := { sure := su, wait := [], fuse := -1, down := false }

theorem disk_made {w : World} {sb sc n : Nat} {su : List ByteArray} (hn : n = su.length) (hown : w.ownsRow 0 9 1 (.slice (some ⟨sb, 0, none⟩) n sc) n (su.map Value.string)) :
    DiskAt ((w.alloc (.map #[] 0)).alloc (.cells #[.slice (some ⟨sb, 0, none⟩) n sc, .slice none 0 0, .map (some w.heap.size), .int .i64 (-1), .bool false] 75)) (w.heap.size + 1) sb sc w.heap.size (.slice none 0 0) (.map []) (newM su) := by
  have hs := (hown.lt sb rfl).2
  subst hn
  have e1 : (w.alloc (.map #[] 0)).heap.size = w.heap.size + 1 := by simp
  have r := World.rowIs_alloc (w.alloc (.map #[] 0)) #[.slice (some ⟨sb, 0, none⟩) su.length sc, .slice none 0 0, .map (some w.heap.size), .int .i64 (-1), .bool false] 75 (diskF (.slice (some ⟨sb, 0, none⟩) su.length sc) (.slice none 0 0) w.heap.size (newM su))
    (fun i hi => by
      have hi5 : i < 5 := hi
      rcases i with _ | _ | _ | _ | _ | i <;> first | rfl | omega)
  rw [e1] at r
  exact ⟨r, (hown.alloc _).alloc _, World.ownsRow_nil _ _ _ _, (World.ownsMap_made w _ _ _).alloc _, MapIs.empty, by omega, by omega, by omega, fun g hg => by cases hg⟩

set_option maxRecDepth 100000 in
set_option maxHeartbeats 1000000 in
theorem made_any {w : World} {sb sc n : Nat} {su : List ByteArray} (hn : n = su.length) (hown : w.ownsRow 0 9 1 (.slice (some ⟨sb, 0, none⟩) n sc) n (su.map Value.string)) :
    Calls Try.prog 27 #[.slice (some ⟨sb, 0, none⟩) n sc] w fun e w' => ∃ d M, e = .returned (.pointer (some ⟨d, 0, none⟩)) ∧ DiskAt w' d sb sc M (.slice none 0 0) (.map []) (newM su) ∧ Below w.heap.size w w' ∧ w.heap.size ≤ d ∧ w.heap.size ≤ M := by
  have hmm := @run_makeMap Try.prog
  have HO := Lib.hid (disk_made hn hown)
  clear hown hn
  go_enter Try.func27, Try.ntmps27
  go_wp2_with fail
  go_ret
  exact ⟨_, _, rfl, HO.out, below_alloc (below_alloc (Below.refl _ _)), by omega, Nat.le_refl _⟩

/-- A disk of the call's own: nothing that was there has turned. -/
def NewDisk (w w' : World) (d : Nat) (m : DM) : Prop := ∃ F, IsDisk w' d F m ∧ Below w.heap.size w w' ∧ ∀ b ∈ F, w.heap.size ≤ b
def newSu (n : Nat) : List ByteArray := List.replicate n (S (nul 64))

set_option maxRecDepth 100000 in
set_option maxHeartbeats 400000 in
theorem new_bad (n : Int) (w : World) (h : n < 1 ∨ 65536 < n) :
    Calls Try.prog 7 #[.int .i64 n] w fun e w' => e = .returned (.tuple #[.pointer none, .int .i64 1]) ∧ w = w' := by
  rcases h with h | h
  · go_enter Try.func7, Try.ntmps7
    go_wp2_with fail
    go_ret2
    exact ⟨rfl, rfl⟩
  · have h1 : ¬ n < 1 := by omega
    go_enter Try.func7, Try.ntmps7
    go_wp2_with fail
    go_ret2
    exact ⟨rfl, rfl⟩

theorem repeat_nul_list6 (c : Nat) : Lib.repeatL [0] c = nul c := by
  induction c with
  | zero => rfl
  | succ c ih => rw [Lib.repeatL, ih]; rfl
theorem repeat_64 (w : World) :
    Calls Try.prog 26 #[.string ⟨#[0]⟩, .int .i64 64] w fun e w' => e = .returned (.string (S (nul 64))) ∧ Below w.heap.size w w' := by
  refine (Try.strings_Repeat ⟨#[0]⟩ 64 w (by omega) (by decide)).mono ?_
  rintro e w' ⟨rfl, hb⟩
  refine ⟨?_, hb⟩
  have : (ByteArray.mk #[0]).data.toList = [0] := rfl
  rw [this, repeat_nul_list6]; rfl

set_option maxRecDepth 100000 in
set_option maxHeartbeats 1000000 in
theorem new_any (n : Nat) (w : World) (h1 : 1 ≤ n) (h2 : n ≤ 65536) :
    Calls Try.prog 7 #[.int .i64 n] w fun e w' => ∃ d, e = .returned (.tuple #[.pointer (some ⟨d, 0, none⟩), .int .i64 0]) ∧ NewDisk w w' d (newM (newSu n)) := by
  obtain ⟨i0, hi, hz0, hz1, hz2⟩ := info_parts Try.infoStr
  have d1 : decide ((n : Int) < 1) = false := by simp; omega
  have d2 : decide ((65536 : Int) < n) = false := by simp; omega
  go_enter Try.func7, Try.ntmps7
  go_wp2_with fail
  refine (repeat_64 _).mono ?_
  rintro e w0 ⟨rfl, hb0⟩
  go_wp2_with (at_make; refine wpList_make_full _ rfl (.tmp 14) (.tmp 14) 22 rfl w0.heap.size 9 i0 (.string ⟨#[]⟩) 1 Try.underlying22 hi hz0 hz1 .i64 .i64 n n n rfl rfl rfl rfl (by rw [hz2]; omega) (by unfold maxLen; omega) (Nat.le_refl _) ?_; intro w1 hown hgr)
  have hb : Below w0.heap.size w0 w1 := (Below.refl _ _).grown hgr (Nat.le_refl _) (by intro k h; cases h)
  clear hgr
  go_loopw [6, 18] (fun _ c wr => ∃ j : Nat, j ≤ n ∧ c = .int .i64 j ∧ wr.ownsRow w0.heap.size 9 1 (.slice (some ⟨w0.heap.size, 0, none⟩) n n) n (fillF n j (fun _ => .string (S (nul 64))) (.string ⟨#[]⟩)) ∧ Below w0.heap.size w0 wr) (fun _ c _ => n - (intOf c).toNat)
  case atStart =>
    refine ⟨0, Nat.zero_le _, rfl, ?_, hb⟩
    rw [fillF_zero]
    have e1 := toList_madeCells_one (Value.string ⟨#[]⟩) n
    have e2 : (Value.string ⟨#[]⟩).cells = #[Value.string ⟨#[]⟩] := rfl
    rw [e2, Nat.mul_one, e1] at hown
    exact hown
  case round =>
    clear hown hb d1 d2
    obtain ⟨j, hj, rfl, hown, hb⟩ := hrel
    by_cases hlt : j < n
    · have hf := hown.frozenAt j
      have hcell : wr.cell? ⟨w0.heap.size, j, none⟩ = some (.string ⟨#[]⟩) := by rw [hown.cellAt j (by omega), fillF_get _ _ _ _ hlt]
      have hs := (hown.stored j (.string (S (nul 64)))).1
      rw [fillF_set n j (fun _ => .string (S (nul 64)))] at hs
      have HS := Lib.hid hs
      clear hs
      go_wp2
      go_roundw
      case rel => exact ⟨j + 1, by omega, by go_num, HS.out, hb.setCell (by simp) _⟩
      case measure => simp [intOf]; omega
    · obtain rfl : j = n := by omega
      rw [fillF_all] at hown
      have hown' : wr.ownsRow 0 9 1 (.slice (some ⟨w0.heap.size, 0, none⟩) j j) j ((newSu j).map Value.string) := by
        have e : (List.range j).map (fun _ => Value.string (S (nul 64))) = (newSu j).map Value.string := by
          apply List.ext_getElem <;> simp [newSu]
        rw [← e]
        exact ownsRow_le hown (Nat.zero_le _)
      have HO := Lib.hid hown'
      clear hown hown'
      go_wp2_with fail
      refine (made_any (by simp [newSu]) HO.out).mono ?_
      rintro e w2 ⟨d, M, rfl, hD, hb2, hd, hM⟩
      go_wp2_with fail
      go_ret2
      refine ⟨d, rfl, _, ⟨_, _, _, _, _, hD, rfl⟩, below_step hb2 (hb0.trans (hb.mono hb0.size)), ?_⟩
      have s0 := hb0.size
      have s1 := hb.size
      intro b hb'
      simp only [diskB, List.mem_cons, Option.mem_toList] at hb'
      rcases hb' with rfl | rfl | rfl | hb'
      · omega
      · exact s0
      · omega
      · cases hb'

/-! Load. -/
def cutSu (s : ByteArray) (n : Nat) : List ByteArray := (List.range n).map fun i => s.extract (i * 64) ((i + 1) * 64)
theorem cutSu_snoc (s : ByteArray) (j : Nat) : cutSu s j ++ [s.extract (j * 64) ((j + 1) * 64)] = cutSu s (j + 1) := by
  simp [cutSu, List.range_succ]
theorem cutSu_length (s : ByteArray) (n : Nat) : (cutSu s n).length = n := by simp [cutSu]

set_option maxRecDepth 100000 in
set_option maxHeartbeats 400000 in
theorem load_bad (s : ByteArray) (w : World) (hs : s.size ≤ 140737488351232) (h : s.size = 0 ∨ 4194304 < s.size ∨ s.size % 64 ≠ 0) :
    Calls Try.prog 14 #[.string s] w fun e w' => e = .returned (.tuple #[.pointer none, .int .i64 1]) ∧ w = w' := by
  by_cases h1 : (s.size : Int) / 64 < 1
  · go_enter Try.func14, Try.ntmps14
    go_wp2_with fail
    go_ret2
    exact ⟨rfl, rfl⟩
  · by_cases h2 : (65536 : Int) < (s.size : Int) / 64
    · clear h
      go_enter Try.func14, Try.ntmps14
      go_wp2_with fail
      go_ret2
      exact ⟨rfl, rfl⟩
    · have h3 : ((s.size : Int) % 64 != 0) = true := by
        have : (s.size : Int) % 64 ≠ 0 := by omega
        simpa using this
      clear h
      go_enter Try.func14, Try.ntmps14
      go_wp2_with fail
      go_ret2
      exact ⟨rfl, rfl⟩

set_option maxRecDepth 100000 in
set_option maxHeartbeats 1000000 in
theorem load_any (s : ByteArray) (n : Nat) (w : World) (h0 : 1 ≤ n) (h1 : n ≤ 65536) (hs : s.size = n * 64) :
    Calls Try.prog 14 #[.string s] w fun e w' => ∃ d, e = .returned (.tuple #[.pointer (some ⟨d, 0, none⟩), .int .i64 0]) ∧ NewDisk w w' d (newM (cutSu s n)) := by
  obtain ⟨i0, hi, hz0, hz1, hz2⟩ := info_parts Try.infoStr
  have q1 : (s.size : Int) / 64 = n := by omega
  have q2 : ((s.size : Int) % 64 != 0) = false := by
    have : (s.size : Int) % 64 = 0 := by omega
    simp [this]
  have d1 : decide ((n : Int) < 1) = false := by simp; omega
  have d2 : decide ((65536 : Int) < n) = false := by simp; omega
  have z1 : s.size ≤ n * 64 := by omega
  have z2 : n * 64 ≤ s.size := by omega
  clear hs
  go_enter Try.func14, Try.ntmps14
  go_wp2
  go_loopw [5, 23] (fun v c wr => ∃ j : Nat, j ≤ n ∧ c = .int .i64 j ∧ wr.ownsRow w.heap.size 9 1 v j ((cutSu s j).map Value.string) ∧ Below w.heap.size w wr) (fun _ c _ => n - (intOf c).toNat)
  case atStart => exact ⟨0, Nat.zero_le _, rfl, World.ownsRow_nil _ _ _ _, Below.refl _ _⟩
  case round =>
    clear d1 d2 q1 q2
    obtain ⟨j, hj, rfl, hown, hb⟩ := hrel
    have hsz := hb.size
    by_cases hlt : j < n
    · have HC := Lib.hid (cutSu_snoc s j)
      have y1 : ((j : Int) + 1) * 64 ≤ s.size := by omega
      go_wp2_with (at_builtin; refine wpList_append_own _ rfl (.tmp 26) (.tmp 34) 22 rfl w.heap.size 9 i0 (.string ⟨#[]⟩) 1 16 Try.underlying22 hi hz0 hz1 hz2 rfl (by decide) _ _ _ rfl (hown.alloc _) ⟨wr.heap.size, 0, none⟩ 1 1 [.string (s.extract (j * 64) ((j + 1) * 64))] rfl rfl ?c1 ?c2 ?c3 ?c4 ?c5 ?_)
      case c1 => exact cell_one_new _ _ _
      case c2 => intro u hu; simp at hu; subst hu; rfl
      case c3 => unfold maxLen; omega
      case c4 => omega
      case c5 => simp; omega
      · intro v' w1 hown' hgrow _
        have e1 : (cutSu s j).map Value.string ++ [Value.string (s.extract (j * 64) ((j + 1) * 64))] = (cutSu s (j + 1)).map Value.string := by rw [← HC.out, List.map_append]; rfl
        rw [e1] at hown'
        have hb' := (hb.alloc hsz (.cells #[.string (s.extract (j * 64) ((j + 1) * 64))] 9)).grown hgrow (by simp; omega) (fun k hk => (hown.lt k hk).1)
        clear hgrow hown e1
        go_wp2
        go_roundw
        case rel => exact ⟨j + 1, by omega, by go_num, hown', hb'⟩
        case measure => simp [intOf]; omega
    · obtain rfl : j = n := by omega
      obtain ⟨g, cap, hv⟩ := ownsRow_form hown (by omega)
      rw [hv] at hown
      have hg : w.heap.size ≤ g := (hown.lt g rfl).1
      have HO := Lib.hid (ownsRow_le hown (Nat.zero_le _))
      clear hown
      rw [hv]
      go_wp2_with fail
      refine (made_any (cutSu_length s j).symm HO.out).mono ?_
      rintro e w2 ⟨d, M, rfl, hD, hb2, hd, hM⟩
      go_wp2_with fail
      go_ret2
      refine ⟨d, rfl, _, ⟨_, _, _, _, _, hD, rfl⟩, below_step hb2 hb, ?_⟩
      intro b hb'
      simp only [diskB, List.mem_cons, Option.mem_toList] at hb'
      rcases hb' with rfl | rfl | rfl | hb'
      · omega
      · exact hg
      · omega
      · cases hb'

/-! Image. -/
def imgM (su : List ByteArray) : ByteArray := S (su.map (·.data.toList)).flatten
theorem join_nil_sep : ∀ l : List (List UInt8), Lib.join l [] = l.flatten := by
  intro l
  unfold Lib.join
  induction l with
  | nil => rfl
  | cons x l ih =>
    cases l with
    | nil => simp [List.intercalate]
    | cons y l =>
      simp only [List.intercalate, List.intersperse, List.flatten_cons] at ih ⊢
      rw [ih]; simp
theorem flatten_length : ∀ (su : List ByteArray), (∀ t ∈ su, t.size = 64) → (su.map (·.data.toList)).flatten.length = su.length * 64
  | [], _ => rfl
  | t :: su, h => by
    have h1 := h t (by simp)
    have h2 := flatten_length su (fun t ht => h t (by simp [ht]))
    simp only [List.map_cons, List.flatten_cons, List.length_append, List.length_cons, h2, data_length, h1]
    omega

set_option maxRecDepth 100000 in
set_option maxHeartbeats 1000000 in
theorem image_any {w : World} {d sb sc M : Nat} {wv : Value} {D : DataW Unit} {m : DM} (h : DiskAt w d sb sc M wv D m) (hz : ∀ t ∈ m.sure, t.size = 64) (hn : m.sure.length ≤ 65536) (hsc : m.sure.length ≤ sc) :
    Calls Try.prog 19 #[.pointer (some ⟨d, 0, none⟩)] w fun e w' => e = .returned (.string (imgM m.sure)) ∧ Below w.heap.size w w' := by
  obtain ⟨c0, _, _, _, _⟩ := h.cell
  have hfl := flatten_length m.sure hz
  have J := Try.strings_Join sb 0 sc m.sure ⟨#[]⟩ w (fun j x hx => by
      rw [Nat.zero_add, h.sure.cellAt j (by have := (List.getElem?_eq_some_iff.1 hx).1; omega)]
      simp [hx]) (h.sure.lt sb rfl).2 (by omega) hsc (by
      rw [show (ByteArray.mk #[]).data.toList = [] from rfl, join_nil_sep, hfl]; omega)
  rw [show (ByteArray.mk #[]).data.toList = [] from rfl, join_nil_sep] at J
  have HJ := Lib.hid J
  clear J hfl h hz
  go_enter Try.func19, Try.ntmps19
  go_wp2_with fail
  refine HJ.out.mono ?_
  rintro e w1 ⟨rfl, hb⟩
  go_wp2_with fail
  go_ret
  exact ⟨rfl, hb⟩

end Go.Proofs.Ytfnfapgmicmegaa
