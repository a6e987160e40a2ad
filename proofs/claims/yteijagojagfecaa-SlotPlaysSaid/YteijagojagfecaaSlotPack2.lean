/- The contract of slot.Pack. -/
import Derived.Test.YteijagojagfecaaSlotPack
import Derived.Laws.StructEq
import Derived.Deep.CutBlock
namespace Go.Proofs.Yteijagojagfecaa
open Go.RowKit Go.Joins
set_option linter.unusedVariables false

/-- Two builders of the call's own, apart. -/
def TwoB (w0 w : World) (b1 b2 : Nat) (h t : List UInt8) : Prop :=
  ∃ F G, IsB w b1 F h ∧ IsB w b2 G t ∧ (∀ x ∈ F, x ∉ G) ∧ Below w0.heap.size w0 w ∧ (∀ x ∈ F, w0.heap.size ≤ x) ∧ ∀ x ∈ G, w0.heap.size ≤ x
theorem TwoB.stay {w0 w w' : World} {b1 b2 : Nat} {h t : List UInt8} (T : TwoB w0 w b1 b2 h t) (b : Below w.heap.size w w') : TwoB w0 w' b1 b2 h t := by
  obtain ⟨F, G, h1, h2, h3, h4, h5, h6⟩ := T
  exact ⟨F, G, h1.touch (F := []) (Touch.of_below b) (fun _ _ h => by cases h), h2.touch (F := []) (Touch.of_below b) (fun _ _ h => by cases h), h3, below_step b h4, h5, h6⟩
theorem TwoB.below {w0 w : World} {b1 b2 : Nat} {h t : List UInt8} (T : TwoB w0 w b1 b2 h t) : Below w0.heap.size w0 w := by
  obtain ⟨F, G, h1, h2, h3, h4, h5, h6⟩ := T
  exact h4
theorem TwoB.new (w : World) : TwoB w ((w.alloc (.cells #[.pointer none, .slice none 0 0] 99)).alloc (.cells #[.pointer none, .slice none 0 0] 99)) w.heap.size (w.heap.size + 1) [] [] := by
  have h1 := (IsB.new w).touch (F := []) ((Touch.refl [] _).alloc (.cells #[.pointer none, .slice none 0 0] 99)) (fun _ _ h => by cases h)
  have h2 := IsB.new (w.alloc (.cells #[.pointer none, .slice none 0 0] 99))
  have e : (w.alloc (.cells #[.pointer none, .slice none 0 0] 99)).heap.size = w.heap.size + 1 := by simp
  rw [e] at h2
  exact ⟨_, _, h1, h2, by simp, below_alloc (below_alloc (Below.refl _ _)), by simp, by simp⟩
/-- Blocks of other kinds stay. -/
def Bys (w w' : World) : Prop := ∀ (B : Nat) (cs : Array Value) (t : TypeId), w.heap[B]? = some (.cells cs t (0, 0)) → t ≠ 5 → t ≠ 99 → w'.heap[B]? = some (.cells cs t (0, 0))
theorem IsB.bys {w w' : World} {b : Nat} {F : List Nat} {l : List UInt8} (h : IsB w b F l) (k : Touch F w w') : Bys w w' := by
  obtain ⟨p, v, h, rfl⟩ := h
  intro B cs t hB h1 h2
  rw [k.block (Array.getElem?_eq_some_iff.1 hB).1 ?_]
  · exact hB
  · intro hm
    simp only [bldB, List.mem_cons, Option.mem_toList] at hm
    rcases hm with rfl | hm
    · rw [h.blk] at hB; cases hB; exact h2 rfl
    · rcases h.row.2 with ⟨rfl, _⟩ | ⟨g, cap, cur, hv, _, hg, _⟩
      · cases hm
      · rw [hv] at hm; cases hm; rw [hg] at hB; cases hB; exact h1 rfl
theorem Bys.cell {w w' : World} (h : Bys w w') {B : Nat} {cs : Array Value} {t : TypeId} (hB : w.heap[B]? = some (.cells cs t (0, 0))) (h1 : t ≠ 5) (h2 : t ≠ 99) (o : Nat) : w'.cell? ⟨B, o, none⟩ = cs[o]? :=
  Lib.cell_of_heap (h B cs t hB h1 h2) o
theorem two_head {w0 w : World} {b1 b2 : Nat} {h t : List UInt8} (T : TwoB w0 w b1 b2 h t) (s : ByteArray) (hlen : h.length + s.size ≤ 140737488355328) :
    Calls Try.prog 57 #[.pointer (some ⟨b1, 0, none⟩), .string s] w fun e w' => e = .returned (.tuple #[.int .i64 s.size, .nilIface]) ∧ TwoB w0 w' b1 b2 (h ++ s.data.toList) t ∧ Bys w w' := by
  obtain ⟨F, G, h1, h2, h3, h4, h5, h6⟩ := T
  refine (writeString_any h1 s hlen).mono ?_
  rintro e w' ⟨he, F', k1, k2, k3⟩
  refine ⟨he, ⟨F', G, k1, h2.touch k2 (fun x hx hx' => h3 x hx' hx), fun x hx hx' => ?_, h4.trans (k2.below h4.size h5), fun x hx => (k3 x hx).elim (h5 x) (fun q => Nat.le_trans h4.size q), h6⟩, h1.bys k2⟩
  rcases k3 x hx with q | q
  · exact h3 x q hx'
  · have := h2.lt x hx'; omega
theorem two_tail {w0 w : World} {b1 b2 : Nat} {h t : List UInt8} (T : TwoB w0 w b1 b2 h t) (s : ByteArray) (hlen : t.length + s.size ≤ 140737488355328) :
    Calls Try.prog 57 #[.pointer (some ⟨b2, 0, none⟩), .string s] w fun e w' => e = .returned (.tuple #[.int .i64 s.size, .nilIface]) ∧ TwoB w0 w' b1 b2 h (t ++ s.data.toList) ∧ Bys w w' := by
  obtain ⟨F, G, h1, h2, h3, h4, h5, h6⟩ := T
  refine (writeString_any h2 s hlen).mono ?_
  rintro e w' ⟨he, G', k1, k2, k3⟩
  refine ⟨he, ⟨F, G', h1.touch k2 h3, k1, fun x hx hx' => ?_, h4.trans (k2.below h4.size h6), h5, fun x hx => (k3 x hx).elim (h6 x) (fun q => Nat.le_trans h4.size q)⟩, h2.bys k2⟩
  rcases k3 x hx' with q | q
  · exact h3 x hx q
  · have := h1.lt x hx; omega
/-- One builder is left, once the other has been read. -/
def OneB (w0 w : World) (b : Nat) (t : List UInt8) : Prop := ∃ G, IsB w b G t ∧ Below w0.heap.size w0 w ∧ ∀ x ∈ G, w0.heap.size ≤ x
theorem two_read {w0 w : World} {b1 b2 : Nat} {h t : List UInt8} (T : TwoB w0 w b1 b2 h t) :
    Calls Try.prog 59 #[.pointer (some ⟨b1, 0, none⟩)] w fun e w' => e = .returned (.string (S h)) ∧ OneB w0 w' b2 t := by
  obtain ⟨F, G, h1, h2, h3, h4, h5, h6⟩ := T
  refine (stringB_any h1).mono ?_
  rintro e w' ⟨he, k⟩
  exact ⟨he, G, h2.touch k (fun x hx hx' => h3 x hx' hx), h4.trans (k.below h4.size h5), h6⟩
theorem one_read {w0 w : World} {b : Nat} {t : List UInt8} (T : OneB w0 w b t) :
    Calls Try.prog 59 #[.pointer (some ⟨b, 0, none⟩)] w fun e w' => e = .returned (.string (S t)) ∧ Below w0.heap.size w0 w' := by
  obtain ⟨G, h2, h4, h6⟩ := T
  refine (stringB_any h2).mono ?_
  rintro e w' ⟨he, k⟩
  exact ⟨he, h4.trans (k.below h4.size h6)⟩

/-! What Pack answers, way by way. -/
theorem packM_far {l : List SlotD} (h : 494 < 2 * trimLen l l.length) : packM l = (⟨#[]⟩, if l.any badB then 2 else 8) := by
  unfold packM
  cases l.any badB
  · have : 494 < 2 * (trimS l).length + sumR (trimS l) := by rw [trimS_length]; omega
    simp [this]
  · rfl
theorem packM_bad {l : List SlotD} {j : Nat} {x : SlotD} (hx : l[j]? = some x) (hb : badB x = true) : packM l = (⟨#[]⟩, 2) := by
  have : l.any badB = true := List.any_eq_true.2 ⟨x, List.mem_of_getElem? hx, hb⟩
  unfold packM
  simp [this]
theorem packM_large {l : List SlotD} {j : Nat} (hj : j < trimLen l l.length) {x : SlotD} (hx : l[j]? = some x) (h : 494 < 2 * trimLen l l.length + sumR (l.take j) + x.2.size) : packM l = (⟨#[]⟩, if l.any badB then 2 else 8) := by
  unfold packM
  cases l.any badB
  · have h1 : sumR (l.take (j + 1)) ≤ sumR (trimS l) := by
      have : l.take (j + 1) = (trimS l).take (j + 1) := by unfold trimS; rw [List.take_take]; congr 1; omega
      rw [this]; exact sumR_take_le _ _
    have h2 : sumR (l.take (j + 1)) = sumR (l.take j) + x.2.size := by
      obtain ⟨hk, rfl⟩ := List.getElem?_eq_some_iff.1 hx
      rw [List.take_succ_eq_append_getElem hk, sumR_snoc]
    have : 494 < 2 * (trimS l).length + sumR (trimS l) := by rw [trimS_length]; omega
    simp [this]
  · rfl
theorem any_bad_of {l : List SlotD} (h : ∀ j y, j < trimLen l l.length → l[j]? = some y → badB y = false) : l.any badB = false := by
  rw [List.any_eq_false]
  intro x hx
  obtain ⟨j, hj⟩ := List.mem_iff_getElem?.1 hx
  by_cases hlt : j < trimLen l l.length
  · simp [h j x hlt hj]
  · have := trimLen_drop l l.length j x (by omega) (List.getElem?_eq_some_iff.1 hj).1 hj
    intro hb
    rw [bad_not_empty hb] at this; cases this
theorem packM_good {l : List SlotD} (h : ∀ j y, j < trimLen l l.length → l[j]? = some y → badB y = false) (hs : 2 * trimLen l l.length + sumR (trimS l) ≤ 494) : packM l = (S (roomS (trimS l)), 0) := by
  have : ¬ 494 < 2 * (trimS l).length + sumR (trimS l) := by rw [trimS_length]; omega
  unfold packM
  simp [any_bad_of h, this]

theorem slot_cases (x : SlotD) : x = (false, ⟨#[]⟩) ∨ (x.1 = true) ∨ (x.1 = false ∧ x.2.data ≠ #[]) := by
  obtain ⟨u, s⟩ := x
  cases u
  · by_cases h : s.data = #[]
    · left; exact Prod.ext rfl (ByteArray.ext h)
    · exact .inr (.inr ⟨rfl, h⟩)
  · exact .inr (.inl rfl)
theorem emptyB_used {x : SlotD} (h : x.1 = true) : emptyB x = false := by simp [emptyB, h]
theorem emptyB_full {x : SlotD} (h : x.2.data ≠ #[]) : emptyB x = false := by
  unfold emptyB
  cases x.1 <;> simp [h]
theorem badB_full {x : SlotD} (h1 : x.1 = false) (h : x.2.data ≠ #[]) : badB x = true := by
  unfold badB; simp [h1, h]
theorem badB_used {x : SlotD} (h : x.1 = true) : badB x = false := by simp [badB, h]
theorem toList_ne {s : ByteArray} (h : s.data ≠ #[]) : s.toList.isEmpty = false := by
  rw [ByteArray.toList_eq]; simpa using h

theorem repeat_nul (c : Nat) : Lib.repeatL [0] c = nul c := by
  induction c with
  | zero => rfl
  | succ c ih => rw [Lib.repeatL, ih]; rfl
theorem repeat_any (n : Nat) (w : World) (h : n ≤ 1000000) : Calls Try.prog 50 #[.string ⟨#[0]⟩, .int .i64 n] w fun e w' => e = .returned (.string (S (nul n))) ∧ Below w.heap.size w w' := by
  refine (Try.strings_Repeat ⟨#[0]⟩ n w (by omega) (by show 1 * n ≤ _; omega)).mono ?_
  rintro e w' ⟨rfl, hb⟩
  have : Lib.repeatL (⟨#[0]⟩ : ByteArray).data.toList n = nul n := repeat_nul n
  rw [this]
  exact ⟨rfl, hb⟩

set_option maxRecDepth 100000 in
set_option maxHeartbeats 4000000 in
theorem pack_any {w : World} {a : Option Addr} {l : List SlotD} {c : Nat} (h : SlotsAt w a l) (hc : l.length ≤ c) (hm : l.length ≤ 1000000) (hz : ∀ x ∈ l, x.2.size ≤ 9223372036854775807) :
    Calls Try.prog 24 #[.slice a l.length c] w fun e w' => e = .returned (.tuple #[.string (packM l).1, .int .i64 (packM l).2]) ∧ Below w.heap.size w w' := by
  have H := Lib.hid h
  have HZ := Lib.hid hz
  obtain ⟨E, hE⟩ : ∃ E : Int, E = if l.any badB then 2 else 8 := ⟨_, rfl⟩
  have HLA := fun (W : World) (hb : Below w.heap.size w W) => Lib.hid (by
    have := large_any (c := c) (h.below hb) (by omega)
    rw [← hE] at this
    exact this)
  have HE := Lib.hid hE
  clear hE
  clear h hz
  go_enter Try.func24, Try.ntmps24
  go_upto_block 0 with (fail)
  go_cut [4] (fun v wx => v = .int .i64 (trimLen l l.length : Nat) ∧ w = wx)
  case first =>
    go_wp2_with fail
    go_loopw [4] (fun v wr => ∃ k : Nat, k ≤ l.length ∧ v = .int .i64 k ∧ trimLen l k = trimLen l l.length ∧ w = wr) (fun v _ => (intOf v).toNat)
    case atStart => exact ⟨l.length, Nat.le_refl _, rfl, rfl, rfl⟩
    case round =>
      obtain ⟨k, hk, rfl, ht, rfl⟩ := hrel
      have HT := Lib.hid ht
      clear ht
      by_cases hlt : 0 < k
      · obtain ⟨j, rfl⟩ : ∃ j, k = j + 1 := ⟨k - 1, by omega⟩
        obtain ⟨b, off, ha, hcell⟩ := H.out.some (show j < l.length by omega)
        have hx : l[j]? = some l[j] := List.getElem?_eq_getElem _
        obtain ⟨c0, c1⟩ := hcell j _ hx
        have HX := Lib.hid hx
        generalize l[j] = x at *
        clear hcell hx
        subst ha
        have j1 : (0 : Int) ≤ j := by omega
        have j2 : (j : Int) < l.length := by omega
        rcases slot_cases x with rfl | hu | ⟨hu, hs⟩
        · have F := Lib.hid (trimLen_step HX.out rfl)
          go_wp2_with fail
          go_roundw
          case rel => exact ⟨j, by omega, by go_num, F.out.symm.trans HT.out, by trivial⟩
          case measure => simp [intOf]
        · have F := Lib.hid ((trimLen_stop HX.out (emptyB_used hu)).symm.trans HT.out)
          rw [hu] at c0
          clear hu
          go_wp2_with fail
          go_meet
          case rel => rw [← F.out]; exact ⟨by go_num, by trivial⟩
        · have F := Lib.hid ((trimLen_stop HX.out (emptyB_full hs)).symm.trans HT.out)
          have hs' := toList_ne hs
          rw [hu] at c0
          clear hu
          go_wp2_with fail
          go_meet
          case rel => rw [← F.out]; exact ⟨by go_num, by trivial⟩
      · obtain rfl : k = 0 := by omega
        have F := Lib.hid HT.out
        go_wp2_with fail
        go_meet
        case rel => rw [← F.out]; exact ⟨rfl, by trivial⟩
  case rest =>
  obtain ⟨rfl, rfl⟩ := hcut
  have hml := trimLen_le l l.length
  obtain ⟨m, hm0⟩ : ∃ m, m = trimLen l l.length := ⟨_, rfl⟩
  rw [← hm0] at hml ⊢
  have HM := Lib.hid hm0
  clear hm0
  by_cases hbig : 494 < 2 * m
  · have F := Lib.hid (packM_far (l := l) (by rw [← HM.out]; exact hbig))
    rw [← HE.out] at F
    go_wp2_with fail
    refine (HLA _ (Below.refl _ _)).out.mono ?_
    rintro e w1 ⟨rfl, hb1⟩
    go_wp2_with fail
    go_ret2
    rw [F.out]
    exact ⟨rfl, hb1⟩
  · have hTB := TwoB.new w
    go_wp2_with fail
    generalize (w.alloc (.cells #[.pointer none, .slice none 0 0] 99)).alloc (.cells #[.pointer none, .slice none 0 0] 99) = w1 at *
    have HTB := Lib.hid hTB
    clear hTB
    refine (put_any m 2 _ (by omega) (by omega)).mono ?_
    rintro e w2 ⟨rfl, hb2⟩
    have HT2 := Lib.hid (HTB.out.stay hb2)
    clear hb2 HTB
    go_wp2_with fail
    refine (two_head HT2.out _ (by rw [S_size, leB_length]; decide)).mono ?_
    rintro e w3 ⟨rfl, hT3, -⟩
    rw [data_S, List.nil_append] at hT3
    have HT3 := Lib.hid hT3
    clear hT3 HT2
    go_wp2_with fail
    go_loopw [7, 9, 42] (fun u _ v wr => ∃ j : Nat, j ≤ m ∧ v = .int .i64 j ∧ u = .int .i64 (494 - 2 * (m : Int) - (sumR (l.take j) : Nat)) ∧ 2 * m + sumR (l.take j) ≤ 494 ∧ TwoB w wr w.heap.size (w.heap.size + 1) (leB m 2 ++ headS (l.take j)) (tailS (l.take j)) ∧ ∀ i y, i < j → l[i]? = some y → badB y = false) (fun _ _ v _ => m - (intOf v).toNat)
    case atStart => exact ⟨0, Nat.zero_le _, rfl, by simp [sumR], by simp [sumR]; omega, by simpa [headS, tailS] using HT3.out, fun i y hi => absurd hi (by omega)⟩
    case round =>
      clear HT3
      obtain ⟨j, hj, rfl, rfl, hle, hT, hall⟩ := hrel
      have HT := Lib.hid hT
      have HA := Lib.hid hall
      have HS := Lib.hid hle
      clear hT hall
      by_cases hlt : j < m
      · obtain ⟨b, off, ha, hcell⟩ := (H.out.below HT.out.below).some (show j < l.length by omega)
        have hx : l[j]? = some l[j] := List.getElem?_eq_getElem _
        obtain ⟨c0, c1⟩ := hcell j _ hx
        have hxz := HZ.out _ (List.getElem_mem (show j < l.length by omega))
        have htk : l.take (j + 1) = l.take j ++ [l[j]] := List.take_succ_eq_append_getElem (by omega)
        have HX := Lib.hid hx
        have HK := Lib.hid htk
        generalize l[j] = x at *
        clear hcell hx htk
        subst ha
        have j2 : (j : Int) < m := by omega
        obtain ⟨u, s⟩ := x
        simp only at hxz c0 c1
        have hn : ∀ (k : Nat), True := fun _ => trivial
        cases u
        · by_cases hs : s.data = #[]
          · obtain rfl : s = ⟨#[]⟩ := ByteArray.ext hs
            clear hs
            go_wp2_with fail
            have HT1 := Lib.hid (HT.out.stay (below_alloc (o := .cells #[.bool false, .string ⟨#[]⟩] 45) (Below.refl _ wr)))
            refine (put_any 0 2 _ (by omega) (by omega)).mono ?_
            rintro e w4 ⟨rfl, hb4⟩
            have HT4 := Lib.hid (HT1.out.stay hb4)
            clear hb4
            go_wp2_with fail
            refine (two_head HT4.out _ (by rw [S_size, leB_length, List.length_append, leB_length, headS_length]; simp; omega)).mono ?_
            rintro e w5 ⟨rfl, hT5, -⟩
            have HT5 := Lib.hid hT5
            clear hT5
            go_wp2_with fail
            go_roundw
            case rel =>
              have e1 := HK.out
              refine ⟨j + 1, by omega, by go_num, ?_, ?_, ?_, fun i y hi hy => ?_⟩
              · rw [e1, sumR_snoc]; rfl
              · rw [e1, sumR_snoc]; exact HS.out
              · have := HT5.out
                rw [data_S] at this
                rw [e1, headS_snoc, tailS_snoc, ← List.append_assoc]
                simpa [keyS] using this
              · by_cases e : i = j
                · subst e; have := HX.out.symm.trans hy; cases this; rfl
                · exact HA.out i y (by omega) hy
            case measure => simp [intOf]; omega
          · have F := Lib.hid (packM_bad HX.out (badB_full rfl hs))
            have hs' := toList_ne hs
            clear hs
            go_wp2_with fail
            go_ret2
            rw [F.out]
            exact ⟨rfl, below_step (below_alloc (Below.refl _ _)) HT.out.below⟩
        · obtain ⟨L, hL⟩ : ∃ L : Nat, L = 494 - 2 * m - sumR (l.take j) := ⟨_, rfl⟩
          have hLi : 494 - 2 * (m : Int) - (sumR (l.take j) : Nat) = L := by omega
          have hL4 : L ≤ 494 := by omega
          by_cases hbig : L < s.size
          · have F := Lib.hid (packM_large (l := l) (by rw [← HM.out]; exact hlt) HX.out (by rw [← HM.out]; simp only; omega))
            rw [← HE.out] at F
            rw [hLi]
            clear hLi hL hle
            have l1 : (L : Int) < s.size := by omega
            go_wp2_with fail
            refine (HLA _ (below_step (below_alloc (Below.refl _ _)) HT.out.below)).out.mono ?_
            rintro e w4 ⟨rfl, hb4⟩
            go_wp2_with fail
            go_ret2
            rw [F.out]
            exact ⟨rfl, below_step hb4 (below_step (below_alloc (Below.refl _ _)) HT.out.below)⟩
          · have HLL := Lib.hid hL
            rw [hLi]
            clear hLi hL
            have l1 : (s.size : Int) ≤ L := by omega
            go_wp2_with fail
            have HT1 := Lib.hid (HT.out.stay (below_alloc (o := .cells #[.bool true, .string s] 45) (Below.refl _ wr)))
            refine (put_any ((s.size : Int) + 1) 2 _ (by omega) (by omega)).mono ?_
            rintro e w4 ⟨rfl, hb4⟩
            have HT4 := Lib.hid (HT1.out.stay hb4)
            have g4 : w4.heap[wr.heap.size]? = some (.cells #[.bool true, .string s] 45 (0, 0)) := (hb4.block _ (by simp)).trans (heap_alloc_new wr _)
            have g1 : w4.cell? ⟨wr.heap.size, 1, none⟩ = some (.string s) := by rw [Lib.cell_of_heap g4]; rfl
            have G4 := Lib.hid g4
            clear hb4 g4
            go_wp2_with fail
            refine (two_head HT4.out _ (by rw [S_size, leB_length, List.length_append, leB_length, headS_length]; simp; omega)).mono ?_
            rintro e w5 ⟨rfl, hT5, hB5⟩
            have HT5 := Lib.hid hT5
            have g5 : w5.cell? ⟨wr.heap.size, 1, none⟩ = some (.string s) := hB5.cell G4.out (by decide) (by decide) 1
            clear hT5 hB5 g1
            go_wp2_with fail
            refine (two_tail HT5.out s (by rw [tailS_length]; have := HS.out; omega)).mono ?_
            rintro e w6 ⟨rfl, hT6, -⟩
            have HT6 := Lib.hid hT6
            clear hT6
            have e2 : (L : Int) - s.size = 494 - 2 * (m : Int) - (sumR (l.take (j + 1)) : Nat) := by rw [HK.out, sumR_snoc]; simp only; have := HLL.out; have := HS.out; omega
            have HE2 := Lib.hid e2
            clear e2
            go_wp2_with fail
            go_roundw
            case rel =>
              have e1 := HK.out
              refine ⟨j + 1, by omega, by go_num, congrArg (Value.int .i64) HE2.out, ?_, ?_, fun i y hi hy => ?_⟩
              · rw [e1, sumR_snoc]; have := HLL.out; have := HS.out; simp only; omega
              · have := HT6.out
                rw [data_S] at this
                rw [e1, headS_snoc, tailS_snoc, ← List.append_assoc]
                simpa [keyS] using this
              · by_cases e : i = j
                · subst e; have := HX.out.symm.trans hy; cases this; rfl
                · exact HA.out i y (by omega) hy
            case measure => simp [intOf]; omega
      · obtain rfl : j = m := by omega
        have F := Lib.hid (packM_good (l := l) (by rw [← HM.out]; exact HA.out) (by have := HS.out; unfold trimS; rw [← HM.out]; exact this))
        obtain ⟨L, hL⟩ : ∃ L : Nat, L = 494 - 2 * j - sumR (l.take j) := ⟨_, rfl⟩
        have hLi : 494 - 2 * (j : Int) - (sumR (l.take j) : Nat) = L := by omega
        have hL4 : L ≤ 494 := by omega
        have z1 : (S (leB j 2 ++ headS (l.take j))).size ≤ 1000 := by rw [S_size, List.length_append, leB_length, headS_length]; simp; omega
        have z2 : (S (tailS (l.take j))).size ≤ 1000 := by rw [S_size, tailS_length]; omega
        have HLL := Lib.hid hL
        rw [hLi]
        clear hLi hL hle
        go_wp2_with fail
        refine (two_read HT.out).mono ?_
        rintro e w4 ⟨rfl, hO4⟩
        have HO4 := Lib.hid hO4
        clear hO4
        go_wp2_with fail
        refine (one_read HO4.out).mono ?_
        rintro e w5 ⟨rfl, hb5⟩
        have HB5 := Lib.hid hb5
        clear hb5
        go_wp2_with fail
        have z3 : (S (nul L)).size ≤ 1000 := by rw [S_size, nul_length]; omega
        refine (repeat_any L _ (by omega)).mono ?_
        rintro e w6 ⟨rfl, hb6⟩
        have HB6 := Lib.hid (below_step hb6 HB5.out)
        clear hb6
        go_wp2_with fail
        go_ret2
        rw [F.out]
        have e1 := HLL.out
        have ht : trimS l = l.take j := by unfold trimS; rw [← HM.out]
        have el : (trimS l).length = j := by rw [trimS_length, ← HM.out]
        refine ⟨?_, HB6.out⟩
        simp only [S_append]
        rw [e1, ← ht]
        unfold roomS
        rw [el]
        rfl

end Go.Proofs.Yteijagojagfecaa
