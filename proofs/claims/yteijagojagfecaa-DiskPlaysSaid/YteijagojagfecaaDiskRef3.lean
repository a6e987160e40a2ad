/- The reference's disk: reading, flushing. -/
import Derived.Test.YteijagojagfecaaDiskRef2
namespace Go.Proofs.Yteijagojagfecaa
open Go.RowKit Go.Maps Go.Joins
set_option linter.unusedVariables false

theorem imgM_append (a b : List ByteArray) : imgM (a ++ b) = imgM a ++ imgM b := by
  simp [imgM, S_append]
theorem imgM_cons (x : ByteArray) (b : List ByteArray) : imgM (x :: b) = x ++ imgM b := by
  have : imgM [x] = x := by simp [imgM, S_data]
  rw [← this, ← imgM_append, this]; rfl
theorem img_split {su : List ByteArray} {j : Nat} {x : ByteArray} (h : su[j]? = some x) (hz : ∀ t ∈ su, t.size = 64) :
    imgM su = imgM (su.take j) ++ (x ++ imgM (su.drop (j + 1))) ∧ (imgM (su.take j)).size = j * 64 := by
  obtain ⟨hj, rfl⟩ := List.getElem?_eq_some_iff.1 h
  constructor
  · rw [← imgM_cons, ← imgM_append, List.getElem_cons_drop, List.take_append_drop]
  · rw [imgM_size _ (fun t ht => hz t (List.mem_of_mem_take ht)), List.length_take]; congr 1; omega
theorem ext_left (a b : ByteArray) : (a ++ b).extract 0 a.size = a := by
  rw [ByteArray.extract_append]; simp
theorem ext_right (a b : ByteArray) (k n : Nat) : (a ++ b).extract (a.size + k) (a.size + n) = b.extract k n := by
  rw [ByteArray.extract_append]
  have e1 : a.size + k - a.size = k := by omega
  have e2 : a.size + n - a.size = n := by omega
  have e3 : a.extract (a.size + k) (a.size + n) = ByteArray.empty := by
    apply ByteArray.ext
    simp only [ByteArray.data_extract]
    exact Array.extract_empty_of_size_le_start (by show a.size ≤ _; omega)
  rw [e1, e2, e3, ByteArray.empty_append]
theorem img_get {su : List ByteArray} {j : Nat} {x : ByteArray} (h : su[j]? = some x) (hz : ∀ t ∈ su, t.size = 64) : (imgM su).extract (j * 64) (j * 64 + 64) = x := by
  obtain ⟨e, hs⟩ := img_split h hz
  have hx : x.size = 64 := hz x (List.mem_of_getElem? h)
  have := ext_right (imgM (su.take j)) (x ++ imgM (su.drop (j + 1))) 0 64
  rw [← e, hs, Nat.add_zero] at this
  rw [this, ← hx, ext_left]
theorem img_put {su : List ByteArray} {j : Nat} {x : ByteArray} (t : ByteArray) (h : su[j]? = some x) (hz : ∀ t ∈ su, t.size = 64) (ht : t.size ≤ 64) :
    (imgM su).extract 0 (j * 64) ++ t ++ (imgM su).extract (j * 64 + t.size) (imgM su).size = imgM (su.set j (t ++ x.extract t.size x.size)) := by
  obtain ⟨e, hs⟩ := img_split h hz
  have hx : x.size = 64 := hz x (List.mem_of_getElem? h)
  obtain ⟨hj, _⟩ := List.getElem?_eq_some_iff.1 h
  have e1 := ext_left (imgM (su.take j)) (x ++ imgM (su.drop (j + 1)))
  have e2 := ext_right (imgM (su.take j)) (x ++ imgM (su.drop (j + 1))) t.size (x ++ imgM (su.drop (j + 1))).size
  have e3 : (x ++ imgM (su.drop (j + 1))).extract t.size (x ++ imgM (su.drop (j + 1))).size = x.extract t.size x.size ++ imgM (su.drop (j + 1)) := by
    rw [ByteArray.extract_append]
    have a1 : t.size - x.size = 0 := by omega
    have a2 : (x ++ imgM (su.drop (j + 1))).size - x.size = (imgM (su.drop (j + 1))).size := by rw [ByteArray.size_append]; omega
    have a3 : x.extract t.size (x ++ imgM (su.drop (j + 1))).size = x.extract t.size x.size := by
      apply ByteArray.ext
      simp only [ByteArray.data_extract]
      have q : x.data.size = x.size := rfl
      apply Array.ext
      · simp only [Array.size_extract, ByteArray.size_append, q]; omega
      · intro i h1 h2; simp only [Array.getElem_extract]
    rw [a1, a2, a3]; simp
  have e4 : (imgM su).size = (imgM (su.take j)).size + (x ++ imgM (su.drop (j + 1))).size := by rw [e, ByteArray.size_append]
  rw [e4, ← hs, e, e1, e2, e3, List.set_eq_take_append_cons_drop, if_pos hj, imgM_append, imgM_cons]
  simp only [ByteArray.append_assoc]
theorem img_put64 {su : List ByteArray} {j : Nat} (t : ByteArray) (h : j < su.length) (hz : ∀ t ∈ su, t.size = 64) (ht : t.size = 64) :
    (imgM su).extract 0 (j * 64) ++ t ++ (imgM su).extract (j * 64 + t.size) (imgM su).size = imgM (su.set j t) := by
  rw [img_put t (List.getElem?_eq_getElem h) hz (by omega)]
  have hx : (su[j]).size = 64 := hz _ (List.getElem_mem _)
  have : (su[j]).extract t.size (su[j]).size = ByteArray.empty := by
    apply ByteArray.ext
    simp only [ByteArray.data_extract]
    exact Array.extract_empty_of_size_le_start (by show (su[j]).size ≤ _; omega)
  rw [this, ByteArray.append_empty]

theorem lastW_take {l : List (Int × ByteArray)} {k : Nat} {x : Int × ByteArray} (h : l[k]? = some x) (i : Int) : lastW (l.take (k + 1)) i = if x.1 = i then some x.2 else lastW (l.take k) i := by
  obtain ⟨hk, rfl⟩ := List.getElem?_eq_some_iff.1 h
  rw [List.take_succ_eq_append_getElem hk]
  exact lastW_snoc (l.take k) l[k].1 l[k].2 i

set_option maxRecDepth 100000 in
set_option maxHeartbeats 2000000 in
theorem rread_any {w : World} {d : Nat} {wv : Value} {m : DM} (h : RefAt w d wv m) (hsz : ∀ t ∈ m.sure, t.size = 64) (hn : m.sure.length ≤ 65536) (hl : m.wait.length ≤ 1000000000) (i : Int) (h1 : -9223372036854775808 ≤ i) (h2 : i ≤ 9223372036854775807) :
    Calls Try.prog 35 #[.pointer (some ⟨d, 0, none⟩), .int .i64 i] w fun e w' => e = .returned (.tuple #[.string (rdM m i).1, .int .i64 (rdM m i).2]) ∧ w = w' := by
  obtain ⟨c0, -, -, c4⟩ := h.cell
  have HLn := Lib.hid (rlen_any h hsz hn)
  by_cases hd : m.down = true
  · have F := Lib.hid (show rdM m i = (⟨#[]⟩, 11) by simp [rdM, hd])
    rw [hd] at c4
    clear hd
    go_enter Try.func35, Try.ntmps35
    go_wp2_with fail
    go_ret2
    rw [F.out]
    exact ⟨rfl, rfl⟩
  · have hd : m.down = false := by simpa using hd
    rw [hd] at c4
    by_cases hneg : i < 0
    · have F := Lib.hid (show rdM m i = (⟨#[]⟩, 1) by simp [rdM, hd, hneg])
      clear hd
      go_enter Try.func35, Try.ntmps35
      go_wp2_with fail
      go_ret2
      rw [F.out]
      exact ⟨rfl, rfl⟩
    · obtain ⟨i, rfl⟩ := Int.eq_ofNat_of_zero_le (show 0 ≤ i by omega)
      by_cases hbig : m.sure.length ≤ i
      · have F := Lib.hid (show rdM m i = (⟨#[]⟩, 1) by simp [rdM, hd, hbig])
        clear hd hneg
        go_enter Try.func35, Try.ntmps35
        go_wp2_with fail
        refine HLn.out.mono ?_
        rintro e w1 ⟨rfl, rfl⟩
        go_wp2_with fail
        go_ret2
        rw [F.out]
        exact ⟨rfl, rfl⟩
      · have hlt : i < m.sure.length := by omega
        have F := Lib.hid (show rdM m i = ((lastW m.wait i).getD (m.sure.getD i ⟨#[]⟩), 0) by simp [rdM, hd]; omega)
        have hg : m.sure[i]? = some (m.sure.getD i ⟨#[]⟩) := by simp [hlt]
        have him := img_get hg hsz
        have hb := imgM_size m.sure hsz
        generalize imgM m.sure = img at *
        generalize m.sure.getD i ⟨#[]⟩ = s0 at *
        have b1 : i * 64 + 64 ≤ img.size := by omega
        have hform := ownsRow_forms h.wait
        obtain ⟨a, n, cap, hv⟩ : ∃ a n cap, wv = .slice a n cap := by rcases hform with ⟨e, _⟩ | ⟨g, cap, e⟩ <;> exact ⟨_, _, _, e⟩
        have hnl : n = m.wait.length := by
          rcases hform with ⟨e, h0⟩ | ⟨g, cap, e⟩
          · rw [hv] at e; cases e; omega
          · rw [hv] at e; cases e; rfl
        subst hnl
        obtain ⟨-, c1, -, -⟩ := h.cell
        rw [hv] at c1
        have H0 := Lib.hid h
        have HF := Lib.hid hform
        have HV := Lib.hid hv
        have HI := Lib.hid him
        clear hd hbig hneg hg him h hform hv hb
        go_enter Try.func35, Try.ntmps35
        go_wp2_with fail
        refine HLn.out.mono ?_
        rintro e w1 ⟨rfl, rfl⟩
        go_wp2_with fail
        go_loopw [6, 7] (fun u c wr => ∃ k : Nat, k ≤ m.wait.length ∧ c = .int .i64 k ∧ u = .string ((lastW (m.wait.take k) i).getD s0) ∧ wr = w) (fun _ c _ => m.wait.length - (intOf c).toNat)
        case atStart => exact ⟨0, Nat.zero_le _, rfl, by rw [List.take_zero]; exact congrArg Value.string HI.out, rfl⟩
        case round =>
          obtain ⟨k, hk, rfl, rfl, rfl⟩ := hrel
          by_cases hlt : k < m.wait.length
          · obtain ⟨g, hg⟩ : ∃ g, a = some ⟨g, 0, none⟩ := by
              rcases HF.out with ⟨e, h0⟩ | ⟨g, cap', e⟩
              · omega
              · rw [HV.out] at e; cases e; exact ⟨g, rfl⟩
            subst hg
            have hw := H0.out.wait
            rw [HV.out] at hw
            obtain ⟨e1, e2⟩ := waitCells_get m.wait k m.wait[k] (List.getElem?_eq_getElem hlt)
            have x1 := hw.cellAt (k * 2) (by show k * 2 < m.wait.length * 2; omega)
            have x2 := hw.cellAt (k * 2 + 1) (by show k * 2 + 1 < m.wait.length * 2; omega)
            rw [e1] at x1
            rw [e2] at x2
            have hs := lastW_take (List.getElem?_eq_getElem hlt) (i : Int)
            generalize m.wait[k].2 = s1 at *
            generalize m.wait[k].1 = p1 at *
            by_cases hp : p1 = i
            · rw [if_pos hp] at hs
              have hp' : (p1 == (i : Int)) = true := by simp [hp]
              have HS := Lib.hid hs
              clear hs hw e1 e2 hp
              go_wp2
              go_roundw
              case rel => exact ⟨k + 1, by omega, by go_num, by rw [HS.out]; rfl, by trivial⟩
              case measure => simp [intOf]; omega
            · rw [if_neg hp] at hs
              have hp' : (p1 == (i : Int)) = false := by simp [hp]
              have HS := Lib.hid hs
              clear hs hw e1 e2 hp
              go_wp2
              go_roundw
              case rel => exact ⟨k + 1, by omega, by go_num, by rw [HS.out], by trivial⟩
              case measure => simp [intOf]; omega
          · obtain rfl : k = m.wait.length := by omega
            rw [List.take_of_length_le (Nat.le_refl _)]
            go_wp2
            go_ret2
            rw [F.out]
            exact ⟨rfl, rfl⟩

theorem ref_settled {w1 : World} {d : Nat} {wv : Value} {m : DM} (h : RefAt w1 d wv m) :
    RefAt (w1.setCell ⟨d, 1, none⟩ (.slice none 0 0)) d (.slice none 0 0) { m with wait := [] } :=
  ⟨World.rowIs.congr (World.rowIs.set h.cells 1 (.slice none 0 0)) (fun j hj => by rcases j with _ | _ | _ | _ | j <;> first | rfl | omega), World.ownsRow_nil _ _ _ _, fun g hg => by cases hg⟩

end Go.Proofs.Yteijagojagfecaa
