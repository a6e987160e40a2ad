/- The contracts of settle, Flush and Crash. -/
import Derived.Test.YtfnfapgmicmegaaDisk
import Derived.Deep.RegionHeld3
namespace Go.Proofs.Ytfnfapgmicmegaa
open Go.RowKit Go.Maps Go.Joins
set_option linter.unusedVariables false

/-- What the writes so far have made of the sectors. -/
def flTo (su : List ByteArray) (l : List (Int × ByteArray)) : List ByteArray := l.foldl (fun su x => su.set x.1.toNat x.2) su
theorem flTo_length : ∀ (l : List (Int × ByteArray)) (su : List ByteArray), (flTo su l).length = su.length
  | [], su => rfl
  | x :: l, su => by
    show (flTo (su.set x.1.toNat x.2) l).length = _
    rw [flTo_length l, List.length_set]
theorem flTo_snoc (su : List ByteArray) (l : List (Int × ByteArray)) (x : Int × ByteArray) : flTo su (l ++ [x]) = (flTo su l).set x.1.toNat x.2 := by
  simp [flTo, List.foldl_append]

/-- Flush's own function. -/
theorem flushFn (i at_ : Int) (s : ByteArray) (w : World) :
    Calls Try.prog 53 #[.int .i64 i, .agg #[.int .i64 at_, .string s]] w fun e w' => e = .returned (.string s) ∧ w' = w.alloc (.cells #[.int .i64 at_, .string s] 83) := by
  go_enter Try.func53, Try.ntmps53
  go_wp2_with fail
  go_ret
  exact ⟨rfl, rfl⟩

/-- A sector is set. -/
theorem DiskAt.setSure {w : World} {d sb sc M : Nat} {wv : Value} {D : DataW Unit} {m : DM} (h : DiskAt w d sb sc M wv D m) (j : Nat) (s : ByteArray) : DiskAt (w.setCell ⟨sb, j, none⟩ (.string s)) d sb sc M wv D { m with sure := m.sure.set j s } := by
  have t : Touch [sb] w (w.setCell ⟨sb, j, none⟩ (.string s)) := (Touch.refl _ _).setCell (.inl (by simp)) _
  refine ⟨World.rowIs.congr (rowIs_touch h.cells t (by simp; exact h.ne1)) (fun i hi => ?_), ?_, ownsRow_touch h.wait t (fun g hg => by simp; exact (h.ne4 g hg).2.1), ownsMap_touch h.map t (by simp; exact fun e => h.ne3 e.symm), h.mapIs, h.ne1, h.ne2, h.ne3, h.ne4⟩
  · rcases i with _ | _ | _ | _ | _ | i <;> simp [diskF]
  · have := (h.sure.stored j (.string s)).1
    simp only [List.length_set]
    rw [List.map_set]
    exact this

/-- Nothing waits any more. -/
theorem disk_settled {w1 w3 : World} {d sb sc M : Nat} {wv : Value} {D : DataW Unit} {m : DM} (h : DiskAt w1 d sb sc M wv D m)
    (hmap : w3.ownsMap Try.prog 3 (plainElem Try.prog 9) M 0 (.map [] : DataW Unit)) (hg3 : (w1.setCell ⟨d, 1, none⟩ (.slice none 0 0)).grownBy w3 (some M)) :
    DiskAt w3 d sb sc M (.slice none 0 0) (.map []) { m with wait := [] } ∧ Touch [d, M] w1 w3 := by
  have t2 : Touch [d] w1 (w1.setCell ⟨d, 1, none⟩ (.slice none 0 0)) := (Touch.refl _ _).setCell (.inl (by simp)) _
  have t3 := Touch.of_grown hg3
  have hd3 := World.rowIs.set h.cells 1 (.slice none 0 0)
  have hd4 := rowIs_touch hd3 t3 (by simp; exact h.ne2)
  have hs4 := ownsRow_touch (ownsRow_touch h.sure t2 (by intro g' hg'; cases hg'; simp; exact fun e => h.ne1 e.symm)) t3 (by intro g' hg'; cases hg'; simp; exact h.ne3)
  refine ⟨⟨World.rowIs.congr hd4 (fun j hj => by rcases j with _ | _ | _ | _ | _ | j <;> first | rfl | omega), hs4, World.ownsRow_nil _ _ _ _, hmap, MapIs.empty, h.ne1, h.ne2, h.ne3, fun g hg => by cases hg⟩, ?_⟩
  exact (t2.mono (fun b hb => .inl (by simp at hb; subst hb; simp))).trans t3 (fun b hb => .inl (by simp at hb; subst hb; simp))

/-- Are the writes within the disk? -/
def WaitOk (m : DM) : Prop := ∀ x ∈ m.wait, ∃ j : Nat, x.1 = j ∧ j < m.sure.length

set_option maxRecDepth 100000 in
set_option maxHeartbeats 4000000 in
theorem settle_flush {w : World} {d sb sc M : Nat} {wv : Value} {D : DataW Unit} {m : DM} (h : DiskAt w d sb sc M wv D m) (hok : WaitOk m) (hl : m.wait.length ≤ 1000000000) :
    Calls Try.prog 40 #[.pointer (some ⟨d, 0, none⟩), .func (Fn.func 53) #[] #[]] w fun e w' => e = .returned (.tuple #[]) ∧ Goes w w' d (diskB d sb M wv) { m with sure := flTo m.sure m.wait, wait := [] } := by
  have hform := ownsRow_forms h.wait
  obtain ⟨a, n, cap, hv⟩ : ∃ a n cap, wv = .slice a n cap := by rcases hform with ⟨e, _⟩ | ⟨g, cap, e⟩ <;> exact ⟨_, _, _, e⟩
  obtain ⟨c0, c1, c2, _, _⟩ := h.cell
  have hn : n = m.wait.length := by
    rcases hform with ⟨e, h0⟩ | ⟨g, cap, e⟩
    · rw [hv] at e; cases e; omega
    · rw [hv] at e; cases e; rfl
  subst hn
  have H0 := Lib.hid h
  have HF := Lib.hid hform
  rw [hv] at c1
  clear h hform
  have HV := Lib.hid hv
  clear hv
  go_enter Try.func40, Try.ntmps40
  go_wp2
  go_loopw [11] (fun c wr => ∃ k : Nat, k ≤ m.wait.length ∧ c = .int .i64 k ∧ DiskAt wr d sb sc M wv D { m with sure := flTo m.sure (m.wait.take k) } ∧ Touch (diskB d sb M wv) w wr) (fun c _ => m.wait.length - (intOf c).toNat)
  case atStart => exact ⟨0, Nat.zero_le _, rfl, H0.out, Touch.refl _ _⟩
  case round =>
    clear c0 c1 c2
    obtain ⟨k, hk, rfl, hD, ht⟩ := hrel
    by_cases hlt : k < m.wait.length
    · obtain ⟨g, hg⟩ : ∃ g, a = some ⟨g, 0, none⟩ := by
        rcases HF.out with ⟨e, h0⟩ | ⟨g, cap', e⟩
        · omega
        · rw [HV.out] at e; cases e; exact ⟨g, rfl⟩
      rw [hg]
      obtain ⟨j, hj, hjl⟩ := hok m.wait[k] (List.getElem_mem hlt)
      have hw := hD.wait
      rw [HV.out, hg] at hw
      obtain ⟨e1, e2⟩ := waitCells_get m.wait k m.wait[k] (List.getElem?_eq_getElem hlt)
      have x1 := hw.cellAt (k * 2) (by show k * 2 < m.wait.length * 2; omega)
      have x2 := hw.cellAt (k * 2 + 1) (by show k * 2 + 1 < m.wait.length * 2; omega)
      rw [e1, hj] at x1
      rw [e2] at x2
      have hx : m.wait[k] = ((j : Int), m.wait[k].2) := by rw [← hj]
      have S1 : flTo m.sure (m.wait.take (k + 1)) = (flTo m.sure (m.wait.take k)).set j m.wait[k].2 := by
        rw [List.take_succ_eq_append_getElem hlt, flTo_snoc, hx]; rfl
      have HS1 := Lib.hid S1
      clear S1 hx
      generalize m.wait[k].2 = s at *
      have HD := Lib.hid hD
      have hds : d < wr.heap.size := World.rowIs.lt hD.cells
      have hss : sb < wr.heap.size := (hD.sure.lt sb rfl).2
      have c5 := hD.sure.cellAt j (by simp [flTo_length]; omega)
      have f5 := hD.sure.frozenAt j
      obtain ⟨old, hold⟩ : ∃ t, ((flTo m.sure (m.wait.take k)).map Value.string)[j]? = some (.string t) := ⟨(flTo m.sure (m.wait.take k))[j]'(by rw [flTo_length]; exact hjl), by simp [flTo_length, hjl]⟩
      simp only at c5
      rw [hold] at c5
      clear hold
      obtain ⟨c0, _, _, _, _⟩ := hD.cell
      simp only at c0
      rw [flTo_length] at c0
      have j1 : (0 : Int) ≤ j := by omega
      have nd : ¬ sb = d := fun e => H0.out.ne1 e.symm
      have nd' : ¬ d = sb := H0.out.ne1
      have j2 : (j : Int) < m.sure.length := by omega
      clear e1 e2 hw hD
      go_wp2
      go_region_held3 (fun w' => w'.cell? ⟨d, 0, none⟩ = some (.slice (some ⟨sb, 0, none⟩) m.sure.length sc) ∧ w'.cell? ⟨wr.heap.size, 0, none⟩ = some (.int .i64 j) ∧ w'.cell? ⟨wr.heap.size, 1, none⟩ = some (.string s)) (simp [go_sem, World.cell?_alloc_past, *])
        (first
          | (go_at_call 53; refine (flushFn _ _ _ _).mono ?_; rintro e w' ⟨rfl, rfl⟩))
      go_wp2
      have hD2 := (HD.out.setSure j s).touch (F := []) (((Touch.refl [] _).alloc (.cells #[.int .i64 j, .string s] 83)).alloc (.cells #[.int .i64 j, .string s] 83)) (fun _ _ h => by cases h)
      have ht2 : Touch (diskB d sb M wv) w (((wr.setCell ⟨sb, j, none⟩ (.string s)).alloc (.cells #[.int .i64 j, .string s] 83)).alloc (.cells #[.int .i64 j, .string s] 83)) := ((ht.setCell (.inl (by simp [diskB])) _).alloc _).alloc _
      go_roundw
      case rel => exact ⟨k + 1, by omega, by go_num, by rw [HS1.out]; exact hD2.touch (F := []) (Touch.refl [] _).drew (fun _ _ h => by cases h), ht2.drew⟩
      case measure => simp [intOf]; omega
    · obtain rfl : k = m.wait.length := by omega
      rw [List.take_of_length_le (Nat.le_refl _)] at hD
      have HD := Lib.hid hD
      obtain ⟨_, c1, c2, _, _⟩ := hD.cell
      have f1 := hD.frozen 1
      rw [HV.out] at c1
      have HM := ownsMap_touch hD.map ((Touch.refl [d] _).setCell (w' := wr) (p := ⟨d, 1, none⟩) (.inl (by simp)) (.slice none 0 0)) (by simp; exact fun e => hD.ne2 e.symm)
      obtain ⟨w3, hrun, hm3, hg3⟩ := clear_run HM Try.underlying73
      obtain ⟨hA, hT⟩ := disk_settled hD hm3 hg3
      have HA := Lib.hid hA
      clear hD HM hm3 hg3 hA
      go_wp2
      go_end0
      refine ⟨rfl, _, ⟨_, _, _, _, _, HA.out, rfl⟩, ht.trans hT (fun b hb => .inl ?_), ?_⟩
      · simp at hb; rcases hb with rfl | rfl <;> simp [diskB]
      · intro b hb
        refine .inl ?_
        simp only [diskB, List.mem_cons, Option.mem_toList] at hb ⊢
        rcases hb with rfl | rfl | rfl | hb
        · exact .inl rfl
        · exact .inr (.inl rfl)
        · exact .inr (.inr (.inl rfl))
        · cases hb

end Go.Proofs.Ytfnfapgmicmegaa
