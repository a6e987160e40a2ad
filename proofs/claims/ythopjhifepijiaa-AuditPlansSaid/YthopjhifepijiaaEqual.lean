/- The walks of slices.Equal over rows. -/
import Derived.Test.YthopjhifepijiaaTbl
namespace Go.Proofs.Ythopjhifepijiaa
open Go.RowKit
set_option linter.unusedVariables false
theorem neq_of_eql {P : Program} {t : TypeId} {xs ys : Array Value} {v : Bool} {w : World} (h : (binOp .eql t (.agg xs) (.agg ys)).run P w = .ok (.bool v) w) : (binOp .neq t (.agg xs) (.agg ys)).run P w = .ok (.bool (!v)) w := by
  rw [run_eql_struct] at h
  rw [run_neq_struct]
  generalize (Op.equalIn 10000 t (.agg xs) (.agg ys)).run P w = r at h ⊢
  cases r with
  | ok b w' =>
    simp only [Result.andThen_ok] at h ⊢
    injection h with h1 h2
    injection h1 with h1
    rw [h1, h2]
  | halt x w' => simp [Result.andThen] at h
set_option maxRecDepth 100000 in
set_option maxHeartbeats 2000000 in
theorem eqV_any {w : World} {B n m c d : Nat} {a b : Option Addr} {l k : List VR} (hl : VRIn w B a n l) (hk : VRIn w B b m k) (hB : B ≤ w.heap.size) (hn : n ≤ 100000) (hm : m ≤ 100000) :
    Calls Try.prog 67 #[.slice a n c, .slice b m d] w fun e w' => e = .returned (.bool (decide (l = k))) ∧ Below w.heap.size w w' := by
  have HL := Lib.hid hl
  have HK := Lib.hid hk
  clear hl hk
  by_cases hnm : n = m
  · subst hnm
    have z : ((n : Int) != (n : Int)) = false := by simp
    go_enter Try.func67, Try.ntmps67
    go_wp2_with fail
    go_loopw [13] (fun v wr => ∃ i : Nat, i ≤ n ∧ v = .int .i64 i ∧ (∀ j, j < i → l[j]? = k[j]?) ∧ Below w.heap.size w wr) (fun v _ => n - (intOf v).toNat)
    case atStart => exact ⟨0, Nat.zero_le _, rfl, fun j hj => absurd hj (by omega), Below.refl _ _⟩
    case round =>
      obtain ⟨i, hi, rfl, hall, hb⟩ := hrel
      have HB := Lib.hid hb
      have HA := Lib.hid hall
      clear hb hall
      by_cases hlt : i < n
      · obtain ⟨b1, o1, x, rfl, hb1, hx, x0, x1, x2, x3⟩ := (HL.out.below (HB.out.mono hB)).at_ hlt
        obtain ⟨b2, o2, y, rfl, hb2, hy, y0, y1, y2, y3⟩ := (HK.out.below (HB.out.mono hB)).at_ hlt
        have HX := Lib.hid hx
        have HY := Lib.hid hy
        clear hx hy
        have hne := fun w => neq_of_eql (equal_vrow w x y)
        cases hxy : decide (x = y)
        · rw [hxy] at hne
          have F := Lib.hid (show decide (l = k) = false from decide_eq_false (fun h => by
            have h1 := HX.out
            rw [h, HY.out] at h1
            injection h1 with h1
            exact absurd h1.symm (of_decide_eq_false hxy)))
          clear hxy
          simp only [Bool.not_false] at hne
          go_wp2_with fail
          go_quiet (fail)
          go_wp2_with fail
          go_ret
          exact ⟨by rw [F.out]; rfl, below_drewN HB.out _⟩
        · rw [hxy] at hne
          have HXY := Lib.hid (of_decide_eq_true hxy)
          clear hxy
          simp only [Bool.not_true] at hne
          go_wp2_with fail
          go_quiet (fail)
          go_wp2_with fail
          go_roundw
          case rel =>
            refine ⟨i + 1, by omega, by go_num, fun j hj => ?_, below_drewN HB.out _⟩
            by_cases e : j = i
            · subst e; rw [HX.out, HY.out, HXY.out]
            · exact HA.out j (by omega)
          case measure => simp [intOf]; omega
      · obtain rfl : n = i := by omega
        have F := Lib.hid (show decide (l = k) = true from decide_eq_true (by
          apply List.ext_getElem?
          intro j
          by_cases hj : j < n
          · exact HA.out j hj
          · rw [List.getElem?_eq_none (by have := HL.out.1; omega), List.getElem?_eq_none (by have := HK.out.1; omega)]))
        go_wp2_with fail
        go_ret
        exact ⟨by rw [F.out]; rfl, HB.out⟩
  · have F := Lib.hid (show decide (l = k) = false from decide_eq_false (fun h => by have h1 := HL.out.1; have h2 := HK.out.1; rw [h] at h1; omega))
    have z : ((n : Int) != (m : Int)) = true := by simp; omega
    go_enter Try.func67, Try.ntmps67
    go_wp2_with fail
    go_ret
    exact ⟨by rw [F.out]; rfl, Below.refl _ _⟩
end Go.Proofs.Ythopjhifepijiaa
