/- The walks of slices.Equal over edges' and faces' rows. -/
import Derived.Test.YthopjhifepijiaaEqual
namespace Go.Proofs.Ythopjhifepijiaa
open Go.RowKit
set_option linter.unusedVariables false
theorem equal_erow' (w : World) (x y : ER) : (binOp .eql 81 (.agg #[.int .i64 x.id, .int .i64 x.a, .int .i64 x.b, .int .i64 x.n0, .bool x.m0, .int .i64 x.n1, .bool x.m1, .int .i64 x.p0, .bool x.q0, .int .i64 x.p1, .bool x.q1, .int .i64 x.f0, .int .i64 x.f1])
    (.agg #[.int .i64 y.id, .int .i64 y.a, .int .i64 y.b, .int .i64 y.n0, .bool y.m0, .int .i64 y.n1, .bool y.m1, .int .i64 y.p0, .bool y.q0, .int .i64 y.p1, .bool y.q1, .int .i64 y.f0, .int .i64 y.f1])).run Try.prog w = .ok (.bool (decide (x = y))) w := by
  rw [equal_erow w x y]
  have : erB x y = decide (x = y) := by
    rw [Bool.eq_iff_iff, erB_iff]; simp
  rw [this]
theorem equal_face (w : World) (a b : FR) : (binOp .eql 83 (.agg #[.int .i64 a.id, .int .i64 a.at_]) (.agg #[.int .i64 b.id, .int .i64 b.at_])).run Try.prog w = .ok (.bool (decide (a = b))) w := by
  cases a with | mk a1 a2 =>
  cases b with | mk b1 b2 =>
  simp [go_sem]
  by_cases h1 : a1 = b1 <;> by_cases h2 : a2 = b2 <;> simp [h1, h2]
set_option maxRecDepth 100000 in
set_option maxHeartbeats 2000000 in
theorem eqE_any {w : World} {B n m c d : Nat} {a b : Option Addr} {l k : List ER} (hl : ERIn w B a n l) (hk : ERIn w B b m k) (hB : B ≤ w.heap.size) (hn : n ≤ 100000) (hm : m ≤ 100000) :
    Calls Try.prog 68 #[.slice a n c, .slice b m d] w fun e w' => e = .returned (.bool (decide (l = k))) ∧ Below w.heap.size w w' := by
  have HL := Lib.hid hl
  have HK := Lib.hid hk
  clear hl hk
  by_cases hnm : n = m
  · subst hnm
    have z : ((n : Int) != (n : Int)) = false := by simp
    go_enter Try.func68, Try.ntmps68
    go_wp2_with fail
    go_loopw [13] (fun v wr => ∃ i : Nat, i ≤ n ∧ v = .int .i64 i ∧ (∀ j, j < i → l[j]? = k[j]?) ∧ Below w.heap.size w wr) (fun v _ => n - (intOf v).toNat)
    case atStart => exact ⟨0, Nat.zero_le _, rfl, fun j hj => absurd hj (by omega), Below.refl _ _⟩
    case round =>
      obtain ⟨i, hi, rfl, hall, hb⟩ := hrel
      have HB := Lib.hid hb
      have HA := Lib.hid hall
      clear hb hall
      by_cases hlt : i < n
      · obtain ⟨b1, o1, x, rfl, hb1, hx, x0, x1, x2, x3, x4, x5, x6, x7, x8, x9, x10, x11, x12⟩ := (HL.out.below (HB.out.mono hB)).at_ hlt
        obtain ⟨b2, o2, y, rfl, hb2, hy, y0, y1, y2, y3, y4, y5, y6, y7, y8, y9, y10, y11, y12⟩ := (HK.out.below (HB.out.mono hB)).at_ hlt
        have HX := Lib.hid hx
        have HY := Lib.hid hy
        clear hx hy
        have hne := fun w => neq_of_eql (equal_erow' w x y)
        cases hxy : decide (x = y)
        · rw [hxy] at hne
          have F := Lib.hid (show decide (l = k) = false from decide_eq_false (fun h => by
            have h1 := HX.out
            rw [h, HY.out] at h1
            injection h1 with h1
            exact absurd h1.symm (of_decide_eq_false hxy)))
          clear hxy
          simp only [Bool.not_false] at hne
          go_wp2_with fail
          go_quiet (fail)
          go_wp2_with fail
          go_ret
          exact ⟨by rw [F.out]; rfl, below_drewN HB.out _⟩
        · rw [hxy] at hne
          have HXY := Lib.hid (of_decide_eq_true hxy)
          clear hxy
          simp only [Bool.not_true] at hne
          go_wp2_with fail
          go_quiet (fail)
          go_wp2_with fail
          go_roundw
          case rel =>
            refine ⟨i + 1, by omega, by go_num, fun j hj => ?_, below_drewN HB.out _⟩
            by_cases e : j = i
            · subst e; rw [HX.out, HY.out, HXY.out]
            · exact HA.out j (by omega)
          case measure => simp [intOf]; omega
      · obtain rfl : n = i := by omega
        have F := Lib.hid (show decide (l = k) = true from decide_eq_true (by
          apply List.ext_getElem?
          intro j
          by_cases hj : j < n
          · exact HA.out j hj
          · rw [List.getElem?_eq_none (by have := HL.out.1; omega), List.getElem?_eq_none (by have := HK.out.1; omega)]))
        go_wp2_with fail
        go_ret
        exact ⟨by rw [F.out]; rfl, HB.out⟩
  · have F := Lib.hid (show decide (l = k) = false from decide_eq_false (fun h => by have h1 := HL.out.1; have h2 := HK.out.1; rw [h] at h1; omega))
    have z : ((n : Int) != (m : Int)) = true := by simp; omega
    go_enter Try.func68, Try.ntmps68
    go_wp2_with fail
    go_ret
    exact ⟨by rw [F.out]; rfl, Below.refl _ _⟩
set_option maxRecDepth 100000 in
set_option maxHeartbeats 2000000 in
theorem eqF_any {w : World} {B n m c d : Nat} {a b : Option Addr} {l k : List FR} (hl : FRIn w B a n l) (hk : FRIn w B b m k) (hB : B ≤ w.heap.size) (hn : n ≤ 100000) (hm : m ≤ 100000) :
    Calls Try.prog 69 #[.slice a n c, .slice b m d] w fun e w' => e = .returned (.bool (decide (l = k))) ∧ Below w.heap.size w w' := by
  have HL := Lib.hid hl
  have HK := Lib.hid hk
  clear hl hk
  by_cases hnm : n = m
  · subst hnm
    have z : ((n : Int) != (n : Int)) = false := by simp
    go_enter Try.func69, Try.ntmps69
    go_wp2_with fail
    go_loopw [13] (fun v wr => ∃ i : Nat, i ≤ n ∧ v = .int .i64 i ∧ (∀ j, j < i → l[j]? = k[j]?) ∧ Below w.heap.size w wr) (fun v _ => n - (intOf v).toNat)
    case atStart => exact ⟨0, Nat.zero_le _, rfl, fun j hj => absurd hj (by omega), Below.refl _ _⟩
    case round =>
      obtain ⟨i, hi, rfl, hall, hb⟩ := hrel
      have HB := Lib.hid hb
      have HA := Lib.hid hall
      clear hb hall
      by_cases hlt : i < n
      · obtain ⟨b1, o1, x, rfl, hb1, hx, x0, x1⟩ := (HL.out.below (HB.out.mono hB)).at_ hlt
        obtain ⟨b2, o2, y, rfl, hb2, hy, y0, y1⟩ := (HK.out.below (HB.out.mono hB)).at_ hlt
        have HX := Lib.hid hx
        have HY := Lib.hid hy
        clear hx hy
        have hne := fun w => neq_of_eql (equal_face w x y)
        cases hxy : decide (x = y)
        · rw [hxy] at hne
          have F := Lib.hid (show decide (l = k) = false from decide_eq_false (fun h => by
            have h1 := HX.out
            rw [h, HY.out] at h1
            injection h1 with h1
            exact absurd h1.symm (of_decide_eq_false hxy)))
          clear hxy
          simp only [Bool.not_false] at hne
          go_wp2_with fail
          go_quiet (fail)
          go_wp2_with fail
          go_ret
          exact ⟨by rw [F.out]; rfl, below_drewN HB.out _⟩
        · rw [hxy] at hne
          have HXY := Lib.hid (of_decide_eq_true hxy)
          clear hxy
          simp only [Bool.not_true] at hne
          go_wp2_with fail
          go_quiet (fail)
          go_wp2_with fail
          go_roundw
          case rel =>
            refine ⟨i + 1, by omega, by go_num, fun j hj => ?_, below_drewN HB.out _⟩
            by_cases e : j = i
            · subst e; rw [HX.out, HY.out, HXY.out]
            · exact HA.out j (by omega)
          case measure => simp [intOf]; omega
      · obtain rfl : n = i := by omega
        have F := Lib.hid (show decide (l = k) = true from decide_eq_true (by
          apply List.ext_getElem?
          intro j
          by_cases hj : j < n
          · exact HA.out j hj
          · rw [List.getElem?_eq_none (by have := HL.out.1; omega), List.getElem?_eq_none (by have := HK.out.1; omega)]))
        go_wp2_with fail
        go_ret
        exact ⟨by rw [F.out]; rfl, HB.out⟩
  · have F := Lib.hid (show decide (l = k) = false from decide_eq_false (fun h => by have h1 := HL.out.1; have h2 := HK.out.1; rw [h] at h1; omega))
    have z : ((n : Int) != (m : Int)) = true := by simp; omega
    go_enter Try.func69, Try.ntmps69
    go_wp2_with fail
    go_ret
    exact ⟨by rw [F.out]; rfl, Below.refl _ _⟩
end Go.Proofs.Ythopjhifepijiaa
