/- The walk of croftref18.Same. -/
import Derived.Test.YthopjhifepijiaaRowEqR
import Derived.Test.YthopjhifepijiaaFew18
namespace Go.Proofs.Ythopjhifepijiaa
open Go.RowKit
set_option linter.unusedVariables false
theorem equal_erowR' (w : World) (x y : ER) : (binOp .eql 147 (.agg #[.int .i64 x.id, .int .i64 x.a, .int .i64 x.b, .int .i64 x.n0, .bool x.m0, .int .i64 x.n1, .bool x.m1, .int .i64 x.p0, .bool x.q0, .int .i64 x.p1, .bool x.q1, .int .i64 x.f0, .int .i64 x.f1])
    (.agg #[.int .i64 y.id, .int .i64 y.a, .int .i64 y.b, .int .i64 y.n0, .bool y.m0, .int .i64 y.n1, .bool y.m1, .int .i64 y.p0, .bool y.q0, .int .i64 y.p1, .bool y.q1, .int .i64 y.f0, .int .i64 y.f1])).run Try.prog w = .ok (.bool (decide (x = y))) w := by
  rw [equal_erowR]
  congr 2
  cases h : erB x y
  · exact (decide_eq_false (fun e => by rw [erB_iff.2 e] at h; cases h)).symm
  · exact (decide_eq_true (erB_iff.1 h)).symm
theorem same_all {α : Type} {l k : List α} {n : Nat} (hl : n = l.length) (hk : n = k.length) (h : ∀ j, j < n → l[j]? = k[j]?) : l = k := by
  apply List.ext_getElem?
  intro j
  by_cases hj : j < n
  · exact h j hj
  · rw [List.getElem?_eq_none (by omega), List.getElem?_eq_none (by omega)]
set_option maxRecDepth 100000 in
set_option maxHeartbeats 4000000 in
theorem sameR_any {w : World} {B vn en fn vm em fm vc ec fc vd ed fd : Nat} {va ea fa vb eb fb : Option Addr} {s t : TB} (hs : TbIn w B va ea fa vn en fn s) (ht : TbIn w B vb eb fb vm em fm t) (hB : B ≤ w.heap.size)
    (n1 : vn ≤ 100000) (n2 : en ≤ 100000) (n3 : fn ≤ 100000) (n4 : vm ≤ 100000) (n5 : em ≤ 100000) (n6 : fm ≤ 100000) :
    Calls Try.prog 36 #[.agg #[.int .i64 s.lv, .int .i64 s.le, .int .i64 s.lf, .slice va vn vc, .slice ea en ec, .slice fa fn fc], .agg #[.int .i64 t.lv, .int .i64 t.le, .int .i64 t.lf, .slice vb vm vd, .slice eb em ed, .slice fb fm fd]] w fun e w' => e = .returned (.bool (decide (s = t))) ∧ Below w.heap.size w w' := by
  have hc : (decide (s = t) = false ∧ (((s.lv != t.lv) = true) ∨ ((s.lv != t.lv) = false ∧ (s.le != t.le) = true) ∨ ((s.lv != t.lv) = false ∧ (s.le != t.le) = false ∧ (s.lf != t.lf) = true) ∨
      ((s.lv != t.lv) = false ∧ (s.le != t.le) = false ∧ (s.lf != t.lf) = false ∧ ((vn : Int) != vm) = true) ∨ ((s.lv != t.lv) = false ∧ (s.le != t.le) = false ∧ (s.lf != t.lf) = false ∧ ((vn : Int) != vm) = false ∧ ((en : Int) != em) = true) ∨
      ((s.lv != t.lv) = false ∧ (s.le != t.le) = false ∧ (s.lf != t.lf) = false ∧ ((vn : Int) != vm) = false ∧ ((en : Int) != em) = false ∧ ((fn : Int) != fm) = true))) ∨
      ((s.lv != t.lv) = false ∧ (s.le != t.le) = false ∧ (s.lf != t.lf) = false ∧ vn = vm ∧ en = em ∧ fn = fm ∧ decide (s = t) = (decide (s.vs = t.vs) && (decide (s.es = t.es) && decide (s.fs = t.fs)))) := by
    have a1 := hs.vs.1
    have a2 := hs.es.1
    have a3 := hs.fs.1
    have b1 := ht.vs.1
    have b2 := ht.es.1
    have b3 := ht.fs.1
    clear hs ht
    obtain ⟨a, b, c, d, e, f⟩ := s
    obtain ⟨a', b', c', d', e', f'⟩ := t
    simp only at a1 a2 a3 b1 b2 b3
    simp only [TB.mk.injEq, bne_iff_ne, bne_eq_false_iff_eq, decide_eq_false_iff_not]
    by_cases h1 : a = a'
    rotate_left
    · exact .inl ⟨fun h => h1 h.1, .inl h1⟩
    by_cases h2 : b = b'
    rotate_left
    · exact .inl ⟨fun h => h2 h.2.1, .inr (.inl ⟨h1, h2⟩)⟩
    by_cases h3 : c = c'
    rotate_left
    · exact .inl ⟨fun h => h3 h.2.2.1, .inr (.inr (.inl ⟨h1, h2, h3⟩))⟩
    by_cases h4 : vn = vm
    rotate_left
    · exact .inl ⟨fun h => h4 (by rw [a1, b1, h.2.2.2.1]), .inr (.inr (.inr (.inl ⟨h1, h2, h3, by omega⟩)))⟩
    by_cases h5 : en = em
    rotate_left
    · exact .inl ⟨fun h => h5 (by rw [a2, b2, h.2.2.2.2.1]), .inr (.inr (.inr (.inr (.inl ⟨h1, h2, h3, by omega, by omega⟩))))⟩
    by_cases h6 : fn = fm
    rotate_left
    · exact .inl ⟨fun h => h6 (by rw [a3, b3, h.2.2.2.2.2]), .inr (.inr (.inr (.inr (.inr ⟨h1, h2, h3, by omega, by omega, by omega⟩))))⟩
    exact .inr ⟨h1, h2, h3, h4, h5, h6, by simp [h1, h2, h3]⟩
  have HS := Lib.hid hs
  have HT := Lib.hid ht
  clear hs ht
  generalize decide (s = t) = r at hc ⊢
  rcases hc with ⟨rfl, q | ⟨q0, q⟩ | ⟨q0, q1, q⟩ | ⟨q0, q1, q2, q⟩ | ⟨q0, q1, q2, q3, q⟩ | ⟨q0, q1, q2, q3, q4, q⟩⟩ | ⟨q0, q1, q2, rfl, rfl, rfl, hr⟩
  · go_enter Try.func36, Try.ntmps36
    go_wp2_with fail
    go_ret
    exact ⟨rfl, below_alloc (below_alloc (Below.refl _ _))⟩
  · go_enter Try.func36, Try.ntmps36
    go_wp2_with fail
    go_ret
    exact ⟨rfl, below_alloc (below_alloc (Below.refl _ _))⟩
  · go_enter Try.func36, Try.ntmps36
    go_wp2_with fail
    go_ret
    exact ⟨rfl, below_alloc (below_alloc (Below.refl _ _))⟩
  · go_enter Try.func36, Try.ntmps36
    go_wp2_with fail
    go_ret
    exact ⟨rfl, below_alloc (below_alloc (Below.refl _ _))⟩
  · go_enter Try.func36, Try.ntmps36
    go_wp2_with fail
    go_ret
    exact ⟨rfl, below_alloc (below_alloc (Below.refl _ _))⟩
  · go_enter Try.func36, Try.ntmps36
    go_wp2_with fail
    go_ret
    exact ⟨rfl, below_alloc (below_alloc (Below.refl _ _))⟩
  have HR := Lib.hid hr
  clear hr
  have z1 : ((vn : Int) != (vn : Int)) = false := by simp
  have z2 : ((en : Int) != (en : Int)) = false := by simp
  have z3 : ((fn : Int) != (fn : Int)) = false := by simp
  go_enter Try.func36, Try.ntmps36
  go_wp2_with fail
  first | refine wp_name (fun W hW => ?_) | refine calls_name (fun W hW => ?_)
  have HW : Hid (Below w.heap.size w W) := Lib.hid (by rw [← hW]; repeat (first | exact Below.refl _ _ | refine below_alloc ?_))
  have HWs : Hid (W.heap.size = w.heap.size + 1 + 1) := Lib.hid (by rw [← hW]; simp)
  have HBW : Hid (W.heap.size ≤ W.heap.size) := Lib.hid (by have := HWs.out; omega)
  have HC := fun (W1 : World) (hb : Below (W.heap.size) W W1) => Lib.hid (show W1.cell? ⟨w.heap.size, 0, none⟩ = some (.int .i64 s.lv) ∧ W1.cell? ⟨w.heap.size, 1, none⟩ = some (.int .i64 s.le) ∧ W1.cell? ⟨w.heap.size, 2, none⟩ = some (.int .i64 s.lf) ∧ W1.cell? ⟨w.heap.size, 3, none⟩ = some (.slice va vn vc) ∧ W1.cell? ⟨w.heap.size, 4, none⟩ = some (.slice ea en ec) ∧ W1.cell? ⟨w.heap.size, 5, none⟩ = some (.slice fa fn fc) ∧ W1.cell? ⟨w.heap.size + 1, 0, none⟩ = some (.int .i64 t.lv) ∧ W1.cell? ⟨w.heap.size + 1, 1, none⟩ = some (.int .i64 t.le) ∧ W1.cell? ⟨w.heap.size + 1, 2, none⟩ = some (.int .i64 t.lf) ∧ W1.cell? ⟨w.heap.size + 1, 3, none⟩ = some (.slice vb vn vd) ∧ W1.cell? ⟨w.heap.size + 1, 4, none⟩ = some (.slice eb en ed) ∧ W1.cell? ⟨w.heap.size + 1, 5, none⟩ = some (.slice fb fn fd) from by exact ⟨(hb.cell (p := ⟨w.heap.size, 0, none⟩) (by show w.heap.size < W.heap.size; have := HWs.out; omega)).trans (by rw [← hW]; clear hW; go_simp), (hb.cell (p := ⟨w.heap.size, 1, none⟩) (by show w.heap.size < W.heap.size; have := HWs.out; omega)).trans (by rw [← hW]; clear hW; go_simp), (hb.cell (p := ⟨w.heap.size, 2, none⟩) (by show w.heap.size < W.heap.size; have := HWs.out; omega)).trans (by rw [← hW]; clear hW; go_simp), (hb.cell (p := ⟨w.heap.size, 3, none⟩) (by show w.heap.size < W.heap.size; have := HWs.out; omega)).trans (by rw [← hW]; clear hW; go_simp), (hb.cell (p := ⟨w.heap.size, 4, none⟩) (by show w.heap.size < W.heap.size; have := HWs.out; omega)).trans (by rw [← hW]; clear hW; go_simp), (hb.cell (p := ⟨w.heap.size, 5, none⟩) (by show w.heap.size < W.heap.size; have := HWs.out; omega)).trans (by rw [← hW]; clear hW; go_simp), (hb.cell (p := ⟨w.heap.size + 1, 0, none⟩) (by show w.heap.size + 1 < W.heap.size; have := HWs.out; omega)).trans (by rw [← hW]; clear hW; go_simp), (hb.cell (p := ⟨w.heap.size + 1, 1, none⟩) (by show w.heap.size + 1 < W.heap.size; have := HWs.out; omega)).trans (by rw [← hW]; clear hW; go_simp), (hb.cell (p := ⟨w.heap.size + 1, 2, none⟩) (by show w.heap.size + 1 < W.heap.size; have := HWs.out; omega)).trans (by rw [← hW]; clear hW; go_simp), (hb.cell (p := ⟨w.heap.size + 1, 3, none⟩) (by show w.heap.size + 1 < W.heap.size; have := HWs.out; omega)).trans (by rw [← hW]; clear hW; go_simp), (hb.cell (p := ⟨w.heap.size + 1, 4, none⟩) (by show w.heap.size + 1 < W.heap.size; have := HWs.out; omega)).trans (by rw [← hW]; clear hW; go_simp), (hb.cell (p := ⟨w.heap.size + 1, 5, none⟩) (by show w.heap.size + 1 < W.heap.size; have := HWs.out; omega)).trans (by rw [← hW]; clear hW; go_simp)⟩)
  have HB := Lib.hid (Below.refl (W.heap.size) W)
  clear hW
  obtain ⟨q1_0, q1_1, q1_2, q1_3, q1_4, q1_5, q1_6, q1_7, q1_8, q1_9, q1_10, q1_11⟩ := (HC _ HB.out).out
  have r1_0 := Nat.lt_of_lt_of_le (show w.heap.size < W.heap.size by have := HWs.out; omega) HB.out.size
  have r1_1 := Nat.lt_of_lt_of_le (show w.heap.size + 1 < W.heap.size by have := HWs.out; omega) HB.out.size
  clear q1_0 q1_1 q1_2 q1_3 q1_4 q1_5 q1_6 q1_7 q1_8 q1_9 q1_10 q1_11 r1_0 r1_1
  clear q0 q1 q2 z1 z2 z3
  go_loopw [5] (fun v wr => ∃ i : Nat, i ≤ vn ∧ v = .int .i64 i ∧ (∀ j, j < i → s.vs[j]? = t.vs[j]?) ∧ Below W.heap.size W wr) (fun v _ => vn - (intOf v).toNat)
  case atStart => exact ⟨0, Nat.zero_le _, rfl, fun j hj => absurd hj (by omega), HB.out⟩
  case round =>
    clear HB
    obtain ⟨i, hi, rfl, hall, hb⟩ := hrel
    have HB := Lib.hid hb
    have HA := Lib.hid hall
    clear hb hall
    obtain ⟨q2_0, q2_1, q2_2, q2_3, q2_4, q2_5, q2_6, q2_7, q2_8, q2_9, q2_10, q2_11⟩ := (HC _ HB.out).out
    have r2_0 := Nat.lt_of_lt_of_le (show w.heap.size < W.heap.size by have := HWs.out; omega) HB.out.size
    have r2_1 := Nat.lt_of_lt_of_le (show w.heap.size + 1 < W.heap.size by have := HWs.out; omega) HB.out.size
    by_cases hlt : i < vn
    · obtain ⟨b1,o1,x,rfl,hb1,hx,x0,x1,x2,x3⟩ := (HS.out.vs.below (args_below HW.out HB.out hB (by have := HWs.out; omega))).at_ hlt
      obtain ⟨b2,o2,y,rfl,hb2,hy,y0,y1,y2,y3⟩ := (HT.out.vs.below (args_below HW.out HB.out hB (by have := HWs.out; omega))).at_ hlt
      have HX := Lib.hid hx
      have HY := Lib.hid hy
      clear hx hy
      have hne := fun w => neq_of_eql (equal_vrowR w x y)
      cases hxy : decide (x = y)
      · rw [hxy] at hne
        have F := Lib.hid (show decide (s.vs = t.vs) = false from decide_eq_false (fun h => by
          have h1 := HX.out
          rw [h, HY.out] at h1
          injection h1 with h1
          exact absurd h1.symm (of_decide_eq_false hxy)))
        clear hxy
        simp only [Bool.not_false] at hne
        go_wp2_with fail
        go_quiet (fail)
        go_wp2_with fail
        go_ret
        exact ⟨by rw [HR.out, F.out]; simp, below_drewN (HW.out.trans (HB.out.mono HW.out.size)) _⟩
      · rw [hxy] at hne
        have HXY := Lib.hid (of_decide_eq_true hxy)
        clear hxy
        simp only [Bool.not_true] at hne
        go_wp2_with fail
        go_quiet (fail)
        go_wp2_with fail
        go_roundw
        case rel =>
          refine ⟨i + 1, by omega, by go_num, fun j hj => ?_, below_drewN HB.out _⟩
          by_cases e : j = i
          · subst e; rw [HX.out, HY.out, HXY.out]
          · exact HA.out j (by omega)
        case measure => simp [intOf]; omega
    · obtain rfl : vn = i := by omega
      have FV := Lib.hid (same_all HS.out.vs.1 HT.out.vs.1 HA.out)
      clear hlt HA
      go_wp2_with fail
      clear q2_0 q2_1 q2_2 q2_3 q2_4 q2_5 q2_6 q2_7 q2_8 q2_9 q2_10 q2_11 r2_0 r2_1
      obtain ⟨wo, rfl⟩ : ∃ wo : World, wo = wr := ⟨_, rfl⟩
      go_loopw [6] (fun v wr => ∃ i : Nat, i ≤ en ∧ v = .int .i64 i ∧ (∀ j, j < i → s.es[j]? = t.es[j]?) ∧ Below W.heap.size W wr) (fun v _ => en - (intOf v).toNat)
      case atStart => exact ⟨0, Nat.zero_le _, rfl, fun j hj => absurd hj (by omega), HB.out⟩
      case round =>
        clear HB
        obtain ⟨i, hi, rfl, hall, hb⟩ := hrel
        have HB := Lib.hid hb
        have HA := Lib.hid hall
        clear hb hall
        obtain ⟨q3_0, q3_1, q3_2, q3_3, q3_4, q3_5, q3_6, q3_7, q3_8, q3_9, q3_10, q3_11⟩ := (HC _ HB.out).out
        have r3_0 := Nat.lt_of_lt_of_le (show w.heap.size < W.heap.size by have := HWs.out; omega) HB.out.size
        have r3_1 := Nat.lt_of_lt_of_le (show w.heap.size + 1 < W.heap.size by have := HWs.out; omega) HB.out.size
        by_cases hlt : i < en
        · obtain ⟨b1,o1,x,rfl,hb1,hx,x0,x1,x2,x3,x4,x5,x6,x7,x8,x9,x10,x11,x12⟩ := (HS.out.es.below (args_below HW.out HB.out hB (by have := HWs.out; omega))).at_ hlt
          obtain ⟨b2,o2,y,rfl,hb2,hy,y0,y1,y2,y3,y4,y5,y6,y7,y8,y9,y10,y11,y12⟩ := (HT.out.es.below (args_below HW.out HB.out hB (by have := HWs.out; omega))).at_ hlt
          have HX := Lib.hid hx
          have HY := Lib.hid hy
          clear hx hy
          have hne := fun w => neq_of_eql (equal_erowR' w x y)
          cases hxy : decide (x = y)
          · rw [hxy] at hne
            have F := Lib.hid (show decide (s.es = t.es) = false from decide_eq_false (fun h => by
              have h1 := HX.out
              rw [h, HY.out] at h1
              injection h1 with h1
              exact absurd h1.symm (of_decide_eq_false hxy)))
            clear hxy
            simp only [Bool.not_false] at hne
            go_wp2_with fail
            go_quiet (fail)
            go_wp2_with fail
            go_ret
            exact ⟨by rw [HR.out, F.out]; simp, below_drewN (HW.out.trans (HB.out.mono HW.out.size)) _⟩
          · rw [hxy] at hne
            have HXY := Lib.hid (of_decide_eq_true hxy)
            clear hxy
            simp only [Bool.not_true] at hne
            go_wp2_with fail
            go_quiet (fail)
            go_wp2_with fail
            go_roundw
            case rel =>
              refine ⟨i + 1, by omega, by go_num, fun j hj => ?_, below_drewN HB.out _⟩
              by_cases e : j = i
              · subst e; rw [HX.out, HY.out, HXY.out]
              · exact HA.out j (by omega)
            case measure => simp [intOf]; omega
        · obtain rfl : en = i := by omega
          have FE := Lib.hid (same_all HS.out.es.1 HT.out.es.1 HA.out)
          clear hlt HA
          go_wp2_with fail
          clear q3_0 q3_1 q3_2 q3_3 q3_4 q3_5 q3_6 q3_7 q3_8 q3_9 q3_10 q3_11 r3_0 r3_1
          obtain ⟨wo2, rfl⟩ : ∃ wo : World, wo = wr := ⟨_, rfl⟩
          go_loopw [7] (fun v wr => ∃ i : Nat, i ≤ fn ∧ v = .int .i64 i ∧ (∀ j, j < i → s.fs[j]? = t.fs[j]?) ∧ Below W.heap.size W wr) (fun v _ => fn - (intOf v).toNat)
          case atStart => exact ⟨0, Nat.zero_le _, rfl, fun j hj => absurd hj (by omega), HB.out⟩
          case round =>
            clear HB
            obtain ⟨i, hi, rfl, hall, hb⟩ := hrel
            have HB := Lib.hid hb
            have HA := Lib.hid hall
            clear hb hall
            obtain ⟨q4_0, q4_1, q4_2, q4_3, q4_4, q4_5, q4_6, q4_7, q4_8, q4_9, q4_10, q4_11⟩ := (HC _ HB.out).out
            have r4_0 := Nat.lt_of_lt_of_le (show w.heap.size < W.heap.size by have := HWs.out; omega) HB.out.size
            have r4_1 := Nat.lt_of_lt_of_le (show w.heap.size + 1 < W.heap.size by have := HWs.out; omega) HB.out.size
            by_cases hlt : i < fn
            · obtain ⟨b1,o1,x,rfl,hb1,hx,x0,x1⟩ := (HS.out.fs.below (args_below HW.out HB.out hB (by have := HWs.out; omega))).at_ hlt
              obtain ⟨b2,o2,y,rfl,hb2,hy,y0,y1⟩ := (HT.out.fs.below (args_below HW.out HB.out hB (by have := HWs.out; omega))).at_ hlt
              have HX := Lib.hid hx
              have HY := Lib.hid hy
              clear hx hy
              have hne := fun w => neq_of_eql (equal_face w x y)
              cases hxy : decide (x = y)
              · rw [hxy] at hne
                have F := Lib.hid (show decide (s.fs = t.fs) = false from decide_eq_false (fun h => by
                  have h1 := HX.out
                  rw [h, HY.out] at h1
                  injection h1 with h1
                  exact absurd h1.symm (of_decide_eq_false hxy)))
                clear hxy
                simp only [Bool.not_false] at hne
                go_wp2_with fail
                go_quiet (fail)
                go_wp2_with fail
                go_ret
                exact ⟨by rw [HR.out, F.out]; simp, below_drewN (HW.out.trans (HB.out.mono HW.out.size)) _⟩
              · rw [hxy] at hne
                have HXY := Lib.hid (of_decide_eq_true hxy)
                clear hxy
                simp only [Bool.not_true] at hne
                go_wp2_with fail
                go_quiet (fail)
                go_wp2_with fail
                go_roundw
                case rel =>
                  refine ⟨i + 1, by omega, by go_num, fun j hj => ?_, below_drewN HB.out _⟩
                  by_cases e : j = i
                  · subst e; rw [HX.out, HY.out, HXY.out]
                  · exact HA.out j (by omega)
                case measure => simp [intOf]; omega
            · obtain rfl : fn = i := by omega
              have FF := Lib.hid (same_all HS.out.fs.1 HT.out.fs.1 HA.out)
              clear hlt HA
              go_wp2_with fail
              go_ret
              exact ⟨by rw [HR.out, FV.out, FE.out, FF.out]; simp, HW.out.trans (HB.out.mono HW.out.size)⟩
end Go.Proofs.Ythopjhifepijiaa
