/- The walks of plan.Vertex, plan.Edge, plan.Degree. -/
import Derived.Test.YthopjhifepijiaaPlan2
namespace Go.Proofs.Ythopjhifepijiaa
open Go.RowKit
set_option linter.unusedVariables false

def isV (id : Int) (v : Vx) : Bool := v.id == id
def isE (id : Int) (v : Ed) : Bool := v.id == id
def findV (vs : List Vx) (id : Int) : Vx := (vs.find? (isV id)).getD ⟨0, ⟨0, 0⟩⟩
def hasV (vs : List Vx) (id : Int) : Bool := (vs.find? (isV id)).isSome
def findE (es : List Ed) (id : Int) : Ed := (es.find? (isE id)).getD ⟨0, 0, 0⟩
def hasE (es : List Ed) (id : Int) : Bool := (es.find? (isE id)).isSome
theorem find_at {α : Type} {l : List α} {p : α → Bool} {k : Nat} {v : α} (hk : l[k]? = some v) (hv : p v = true) (hno : ∀ j u, j < k → l[j]? = some u → p u = false) : l.find? p = some v := by
  induction l generalizing k with
  | nil => simp at hk
  | cons x l ih =>
    rw [List.find?_cons]
    cases k with
    | zero => simp at hk; subst hk; rw [hv]
    | succ k =>
      have := hno 0 x (by omega) rfl
      rw [this]
      exact ih (by simpa using hk) (fun j u hj hu => hno (j + 1) u (by omega) (by simpa using hu))
theorem find_not {α : Type} {l : List α} {p : α → Bool} (hno : ∀ (j : Nat) u, l[j]? = some u → p u = false) : l.find? p = none := by
  rw [List.find?_eq_none]
  intro x hx
  obtain ⟨j, hj⟩ := List.mem_iff_getElem?.1 hx
  rw [hno j x hj]; decide

set_option maxRecDepth 100000 in
set_option maxHeartbeats 4000000 in
theorem vertex_any {w : World} {B vn vc : Nat} {va : Option Addr} {vs : List Vx} (hv : VsIn w B va vn vs) (hB : B ≤ w.heap.size) (hn : vn ≤ 100000) (es : Value) (hes : ∃ a n c, es = .slice a n c) (id : Int) :
    Calls Try.prog 85 #[.agg #[.slice va vn vc, es], .int .i64 id] w fun e w' => e = .returned (.tuple #[.agg #[.int .i64 (findV vs id).id, .int .i64 (findV vs id).at_.x, .int .i64 (findV vs id).at_.y], .bool (hasV vs id)]) ∧ Below w.heap.size w w' := by
  obtain ⟨ea, en, ec, rfl⟩ := hes
  have HV := Lib.hid hv
  clear hv
  go_enter Try.func85, Try.ntmps85
  go_wp2_with fail
  first | refine wp_name (fun W hW => ?_) | refine calls_name (fun W hW => ?_)
  have HW : Hid (Below w.heap.size w W) := Lib.hid (by rw [← hW]; repeat (first | exact Below.refl _ _ | refine below_alloc ?_))
  have HWs : Hid (W.heap.size = w.heap.size + 1 + 1) := Lib.hid (by rw [← hW]; simp)
  have HBW : Hid (W.heap.size ≤ W.heap.size) := Lib.hid (by have := HWs.out; omega)
  have HC := fun (W1 : World) (hb : Below (W.heap.size) W W1) => Lib.hid (show W1.cell? ⟨w.heap.size, 0, none⟩ = some (.slice va vn vc) ∧ W1.cell? ⟨w.heap.size, 1, none⟩ = some (.slice ea en ec) ∧ W1.cell? ⟨w.heap.size + 1, 0, none⟩ = some (.int .i64 0) ∧ W1.cell? ⟨w.heap.size + 1, 1, none⟩ = some (.int .i64 0) ∧ W1.cell? ⟨w.heap.size + 1, 2, none⟩ = some (.int .i64 0) from by exact ⟨(hb.cell (p := ⟨w.heap.size, 0, none⟩) (by show w.heap.size < W.heap.size; have := HWs.out; omega)).trans (by rw [← hW]; clear hW; go_simp), (hb.cell (p := ⟨w.heap.size, 1, none⟩) (by show w.heap.size < W.heap.size; have := HWs.out; omega)).trans (by rw [← hW]; clear hW; go_simp), (hb.cell (p := ⟨w.heap.size + 1, 0, none⟩) (by show w.heap.size + 1 < W.heap.size; have := HWs.out; omega)).trans (by rw [← hW]; clear hW; go_simp), (hb.cell (p := ⟨w.heap.size + 1, 1, none⟩) (by show w.heap.size + 1 < W.heap.size; have := HWs.out; omega)).trans (by rw [← hW]; clear hW; go_simp), (hb.cell (p := ⟨w.heap.size + 1, 2, none⟩) (by show w.heap.size + 1 < W.heap.size; have := HWs.out; omega)).trans (by rw [← hW]; clear hW; go_simp)⟩)
  have HB := Lib.hid (Below.refl (W.heap.size) W)
  obtain ⟨q1_0, q1_1, q1_2, q1_3, q1_4⟩ := (HC _ HB.out).out
  have r1_0 := Nat.lt_of_lt_of_le (show w.heap.size < W.heap.size by have := HWs.out; omega) HB.out.size
  have r1_1 := Nat.lt_of_lt_of_le (show w.heap.size + 1 < W.heap.size by have := HWs.out; omega) HB.out.size
  have HFZ := fun (W1 : World) (hb : Below W.heap.size W W1) => Lib.hid (show ∀ j, W1.frozen? ⟨w.heap.size + 1, j, none⟩ = false from fun j => (hb.frozen (p := ⟨w.heap.size + 1, j, none⟩) (by show w.heap.size + 1 < W.heap.size; have := HWs.out; omega)).trans (by rw [← hW]; clear hW; go_simp))
  clear hW
  clear q1_0 q1_1 q1_2 q1_3 q1_4 r1_0 r1_1
  go_loopw [11] (fun v wr => ∃ k : Nat, k ≤ vn ∧ v = .int .i64 k ∧ (∀ (j : Nat) (u : Vx), j < k → vs[j]? = some u → isV id u = false) ∧ Below W.heap.size W wr) (fun v _ => vn - (intOf v).toNat)
  case atStart => exact ⟨0, Nat.zero_le _, rfl, fun j u hj => absurd hj (by omega), HB.out⟩
  case round =>
    clear HB
    obtain ⟨k, hk, rfl, hall, hb⟩ := hrel
    have HB := Lib.hid hb
    have HA := Lib.hid hall
    clear hb hall
    obtain ⟨q2_0, q2_1, q2_2, q2_3, q2_4⟩ := (HC _ HB.out).out
    have r2_0 := Nat.lt_of_lt_of_le (show w.heap.size < W.heap.size by have := HWs.out; omega) HB.out.size
    have r2_1 := Nat.lt_of_lt_of_le (show w.heap.size + 1 < W.heap.size by have := HWs.out; omega) HB.out.size
    have fz := (HFZ _ HB.out).out
    by_cases hlt : k < vn
    · obtain ⟨vb, off, v, rfl, hvb, hv, e0, e1, e2⟩ := (HV.out.below (args_below HW.out HB.out hB (by have := HWs.out; omega))).at_ hlt
      have HVK := Lib.hid hv
      clear hv
      cases hon : isV id v
      · have hq : (v.id == id) = false := hon
        have HON := Lib.hid hon
        clear hon
        have HB1 := Lib.hid (HB.out.alloc HB.out.size (.cells #[.int .i64 v.id, .int .i64 v.at_.x, .int .i64 v.at_.y] 53))
        go_wp2_with fail
        go_roundw
        case rel =>
          refine ⟨k + 1, by omega, by go_num, fun j u hj hu => ?_, HB1.out⟩
          by_cases e : j = k
          · subst e; rw [HVK.out] at hu; cases hu; exact HON.out
          · exact HA.out j u (by omega) hu
        case measure => simp [intOf]; omega
      · have hq : (v.id == id) = true := hon
        have F := Lib.hid (find_at HVK.out hon HA.out)
        have F1 : Hid (findV vs id = v) := Lib.hid (by unfold findV; rw [F.out]; rfl)
        have F2 : Hid (hasV vs id = true) := Lib.hid (by unfold hasV; rw [F.out]; rfl)
        have HB1 := Lib.hid (HB.out.alloc HB.out.size (.cells #[.int .i64 v.id, .int .i64 v.at_.x, .int .i64 v.at_.y] 53))
        clear hon
        go_wp2_with fail
        refine bodyPost_ret (v := .tuple #[.agg #[.int .i64 v.id, .int .i64 v.at_.x, .int .i64 v.at_.y], .bool true]) (by simp [results, Try.results85, go_sem, *]) rfl ⟨by rw [F1.out, F2.out], ?_⟩
        have h3 : Below w.heap.size w wr := HW.out.trans (HB.out.mono HW.out.size)
        exact (((h3.setCell (by simp) _).setCell (by simp) _).setCell (by simp) _).alloc (by simp; exact h3.size) _
    · obtain rfl : k = vn := by omega
      have F := Lib.hid (find_not (p := isV id) (fun j u hj => HA.out j u (by have := (List.getElem?_eq_some_iff.1 hj).1; have := HV.out.1; omega) hj))
      have F1 : Hid (findV vs id = ⟨0, ⟨0, 0⟩⟩) := Lib.hid (by unfold findV; rw [F.out]; rfl)
      have F2 : Hid (hasV vs id = false) := Lib.hid (by unfold hasV; rw [F.out]; rfl)
      go_wp2_with fail
      refine bodyPost_ret (v := .tuple #[.agg #[.int .i64 0, .int .i64 0, .int .i64 0], .bool false]) (by simp [results, Try.results85, go_sem, *]) rfl ⟨by rw [F1.out, F2.out], ?_⟩
      have h3 : Below w.heap.size w wr := HW.out.trans (HB.out.mono HW.out.size)
      exact ((h3.setCell (by simp) _).setCell (by simp) _).setCell (by simp) _
set_option maxRecDepth 100000 in
set_option maxHeartbeats 4000000 in
theorem edge_any {w : World} {B en ec : Nat} {ea : Option Addr} {es : List Ed} (hv : EsIn w B ea en es) (hB : B ≤ w.heap.size) (hn : en ≤ 100000) (vs : Value) (hvs : ∃ a n c, vs = .slice a n c) (id : Int) :
    Calls Try.prog 71 #[.agg #[vs, .slice ea en ec], .int .i64 id] w fun e w' => e = .returned (.tuple #[.agg #[.int .i64 (findE es id).id, .int .i64 (findE es id).a, .int .i64 (findE es id).b], .bool (hasE es id)]) ∧ Below w.heap.size w w' := by
  obtain ⟨va, vn, vc, rfl⟩ := hvs
  have HV := Lib.hid hv
  clear hv
  go_enter Try.func71, Try.ntmps71
  go_wp2_with fail
  first | refine wp_name (fun W hW => ?_) | refine calls_name (fun W hW => ?_)
  have HW : Hid (Below w.heap.size w W) := Lib.hid (by rw [← hW]; repeat (first | exact Below.refl _ _ | refine below_alloc ?_))
  have HWs : Hid (W.heap.size = w.heap.size + 1 + 1) := Lib.hid (by rw [← hW]; simp)
  have HBW : Hid (W.heap.size ≤ W.heap.size) := Lib.hid (by have := HWs.out; omega)
  have HC := fun (W1 : World) (hb : Below (W.heap.size) W W1) => Lib.hid (show W1.cell? ⟨w.heap.size, 0, none⟩ = some (.slice va vn vc) ∧ W1.cell? ⟨w.heap.size, 1, none⟩ = some (.slice ea en ec) ∧ W1.cell? ⟨w.heap.size + 1, 0, none⟩ = some (.int .i64 0) ∧ W1.cell? ⟨w.heap.size + 1, 1, none⟩ = some (.int .i64 0) ∧ W1.cell? ⟨w.heap.size + 1, 2, none⟩ = some (.int .i64 0) from by exact ⟨(hb.cell (p := ⟨w.heap.size, 0, none⟩) (by show w.heap.size < W.heap.size; have := HWs.out; omega)).trans (by rw [← hW]; clear hW; go_simp), (hb.cell (p := ⟨w.heap.size, 1, none⟩) (by show w.heap.size < W.heap.size; have := HWs.out; omega)).trans (by rw [← hW]; clear hW; go_simp), (hb.cell (p := ⟨w.heap.size + 1, 0, none⟩) (by show w.heap.size + 1 < W.heap.size; have := HWs.out; omega)).trans (by rw [← hW]; clear hW; go_simp), (hb.cell (p := ⟨w.heap.size + 1, 1, none⟩) (by show w.heap.size + 1 < W.heap.size; have := HWs.out; omega)).trans (by rw [← hW]; clear hW; go_simp), (hb.cell (p := ⟨w.heap.size + 1, 2, none⟩) (by show w.heap.size + 1 < W.heap.size; have := HWs.out; omega)).trans (by rw [← hW]; clear hW; go_simp)⟩)
  have HB := Lib.hid (Below.refl (W.heap.size) W)
  obtain ⟨q3_0, q3_1, q3_2, q3_3, q3_4⟩ := (HC _ HB.out).out
  have r3_0 := Nat.lt_of_lt_of_le (show w.heap.size < W.heap.size by have := HWs.out; omega) HB.out.size
  have r3_1 := Nat.lt_of_lt_of_le (show w.heap.size + 1 < W.heap.size by have := HWs.out; omega) HB.out.size
  have HFZ := fun (W1 : World) (hb : Below W.heap.size W W1) => Lib.hid (show ∀ j, W1.frozen? ⟨w.heap.size + 1, j, none⟩ = false from fun j => (hb.frozen (p := ⟨w.heap.size + 1, j, none⟩) (by show w.heap.size + 1 < W.heap.size; have := HWs.out; omega)).trans (by rw [← hW]; clear hW; go_simp))
  clear hW
  clear q3_0 q3_1 q3_2 q3_3 q3_4 r3_0 r3_1
  go_loopw [11] (fun v wr => ∃ k : Nat, k ≤ en ∧ v = .int .i64 k ∧ (∀ (j : Nat) (u : Ed), j < k → es[j]? = some u → isE id u = false) ∧ Below W.heap.size W wr) (fun v _ => en - (intOf v).toNat)
  case atStart => exact ⟨0, Nat.zero_le _, rfl, fun j u hj => absurd hj (by omega), HB.out⟩
  case round =>
    clear HB
    obtain ⟨k, hk, rfl, hall, hb⟩ := hrel
    have HB := Lib.hid hb
    have HA := Lib.hid hall
    clear hb hall
    obtain ⟨q4_0, q4_1, q4_2, q4_3, q4_4⟩ := (HC _ HB.out).out
    have r4_0 := Nat.lt_of_lt_of_le (show w.heap.size < W.heap.size by have := HWs.out; omega) HB.out.size
    have r4_1 := Nat.lt_of_lt_of_le (show w.heap.size + 1 < W.heap.size by have := HWs.out; omega) HB.out.size
    have fz := (HFZ _ HB.out).out
    by_cases hlt : k < en
    · obtain ⟨vb, off, v, rfl, hvb, hv, e0, e1, e2⟩ := (HV.out.below (args_below HW.out HB.out hB (by have := HWs.out; omega))).at_ hlt
      have HVK := Lib.hid hv
      clear hv
      cases hon : isE id v
      · have hq : (v.id == id) = false := hon
        have HON := Lib.hid hon
        clear hon
        have HB1 := Lib.hid (HB.out.alloc HB.out.size (.cells #[.int .i64 v.id, .int .i64 v.a, .int .i64 v.b] 63))
        go_wp2_with fail
        go_roundw
        case rel =>
          refine ⟨k + 1, by omega, by go_num, fun j u hj hu => ?_, HB1.out⟩
          by_cases e : j = k
          · subst e; rw [HVK.out] at hu; cases hu; exact HON.out
          · exact HA.out j u (by omega) hu
        case measure => simp [intOf]; omega
      · have hq : (v.id == id) = true := hon
        have F := Lib.hid (find_at HVK.out hon HA.out)
        have F1 : Hid (findE es id = v) := Lib.hid (by unfold findE; rw [F.out]; rfl)
        have F2 : Hid (hasE es id = true) := Lib.hid (by unfold hasE; rw [F.out]; rfl)
        have HB1 := Lib.hid (HB.out.alloc HB.out.size (.cells #[.int .i64 v.id, .int .i64 v.a, .int .i64 v.b] 63))
        clear hon
        go_wp2_with fail
        refine bodyPost_ret (v := .tuple #[.agg #[.int .i64 v.id, .int .i64 v.a, .int .i64 v.b], .bool true]) (by simp [results, Try.results71, go_sem, *]) rfl ⟨by rw [F1.out, F2.out], ?_⟩
        have h3 : Below w.heap.size w wr := HW.out.trans (HB.out.mono HW.out.size)
        exact (((h3.setCell (by simp) _).setCell (by simp) _).setCell (by simp) _).alloc (by simp; exact h3.size) _
    · obtain rfl : k = en := by omega
      have F := Lib.hid (find_not (p := isE id) (fun j u hj => HA.out j u (by have := (List.getElem?_eq_some_iff.1 hj).1; have := HV.out.1; omega) hj))
      have F1 : Hid (findE es id = ⟨0, 0, 0⟩) := Lib.hid (by unfold findE; rw [F.out]; rfl)
      have F2 : Hid (hasE es id = false) := Lib.hid (by unfold hasE; rw [F.out]; rfl)
      go_wp2_with fail
      refine bodyPost_ret (v := .tuple #[.agg #[.int .i64 0, .int .i64 0, .int .i64 0], .bool false]) (by simp [results, Try.results71, go_sem, *]) rfl ⟨by rw [F1.out, F2.out], ?_⟩
      have h3 : Below w.heap.size w wr := HW.out.trans (HB.out.mono HW.out.size)
      exact ((h3.setCell (by simp) _).setCell (by simp) _).setCell (by simp) _

/-- How many ends of edges a vertex is. -/
def degA (es : List Ed) (id : Int) : Nat → Int
  | 0 => 0
  | k + 1 => degA es id k + (match es[k]? with | some e => (if e.a = id then 1 else 0) + (if e.b = id then 1 else 0) | none => 0)
def deg (es : List Ed) (id : Int) : Int := degA es id es.length
theorem degA_succ (es : List Ed) (id : Int) (k : Nat) : degA es id (k + 1) = degA es id k + (match es[k]? with | some e => (if e.a = id then 1 else 0) + (if e.b = id then 1 else 0) | none => 0) := rfl
theorem degA_bd (es : List Ed) (id : Int) : ∀ k, 0 ≤ degA es id k ∧ degA es id k ≤ 2 * k
  | 0 => ⟨by simp [degA], by simp [degA]⟩
  | k + 1 => by
    have := degA_bd es id k
    rw [degA_succ]
    cases es[k]? with
    | none => simp only; omega
    | some e => simp only; split <;> split <;> omega
set_option maxRecDepth 100000 in
set_option maxHeartbeats 4000000 in
theorem degree_any {w : World} {B en ec : Nat} {ea : Option Addr} {es : List Ed} (hv : EsIn w B ea en es) (hB : B ≤ w.heap.size) (hn : en ≤ 100000) (vs : Value) (hvs : ∃ a n c, vs = .slice a n c) (id : Int) :
    Calls Try.prog 17 #[.agg #[vs, .slice ea en ec], .int .i64 id] w fun e w' => e = .returned (.int .i64 (deg es id)) ∧ Below w.heap.size w w' := by
  obtain ⟨va, vn, vc, rfl⟩ := hvs
  have HV := Lib.hid hv
  clear hv
  go_enter Try.func17, Try.ntmps17
  go_wp2_with fail
  first | refine wp_name (fun W hW => ?_) | refine calls_name (fun W hW => ?_)
  have HW : Hid (Below w.heap.size w W) := Lib.hid (by rw [← hW]; repeat (first | exact Below.refl _ _ | refine below_alloc ?_))
  have HWs : Hid (W.heap.size = w.heap.size + 1) := Lib.hid (by rw [← hW]; simp)
  have HBW : Hid (W.heap.size ≤ W.heap.size) := Lib.hid (by have := HWs.out; omega)
  have HC := fun (W1 : World) (hb : Below (W.heap.size) W W1) => Lib.hid (show W1.cell? ⟨w.heap.size, 0, none⟩ = some (.slice va vn vc) ∧ W1.cell? ⟨w.heap.size, 1, none⟩ = some (.slice ea en ec) from by exact ⟨(hb.cell (p := ⟨w.heap.size, 0, none⟩) (by show w.heap.size < W.heap.size; have := HWs.out; omega)).trans (by rw [← hW]; clear hW; go_simp), (hb.cell (p := ⟨w.heap.size, 1, none⟩) (by show w.heap.size < W.heap.size; have := HWs.out; omega)).trans (by rw [← hW]; clear hW; go_simp)⟩)
  have HB := Lib.hid (Below.refl (W.heap.size) W)
  clear hW
  obtain ⟨q5_0, q5_1⟩ := (HC _ HB.out).out
  have r5_0 := Nat.lt_of_lt_of_le (show w.heap.size < W.heap.size by have := HWs.out; omega) HB.out.size
  clear q5_0 q5_1 r5_0
  go_loopw [5, 11] (fun s v wr => ∃ k : Nat, k ≤ en ∧ v = .int .i64 k ∧ s = .int .i64 (degA es id k) ∧ Below W.heap.size W wr) (fun _ v _ => en - (intOf v).toNat)
  case atStart => exact ⟨0, Nat.zero_le _, rfl, rfl, HB.out⟩
  case round =>
    clear HB
    obtain ⟨k, hk, rfl, rfl, hb⟩ := hrel
    have HB := Lib.hid hb
    clear hb
    obtain ⟨q6_0, q6_1⟩ := (HC _ HB.out).out
    have r6_0 := Nat.lt_of_lt_of_le (show w.heap.size < W.heap.size by have := HWs.out; omega) HB.out.size
    by_cases hlt : k < en
    · obtain ⟨vb, off, v, rfl, hvb, hv, e0, e1, e2⟩ := (HV.out.below (args_below HW.out HB.out hB (by have := HWs.out; omega))).at_ hlt
      have HB1 := Lib.hid (HB.out.alloc HB.out.size (.cells #[.int .i64 v.id, .int .i64 v.a, .int .i64 v.b] 63))
      have hbd := degA_bd es id k
      have hnx : degA es id (k + 1) = degA es id k + ((if v.a = id then 1 else 0) + (if v.b = id then 1 else 0)) := by rw [degA_succ, hv]
      have HNX := Lib.hid hnx
      clear hv hnx
      generalize degA es id k = d at *
      have hc : ((v.a == id) = true ∧ (v.b == id) = true ∧ Hid (degA es id (k + 1) = d + 2)) ∨ ((v.a == id) = true ∧ (v.b == id) = false ∧ Hid (degA es id (k + 1) = d + 1)) ∨ ((v.a == id) = false ∧ (v.b == id) = true ∧ Hid (degA es id (k + 1) = d + 1)) ∨ ((v.a == id) = false ∧ (v.b == id) = false ∧ Hid (degA es id (k + 1) = d)) := by
        simp only [beq_iff_eq, beq_eq_false_iff_ne]
        by_cases h1 : v.a = id <;> by_cases h2 : v.b = id
        · exact .inl ⟨h1, h2, Lib.hid (by rw [HNX.out, if_pos h1, if_pos h2]; omega)⟩
        · exact .inr (.inl ⟨h1, h2, Lib.hid (by rw [HNX.out, if_pos h1, if_neg h2]; omega)⟩)
        · exact .inr (.inr (.inl ⟨h1, h2, Lib.hid (by rw [HNX.out, if_neg h1, if_pos h2]; omega)⟩))
        · exact .inr (.inr (.inr ⟨h1, h2, Lib.hid (by rw [HNX.out, if_neg h1, if_neg h2]; omega)⟩))
      clear HNX
      rcases hc with ⟨q1, q2, HD⟩ | ⟨q1, q2, HD⟩ | ⟨q1, q2, HD⟩ | ⟨q1, q2, HD⟩
      all_goals
        go_wp2_with fail
        go_roundw
        case rel => exact ⟨k + 1, by omega, by go_num, by rw [HD.out]; try (first | rfl | go_num), HB1.out⟩
        case measure => simp [intOf]; omega
    · obtain rfl : k = en := by omega
      have F : Hid (degA es id k = deg es id) := Lib.hid (by unfold deg; rw [← HV.out.1])
      go_wp2_with fail
      go_ret
      exact ⟨by rw [← F.out]; rfl, (HW.out.trans (HB.out.mono (by have := HWs.out; omega)))⟩
end Go.Proofs.Ythopjhifepijiaa
