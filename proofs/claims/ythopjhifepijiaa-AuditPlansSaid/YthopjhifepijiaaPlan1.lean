/- Plans in memory; the walks of plan.ends, onWay, crossed. -/
import Derived.Test.YthopjhifepijiaaGeo4
import Derived.Test.YthopjhifepijiaaPlanPlain
import Derived.Test.YthopjhifepijiaaKeys17
import Derived.WalkLawsBesides
namespace Go.Proofs.Ythopjhifepijiaa
open Go.RowKit
set_option linter.unusedVariables false

/-- Vertices in memory, below block B. -/
def VsIn (w : World) (B : Nat) (a : Option Addr) (n : Nat) (l : List Vx) : Prop := n = l.length ∧ (n = 0 ∨ ∃ b off, a = some ⟨b, off, none⟩ ∧ b < B ∧ ∀ (i : Nat) (v : Vx), l[i]? = some v →
  w.cell? ⟨b, off + i * 3, none⟩ = some (.int .i64 v.id) ∧ w.cell? ⟨b, off + i * 3 + 1, none⟩ = some (.int .i64 v.at_.x) ∧ w.cell? ⟨b, off + i * 3 + 1 + 1, none⟩ = some (.int .i64 v.at_.y))
def EsIn (w : World) (B : Nat) (a : Option Addr) (n : Nat) (l : List Ed) : Prop := n = l.length ∧ (n = 0 ∨ ∃ b off, a = some ⟨b, off, none⟩ ∧ b < B ∧ ∀ (i : Nat) (v : Ed), l[i]? = some v →
  w.cell? ⟨b, off + i * 3, none⟩ = some (.int .i64 v.id) ∧ w.cell? ⟨b, off + i * 3 + 1, none⟩ = some (.int .i64 v.a) ∧ w.cell? ⟨b, off + i * 3 + 1 + 1, none⟩ = some (.int .i64 v.b))
theorem VsIn.below {w w' : World} {B : Nat} {a : Option Addr} {n : Nat} {l : List Vx} (h : VsIn w B a n l) (hb : Below B w w') : VsIn w' B a n l := by
  obtain ⟨h1, h2 | ⟨b, off, ha, hlt, hc⟩⟩ := h
  · exact ⟨h1, .inl h2⟩
  · exact ⟨h1, .inr ⟨b, off, ha, hlt, fun i v hv => ⟨(hb.cell (p := ⟨b, _, none⟩) hlt).trans (hc i v hv).1, (hb.cell (p := ⟨b, _, none⟩) hlt).trans (hc i v hv).2.1, (hb.cell (p := ⟨b, _, none⟩) hlt).trans (hc i v hv).2.2⟩⟩⟩
theorem EsIn.below {w w' : World} {B : Nat} {a : Option Addr} {n : Nat} {l : List Ed} (h : EsIn w B a n l) (hb : Below B w w') : EsIn w' B a n l := by
  obtain ⟨h1, h2 | ⟨b, off, ha, hlt, hc⟩⟩ := h
  · exact ⟨h1, .inl h2⟩
  · exact ⟨h1, .inr ⟨b, off, ha, hlt, fun i v hv => ⟨(hb.cell (p := ⟨b, _, none⟩) hlt).trans (hc i v hv).1, (hb.cell (p := ⟨b, _, none⟩) hlt).trans (hc i v hv).2.1, (hb.cell (p := ⟨b, _, none⟩) hlt).trans (hc i v hv).2.2⟩⟩⟩
theorem VsIn.at_ {w : World} {B : Nat} {a : Option Addr} {n : Nat} {l : List Vx} (h : VsIn w B a n l) {k : Nat} (hk : k < n) : ∃ b off v, a = some ⟨b, off, none⟩ ∧ b < B ∧ l[k]? = some v ∧
    w.cell? ⟨b, off + k * 3, none⟩ = some (.int .i64 v.id) ∧ w.cell? ⟨b, off + k * 3 + 1, none⟩ = some (.int .i64 v.at_.x) ∧ w.cell? ⟨b, off + k * 3 + 1 + 1, none⟩ = some (.int .i64 v.at_.y) := by
  obtain ⟨h1, h2 | ⟨b, off, ha, hlt, hc⟩⟩ := h
  · omega
  · have hv := List.getElem?_eq_getElem (l := l) (i := k) (by omega)
    exact ⟨b, off, _, ha, hlt, hv, hc k _ hv⟩
theorem EsIn.at_ {w : World} {B : Nat} {a : Option Addr} {n : Nat} {l : List Ed} (h : EsIn w B a n l) {k : Nat} (hk : k < n) : ∃ b off v, a = some ⟨b, off, none⟩ ∧ b < B ∧ l[k]? = some v ∧
    w.cell? ⟨b, off + k * 3, none⟩ = some (.int .i64 v.id) ∧ w.cell? ⟨b, off + k * 3 + 1, none⟩ = some (.int .i64 v.a) ∧ w.cell? ⟨b, off + k * 3 + 1 + 1, none⟩ = some (.int .i64 v.b) := by
  obtain ⟨h1, h2 | ⟨b, off, ha, hlt, hc⟩⟩ := h
  · omega
  · have hv := List.getElem?_eq_getElem (l := l) (i := k) (by omega)
    exact ⟨b, off, _, ha, hlt, hv, hc k _ hv⟩
theorem EsIn.take {w : World} {B : Nat} {a : Option Addr} {n : Nat} {l : List Ed} (h : EsIn w B a n l) {k : Nat} (hk : k ≤ n) : EsIn w B a k (l.take k) := by
  obtain ⟨h1, h2 | ⟨b, off, ha, hlt, hc⟩⟩ := h
  · exact ⟨by rw [List.length_take]; omega, .inl (by omega)⟩
  · refine ⟨by rw [List.length_take]; omega, .inr ⟨b, off, ha, hlt, fun i v hv => hc i v ?_⟩⟩
    have := (List.getElem?_eq_some_iff.1 hv).1
    rw [List.length_take] at this
    rwa [List.getElem?_take_of_lt (by omega)] at hv

set_option maxRecDepth 100000 in
theorem pends_any (e : Ed) (w : World) : Calls Try.prog 40 #[.agg #[.int .i64 e.id, .int .i64 e.a, .int .i64 e.b]] w fun x w' => x = .returned (.agg #[.int .i64 (ends e).1, .int .i64 (ends e).2]) ∧ Below w.heap.size w w' := by
  obtain ⟨lo, hi, hlo, hhi, hc⟩ : ∃ lo hi, (ends e).1 = lo ∧ (ends e).2 = hi ∧ ((e.a < e.b ∧ lo = e.a ∧ hi = e.b) ∨ (e.b < e.a ∧ lo = e.b ∧ hi = e.a) ∨ (e.a = e.b ∧ lo = e.a ∧ hi = e.a)) := by
    unfold ends
    refine ⟨_, _, rfl, rfl, ?_⟩
    simp only
    rcases Int.lt_trichotomy e.a e.b with h | h | h
    · exact .inl ⟨h, by omega, by omega⟩
    · refine .inr (.inr ⟨h, ?_, ?_⟩) <;> (rw [h]; simp)
    · exact .inr (.inl ⟨h, by omega, by omega⟩)
  rw [hlo, hhi]
  clear hlo hhi
  obtain ⟨id, a, b⟩ := e
  simp only at hc ⊢
  rcases hc with ⟨h, rfl, rfl⟩ | ⟨h, rfl, rfl⟩ | ⟨rfl, rfl, rfl⟩
  all_goals
    go_enter Try.func40, Try.ntmps40
    go_wp2_with fail
  · exact bodyPost_ret (v := .agg #[.int .i64 lo, .int .i64 hi]) (by simp [results, Try.results40, go_sem]) rfl ⟨rfl, below_alloc (below_alloc (Below.refl _ _))⟩
  · exact bodyPost_ret (v := .agg #[.int .i64 lo, .int .i64 hi]) (by simp [results, Try.results40, go_sem]) rfl ⟨rfl, below_alloc (below_alloc (Below.refl _ _))⟩
  · exact bodyPost_ret (v := .agg #[.int .i64 hi, .int .i64 hi]) (by simp [results, Try.results40, go_sem]) rfl ⟨rfl, below_alloc (below_alloc (Below.refl _ _))⟩

set_option maxRecDepth 100000 in
set_option maxHeartbeats 2000000 in
theorem onWay_any {w : World} {B vn vc : Nat} {va : Option Addr} {vs : List Vx} (hv : VsIn w B va vn vs) (hB : B ≤ w.heap.size) (hn : vn ≤ 100000) (es : Value) (hes : ∃ a n c, es = .slice a n c) (a b : Pt) :
    Calls Try.prog 41 #[.agg #[.slice va vn vc, es], .agg #[.int .i64 a.x, .int .i64 a.y], .agg #[.int .i64 b.x, .int .i64 b.y]] w fun e w' => e = .returned (.bool (vs.any fun v => onB v.at_ a b)) ∧ Below w.heap.size w w' := by
  obtain ⟨ea, en, ec, rfl⟩ := hes
  have HV := Lib.hid hv
  clear hv
  go_enter Try.func41, Try.ntmps41
  go_wp2_with fail
  first | refine wp_name (fun W hW => ?_) | refine calls_name (fun W hW => ?_)
  have HW : Hid (Below w.heap.size w W) := Lib.hid (by rw [← hW]; repeat (first | exact Below.refl _ _ | refine below_alloc ?_))
  have HWs : Hid (W.heap.size = w.heap.size + 1 + 1 + 1) := Lib.hid (by rw [← hW]; simp)
  have HBW : Hid (W.heap.size ≤ W.heap.size) := Lib.hid (by have := HWs.out; omega)
  have HC := fun (W1 : World) (hb : Below (W.heap.size) W W1) => Lib.hid (show W1.cell? ⟨w.heap.size, 0, none⟩ = some (.slice va vn vc) ∧ W1.cell? ⟨w.heap.size, 1, none⟩ = some (.slice ea en ec) ∧ W1.cell? ⟨w.heap.size + 1, 0, none⟩ = some (.int .i64 a.x) ∧ W1.cell? ⟨w.heap.size + 1, 1, none⟩ = some (.int .i64 a.y) ∧ W1.cell? ⟨w.heap.size + 1 + 1, 0, none⟩ = some (.int .i64 b.x) ∧ W1.cell? ⟨w.heap.size + 1 + 1, 1, none⟩ = some (.int .i64 b.y) from by exact ⟨(hb.cell (p := ⟨w.heap.size, 0, none⟩) (by show w.heap.size < W.heap.size; have := HWs.out; omega)).trans (by rw [← hW]; clear hW; go_simp), (hb.cell (p := ⟨w.heap.size, 1, none⟩) (by show w.heap.size < W.heap.size; have := HWs.out; omega)).trans (by rw [← hW]; clear hW; go_simp), (hb.cell (p := ⟨w.heap.size + 1, 0, none⟩) (by show w.heap.size + 1 < W.heap.size; have := HWs.out; omega)).trans (by rw [← hW]; clear hW; go_simp), (hb.cell (p := ⟨w.heap.size + 1, 1, none⟩) (by show w.heap.size + 1 < W.heap.size; have := HWs.out; omega)).trans (by rw [← hW]; clear hW; go_simp), (hb.cell (p := ⟨w.heap.size + 1 + 1, 0, none⟩) (by show w.heap.size + 1 + 1 < W.heap.size; have := HWs.out; omega)).trans (by rw [← hW]; clear hW; go_simp), (hb.cell (p := ⟨w.heap.size + 1 + 1, 1, none⟩) (by show w.heap.size + 1 + 1 < W.heap.size; have := HWs.out; omega)).trans (by rw [← hW]; clear hW; go_simp)⟩)
  have HB := Lib.hid (Below.refl (W.heap.size) W)
  clear hW
  obtain ⟨q1_0, q1_1, q1_2, q1_3, q1_4, q1_5⟩ := (HC _ HB.out).out
  have r1_0 := Nat.lt_of_lt_of_le (show w.heap.size < W.heap.size by have := HWs.out; omega) HB.out.size
  have r1_1 := Nat.lt_of_lt_of_le (show w.heap.size + 1 < W.heap.size by have := HWs.out; omega) HB.out.size
  have r1_2 := Nat.lt_of_lt_of_le (show w.heap.size + 1 + 1 < W.heap.size by have := HWs.out; omega) HB.out.size
  clear q1_0 q1_1 q1_2 q1_3 q1_4 q1_5 r1_0 r1_1 r1_2
  go_loopw [12] (fun v wr => ∃ k : Nat, k ≤ vn ∧ v = .int .i64 k ∧ (∀ (j : Nat) (u : Vx), j < k → vs[j]? = some u → onB u.at_ a b = false) ∧ Below W.heap.size W wr) (fun v _ => vn - (intOf v).toNat)
  case atStart => exact ⟨0, Nat.zero_le _, rfl, fun j u hj => absurd hj (by omega), HB.out⟩
  case round =>
    obtain ⟨k, hk, rfl, hall, hb⟩ := hrel
    have HB := Lib.hid hb
    have HA := Lib.hid hall
    clear hb hall
    obtain ⟨q2_0, q2_1, q2_2, q2_3, q2_4, q2_5⟩ := (HC _ HB.out).out
    have r2_0 := Nat.lt_of_lt_of_le (show w.heap.size < W.heap.size by have := HWs.out; omega) HB.out.size
    have r2_1 := Nat.lt_of_lt_of_le (show w.heap.size + 1 < W.heap.size by have := HWs.out; omega) HB.out.size
    have r2_2 := Nat.lt_of_lt_of_le (show w.heap.size + 1 + 1 < W.heap.size by have := HWs.out; omega) HB.out.size
    by_cases hlt : k < vn
    · obtain ⟨vb, off, v, rfl, hvb, hv, e0, e1, e2⟩ := (HV.out.below (args_below HW.out HB.out hB (by have := HWs.out; omega))).at_ hlt
      have HVK := Lib.hid hv
      have HON := fun w => Lib.hid (on_any v.at_ a b w)
      have hov := HON w
      clear hv hov
      cases hon : onB v.at_ a b
      · rw [hon] at HON
        go_wp2_with fail
        refine ((HON _).out).mono ?_
        rintro e w3 ⟨rfl, hb3⟩
        have HB := Lib.hid (below_next (below_next HB.out (Nat.le_trans HBW.out HB.out.size) (by repeat (first | exact Below.refl _ _ | refine below_alloc ?_))) (by first | exact (Nat.le_trans HBW.out HB.out.size) | (simp; done) | (have h1 := HBW.out; have h2 := HB.out.size; simp; omega)) hb3)
        clear q2_0 q2_1 q2_2 q2_3 q2_4 q2_5 r2_0 r2_1 r2_2
        obtain ⟨q3_0, q3_1, q3_2, q3_3, q3_4, q3_5⟩ := (HC _ HB.out).out
        clear hb3
        have r3_0 := Nat.lt_of_lt_of_le (show w.heap.size < W.heap.size by have := HWs.out; omega) HB.out.size
        have r3_1 := Nat.lt_of_lt_of_le (show w.heap.size + 1 < W.heap.size by have := HWs.out; omega) HB.out.size
        have r3_2 := Nat.lt_of_lt_of_le (show w.heap.size + 1 + 1 < W.heap.size by have := HWs.out; omega) HB.out.size
        go_wp2_with fail
        go_roundw
        case rel =>
          refine ⟨k + 1, by omega, by go_num, fun j u hj hu => ?_, HB.out⟩
          by_cases e : j = k
          · subst e; rw [HVK.out] at hu; cases hu; exact hon
          · exact HA.out j u (by omega) hu
        case measure => simp [intOf]; omega
      · rw [hon] at HON
        have F := Lib.hid (show (vs.any fun v => onB v.at_ a b) = true from List.any_eq_true.2 ⟨v, List.mem_of_getElem? HVK.out, hon⟩)
        clear hon
        go_wp2_with fail
        refine ((HON _).out).mono ?_
        rintro e w4 ⟨rfl, hb4⟩
        have HB := Lib.hid (below_next (below_next HB.out (Nat.le_trans HBW.out HB.out.size) (by repeat (first | exact Below.refl _ _ | refine below_alloc ?_))) (by first | exact (Nat.le_trans HBW.out HB.out.size) | (simp; done) | (have h1 := HBW.out; have h2 := HB.out.size; simp; omega)) hb4)
        clear q2_0 q2_1 q2_2 q2_3 q2_4 q2_5 r2_0 r2_1 r2_2
        obtain ⟨q4_0, q4_1, q4_2, q4_3, q4_4, q4_5⟩ := (HC _ HB.out).out
        clear hb4
        have r4_0 := Nat.lt_of_lt_of_le (show w.heap.size < W.heap.size by have := HWs.out; omega) HB.out.size
        have r4_1 := Nat.lt_of_lt_of_le (show w.heap.size + 1 < W.heap.size by have := HWs.out; omega) HB.out.size
        have r4_2 := Nat.lt_of_lt_of_le (show w.heap.size + 1 + 1 < W.heap.size by have := HWs.out; omega) HB.out.size
        go_wp2_with fail
        go_ret
        exact ⟨by rw [F.out]; rfl, (HW.out.trans (HB.out.mono (by have := HWs.out; omega)))⟩
    · obtain rfl : k = vn := by omega
      have F := Lib.hid (show (vs.any fun v => onB v.at_ a b) = false by
        rw [List.any_eq_false]
        intro v hv
        obtain ⟨j, hj⟩ := List.mem_iff_getElem?.1 hv
        rw [HA.out j v (by have := (List.getElem?_eq_some_iff.1 hj).1; have := HV.out.1; omega) hj]
        decide)
      go_wp2_with fail
      go_ret
      exact ⟨by rw [F.out]; rfl, (HW.out.trans (HB.out.mono (by have := HWs.out; omega)))⟩
end Go.Proofs.Ythopjhifepijiaa
