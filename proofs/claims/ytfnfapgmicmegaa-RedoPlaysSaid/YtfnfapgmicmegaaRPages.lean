/- The pages of an act of layer 9. -/
import Derived.Test.YtfnfapgmicmegaaRActs
namespace Go.Proofs.Ytfnfapgmicmegaa
open Go.RowKit Go.Joins
set_option linter.unusedVariables false

def actP (b : Int) (n : Nat) : List ByteArray := (List.range n).map fun i : Nat => pageB b (i : Int)
theorem actP_length (b : Int) (n : Nat) : (actP b n).length = n := by simp [actP]
theorem actP_size (b : Int) (n : Nat) : ∀ p ∈ actP b n, p.size = 512 := fun p hp => by
  simp only [actP, List.mem_map] at hp
  obtain ⟨i, _, rfl⟩ := hp
  exact pageB_size _ _
def actC (b : Int) (n : Nat) : List Value := (actP b n).map Value.string
theorem actC_snoc (b : Int) (n : Nat) : actC b n ++ [.string (pageB b (n : Int))] = actC b (n + 1) := by
  unfold actC actP
  rw [List.range_succ, List.map_append, List.map_append]; rfl
/-- So many pages. -/
def actN (n : Int) : Nat := ((n % 18446744073709551616) % 6).toNat
theorem actN_bd (n : Int) : actN n ≤ 5 := by unfold actN; omega
theorem actN_int (n : Int) : ((actN n : Nat) : Int) = (n % 18446744073709551616) % 6 := by unfold actN; omega

theorem row_base {w : World} {base base' : Nat} {e : TypeId} {size : Nat} {v : Value} {n : Nat} {xs : List Value} (h : w.ownsRow base e size v n xs) (hb : base' ≤ base) : w.ownsRow base' e size v n xs :=
  ⟨h.1, h.2.imp id fun ⟨g, cap, cur, h1, h2, h3⟩ => ⟨g, cap, cur, h1, Nat.le_trans hb h2, h3⟩⟩

set_option maxRecDepth 100000 in
set_option maxHeartbeats 4000000 in
theorem pages_any (b1 b2 n torn by_ : Int) (v3 : Value) (w : World) (h0 : 0 ≤ b2) (h1 : b2 ≤ 255) (n0 : -9223372036854775808 ≤ n) (n1 : n ≤ 9223372036854775807) :
    Calls Try.prog 24 #[.agg #[.int .u8 b1, .int .u8 b2, .int .i64 n, v3, .int .i64 torn, .int .i64 by_]] w fun e w' => ∃ v, e = .returned v ∧ w'.ownsRow w.heap.size 9 1 v (actN n) (actC b2 (actN n)) ∧ Below w.heap.size w w' := by
  obtain ⟨i0, hi, hz0, hz1, hz2⟩ := info_parts Try.infoStr
  obtain ⟨T, hT⟩ : ∃ T, T = actN n := ⟨_, rfl⟩
  have hT5 : T ≤ 5 := by rw [hT]; exact actN_bd n
  have hTi : (n % 18446744073709551616) % 6 = (T : Int) := by rw [hT]; exact (actN_int n).symm
  rw [← hT]
  clear hT
  go_enter Try.func24, Try.ntmps24
  go_wp2_with fail
  obtain ⟨B, hB⟩ : ∃ B, B = w.heap.size := ⟨_, rfl⟩
  obtain ⟨w1, hw1⟩ : ∃ w1, w1 = w.alloc (.cells #[.int .u8 b1, .int .u8 b2, .int .i64 n, v3, .int .i64 torn, .int .i64 by_] 51) := ⟨_, rfl⟩
  have hs1 : w1.heap.size = w.heap.size + 1 := by rw [hw1]; simp
  have c1 : w1.cell? ⟨w.heap.size, 1, none⟩ = some (.int .u8 b2) := by rw [hw1]; simp [World.cell?_alloc_new]
  have c2 : w1.cell? ⟨w.heap.size, 2, none⟩ = some (.int .i64 n) := by rw [hw1]; simp [World.cell?_alloc_new]
  have hb1 : Below w.heap.size w w1 := by rw [hw1]; exact below_alloc (Below.refl _ _)
  have C1 := Lib.hid c1
  have C2 := Lib.hid c2
  clear c1 c2
  go_loopw [3, 4] (fun u c wr => ∃ t : Nat, t ≤ T ∧ c = .int .i64 t ∧ wr.ownsRow w1.heap.size 9 1 u t (actC b2 t) ∧ Below w1.heap.size w1 wr) (fun _ c _ => T - (intOf c).toNat)
  case atStart => exact ⟨0, Nat.zero_le _, rfl, World.ownsRow_nil _ _ _ _, by rw [hw1]; exact Below.refl _ _⟩
  case round =>
    obtain ⟨t, hj, rfl, hown, hb⟩ := hrel
    have hsz := hb.size
    have k1 : wr.cell? ⟨w.heap.size, 1, none⟩ = some (.int .u8 b2) := (hb.cell (by show w.heap.size < _; omega)).trans C1.out
    have k2 : wr.cell? ⟨w.heap.size, 2, none⟩ = some (.int .i64 n) := (hb.cell (by show w.heap.size < _; omega)).trans C2.out
    have hw : IntKind.u64.wrap n = n % 18446744073709551616 := IntKind.wrap_u64 n
    by_cases hlt : t < T
    · have HM := Lib.hid (actC_snoc b2 t)
      have HB := Lib.hid hb
      have HO := Lib.hid hown
      have q1 : ((t : Int) % 256) = (t : Int) := by omega
      clear hb hown
      go_wp2_with fail
      refine (page_any b2 t _ h0 h1 (by omega) (by omega)).mono ?_
      rintro e w5 ⟨rfl, hb5⟩
      have HB5 := Lib.hid (below_step hb5 HB.out)
      have ho5 := ownsRow_touch HO.out (F := []) (Touch.of_below hb5) (by simp)
      have hs5 := hb5.size
      have HO5 := Lib.hid ho5
      clear hb5 ho5
      go_wp2_with (at_builtin; refine wpList_append_own _ rfl (.tmp 14) (.tmp 20) 22 rfl w1.heap.size 9 i0 (.string ⟨#[]⟩) 1 16 Try.underlying22 hi hz0 hz1 hz2 rfl (by decide) _ t (actC b2 t) rfl (HO5.out.alloc _) ⟨w5.heap.size, 0, none⟩ 1 1 [.string (pageB b2 t)] rfl rfl (cell_one_new _ _ _) (by intro u hu; simp at hu; subst hu; rfl) (by unfold maxLen; omega) (by omega) (by simp; omega) ?_; intro v' w6 hown' hgrow _; rw [HM.out] at hown'; have HO6 := Lib.hid hown'; have HB6 := Lib.hid ((below_alloc (o := .cells #[.string (pageB b2 t)] 9) HB5.out).grown hgrow (by simp; omega) (fun q hq => (HO5.out.lt q hq).1)); clear hown' hgrow)
      go_roundw
      case rel => exact ⟨t + 1, by omega, by go_num, HO6.out, HB6.out⟩
      case measure => simp [intOf]; omega
    · obtain rfl : t = T := by omega
      have HO := Lib.hid (row_base hown (by omega : w.heap.size ≤ w1.heap.size))
      have HB := Lib.hid (hb1.trans (hb.mono (by omega)))
      clear hown hb hb1
      go_wp2_with fail
      go_ret
      exact ⟨_, rfl, HO.out, HB.out⟩
end Go.Proofs.Ytfnfapgmicmegaa
