/- The reference's Same. -/
import Derived.Test.YtfnfapgmicmegaaRef9U
namespace Go.Proofs.Ytfnfapgmicmegaa
open Go.RowKit Go.Joins
set_option linter.unusedVariables false

/-- One transaction's cells. -/
theorem TxRowR.get {w : World} {base n c : Nat} {a : Option Addr} {ts : List TxD} (h : TxRowR w base (.slice a n c) ts) (hn : n = ts.length) {i : Nat} {y : TxD} (hy : ts[i]? = some y) :
    ∃ g p k, a = some ⟨g, 0, none⟩ ∧ w.cell? ⟨g, i * 2, none⟩ = some (.int .u64 y.1) ∧ w.cell? ⟨g, i * 2 + 1, none⟩ = some (.slice p y.2.length k) ∧
      (∀ (j : Nat) s, y.2[j]? = some s → ∃ h, p = some ⟨h, 0, none⟩ ∧ w.cell? ⟨h, j, none⟩ = some (.string s)) := by
  obtain ⟨vs, hrow, heach⟩ := h
  have hlt : i < ts.length := (List.getElem?_eq_some_iff.1 hy).1
  obtain ⟨x, hx⟩ : ∃ x, vs[i]? = some x := ⟨vs[i]'(by rw [heach.1]; exact hlt), List.getElem?_eq_getElem _⟩
  obtain ⟨hxy, hpg⟩ := heach.2 i x y hx hy
  rw [← hn] at hrow
  obtain ⟨g, cap, e⟩ := ownsRow_form hrow (by omega)
  injection e with e1 e2 e3
  subst e1 e3
  obtain ⟨t1, t2⟩ := txCells_get hx
  have hc1 := hrow.cells (g := g) rfl _ _ t1
  have hc2 := hrow.cells (g := g) rfl _ _ t2
  rw [add_zero_addr] at hc1 hc2
  rw [hxy] at hc1
  rcases ownsRow_forms hpg with ⟨e, h0⟩ | ⟨h, cap, e⟩
  · rw [e] at hc2
    refine ⟨g, none, 0, rfl, hc1, by rw [h0]; exact hc2, fun j s hs => ?_⟩
    have : j < y.2.length := (List.getElem?_eq_some_iff.1 hs).1
    omega
  · rw [e] at hc2 hpg
    refine ⟨g, _, cap, rfl, hc1, hc2, fun j s hs => ⟨h, rfl, ?_⟩⟩
    have := hpg.cells (g := h) rfl j (.string s) (by simp [hs])
    rwa [add_zero_addr] at this

set_option maxRecDepth 100000 in
set_option maxHeartbeats 8000000 in
theorem same_any {w : World} {b1 b2 n c1 c2 : Nat} {a1 a2 : Option Addr} {ts : List TxD} (h1 : TxRowR w b1 (.slice a1 n c1) ts) (h2 : TxRowR w b2 (.slice a2 n c2) ts) (hn : n = ts.length) (hts : ts.length ≤ 1000000) (hpl : ∀ y ∈ ts, y.2.length ≤ 1000000) :
    Calls Try.prog 17 #[.slice a1 n c1, .slice a2 n c2] w fun e w' => e = .returned (.bool true) ∧ Drawn w w' := by
  have H1 := Lib.hid h1
  have H2 := Lib.hid h2
  have HN := Lib.hid hn
  have hn1 : n ≤ 1000000 := by omega
  have hnn : ((n : Int) != (n : Int)) = false := by simp
  clear h1 h2 hn hts
  go_enter Try.func17, Try.ntmps17
  go_wp2_with fail
  go_loopw [5] (fun v wr => ∃ i : Nat, i ≤ n ∧ v = .int .i64 i ∧ Drawn w wr) (fun v _ => n - (intOf v).toNat)
  case atStart => exact ⟨0, Nat.zero_le _, rfl, Drawn.refl _⟩
  case round =>
    obtain ⟨i, hi, rfl, qd, rfl⟩ := hrel
    by_cases hlt : i < n
    · obtain ⟨y, hy⟩ : ∃ y, ts[i]? = some y := ⟨ts[i]'(by rw [← HN.out]; exact hlt), List.getElem?_eq_getElem _⟩
      have hym := hpl y (List.mem_of_getElem? hy)
      obtain ⟨g1, p1, k1, ha1, d1, d2, hs1⟩ := H1.out.get HN.out hy
      obtain ⟨g2, p2, k2, ha2, d3, d4, hs2⟩ := H2.out.get HN.out hy
      subst ha1 ha2
      obtain ⟨q, pg⟩ := y
      simp only at d1 d2 d3 d4 hs1 hs2 hym
      have qq : (q != q) = false := by simp
      obtain ⟨mm, hmm⟩ : ∃ mm : Nat, mm = pg.length := ⟨_, rfl⟩
      rw [← hmm] at d2 d4 hym
      have mmq : ((mm : Int) != (mm : Int)) = false := by simp
      have i1 : (0 : Int) ≤ i := by omega
      have i2 : (i : Int) < n := by omega
      have HS1 := Lib.hid hs1
      have HS2 := Lib.hid hs2
      have HM := Lib.hid hmm
      clear hy hs1 hs2 hmm
      go_wp2_with fail
      go_quiet (fail)
      go_wp2_with fail
      go_loopw [6] (fun v wr => ∃ k : Nat, k ≤ mm ∧ v = .int .i64 k ∧ Drawn w wr) (fun v _ => mm - (intOf v).toNat)
      case atStart => exact ⟨0, Nat.zero_le _, rfl, Drawn.twice _ _ _⟩
      case round =>
        obtain ⟨k, hk, rfl, qd2, rfl⟩ := hrel
        by_cases hkl : k < mm
        · obtain ⟨s, hs⟩ : ∃ s, pg[k]? = some s := ⟨pg[k]'(by rw [← HM.out]; exact hkl), List.getElem?_eq_getElem _⟩
          obtain ⟨h1', e1, f1⟩ := HS1.out k s hs
          obtain ⟨h2', e2, f2⟩ := HS2.out k s hs
          subst e1 e2
          have st := str_eq (rfl : s = s)
          have k1' : (0 : Int) ≤ k := by omega
          have k2' : (k : Int) < mm := by omega
          clear hs
          go_wp2_with fail
          go_quiet (fail)
          go_wp2_with fail
          go_roundw
          case rel => exact ⟨k + 1, by omega, by go_num, _, rfl⟩
          case measure => simp [intOf]; omega
        · obtain rfl : k = mm := by omega
          go_wp2_with fail
          go_roundw
          case rel => exact ⟨i + 1, by omega, by go_num, _, rfl⟩
          case measure => simp [intOf]; omega
    · obtain rfl : i = n := by omega
      go_wp2_with fail
      go_ret
      exact ⟨rfl, _, rfl⟩

end Go.Proofs.Ytfnfapgmicmegaa
