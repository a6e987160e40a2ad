/- The law's plain, and the reference's Same. -/
import Derived.Test.YtfnfapgmicmegaaRef9T
import Derived.Deep.RegionHeld3
import Derived.Deep.AppendLies
namespace Go.Proofs.Ytfnfapgmicmegaa
open Go.RowKit Go.Joins
set_option linter.unusedVariables false

theorem txCells_get {vs : List (Int × Value)} {i : Nat} {x : Int × Value} (h : vs[i]? = some x) : (txCells vs)[i * 2]? = some (.int .u64 x.1) ∧ (txCells vs)[i * 2 + 1]? = some x.2 := by
  induction vs generalizing i with
  | nil => simp at h
  | cons y vs ih =>
    have e : txCells (y :: vs) = .int .u64 y.1 :: y.2 :: txCells vs := rfl
    cases i with
    | zero => simp at h; subst h; exact ⟨rfl, rfl⟩
    | succ i =>
      have := ih (i := i) (by simpa using h)
      rw [e, show (i + 1) * 2 = i * 2 + 1 + 1 by omega]
      exact this
theorem add_zero_addr (g j : Nat) : (⟨g, 0, none⟩ : Addr).add j = ⟨g, j, none⟩ := by unfold Addr.add; split <;> simp_all

set_option maxRecDepth 100000 in
set_option maxHeartbeats 4000000 in
theorem plain_any {w : World} {base n c : Nat} {a : Option Addr} {ts : List TxD} (h : TxRow w base (.slice a n c) ts) (hn : n = ts.length) (hts : ts.length ≤ 1000000) (hbase : base ≤ w.heap.size) :
    Calls Try.prog 18 #[.slice a n c] w fun e w' => ∃ a' c', e = .returned (.slice a' n c') ∧ TxRowR w' base (.slice a' n c') ts ∧ Below w.heap.size w w' := by
  obtain ⟨vs, hrow, heach⟩ := h
  have hvl := heach.1
  have HROW := Lib.hid hrow
  have HEACH := Lib.hid heach
  have HN := Lib.hid hn
  have HVL := Lib.hid hvl
  have hn1 : n ≤ 1000000 := by omega
  obtain ⟨i0, hi, hz0, hz1, hz2⟩ := info_parts Try.infoTxnR
  clear hrow heach hn hvl hts
  go_enter Try.func18, Try.ntmps18
  go_wp2_with fail
  go_loopw [3, 4] (fun u v wr => ∃ j : Nat, j ≤ n ∧ v = .int .i64 j ∧ wr.ownsRow w.heap.size 77 2 u j (txCells (vs.take j)) ∧ Below w.heap.size w wr) (fun _ v _ => n - (intOf v).toNat)
  case atStart => exact ⟨0, Nat.zero_le _, rfl, World.ownsRow_nil _ _ _ _, Below.refl _ _⟩
  case round =>
    obtain ⟨j, hj, rfl, hown, hb⟩ := hrel
    have hszr := hb.size
    by_cases hlt : j < n
    · obtain ⟨x, hx⟩ : ∃ x, vs[j]? = some x := ⟨vs[j]'(by rw [HVL.out, ← HN.out]; exact hlt), List.getElem?_eq_getElem _⟩
      obtain ⟨y, hy⟩ : ∃ y, ts[j]? = some y := ⟨ts[j]'(by rw [← HN.out]; exact hlt), List.getElem?_eq_getElem _⟩
      obtain ⟨hxy, hpg⟩ := HEACH.out.2 j x y hx hy
      obtain ⟨q, v⟩ := x
      have hform : ∃ a' n' c', v = .slice a' n' c' := by
        rcases ownsRow_forms hpg with ⟨e, _⟩ | ⟨g, cap, e⟩ <;> exact ⟨_, _, _, e⟩
      obtain ⟨a', n', c', rfl⟩ := hform
      have hrow' := HROW.out
      rw [← HN.out] at hrow'
      obtain ⟨g, cap, e⟩ := ownsRow_form hrow' (by omega)
      injection e with e1 e2 e3
      subst e1 e3
      have hg := (hrow'.lt g rfl).2
      obtain ⟨t1, t2⟩ := txCells_get hx
      have hc1 := hrow'.cells (g := g) rfl _ _ t1
      have hc2 := hrow'.cells (g := g) rfl _ _ t2
      rw [add_zero_addr] at hc1 hc2
      have d1 := (hb.cell (p := ⟨g, j * 2, none⟩) hg).trans hc1
      have d2 := (hb.cell (p := ⟨g, j * 2 + 1, none⟩) hg).trans hc2
      simp only at d1 d2
      have HTK := Lib.hid (by rw [txCells_snoc, takeL_snoc vs j hx] : txCells (vs.take j) ++ [.int .u64 q, .slice a' n' c'] = txCells (vs.take (j + 1)))
      have ag : ∀ q, Value.ownBlock u3 = some q → w.heap.size ≤ q := fun q hq => (hown.lt q hq).1
      have ab : Value.ownBlock u3 ≠ some g := fun e => by have := ag g e; omega
      have HAG := Lib.hid ag
      have HAB := Lib.hid ab
      have HB := Lib.hid hb
      have HO := Lib.hid hown
      have j1 : (0 : Int) ≤ j := by omega
      have j2 : (j : Int) < n := by omega
      have h63 : j + 1 ≤ maxLen := by unfold maxLen; omega
      have hgr : g < wr.heap.size := Nat.lt_of_lt_of_le hg hszr
      clear hx hy hxy hpg hrow' hc1 hc2 t1 t2 ag ab hb hown
      go_wp2_with fail
      go_region_held3 (fun w' => w'.cell? ⟨g, j * 2, none⟩ = some (.int .u64 q) ∧ w'.cell? ⟨g, j * 2 + 1, none⟩ = some (.slice a' n' c'))
        (first
          | go_keep
          | (go_split_ands
             refine ⟨?_, ?_⟩
             · (rw [hgrow.cell_far _ (by simp; omega) (Ne.symm HAB.out)]; assumption)
             · (rw [hgrow.cell_far _ (by simp; omega) (Ne.symm HAB.out)]; assumption)))
        ((refine step_append_lies _ (by rfl) _ _ _ (by rfl) w.heap.size 77 i0 _ 2 32 Try.underlying40 hi hz0 hz1 hz2 rfl (by omega) u3 j (txCells (vs.take j)) (by rfl) ((HO.out.alloc _).drew) ⟨wr.heap.size, 0, none⟩ 1 1 [.int .u64 q, .slice a' n' c'] (by rfl) (by rfl) (World.news_of_block (cs := #[.int .u64 q, .slice a' n' c']) (t := 77) (fr := (0, 0)) (heap_alloc_new wr _)) (by simp [Value.oneCell']) (by omega) h63 (by omega) (by simp; omega) (wr.heap.size + 1) (by simp) ?_; intro gg cap w3 hown1 hgrow hat hlt'))
      rw [HTK.out] at hown1
      have HO1 := Lib.hid hown1
      have HB3 : Hid (Below w.heap.size w w3) := Lib.hid ((HB.out.alloc hszr _).drew.grown hgrow (by simp; omega) HAG.out)
      clear hown1 hgrow hat
      go_wp2_with fail
      go_roundw
      case rel => exact ⟨j + 1, by omega, by go_num, HO1.out, HB3.out⟩
      case measure => simp [intOf]; omega
    · obtain rfl : j = n := by omega
      have htk : vs.take j = vs := List.take_of_length_le (by rw [HVL.out, HN.out]; omega)
      rw [htk] at hown
      have hform : ∃ a' c', u3 = .slice a' j c' := by
        rcases ownsRow_forms hown with ⟨e, h0⟩ | ⟨g, cap, e⟩
        · exact ⟨none, 0, by rw [h0]; exact e⟩
        · exact ⟨_, _, e⟩
      obtain ⟨a', c', rfl⟩ := hform
      have HO := Lib.hid hown
      have HB := Lib.hid hb
      clear hown hb htk
      go_wp2_with fail
      go_ret
      refine ⟨a', c', rfl, ⟨vs, ?_, HEACH.out.touch (F := []) (Touch.of_below HB.out) (fun _ h => by cases h)⟩, HB.out⟩
      rw [← HN.out]
      exact ownsRow_le HO.out hbase

end Go.Proofs.Ytfnfapgmicmegaa
