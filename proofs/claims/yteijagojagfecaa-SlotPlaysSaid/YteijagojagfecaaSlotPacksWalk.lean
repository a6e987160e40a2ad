/- The walk of the law SlotPacks; its argument. -/
import Derived.Test.YteijagojagfecaaSlotPlainWalk
import Derived.Test.YteijagojagfecaaStructs
import Derived.ProofKit
namespace Go.Proofs.Yteijagojagfecaa
open Go.ChangeShapes Go.WideShapes Go.ChangeAt Go.RowKit Go.Deep Go.Joins
set_option linter.unusedVariables false

/-- Slots that came in. -/
structure SlotsIn (w : World) (a : Option Addr) (n c : Nat) (l : List SlotD) : Prop where
  len : n = l.length
  cap : n ≤ c
  cmax : c ≤ 9223372036854775807
  at_ : SlotsAt w a l
  size : ∀ x ∈ l, x.2.size ≤ 9223372036854775807

set_option maxRecDepth 100000 in
set_option maxHeartbeats 3200000 in
theorem slotPacks_walk {w : World} {a : Option Addr} {n c : Nat} {l : List SlotD} (h : SlotsIn w a n c l) :
    Calls Try.prog 4 #[.slice a n c] w fun e w' => e = .returned (.bool true) ∧ Below w.heap.size w w' := by
  obtain ⟨rfl, hc, hcm, hat, hz⟩ := h
  have H := Lib.hid hat
  have HZ := Lib.hid hz
  clear hat hz
  by_cases hbig : 1000 < l.length
  · have b1 : (1000 : Int) < l.length := by omega
    go_enter Try.func4, Try.ntmps4
    go_wp2_with fail
    refine (awake12_any _).mono ?_
    rintro e w1 ⟨rfl, hb1⟩
    have HB1 := Lib.hid hb1
    clear hb1
    go_wp2_with fail
    refine (awake12_any _).mono ?_
    rintro e w2 ⟨rfl, hb2⟩
    have HB2 := Lib.hid (below_step hb2 HB1.out)
    clear hb2
    go_wp2_with fail
    go_ret
    exact ⟨rfl, HB2.out⟩
  · have b1 : (l.length : Int) ≤ 1000 := by omega
    obtain ⟨i0, hi, hz0, hz1, hz2⟩ := info_parts Try.infoSlot
    go_enter Try.func4, Try.ntmps4
    go_wp2_with fail
    refine (awake12_any _).mono ?_
    rintro e w1 ⟨rfl, hb1⟩
    have HB1 := Lib.hid hb1
    clear hb1
    go_wp2_with fail
    go_loopw [3, 4] (fun v u wr => ∃ j : Nat, j ≤ l.length ∧ u = .int .i64 j ∧ SlotRow wr w.heap.size v (l.take j) ∧ Below w.heap.size w wr) (fun _ u _ => l.length - (intOf u).toNat)
    case atStart => exact ⟨0, Nat.zero_le _, rfl, SlotRow.nil _ _, HB1.out⟩
    case round =>
      obtain ⟨j, hj, rfl, hrow, hb⟩ := hrel
      have HB := Lib.hid hb
      by_cases hlt : j < l.length
      · obtain ⟨b, off, ha, hcell⟩ := H.out.some hlt
        have hx : l[j]? = some l[j] := List.getElem?_eq_getElem _
        obtain ⟨c0', c1'⟩ := hcell j _ hx
        have c0 := (hb.cell (p := ⟨b, off + j * 2, none⟩) (cell_lt c0')).trans c0'
        have c1 := (hb.cell (p := ⟨b, off + j * 2 + 1, none⟩) (cell_lt c1')).trans c1'
        have lb := cell_lt c0'
        have lb1 := cell_lt c0
        have HX := Lib.hid hx
        generalize l[j] = x at *
        clear hcell hx c0' c1' hb
        subst ha
        obtain ⟨u, s⟩ := x
        simp only at c0 c1
        have hown : wr.ownsRow w.heap.size 45 2 _ (l.take j).length (slotCells (l.take j)) := hrow
        have hsz := HB.out.size
        have hlen : (l.take j).length = j := by simp; omega
        rw [hlen] at hown
        have j1 : (0 : Int) ≤ j := by omega
        have j2 : (j : Int) < l.length := by omega
        have ag : ∀ g, Value.ownBlock u3 = some g → w.heap.size ≤ g := fun g hg => (hown.lt g hg).1
        have ab : Value.ownBlock u3 ≠ some b := fun e => by have := ag b e; omega
        have HAG := Lib.hid ag
        have HAB := Lib.hid ab
        have HTK := Lib.hid (take_next HX.out)
        clear hlen hrow ag ab
        have h63 : j + 1 ≤ maxLen := by unfold maxLen; omega
        go_wp2_with fail
        go_region_held3 (fun w' => w'.cell? ⟨b, off + j * 2, none⟩ = some (.bool u) ∧ w'.cell? ⟨b, off + j * 2 + 1, none⟩ = some (.string s))
          (first
            | go_keep
            | (go_split_ands
               refine ⟨?_, ?_⟩
               · (rw [hgrow.cell_far _ (by simp; omega) (Ne.symm HAB.out)]; assumption)
               · (rw [hgrow.cell_far _ (by simp; omega) (Ne.symm HAB.out)]; assumption)))
          ((refine step_append_lies _ (by rfl) _ _ _ (by rfl) w.heap.size 45 i0 _ 2 24 Try.underlying42 hi hz0 hz1 hz2 rfl (by omega) u3 j (slotCells (l.take j)) (by rfl) ((hown.alloc _).drew) ⟨wr.heap.size, 0, none⟩ 1 1 [.bool u, .string s] (by rfl) (by rfl) (World.news_of_block (cs := #[.bool u, .string s]) (t := 45) (fr := (0, 0)) (heap_alloc_new wr _)) (by simp [Value.oneCell']) (by omega) h63 (by omega) (by simp; omega) (wr.heap.size + 1) (by simp) ?_; intro gg cap w3 hown1 hgrow hat hlt'))
        rw [slotCells_snoc, HTK.out] at hown1
        have hl2 : (l.take (j + 1)).length = j + 1 := by simp; omega
        have HR1 : Hid (SlotRow w3 w.heap.size (.slice (some ⟨gg, 0, none⟩) (j + 1) cap) (l.take (j + 1))) := Lib.hid (by unfold SlotRow; rw [hl2]; exact hown1)
        have HB3 : Hid (Below w.heap.size w w3) := Lib.hid ((HB.out.alloc hsz _).drew.grown hgrow (by simp; omega) HAG.out)
        clear hown1 hgrow hat hl2
        go_wp2_with fail
        go_roundw
        case rel => exact ⟨j + 1, by omega, by go_num, HR1.out, HB3.out⟩
        case measure => simp [intOf]; omega
      · obtain rfl : j = l.length := by omega
        rw [List.take_length] at hrow
        obtain ⟨a2, c2, hv, hc2, hat2⟩ := hrow.form
        have HP := Lib.hid (pack_any hat2 hc2 (by omega) HZ.out)
        have HR := fun W (hbW : Below wr.heap.size wr W) => Lib.hid (rpack_any (c := c) ((H.out.below HB.out).below hbW) hc (by omega) hcm HZ.out)
        subst hv
        clear hrow hat2 hb
        go_wp2_with fail
        refine HP.out.mono ?_
        rintro e w3 ⟨rfl, hb3⟩
        have HB3 := Lib.hid hb3
        clear hb3
        go_wp2_with fail
        refine (HR w3 HB3.out).out.mono ?_
        rintro e w4 ⟨rfl, hb4⟩
        have HB4 := Lib.hid (below_step hb4 (below_step HB3.out HB.out))
        clear hb4
        go_wp2_with fail
        go_ret
        exact ⟨rfl, HB4.out⟩

section
variable {H : Type} {enc : TypeId × Value → H} {W : World}
theorem list_of12 {α : Type} : ∀ (n : Nat) (P : Nat → α → Prop), (∀ i, i < n → ∃ x, P i x) → ∃ l : List α, l.length = n ∧ ∀ (i : Nat) (x : α), l[i]? = some x → P i x
  | 0, P, _ => ⟨[], rfl, fun i x h => by simp at h⟩
  | n + 1, P, h => by
    obtain ⟨l, hl, hP⟩ := list_of12 n P (fun i hi => h i (by omega))
    obtain ⟨x, hx⟩ := h n (by omega)
    refine ⟨l ++ [x], by simp [hl], fun i y hy => ?_⟩
    by_cases hi : i < n
    · rw [List.getElem?_append_left (by omega)] at hy; exact hP i y hy
    · have hlt := (List.getElem?_eq_some_iff.1 hy).1
      simp [hl] at hlt
      obtain rfl : i = n := by omega
      rw [List.getElem?_append_right (by omega), hl] at hy
      simp at hy; subst hy; exact hx

set_option maxRecDepth 100000 in
theorem open_rslots {v : Value} {d : DataW H} {p : List MemPlace} (hv : Value.okWide Try.prog W .any 0 41 v) (h : DataW.Trod enc Try.prog W 0 (fun _ => true) true 41 v d p) :
    ∃ a n c l, v = .slice a n c ∧ SlotsIn W a n c l := by
  have mx : maxLen = 9223372036854775807 := rfl
  obtain ⟨a0, len0, cap0, rfl⟩ := okWide_slice Try.underlying41 hv
  obtain ⟨fuel, hf⟩ := h
  rcases open_slice_fields Try.underlying41 Try.underlying44 (by kernel_rfl) (by kernel_rfl) hf with ⟨e, _⟩ | ⟨a, len, cap, m, D, Pl, e, _, hl, hm, hmm, _, hi⟩
  · simp [Value.cells] at e
    obtain ⟨rfl, rfl, rfl⟩ := e
    exact ⟨_, _, _, [], rfl, rfl, by omega, by omega, .inl rfl, by simp⟩
  · simp [Value.cells] at e
    obtain ⟨rfl, rfl, rfl⟩ := e
    simp only [if_true] at hmm
    subst hmm
    by_cases h0 : len0 = 0
    · subst h0; exact ⟨_, _, _, [], rfl, rfl, by omega, by omega, .inl rfl, by simp⟩
    · obtain ⟨lb, off, sp⟩ := a
      have hs : sp = none := by
        obtain ⟨ys, n, _, _, _, hf⟩ := hi 0 (by omega)
        obtain ⟨v, y, hc, _⟩ := hf 0 _ rfl
        simpa [Addr.add] using World.cell?_spot hc
      subst hs
      obtain ⟨l, hl', hP⟩ := list_of12 len0 (fun i (x : SlotD) => (W.cell? ⟨lb, off + i * 2, none⟩ = some (.bool x.1) ∧ W.cell? ⟨lb, off + i * 2 + 1, none⟩ = some (.string x.2)) ∧ x.2.size ≤ 9223372036854775807) (fun i hlt => by
        obtain ⟨ys, n, _, _, _, hf⟩ := hi i (by omega)
        obtain ⟨v0, y0, c0, _, g0⟩ := hf 0 _ rfl
        obtain ⟨v1, y1, c1, _, g1⟩ := hf 1 _ rfl
        have ea : ∀ j : Nat, (⟨lb, off, none⟩ : Addr).add j = ⟨lb, off + j, none⟩ := fun j => by unfold Addr.add; split <;> simp_all
        rw [ea] at c0 c1
        obtain ⟨a0, e0, _⟩ := DataW.trod_bool Try.underlying4 g0
        obtain ⟨a1, e1, _, w1⟩ := DataW.trod_string Try.underlying9 g1
        simp only [List.cons.injEq, and_true] at e0 e1
        subst e0 e1
        exact ⟨(a0, a1), ⟨c0, c1⟩, w1⟩)
      exact ⟨_, _, _, l, rfl, hl'.symm, hl, by omega, .inr ⟨lb, off, rfl, fun i x hx => (hP i x hx).1⟩, fun x hx => by
        obtain ⟨i, hi⟩ := List.mem_iff_getElem?.1 hx
        exact (hP i x hi).2⟩
end

end Go.Proofs.Yteijagojagfecaa
