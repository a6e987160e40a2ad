/- plain, Same: slots as the document has them. -/
import Derived.Test.YteijagojagfecaaSlotRefRead
import Derived.Deep.RegionHeld3
import Derived.Deep.AppendLies
import Derived.BigQuiet
namespace Go.Proofs.Yteijagojagfecaa
open Go.RowKit Go.Joins
set_option linter.unusedVariables false

theorem take_next {l : List SlotD} {j : Nat} {u : Bool} {s : ByteArray} (h : l[j]? = some (u, s)) : l.take j ++ [(u, s)] = l.take (j + 1) := by
  obtain ⟨hj, e⟩ := List.getElem?_eq_some_iff.1 h
  rw [List.take_succ_eq_append_getElem hj, e]

set_option maxRecDepth 100000 in
set_option maxHeartbeats 3200000 in
theorem plain_any {w : World} {a : Option Addr} {l : List SlotD} {c : Nat} (h : SlotsAt w a l) (hm : l.length ≤ 1000000) :
    Calls Try.prog 49 #[.slice a l.length c] w fun e w' => ∃ v, e = .returned v ∧ RefRow w' w.heap.size v l ∧ Below w.heap.size w w' := by
  obtain ⟨i0, hi, hz0, hz1, hz2⟩ := info_parts Try.infoRSlot
  have H := Lib.hid h
  clear h
  go_enter Try.func49, Try.ntmps49
  go_wp2_with fail
  go_loopw [3, 4] (fun v u wr => ∃ j : Nat, j ≤ l.length ∧ u = .int .i64 j ∧ RefRow wr w.heap.size v (l.take j) ∧ Below w.heap.size w wr) (fun _ u _ => l.length - (intOf u).toNat)
  case atStart => exact ⟨0, Nat.zero_le _, rfl, RefRow.nil _ _, Below.refl _ _⟩
  case round =>
    obtain ⟨j, hj, rfl, hrow, hb⟩ := hrel
    have HB := Lib.hid hb
    by_cases hlt : j < l.length
    · obtain ⟨b, off, ha, hcell⟩ := H.out.some hlt
      have hx : l[j]? = some l[j] := List.getElem?_eq_getElem _
      obtain ⟨c0', c1'⟩ := hcell j _ hx
      have c0 := (hb.cell (p := ⟨b, off + j * 2, none⟩) (cell_lt c0')).trans c0'
      have c1 := (hb.cell (p := ⟨b, off + j * 2 + 1, none⟩) (cell_lt c1')).trans c1'
      have lb := cell_lt c0'
      have lb1 := cell_lt c0
      have HX := Lib.hid hx
      generalize l[j] = x at *
      clear hcell hx c0' c1' hb
      subst ha
      obtain ⟨u, s⟩ := x
      simp only at c0 c1
      have hown : wr.ownsRow w.heap.size 44 2 _ (l.take j).length (slotCells (l.take j)) := hrow
      have hsz := HB.out.size
      have hlen : (l.take j).length = j := by simp; omega
      rw [hlen] at hown
      have j1 : (0 : Int) ≤ j := by omega
      have j2 : (j : Int) < l.length := by omega
      have ag : ∀ g, Value.ownBlock u3 = some g → w.heap.size ≤ g := fun g hg => (hown.lt g hg).1
      have ab : Value.ownBlock u3 ≠ some b := fun e => by have := ag b e; omega
      have HAG := Lib.hid ag
      have HAB := Lib.hid ab
      have HTK := Lib.hid (take_next HX.out)
      clear hlen hrow ag ab
      have h63 : j + 1 ≤ maxLen := by unfold maxLen; omega
      go_wp2_with fail
      go_region_held3 (fun w' => w'.cell? ⟨b, off + j * 2, none⟩ = some (.bool u) ∧ w'.cell? ⟨b, off + j * 2 + 1, none⟩ = some (.string s))
        (first
          | go_keep
          | (go_split_ands
             refine ⟨?_, ?_⟩
             · (rw [hgrow.cell_far _ (by simp; omega) (Ne.symm HAB.out)]; assumption)
             · (rw [hgrow.cell_far _ (by simp; omega) (Ne.symm HAB.out)]; assumption)))
        ((refine step_append_lies _ (by rfl) _ _ _ (by rfl) w.heap.size 44 i0 _ 2 24 Try.underlying41 hi hz0 hz1 hz2 rfl (by omega) u3 j (slotCells (l.take j)) (by rfl) ((hown.alloc _).drew) ⟨wr.heap.size, 0, none⟩ 1 1 [.bool u, .string s] (by rfl) (by rfl) (World.news_of_block (cs := #[.bool u, .string s]) (t := 44) (fr := (0, 0)) (heap_alloc_new wr _)) (by simp [Value.oneCell']) (by omega) h63 (by omega) (by simp; omega) (wr.heap.size + 1) (by simp) ?_; intro gg cap w1 hown1 hgrow hat hlt'))
      rw [slotCells_snoc, HTK.out] at hown1
      have hl2 : (l.take (j + 1)).length = j + 1 := by simp; omega
      have HR1 : Hid (RefRow w1 w.heap.size (.slice (some ⟨gg, 0, none⟩) (j + 1) cap) (l.take (j + 1))) := Lib.hid (by unfold RefRow; rw [hl2]; exact hown1)
      have HB1 : Hid (Below w.heap.size w w1) := Lib.hid ((HB.out.alloc hsz _).drew.grown hgrow (by simp; omega) HAG.out)
      clear hown1 hgrow hat hl2
      go_wp2_with fail
      go_roundw
      case rel => exact ⟨j + 1, by omega, by go_num, HR1.out, HB1.out⟩
      case measure => simp [intOf]; omega
    · obtain rfl : j = l.length := by omega
      rw [List.take_length] at hrow
      have HR := Lib.hid hrow
      clear hrow hb
      go_wp2_with fail
      go_ret
      exact ⟨_, rfl, HR.out, HB.out⟩

/-- Two equal lists are the same. -/
theorem same_any {w : World} {a b : Option Addr} {l : List SlotD} {c1 c2 : Nat} (h1 : SlotsAt w a l) (h2 : SlotsAt w b l) (hm : l.length ≤ 1000000) :
    Calls Try.prog 48 #[.slice a l.length c1, .slice b l.length c2] w fun e w' => e = .returned (.bool true) ∧ Below w.heap.size w w' := by
  have H1 := Lib.hid h1
  have H2 := Lib.hid h2
  clear h1 h2
  go_enter Try.func48, Try.ntmps48
  go_wp2_with fail
  go_loopw [5] (fun v wr => ∃ j q : Nat, j ≤ l.length ∧ v = .int .i64 j ∧ wr = w.drewN q) (fun v _ => l.length - (intOf v).toNat)
  case atStart => exact ⟨0, 0, Nat.zero_le _, rfl, rfl⟩
  case round =>
    obtain ⟨j, q, hj, rfl, rfl⟩ := hrel
    by_cases hlt : j < l.length
    · obtain ⟨b1, off1, ha1, hcell1⟩ := H1.out.some hlt
      obtain ⟨b2, off2, ha2, hcell2⟩ := H2.out.some hlt
      have hx : l[j]? = some l[j] := List.getElem?_eq_getElem _
      obtain ⟨c0, c1⟩ := hcell1 j _ hx
      obtain ⟨d0, d1⟩ := hcell2 j _ hx
      generalize l[j] = x at *
      clear hcell1 hcell2 hx
      subst ha1 ha2
      have j1 : (0 : Int) ≤ j := by omega
      have j2 : (j : Int) < l.length := by omega
      go_wp2_with fail
      go_quiet (fail)
      go_wp2_with fail
      go_roundw
      case rel => exact ⟨j + 1, _, by omega, by go_num, rfl⟩
      case measure => simp [intOf]; omega
    · obtain rfl : j = l.length := by omega
      go_wp2_with fail
      go_ret
      exact ⟨rfl, below_drewN' (Below.refl _ _) _⟩

end Go.Proofs.Yteijagojagfecaa
