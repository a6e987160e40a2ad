/- The contracts of slot.Pack and what it calls. -/
import Derived.Test.YteijagojagfecaaSlotPlain
import Derived.Test.YteijagojagfecaaBuild
import Derived.Deep.DeepCutAuto
namespace Go.Proofs.Yteijagojagfecaa
open Go.RowKit Go.Joins
set_option linter.unusedVariables false

/-- The slots lie at an address (two cells each); an empty list has no place. -/
def SlotsAt (w : World) (a : Option Addr) (l : List SlotD) : Prop :=
  l = [] ∨ ∃ b off, a = some ⟨b, off, none⟩ ∧ ∀ (i : Nat) (x : SlotD), l[i]? = some x → w.cell? ⟨b, off + i * 2, none⟩ = some (.bool x.1) ∧ w.cell? ⟨b, off + i * 2 + 1, none⟩ = some (.string x.2)
theorem SlotsAt.below {w w' : World} {a : Option Addr} {l : List SlotD} (h : SlotsAt w a l) (hb : Below w.heap.size w w') : SlotsAt w' a l := by
  rcases h with h | ⟨b, off, ha, hc⟩
  · exact .inl h
  · exact .inr ⟨b, off, ha, fun i x hx => ⟨(hb.cell (p := ⟨b, off + i * 2, none⟩) (cell_lt (hc i x hx).1)).trans (hc i x hx).1, (hb.cell (p := ⟨b, off + i * 2 + 1, none⟩) (cell_lt (hc i x hx).2)).trans (hc i x hx).2⟩⟩
theorem SlotsAt.take {w : World} {a : Option Addr} {l : List SlotD} (h : SlotsAt w a l) (n : Nat) : SlotsAt w a (l.take n) := by
  rcases h with h | ⟨b, off, ha, hc⟩
  · exact .inl (by simp [h])
  · exact .inr ⟨b, off, ha, fun i x hx => hc i x (by
      rw [List.getElem?_take] at hx
      split at hx
      · exact hx
      · cases hx)⟩
theorem SlotsAt.some {w : World} {a : Option Addr} {l : List SlotD} (h : SlotsAt w a l) {k : Nat} (hk : k < l.length) : ∃ b off, a = some ⟨b, off, none⟩ ∧ ∀ (i : Nat) (x : SlotD), l[i]? = some x → w.cell? ⟨b, off + i * 2, none⟩ = some (.bool x.1) ∧ w.cell? ⟨b, off + i * 2 + 1, none⟩ = some (.string x.2) := by
  rcases h with h | h
  · rw [h] at hk; simp at hk
  · exact h

/-- The first index at which pr says yes; -1 where there is none. -/
def idxM (pr : SlotD → Bool) (l : List SlotD) : Int := if l.any pr then (l.findIdx pr : Nat) else -1
theorem idxM_hit {pr : SlotD → Bool} {l : List SlotD} {k : Nat} {x : SlotD} (hx : l[k]? = some x) (hp : pr x = true) (h : ∀ (j : Nat) (y : SlotD), j < k → l[j]? = some y → pr y = false) : idxM pr l = k := by
  obtain ⟨hk, rfl⟩ := List.getElem?_eq_some_iff.1 hx
  have h1 : l.any pr = true := List.any_eq_true.2 ⟨_, List.getElem_mem hk, hp⟩
  have h2 : l.findIdx pr = k := by
    rw [List.findIdx_eq hk]
    exact ⟨hp, fun j hj => h j _ hj (List.getElem?_eq_getElem _)⟩
  simp [idxM, h1, h2]
theorem idxM_none {pr : SlotD → Bool} {l : List SlotD} (h : ∀ (j : Nat) (y : SlotD), l[j]? = some y → pr y = false) : idxM pr l = -1 := by
  have h1 : l.any pr = false := by
    rw [List.any_eq_false]
    intro x hx
    obtain ⟨j, hj⟩ := List.mem_iff_getElem?.1 hx
    simp [h j x hj]
  simp [idxM, h1]

set_option maxRecDepth 100000 in
theorem large1_any (x : SlotD) (w : World) :
    Calls Try.prog 75 #[.agg #[.bool x.1, .string x.2]] w fun e w' => e = .returned (.bool (badB x)) ∧ Below w.heap.size w w' := by
  obtain ⟨u, s⟩ := x
  cases u
  · have F : Hid (badB (false, s) = !s.toList.isEmpty) := Lib.hid (by rw [ByteArray.toList_eq]; rfl)
    cases hs : s.toList.isEmpty
    · rw [hs] at F
      have hs' : s.toList.isEmpty = false := hs
      go_enter Try.func75, Try.ntmps75
      go_wp2_with fail
      go_ret
      rw [F.out]
      exact ⟨rfl, below_alloc (Below.refl _ _)⟩
    · rw [hs] at F
      go_enter Try.func75, Try.ntmps75
      go_wp2_with fail
      go_ret
      rw [F.out]
      exact ⟨rfl, below_alloc (Below.refl _ _)⟩
  · go_enter Try.func75, Try.ntmps75
    go_wp2_with fail
    go_ret
    exact ⟨rfl, below_alloc (Below.refl _ _)⟩

set_option maxRecDepth 100000 in
set_option maxHeartbeats 1000000 in
theorem indexFunc_any {w : World} {a : Option Addr} {l : List SlotD} {c : Nat} (h : SlotsAt w a l) (hm : l.length ≤ 9223372036854775807) (f : FuncId) (pr : SlotD → Bool)
    (HF : ∀ (x : SlotD) (W : World), Calls Try.prog f #[.agg #[.bool x.1, .string x.2]] W fun e w' => e = .returned (.bool (pr x)) ∧ Below W.heap.size W w')
    (HE : ∀ (args : Array Value) (W : World), (callFunc f args).run Try.prog W = .ok (.enter f args) W) :
    Calls Try.prog 67 #[.slice a l.length c, .func (Fn.func f) #[] #[]] w fun e w' => e = .returned (.int .i64 (idxM pr l)) ∧ Below w.heap.size w w' := by
  have H := Lib.hid h
  have HFF := Lib.hid HF
  clear h HF
  go_enter Try.func67, Try.ntmps67
  go_wp2_with fail
  go_loopw [5, 8] (fun _ v wr => ∃ k : Nat, k ≤ l.length ∧ v = .int .i64 k ∧ Below w.heap.size w wr ∧ ∀ j y, j < k → l[j]? = some y → pr y = false) (fun _ v _ => l.length - (intOf v).toNat)
  case atStart => exact ⟨0, Nat.zero_le _, rfl, Below.refl _ _, fun j y hj => absurd hj (by omega)⟩
  case round =>
    obtain ⟨k, hk, rfl, hb, hall⟩ := hrel
    have HA := Lib.hid hall
    clear hall
    by_cases hlt : k < l.length
    · obtain ⟨b, off, ha, hc⟩ := (H.out.below hb).some hlt
      have hx : l[k]? = some l[k] := List.getElem?_eq_getElem _
      obtain ⟨c0, c1⟩ := hc k _ hx
      have HX := Lib.hid hx
      have HB := Lib.hid hb
      generalize l[k] = x at *
      clear hc hx hb
      subst ha
      go_wp2_with fail
      refine (HFF.out x wr).mono ?_
      rintro e w1 ⟨rfl, hb1⟩
      have HB1 := Lib.hid (below_step hb1 HB.out)
      clear hb1
      cases hp : pr x
      · have HP := Lib.hid hp
        clear hp
        go_wp2_with fail
        go_roundw
        case rel =>
          refine ⟨k + 1, by omega, by go_num, HB1.out, fun j y hj hy => ?_⟩
          by_cases e : j = k
          · subst e; have := HX.out.symm.trans hy; cases this; exact HP.out
          · exact HA.out j y (by omega) hy
        case measure => simp [intOf]; omega
      · have F := Lib.hid (idxM_hit HX.out hp HA.out)
        clear hp
        go_wp2_with fail
        go_ret
        rw [F.out]
        exact ⟨rfl, HB1.out⟩
    · obtain rfl : k = l.length := by omega
      have F := Lib.hid (idxM_none (pr := pr) (l := l) fun j y hy => HA.out j y (List.getElem?_eq_some_iff.1 hy).1 hy)
      have HB := Lib.hid hb
      clear hb
      go_wp2_with fail
      go_ret
      rw [F.out]
      exact ⟨rfl, HB.out⟩

theorem idxM_any (pr : SlotD → Bool) (l : List SlotD) : (l.any pr = true ∧ 0 ≤ idxM pr l) ∨ (l.any pr = false ∧ idxM pr l = -1) := by
  unfold idxM
  cases h : l.any pr
  · exact .inr ⟨rfl, by simp⟩
  · exact .inl ⟨rfl, by simp⟩

set_option maxRecDepth 100000 in
set_option maxHeartbeats 1000000 in
theorem contains_any {w : World} {a : Option Addr} {l : List SlotD} {c : Nat} (h : SlotsAt w a l) (hm : l.length ≤ 9223372036854775807) :
    Calls Try.prog 74 #[.slice a l.length c, .func (Fn.func 75) #[] #[]] w fun e w' => e = .returned (.bool (l.any badB)) ∧ Below w.heap.size w w' := by
  have HI := Lib.hid (indexFunc_any (c := c) h hm 75 badB large1_any (fun args W => by kernel_rfl))
  have HM := Lib.hid (idxM_any badB l)
  clear h
  generalize l.length = n at *
  rcases HM.out with ⟨h1, h2⟩ | ⟨h1, h2⟩
  · rw [h1]
    clear h1
    go_enter Try.func74, Try.ntmps74
    go_wp2_with fail
    refine HI.out.mono ?_
    rintro e w1 ⟨rfl, hb1⟩
    go_wp2_with fail
    go_ret
    exact ⟨rfl, hb1⟩
  · rw [h1]
    rw [h2] at HI
    clear h1 h2
    go_enter Try.func74, Try.ntmps74
    go_wp2_with fail
    refine HI.out.mono ?_
    rintro e w1 ⟨rfl, hb1⟩
    go_wp2_with fail
    go_ret
    exact ⟨rfl, hb1⟩

set_option maxRecDepth 100000 in
set_option maxHeartbeats 1000000 in
theorem large_any {w : World} {a : Option Addr} {l : List SlotD} {c : Nat} (h : SlotsAt w a l) (hm : l.length ≤ 9223372036854775807) :
    Calls Try.prog 56 #[.slice a l.length c] w fun e w' => e = .returned (.int .i64 (if l.any badB then 2 else 8)) ∧ Below w.heap.size w w' := by
  have HI := Lib.hid (contains_any (c := c) h hm)
  clear h
  generalize l.length = n at *
  cases h1 : l.any badB
  · rw [h1] at HI
    clear h1
    go_enter Try.func56, Try.ntmps56
    go_wp2_with fail
    refine HI.out.mono ?_
    rintro e w1 ⟨rfl, hb1⟩
    go_wp2_with fail
    go_ret
    exact ⟨rfl, hb1⟩
  · rw [h1] at HI
    clear h1
    go_enter Try.func56, Try.ntmps56
    go_wp2_with fail
    refine HI.out.mono ?_
    rintro e w1 ⟨rfl, hb1⟩
    go_wp2_with fail
    go_ret
    exact ⟨rfl, hb1⟩

end Go.Proofs.Yteijagojagfecaa
