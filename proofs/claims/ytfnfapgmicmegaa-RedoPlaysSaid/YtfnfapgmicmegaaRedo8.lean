/- redo's small methods, and the law's Page. -/
import Derived.Test.YtfnfapgmicmegaaRedo7
namespace Go.Proofs.Ytfnfapgmicmegaa
open Go.RowKit Go.Joins
set_option linter.unusedVariables false

section
variable {w : World} {d lb : Nat} {l : LM}
set_option maxRecDepth 100000 in
theorem left_any (h : LogAt w lb d l) (hat : l.at_ ≤ l.size) (hsz : l.size ≤ 1000000) (hd : l.dead = false) :
    Calls Try.prog 11 #[.pointer (some ⟨lb, 0, none⟩)] w fun e w' => e = .returned (.int .i64 ((l.size - l.at_ : Nat) : Int)) ∧ Drawn w w' := by
  obtain ⟨c0, c1, c2, c3, c4, c5⟩ := h.cell
  rw [hd] at c5
  obtain ⟨r, hr⟩ : ∃ r : Nat, r = l.size - l.at_ := ⟨_, rfl⟩
  have y : IntKind.i64.wrap ((l.size : Int) - (l.at_ : Int)) = (r : Int) := by rw [IntKind.wrap_i64]; omega
  rw [← hr]
  clear h hr hd
  go_enter Try.func11, Try.ntmps11
  go_wp2_with fail
  go_quiet (fail)
  go_wp2_with fail
  go_ret
  exact ⟨rfl, _, rfl⟩
set_option maxRecDepth 100000 in
theorem left_dead (h : LogAt w lb d l) (hd : l.dead = true) :
    Calls Try.prog 11 #[.pointer (some ⟨lb, 0, none⟩)] w fun e w' => e = .returned (.int .i64 0) ∧ Drawn w w' := by
  obtain ⟨c0, c1, c2, c3, c4, c5⟩ := h.cell
  rw [hd] at c5
  clear h hd
  go_enter Try.func11, Try.ntmps11
  go_wp2_with fail
  go_ret
  exact ⟨rfl, Drawn.refl _⟩
theorem left_nil (w : World) : Calls Try.prog 11 #[.pointer none] w fun e w' => e = .returned (.int .i64 0) ∧ w = w' := by
  go_enter Try.func11, Try.ntmps11
  go_wp2_with fail
  go_ret
  exact ⟨rfl, rfl⟩
theorem next_any (h : LogAt w lb d l) : Calls Try.prog 12 #[.pointer (some ⟨lb, 0, none⟩)] w fun e w' => e = .returned (.int .u64 l.next) ∧ w = w' := by
  obtain ⟨c0, c1, c2, c3, c4, c5⟩ := h.cell
  clear h
  go_enter Try.func12, Try.ntmps12
  go_wp2_with fail
  go_ret
  exact ⟨rfl, rfl⟩
theorem next_nil (w : World) : Calls Try.prog 12 #[.pointer none] w fun e w' => e = .returned (.int .u64 0) ∧ w = w' := by
  go_enter Try.func12, Try.ntmps12
  go_wp2_with fail
  go_ret
  exact ⟨rfl, rfl⟩
theorem restart_nil (w : World) : Calls Try.prog 13 #[.pointer none] w fun e w' => e = .returned (.int .i64 1) ∧ w = w' := by
  go_enter Try.func13, Try.ntmps13
  go_wp2_with fail
  go_ret
  exact ⟨rfl, rfl⟩
theorem restart_dead (h : LogAt w lb d l) (hd : l.dead = true) : Calls Try.prog 13 #[.pointer (some ⟨lb, 0, none⟩)] w fun e w' => e = .returned (.int .i64 17) ∧ w = w' := by
  obtain ⟨c0, c1, c2, c3, c4, c5⟩ := h.cell
  rw [hd] at c5
  clear h hd
  go_enter Try.func13, Try.ntmps13
  go_wp2_with fail
  go_ret
  exact ⟨rfl, rfl⟩
theorem restart_any (h : LogAt w lb d l) (hd : l.dead = false) : Calls Try.prog 13 #[.pointer (some ⟨lb, 0, none⟩)] w fun e w' => e = .returned (.int .i64 0) ∧ LogAt w' lb d { l with at_ := 0 } ∧ Touch [lb] w w' := by
  obtain ⟨c0, c1, c2, c3, c4, c5⟩ := h.cell
  have f3 := h.frozen 3
  rw [hd] at c5
  have H := Lib.hid h
  clear h hd
  go_enter Try.func13, Try.ntmps13
  go_wp2_with fail
  go_ret
  refine ⟨rfl, ?_, (Touch.refl _ _).setCell (.inl (by simp)) _⟩
  refine World.rowIs.congr (World.rowIs.set H.out 3 (.int .i64 0)) (fun t ht => ?_)
  rcases t with _ | _ | _ | _ | _ | _ | t
  · rfl
  · rfl
  · rfl
  · rfl
  · rfl
  · rfl
  · omega
end

/-! Page. -/
def pageAt (a b : Int) (t : Nat) : Int := (a + b * (t : Int)) % 256
def pageB (a b : Int) : ByteArray := S ((List.range 512).map fun t => UInt8.ofNat (pageAt a b t).toNat)
theorem pageB_size (a b : Int) : (pageB a b).size = 512 := by unfold pageB; rw [S_size]; simp
theorem pageAt_bd (a b : Int) (t : Nat) : 0 ≤ pageAt a b t ∧ pageAt a b t < 256 := by unfold pageAt; omega
theorem pageAt_walk (a b : Int) (t : Nat) : (a + b * ((t : Int) % 256)) % 256 = pageAt a b t := by
  unfold pageAt
  have h : (b * ((t : Int) % 256)) % 256 = (b * t) % 256 := by rw [Int.mul_emod, Int.emod_emod, ← Int.mul_emod]
  generalize b * ((t : Int) % 256) = x at *
  generalize b * (t : Int) = y at *
  omega

theorem Try.infoByteP : (Try.prog.info? 5).map (fun i => (i.zero, i.size, i.bytes)) = some (some (.int .u8 0), 1, 1) := by kernel_rfl
set_option maxRecDepth 100000 in
set_option maxHeartbeats 1000000 in
theorem page_any (a b : Int) (w : World) (h0 : 0 ≤ a) (h1 : a ≤ 255) (g0 : 0 ≤ b) (g1 : b ≤ 255) :
    Calls Try.prog 10 #[.int .u8 a, .int .u8 b] w fun e w' => e = .returned (.string (pageB a b)) ∧ Below w.heap.size w w' := by
  obtain ⟨i0, hi, hz0, hz1, hz2⟩ := info_parts Try.infoByteP
  go_enter Try.func10, Try.ntmps10
  go_wp2_with (at_make; refine wpList_make_full _ rfl (.const (.int .i64 512)) (.const (.int .i64 512)) 71 rfl w.heap.size 5 i0 (.int .u8 0) 1 Try.underlying71 hi hz0 hz1 .i64 .i64 512 512 512 rfl rfl rfl rfl (by rw [hz2]; omega) (by unfold maxLen; omega) (Nat.le_refl _) ?_; intro w1 hown hgr)
  have hb : Below w.heap.size w w1 := (Below.refl _ _).grown hgr (Nat.le_refl _) (by intro k h; cases h)
  clear hgr
  go_loopw [6] (fun c wr => ∃ j : Nat, j ≤ 512 ∧ c = .int .i64 j ∧ wr.ownsRow w.heap.size 5 1 (.slice (some ⟨w.heap.size, 0, none⟩) 512 512) 512 (fillF 512 j (fun t => .int .u8 (pageAt a b t)) (.int .u8 0)) ∧ Below w.heap.size w wr) (fun c _ => 512 - (intOf c).toNat)
  case atStart =>
    refine ⟨0, Nat.zero_le _, rfl, ?_, hb⟩
    rw [fillF_zero]
    have e1 := toList_madeCells_one (Value.int .u8 0) 512
    have e2 : (Value.int .u8 0).cells = #[Value.int .u8 0] := rfl
    rw [e2, Nat.mul_one, e1] at hown
    exact hown
  case round =>
    clear hown hb
    obtain ⟨j, hj, rfl, hown, hb⟩ := hrel
    by_cases hlt : j < 512
    · have hf := hown.frozenAt j
      have hcell : wr.cell? ⟨w.heap.size, j, none⟩ = some (.int .u8 0) := by rw [hown.cellAt j (by omega), fillF_get _ _ _ _ hlt]
      have hs := (hown.stored j (.int .u8 (pageAt a b j))).1
      rw [fillF_set 512 j (fun t => .int .u8 (pageAt a b t))] at hs
      have HS := Lib.hid hs
      have HW := Lib.hid (pageAt_walk a b j)
      have hmul : 0 ≤ b * ((j : Int) % 256) := Int.mul_nonneg g0 (by omega)
      clear hs
      go_wp2
      go_roundw
      case rel => exact ⟨j + 1, by omega, by go_num, by rw [HW.out]; exact HS.out, hb.setCell (by simp) _⟩
      case measure => simp [intOf]; omega
    · obtain rfl : j = 512 := by omega
      rw [fillF_all] at hown
      have hconv := run_convert_bytes_back (P := Try.prog) wr 71 9 5 ⟨w.heap.size, 0, none⟩ 512 ((List.range 512).map fun t => UInt8.ofNat (pageAt a b t).toNat) Try.underlying71 Try.underlying5 Try.underlying9 (by
        intro t ht
        have ht' : t < 512 := by simpa using ht
        have e1 : (⟨w.heap.size, 0, none⟩ : Addr).add t = ⟨w.heap.size, t, none⟩ := by unfold Addr.add; split <;> simp_all
        have hbd := pageAt_bd a b t
        have hm : (pageAt a b t).toNat % 256 = (pageAt a b t).toNat := by omega
        rw [e1, hown.cellAt t (by omega)]
        simp [ht', hm, Int.toNat_of_nonneg hbd.1])
      have e2 : ((List.range 512).map fun t => UInt8.ofNat (pageAt a b t).toNat).length = 512 := by simp
      rw [e2] at hconv
      have HC : (convert 71 9 (.slice (some ⟨w.heap.size, 0, none⟩) 512 512)).run Try.prog wr = .ok (.string (pageB a b)) wr := hconv
      clear hconv e2 hown
      go_wp2
      go_ret
      exact ⟨rfl, hb⟩

end Go.Proofs.Ytfnfapgmicmegaa
