/- The contract of redo.joined. -/
import Derived.Test.YtfnfapgmicmegaaRedo1
import Derived.Test.YtfnfapgmicmegaaTail
namespace Go.Proofs.Ytfnfapgmicmegaa
open Go.RowKit Go.Joins
set_option linter.unusedVariables false

/-- What joined answers. -/
def JoinPost (l : List ByteArray) (w : World) (e : Ending) (w' : World) : Prop := ∃ r, e = .returned (.tuple #[.string r, .bool (joinOk l)]) ∧ (joinOk l = true → r = joinP l) ∧ Below w.heap.size w w'

theorem joinL_size (l : List ByteArray) (h : ∀ s ∈ l, s.size = 64) : (joinL l).size = l.length * 63 := by
  unfold joinL
  rw [S_size]
  induction l with
  | nil => rfl
  | cons s l ih =>
    simp only [List.map_cons, List.flatten_cons, List.length_append, List.length_cons]
    rw [ih (fun x hx => h x (by simp [hx])), data_length, untell_size s (h s (by simp))]
    omega
theorem joinOk_tell {l : List ByteArray} {j : Nat} {s : ByteArray} (hs : l[j]? = some s) (h : s.data.toList.getD 10 0 ≠ 0) : joinOk l = false := by
  unfold joinOk
  rw [Bool.and_eq_false_iff]
  left
  rw [List.all_eq_false]
  exact ⟨s, List.mem_of_getElem? hs, by simpa using h⟩
theorem joinOk_end {l : List ByteArray} (h : ∀ s ∈ l, s.data.toList.getD 10 0 = 0) : joinOk l = decide ((joinL l).extract 512 567 = S (nul 55)) := by
  unfold joinOk
  have : l.all (fun s => s.data.toList.getD 10 0 == 0) = true := by
    rw [List.all_eq_true]; intro s hs; simpa using h s hs
  rw [this, Bool.true_and]
theorem byte10 (s : ByteArray) (h : 10 < s.size) : s.data.toList.getD 10 0 = s[10] := by
  have : s.data.toList[10]? = some s[10] := by rw [List.getElem?_eq_getElem (by simpa using h)]; rfl
  simp [List.getD, this]
theorem takeL_snoc {α : Type} (l : List α) (j : Nat) {s : α} (h : l[j]? = some s) : l.take j ++ [s] = l.take (j + 1) := by
  rw [List.take_add_one, h]; rfl

set_option maxRecDepth 100000 in
set_option maxHeartbeats 4000000 in
theorem joined_any {w : World} {a : Option Addr} {c : Nat} {l : List ByteArray} (hl : l.length = 9) (hat : StrsAt w a l) (hz : ∀ s ∈ l, s.size = 64) :
    Calls Try.prog 51 #[.slice a 9 c] w (JoinPost l w) := by
  obtain ⟨b, off, rfl, hc⟩ : ∃ b off, a = some ⟨b, off, none⟩ ∧ ∀ (j : Nat) x, l[j]? = some x → w.cell? ⟨b, off + j, none⟩ = some (.string x) := by
    rcases hat with h | h
    · rw [h] at hl; cases hl
    · exact h
  have HC := Lib.hid hc
  have HL := Lib.hid hl
  clear hat hc hl
  go_enter Try.func51, Try.ntmps51
  go_wp2_with fail
  go_loopw [4, 6, 9] (fun v _ c wr => ∃ j : Nat, j ≤ 9 ∧ c = .int .i64 j ∧ v = .string (joinL (l.take j)) ∧ (∀ s ∈ l.take j, s.data.toList.getD 10 0 = 0) ∧ Drawn w wr) (fun _ _ c _ => 9 - (intOf c).toNat)
  case atStart => exact ⟨0, Nat.zero_le _, rfl, rfl, (by intro s hs; simp at hs), Drawn.refl _⟩
  case round =>
    obtain ⟨j, hj, rfl, rfl, htell, q, rfl⟩ := hrel
    have HT := Lib.hid htell
    clear htell
    by_cases hlt : j < 9
    · obtain ⟨s, hs⟩ : ∃ s, l[j]? = some s := ⟨l[j]'(by rw [HL.out]; exact hlt), List.getElem?_eq_getElem _⟩
      have hsz := hz s (List.mem_of_getElem? hs)
      have hcell : (w.drewN q).cell? ⟨b, off + j, none⟩ = some (.string s) := HC.out j s hs
      have s1 : 64 ≤ s.size := by omega
      have s2 : s.size ≤ 64 := by omega
      have s3 : 10 < s.size := by omega
      have SZ := Lib.hid hsz
      have HS := Lib.hid hs
      have jz := joinL_size (l.take j) (fun x hx => hz x (List.mem_of_mem_take hx))
      have jz2 : (joinL (l.take j)).size ≤ 567 := by rw [jz, List.length_take]; omega
      clear hsz hs jz
      by_cases h0 : s.data.toList.getD 10 0 = 0
      · have t0 : ((s[10].toNat : Int) != 0) = false := by rw [← byte10 s s3, h0]; rfl
        have H0 := Lib.hid h0
        clear h0
        have i1 : (10 : Int) ≤ (s.size : Int) := by omega
        have i2 : (11 : Int) ≤ (s.size : Int) := by omega
        have i3 : (0 : Int) ≤ 10 := by decide
        have k1 : ¬ (9223372036854775807 < min 10 s.size + (s.size - 11)) := by omega
        have k2 : ¬ (9223372036854775807 < (joinL (l.take j)).size + (min 10 s.size + (s.size - 11))) := by omega
        have hJ : joinL (l.take j) ++ (s.extract 0 10 ++ s.extract 11 s.size) = joinL (l.take (j + 1)) := by
          rw [← takeL_snoc l j HS.out, ← joinL_snoc, SZ.out]; rfl
        have HJ := Lib.hid hJ
        clear hJ
        go_wp2_with fail
        go_quiet (fail)
        go_wp2_with fail
        go_roundw
        case rel =>
          refine ⟨j + 1, by omega, by go_num, by rw [HJ.out], fun x hx => ?_, ⟨_, rfl⟩⟩
          rw [← takeL_snoc l j HS.out] at hx
          rcases List.mem_append.1 hx with hx | hx
          · exact HT.out x hx
          · simp at hx; subst hx; exact H0.out
        case measure => simp [intOf]; omega
      · have t0 : ((s[10].toNat : Int) != 0) = true := by
          rw [byte10 s s3] at h0
          simp only [bne_iff_ne, ne_eq]
          intro e
          apply h0
          apply UInt8.toNat_inj.1
          simpa using e
        have HF := Lib.hid (joinOk_tell HS.out h0)
        clear h0
        go_wp2_with fail
        go_ret2
        exact ⟨⟨#[]⟩, by rw [HF.out]; rfl, (by rw [HF.out]; intro h; cases h), below_drewN (Below.refl _ _) _⟩
    · obtain rfl : j = 9 := by omega
      have ht : l.take 9 = l := List.take_of_length_le (by rw [HL.out]; omega)
      rw [ht] at HT
      have jz := joinL_size l hz
      rw [HL.out] at jz
      have j1 : (joinL l).size ≤ 567 := by omega
      have j2 : 567 ≤ (joinL l).size := by omega
      have j3 : (0 : Int) ≤ 512 := by decide
      have j4 : (512 : Int) ≤ ((joinL l).size : Int) := by omega
      have hE := joinOk_end HT.out
      have HE := Lib.hid hE
      have JZ := Lib.hid jz
      have HTK := Lib.hid ht
      clear jz hE ht
      go_wp2_with fail
      rw [HTK.out]
      have hw1 : IntKind.i64.wrap (((joinL l).size : Int) - 512) = ((joinL l).size : Int) - 512 := IntWalk.i64_in _ (by omega)
      have hr : ∀ W, Calls Try.prog 26 #[.string ⟨#[0]⟩, .int .i64 (((joinL l).size : Int) - 512)] W fun e w' => e = .returned (.string (S (nul 55))) ∧ Below W.heap.size W w' := fun W => by
        have e55 : (((joinL l).size : Int) - 512).toNat = 55 := by omega
        have := repeat_nul (((joinL l).size : Int) - 512) W (by omega) (by omega)
        rwa [e55] at this
      have HR := Lib.hid hr
      have hjx : (joinL l).extract 512 (joinL l).size = (joinL l).extract 512 567 := by rw [JZ.out]
      have JX := Lib.hid hjx
      clear hr hjx
      by_cases heq : (joinL l).extract 512 567 = S (nul 55)
      · have st := str_eq heq
        rw [← JX.out] at st
        have HQ := Lib.hid heq
        clear heq
        refine wp_region_later (by kernel_rfl) (by kernel_rfl) ?_
        repeat (quiet_step ((go_at_call 26; refine Later.call (HR.out _))))
        refine wpQuiet_nil ?_
        intro _ hw'
        obtain ⟨⟨w6, hb6⟩, hw''⟩ := hw'
        subst hw''
        go_wp2_with fail
        go_ret2
        exact ⟨joinP l, by rw [HE.out, decide_eq_true HQ.out]; rfl, fun _ => rfl, below_step hb6 (below_drewN (Below.refl _ _) _)⟩
      · have st := str_ne heq
        rw [← JX.out] at st
        have HQ := Lib.hid heq
        clear heq
        refine wp_region_later (by kernel_rfl) (by kernel_rfl) ?_
        repeat (quiet_step ((go_at_call 26; refine Later.call (HR.out _))))
        refine wpQuiet_nil ?_
        intro _ hw'
        obtain ⟨⟨w6, hb6⟩, hw''⟩ := hw'
        subst hw''
        go_wp2_with fail
        go_ret2
        exact ⟨joinP l, by rw [HE.out, decide_eq_false HQ.out]; rfl, fun _ => rfl, below_step hb6 (below_drewN (Below.refl _ _) _)⟩

end Go.Proofs.Ytfnfapgmicmegaa
