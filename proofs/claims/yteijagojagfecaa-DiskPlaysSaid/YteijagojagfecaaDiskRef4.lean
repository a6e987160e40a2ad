/- The reference's disk: flushing, crashing. -/
import Derived.Test.YteijagojagfecaaDiskRef3
import Derived.Deep.RegionWith
import Derived.Test.YteijagojagfecaaTail
namespace Go.Proofs.Yteijagojagfecaa
open Go.RowKit Go.Maps Go.Joins
set_option linter.unusedVariables false

set_option maxRecDepth 100000 in
set_option maxHeartbeats 4000000 in
theorem rflush_any {w : World} {d : Nat} {wv : Value} {m : DM} (h : RefAt w d wv m) (hok : WaitOk m) (hz : SizeOk m) (hn : m.sure.length ≤ 65536) (hl : m.wait.length ≤ 1000000000) (hf : m.fuse ≤ 9223372036854775807) :
    Calls Try.prog 32 #[.pointer (some ⟨d, 0, none⟩)] w fun e w' => e = .returned (.int .i64 (flM m).1) ∧ GoesR w w' d (refB d wv) (flM m).2 := by
  obtain ⟨-, -, -, c4⟩ := h.cell
  by_cases hd : m.down = true
  · have F := Lib.hid (show flM m = (11, m) by simp [flM, hd])
    rw [hd] at c4
    clear hd
    go_enter Try.func32, Try.ntmps32
    go_wp2_with fail
    go_ret
    rw [F.out]
    exact ⟨rfl, GoesR.of_at h (Touch.refl [] _) (by simp)⟩
  · have hd : m.down = false := by simpa using hd
    rw [hd] at c4
    have hsp : flM m = if (burnM m).1 then (0, { (burnM m).2 with sure := flTo m.sure m.wait, wait := [] }) else (11, (burnM m).2) := by simp [flM, hd]
    have hB := burnM_wait m
    have HB := Lib.hid (rburn_any h hf)
    clear hd
    cases hbb : (burnM m).1
    · rw [hbb] at hsp HB
      have F := Lib.hid hsp
      clear hsp hB hbb
      go_enter Try.func32, Try.ntmps32
      go_wp2_with fail
      refine HB.out.mono ?_
      rintro e w1 ⟨rfl, hD1, ht1⟩
      go_wp2_with fail
      go_ret
      rw [F.out]
      exact ⟨rfl, GoesR.of_at hD1 ht1 (by simp [refB])⟩
    · rw [hbb] at hsp HB
      rw [← hB.1, ← hB.2] at hsp
      have hok1 : WaitOk (burnM m).2 := hok.of_eq hB.1 hB.2
      have hz1 : SizeOk (burnM m).2 := by unfold SizeOk; rw [hB.1, hB.2]; exact hz
      have hn1 : (burnM m).2.sure.length ≤ 65536 := by rw [hB.2]; exact hn
      have hl1 : (burnM m).2.wait.length ≤ 1000000000 := by rw [hB.1]; exact hl
      have F := Lib.hid hsp
      clear hsp hbb hB hok hz hn hl
      go_enter Try.func32, Try.ntmps32
      go_wp2_with fail
      refine HB.out.mono ?_
      rintro e w1 ⟨rfl, hD1, ht1⟩
      clear HB c4 hf
      have HT1 := Lib.hid ht1
      clear ht1 h
      generalize (burnM m).2 = m1 at *
      have hform := ownsRow_forms hD1.wait
      obtain ⟨a, n, cap, hv⟩ : ∃ a n cap, wv = .slice a n cap := by rcases hform with ⟨e, _⟩ | ⟨g, cap, e⟩ <;> exact ⟨_, _, _, e⟩
      have hnl : n = m1.wait.length := by
        rcases hform with ⟨e, h0⟩ | ⟨g, cap, e⟩
        · rw [hv] at e; cases e; omega
        · rw [hv] at e; cases e; rfl
      subst hnl
      have H0 := Lib.hid hD1
      have HF := Lib.hid hform
      have HV := Lib.hid hv
      clear hform hv hD1
      go_wp2_with fail
      go_loopw [3] (fun c wr => ∃ k : Nat, k ≤ m1.wait.length ∧ c = .int .i64 k ∧ RefAt wr d wv { m1 with sure := flTo m1.sure (m1.wait.take k) } ∧ Touch (refB d wv) w1 wr) (fun c _ => m1.wait.length - (intOf c).toNat)
      case atStart => exact ⟨0, Nat.zero_le _, rfl, H0.out, Touch.refl _ _⟩
      case round =>
        obtain ⟨k, hk, rfl, hD, ht⟩ := hrel
        have HTr := Lib.hid ht
        clear ht
        obtain ⟨c0, c1, -, -⟩ := hD.cell
        rw [HV.out] at c1
        by_cases hlt : k < m1.wait.length
        · obtain ⟨g, hg⟩ : ∃ g, a = some ⟨g, 0, none⟩ := by
            rcases HF.out with ⟨e, h0⟩ | ⟨g, cap', e⟩
            · omega
            · rw [HV.out] at e; cases e; exact ⟨g, rfl⟩
          subst hg
          obtain ⟨j, hj, hjl⟩ := hok1 m1.wait[k] (List.getElem_mem hlt)
          have hw := hD.wait
          rw [HV.out] at hw
          obtain ⟨e1, e2⟩ := waitCells_get m1.wait k m1.wait[k] (List.getElem?_eq_getElem hlt)
          have x1 := hw.cellAt (k * 2) (by show k * 2 < m1.wait.length * 2; omega)
          have x2 := hw.cellAt (k * 2 + 1) (by show k * 2 + 1 < m1.wait.length * 2; omega)
          rw [e1, hj] at x1
          rw [e2] at x2
          have hx : m1.wait[k] = ((j : Int), m1.wait[k].2) := by rw [← hj]
          have S1 : flTo m1.sure (m1.wait.take (k + 1)) = (flTo m1.sure (m1.wait.take k)).set j m1.wait[k].2 := by
            rw [List.take_succ_eq_append_getElem hlt, flTo_snoc, hx]; rfl
          have hs64 : m1.wait[k].2.size = 64 := hz1.2 _ (List.getElem_mem hlt)
          have hz64 : ∀ t ∈ flTo m1.sure (m1.wait.take k), t.size = 64 := flTo_mem _ _ hz1.1 (fun x hx => hz1.2 x (List.mem_of_mem_take hx))
          have hlen : (flTo m1.sure (m1.wait.take k)).length = m1.sure.length := flTo_length _ _
          have hput := img_put64 m1.wait[k].2 (j := j) (by rw [hlen]; exact hjl) hz64 hs64
          have hisz := imgM_size _ hz64
          rw [hlen] at hisz
          rw [← S1] at hput
          have HD := Lib.hid hD
          clear S1 hx e1 e2 hj hw hD hz64 hlen
          simp only at c0
          generalize hs1 : m1.wait[k].2 = s at *
          clear hs1
          have hcP := fun W => Lib.hid (rput_any (imgM (flTo m1.sure (m1.wait.take k))) s (j * 64) W (by omega) (by omega))
          have HP : ∀ W, Hid (Calls Try.prog 64 #[.string (imgM (flTo m1.sure (m1.wait.take k))), .int .i64 ((j : Int) * 64), .string s] W fun e w' => e = .returned (.string (imgM (flTo m1.sure (m1.wait.take (k + 1))))) ∧ ∃ q, w' = W.drewN q) := fun W => Lib.hid (by
            have := (hcP W).out
            rw [hput] at this
            have e : (((j * 64 : Nat)) : Int) = (j : Int) * 64 := by omega
            rw [e] at this
            exact this)
          have R := Lib.hid fun q => (HD.out.touch (F := []) ((Touch.refl [] wr).drewN q) (fun _ _ h => by cases h)).setSure (flTo m1.sure (m1.wait.take (k + 1)))
          clear hput hcP hisz
          generalize imgM (flTo m1.sure (m1.wait.take k)) = img at *
          have f0 := HD.out.frozen 0
          have j2 : (j : Int) < 65536 := by omega
          have j1 : (0 : Int) ≤ j := by omega
          have hwr : IntKind.i64.wrap ((j : Int) * 64) = (j : Int) * 64 := IntWalk.i64_in _ (by omega)
          go_wp2_with fail
          refine wp_region_tail (C := fun w' => ∃ n, w' = wr.drewN n) 25 (by kernel_rfl) (by kernel_rfl) ⟨1, rfl⟩ ?_
          simp only [List.take_succ_cons, List.take_zero, List.drop_succ_cons, List.drop_zero]
          repeat (quiet_step ((go_at_call 64; refine Calls.quiet_of (HP _).out)))
          refine wpQuiet_nil ?_
          intro _ hw'
          obtain ⟨nq, hw''⟩ := hw'
          subst hw''
          go_wp2
          go_roundw
          case rel => exact ⟨k + 1, by omega, by go_num, R.out _, (HTr.out.drewN _).setCell (.inl (by simp [refB])) _⟩
          case measure => simp [intOf]; omega
        · obtain rfl : k = m1.wait.length := by omega
          rw [List.take_of_length_le (Nat.le_refl _)] at hD
          have R := ref_settled hD
          have HR := Lib.hid R
          have f1 := hD.frozen 1
          clear R hD
          go_wp2_with fail
          go_ret
          rw [F.out]
          refine ⟨rfl, _, ⟨_, HR.out, rfl⟩, ?_, ?_⟩
          · refine ((HT1.out.mono (fun b hb => .inl ?_)).trans HTr.out (fun b hb => .inl hb)).setCell (p := ⟨d, 1, none⟩) (.inl (by simp [refB])) _
            simp at hb; subst hb; simp [refB]
          · intro b hb
            simp [refB, Value.ownBlock] at hb; subst hb; exact .inl (by simp [refB])

/-- What is written of a sector where the power goes. -/
theorem crV_ext (torn : Int) (n kn : Nat) (kf : Nat → Bool) (k : Nat) (s old : ByteArray) (hs : s.size = 64) (ho : old.size = 64) {nn : Nat}
    (h : nn = if (k : Int) = torn then n else if k < kn ∧ kf k = true then 64 else 0) : crV torn n kn kf k s old = s.extract 0 nn ++ old.extract nn old.size := by
  have e1 : s.extract 0 64 = s := by rw [← hs]; simp
  have e2 : old.extract 64 old.size = ByteArray.empty := by
    apply ByteArray.ext
    rw [ByteArray.data_extract]
    exact Array.extract_empty_of_size_le_start (by show old.size ≤ _; omega)
  subst h
  unfold crV
  split
  · rfl
  · split
    · rw [e1, e2, ByteArray.append_empty]
    · simp

theorem fuM_neg1 (m : DM) : fuM m (-1) = { m with fuse := -1 } := rfl

set_option maxRecDepth 100000 in
set_option maxHeartbeats 4000000 in
theorem rcrash_any {w : World} {d : Nat} {wv : Value} {m : DM} (h : RefAt w d wv m) (hok : WaitOk m) (hz : SizeOk m) (hn : m.sure.length ≤ 65536) (hl : m.wait.length ≤ 1000000000)
    {kc kn : Nat} {a0 : Option Addr} {kf : Nat → Bool} (torn b : Int) (hkeep : KeepAt w a0 kn kf) (n5 : ∀ b off, a0 = some ⟨b, off, none⟩ → 0 < kn → b ∉ refB d wv)
    (b1 : -9223372036854775808 ≤ b) (b2 : b ≤ 9223372036854775807) :
    Calls Try.prog 34 #[.pointer (some ⟨d, 0, none⟩), .slice a0 kn kc, .int .i64 torn, .int .i64 b] w fun e w' => e = .returned (.tuple #[]) ∧ GoesR w w' d (refB d wv) (crM m kn kf torn b) := by
  obtain ⟨n, hnn⟩ : ∃ n : Nat, min (max b 0) 64 = n := ⟨(min (max b 0) 64).toNat, by omega⟩
  have hn64 : n ≤ 64 := by omega
  have hm : crM m kn kf torn b = { sure := crN torn n kn kf m.wait m.sure m.wait.length, wait := [], fuse := -1, down := false } := by
    unfold crM; rw [hnn]; rfl
  have F := Lib.hid hm
  have HB := Lib.hid hnn
  clear hm hnn
  have hform := ownsRow_forms h.wait
  obtain ⟨a, nl, cap, hv⟩ : ∃ a n cap, wv = .slice a n cap := by rcases hform with ⟨e, _⟩ | ⟨g, cap, e⟩ <;> exact ⟨_, _, _, e⟩
  have hnl : nl = m.wait.length := by
    rcases hform with ⟨e, h0⟩ | ⟨g, cap, e⟩
    · rw [hv] at e; cases e; omega
    · rw [hv] at e; cases e; rfl
  subst hnl
  have H0 := Lib.hid h
  have HF := Lib.hid hform
  have HV := Lib.hid hv
  have HK := Lib.hid hkeep
  have HN := Lib.hid n5
  clear hform hv h hkeep n5
  go_enter Try.func34, Try.ntmps34
  go_upto_if 11 with (fail)
  go_cut [3] (fun s3 wx => (∃ c : Int, s3 = .int .i64 c ∧ 0 ≤ c ∧ min c 64 = n) ∧ w = wx)
  case first =>
    by_cases p1 : b < 0
    · have : n = 0 := by have := HB.out; omega
      subst this
      go_wp2_with fail
      go_meet
      case rel => exact ⟨⟨0, rfl, by omega, by omega⟩, rfl⟩
    · go_wp2_with fail
      go_meet
      case rel => exact ⟨⟨b, rfl, by omega, by have := HB.out; omega⟩, rfl⟩
  obtain ⟨⟨c, rfl, hc0, hc1⟩, rfl⟩ := hcut
  have HC := Lib.hid hc1
  clear hc1
  go_upto_if 13 with (fail)
  go_cut [3] (fun s3 wx => s3 = .int .i64 n ∧ w = wx)
  case first =>
    by_cases p1 : c > 64
    · have : n = 64 := by have := HC.out; omega
      subst this
      go_wp2_with fail
      go_meet
      case rel => exact ⟨rfl, rfl⟩
    · go_wp2_with fail
      go_meet
      case rel => exact ⟨by rw [show c = n by have := HC.out; omega], rfl⟩
  obtain ⟨rfl, rfl⟩ := hcut
  go_wp2_with fail
  go_loopw [8, 9] (fun c u wr => ∃ k : Nat, k ≤ m.wait.length ∧ c = .int .i64 k ∧ RefAt wr d wv { m with sure := crN torn n kn kf m.wait m.sure k } ∧ Touch (refB d wv) w wr) (fun c _ _ => m.wait.length - (intOf c).toNat)
  case atStart => exact ⟨0, Nat.zero_le _, rfl, H0.out, Touch.refl _ _⟩
  case round =>
    obtain ⟨k, hk, rfl, hD, ht⟩ := hrel
    have HTr := Lib.hid ht
    obtain ⟨c0, c1, c2, c3⟩ := hD.cell
    rw [HV.out] at c1
    by_cases hlt : k < m.wait.length
    · obtain ⟨g, hg⟩ : ∃ g, a = some ⟨g, 0, none⟩ := by
        rcases HF.out with ⟨e, h0⟩ | ⟨g, cap', e⟩
        · omega
        · rw [HV.out] at e; cases e; exact ⟨g, rfl⟩
      subst hg
      obtain ⟨j, hj, hjl⟩ := hok m.wait[k] (List.getElem_mem hlt)
      have hw := hD.wait
      rw [HV.out] at hw
      obtain ⟨e1, e2⟩ := waitCells_get m.wait k m.wait[k] (List.getElem?_eq_getElem hlt)
      have x1 := hw.cellAt (k * 2) (by show k * 2 < m.wait.length * 2; omega)
      have x2 := hw.cellAt (k * 2 + 1) (by show k * 2 + 1 < m.wait.length * 2; omega)
      rw [e1, hj] at x1
      rw [e2] at x2
      have hx : m.wait[k] = ((j : Int), m.wait[k].2) := by rw [← hj]
      have hsz := crN_size torn n kn kf m hn64 hz k hk
      obtain ⟨old, hold⟩ : ∃ t, (crN torn n kn kf m.wait m.sure k)[j]? = some t := ⟨_, List.getElem?_eq_getElem (by rw [crN_length]; exact hjl)⟩
      have ho64 : old.size = 64 := hsz old (List.mem_of_getElem? hold)
      have hs64 : m.wait[k].2.size = 64 := hz.2 _ (List.getElem_mem hlt)
      have S1 : crN torn n kn kf m.wait m.sure (k + 1) = (crN torn n kn kf m.wait m.sure k).set j (crV torn n kn kf k m.wait[k].2 old) := crN_step torn n kn kf m.wait m.sure k j m.wait[k].2 old (by rw [List.getElem?_eq_getElem hlt]; exact congrArg some hx) hold
      have hlen : (crN torn n kn kf m.wait m.sure k).length = m.sure.length := crN_length _ _ _ _ _ _ _
      have hisz := imgM_size _ hsz
      rw [hlen] at hisz
      have HD := Lib.hid hD
      have f0 := hD.frozen 0
      simp only at c0
      generalize hs1 : m.wait[k].2 = s at *
      clear hs1 hx e1 e2 hj hw hD
      have HP : ∀ nn : Nat, nn ≤ 64 → Hid (nn = (if (k : Int) = torn then n else if k < kn ∧ kf k = true then 64 else 0) → ∀ W, Calls Try.prog 64 #[.string (imgM (crN torn n kn kf m.wait m.sure k)), .int .i64 ((j : Int) * 64), .string (s.extract 0 nn)] W fun e w' => e = .returned (.string (imgM (crN torn n kn kf m.wait m.sure (k + 1)))) ∧ ∃ q, w' = W.drewN q) := by
        intro nn hnn
        refine Lib.hid fun hh W => ?_
        have z : (s.extract 0 nn).size = nn := by rw [ByteArray.size_extract]; omega
        have hc := rput_any (imgM (crN torn n kn kf m.wait m.sure k)) (s.extract 0 nn) (j * 64) W (by omega) (by omega)
        rw [img_put _ hold hsz (by omega), z, ← crV_ext torn n kn kf k s old hs64 ho64 hh, ← S1] at hc
        have e : (((j * 64 : Nat)) : Int) = (j : Int) * 64 := by omega
        rw [e] at hc
        exact hc
      have R := Lib.hid fun q => (HD.out.touch (F := []) ((Touch.refl [] wr).drewN q) (fun _ _ h => by cases h)).setSure (crN torn n kn kf m.wait m.sure (k + 1))
      have HRel : ∀ q, Hid (∃ k_1 : Nat, k_1 ≤ m.wait.length ∧ Value.int .i64 ((k : Int) + 1) = .int .i64 k_1 ∧ RefAt ((wr.drewN q).setCell ⟨d, 0, none⟩ (.string (imgM (crN torn n kn kf m.wait m.sure (k + 1))))) d wv { m with sure := crN torn n kn kf m.wait m.sure k_1 } ∧ Touch (refB d wv) w ((wr.drewN q).setCell ⟨d, 0, none⟩ (.string (imgM (crN torn n kn kf m.wait m.sure (k + 1)))))) := fun q =>
        Lib.hid ⟨k + 1, by omega, by go_num, R.out q, (HTr.out.drewN _).setCell (.inl (by simp [refB])) _⟩
      clear S1 hold hsz ho64 hlen hisz
      generalize imgM (crN torn n kn kf m.wait m.sure k) = img at *
      have j2 : (j : Int) < 65536 := by omega
      have j1 : (0 : Int) ≤ j := by omega
      have hwr : IntKind.i64.wrap ((j : Int) * 64) = (j : Int) * 64 := IntWalk.i64_in _ (by omega)
      have z0 : (0 : Int) ≤ s.size := by omega
      have z1 : (64 : Int) ≤ s.size := by omega
      have z2 : (n : Int) ≤ s.size := by omega
      have z3 : (0 : Int) ≤ n := by omega
      have z4 : s.size ≤ 64 := by omega
      have z5 : n ≤ s.size := by omega
      clear hs64
      by_cases htt : (k : Int) = torn
      · have e0 : ((k : Int) == torn) = true := by simp [htt]
        by_cases hkn : k < kn
        · obtain ⟨b', off, rfl, hcell⟩ : ∃ b' off, a0 = some ⟨b', off, none⟩ ∧ ∀ i, i < kn → w.cell? ⟨b', off + i, none⟩ = some (.bool (kf i)) := by
            rcases HK.out with h0 | h0
            · omega
            · exact h0
          have c7 := (HTr.out.cell (p := ⟨b', off + k, none⟩) (cell_lt (hcell k hkn)) (HN.out b' off rfl (by omega))).trans (hcell k hkn)
          have k1 : (k : Int) < kn := by omega
          clear hcell
          cases hkk : kf k
          · have HPn := Lib.hid ((HP n hn64).out (by rw [if_pos htt]))
            rw [hkk] at c7
            clear hkk htt HP
            go_wp2_with fail
            refine wp_region_tail (C := fun w' => ∃ n, w' = wr.drewN n) 27 (by kernel_rfl) (by kernel_rfl) ⟨1, rfl⟩ ?_
            simp only [List.take_succ_cons, List.take_zero, List.drop_succ_cons, List.drop_zero]
            repeat (quiet_step ((go_at_call 64; with_reducible refine Calls.quiet_of (HPn.out _))))
            refine wpQuiet_nil ?_
            intro _ hw'
            obtain ⟨nq, hw''⟩ := hw'
            subst hw''
            go_wp2
            go_roundw
            case rel => exact (HRel _).out
            case measure => simp [intOf]; omega
          · have HPn := Lib.hid ((HP n hn64).out (by rw [if_pos htt]))
            rw [hkk] at c7
            clear hkk htt HP
            go_wp2_with fail
            refine wp_region_tail (C := fun w' => ∃ n, w' = wr.drewN n) 27 (by kernel_rfl) (by kernel_rfl) ⟨1, rfl⟩ ?_
            simp only [List.take_succ_cons, List.take_zero, List.drop_succ_cons, List.drop_zero]
            repeat (quiet_step ((go_at_call 64; with_reducible refine Calls.quiet_of (HPn.out _))))
            refine wpQuiet_nil ?_
            intro _ hw'
            obtain ⟨nq, hw''⟩ := hw'
            subst hw''
            go_wp2
            go_roundw
            case rel => exact (HRel _).out
            case measure => simp [intOf]; omega
        · have HPn := Lib.hid ((HP n hn64).out (by rw [if_pos htt]))
          have d1 : decide ((k : Int) < kn) = false := by simp; omega
          have d2 : decide (k < kn) = false := by simp; omega
          clear htt HP hkn
          go_wp2_with fail
          refine wp_region_tail (C := fun w' => ∃ n, w' = wr.drewN n) 27 (by kernel_rfl) (by kernel_rfl) ⟨1, rfl⟩ ?_
          simp only [List.take_succ_cons, List.take_zero, List.drop_succ_cons, List.drop_zero]
          repeat (quiet_step ((go_at_call 64; with_reducible refine Calls.quiet_of (HPn.out _))))
          refine wpQuiet_nil ?_
          intro _ hw'
          obtain ⟨nq, hw''⟩ := hw'
          subst hw''
          go_wp2
          go_roundw
          case rel => exact (HRel _).out
          case measure => simp [intOf]; omega
      · have e0 : ((k : Int) == torn) = false := by simp [htt]
        by_cases hkn : k < kn
        · obtain ⟨b', off, rfl, hcell⟩ : ∃ b' off, a0 = some ⟨b', off, none⟩ ∧ ∀ i, i < kn → w.cell? ⟨b', off + i, none⟩ = some (.bool (kf i)) := by
            rcases HK.out with h0 | h0
            · omega
            · exact h0
          have c7 := (HTr.out.cell (p := ⟨b', off + k, none⟩) (cell_lt (hcell k hkn)) (HN.out b' off rfl (by omega))).trans (hcell k hkn)
          have k1 : (k : Int) < kn := by omega
          clear hcell
          cases hkk : kf k
          · have HPn := Lib.hid ((HP 0 (by omega)).out (by rw [if_neg htt, if_neg (by simp [hkk])]))
            rw [ByteArray.extract_same] at HPn
            rw [hkk] at c7
            clear hkk htt HP
            go_wp2_with fail
            refine wp_region_tail (C := fun w' => ∃ n, w' = wr.drewN n) 27 (by kernel_rfl) (by kernel_rfl) ⟨1, rfl⟩ ?_
            simp only [List.take_succ_cons, List.take_zero, List.drop_succ_cons, List.drop_zero]
            repeat (quiet_step ((go_at_call 64; with_reducible refine Calls.quiet_of (HPn.out _))))
            refine wpQuiet_nil ?_
            intro _ hw'
            obtain ⟨nq, hw''⟩ := hw'
            subst hw''
            go_wp2
            go_roundw
            case rel => exact (HRel _).out
            case measure => simp [intOf]; omega
          · have HPn := Lib.hid ((HP 64 (by omega)).out (by rw [if_neg htt, if_pos ⟨hkn, hkk⟩]))
            rw [hkk] at c7
            clear hkk htt HP
            go_wp2_with fail
            refine wp_region_tail (C := fun w' => ∃ n, w' = wr.drewN n) 27 (by kernel_rfl) (by kernel_rfl) ⟨1, rfl⟩ ?_
            simp only [List.take_succ_cons, List.take_zero, List.drop_succ_cons, List.drop_zero]
            repeat (quiet_step ((go_at_call 64; with_reducible refine Calls.quiet_of (HPn.out _))))
            refine wpQuiet_nil ?_
            intro _ hw'
            obtain ⟨nq, hw''⟩ := hw'
            subst hw''
            go_wp2
            go_roundw
            case rel => exact (HRel _).out
            case measure => simp [intOf]; omega
        · have HPn := Lib.hid ((HP 0 (by omega)).out (by rw [if_neg htt, if_neg (by omega)]))
          rw [ByteArray.extract_same] at HPn
          have d1 : decide ((k : Int) < kn) = false := by simp; omega
          have d2 : decide (k < kn) = false := by simp; omega
          clear htt HP hkn
          go_wp2_with fail
          refine wp_region_tail (C := fun w' => ∃ n, w' = wr.drewN n) 27 (by kernel_rfl) (by kernel_rfl) ⟨1, rfl⟩ ?_
          simp only [List.take_succ_cons, List.take_zero, List.drop_succ_cons, List.drop_zero]
          repeat (quiet_step ((go_at_call 64; with_reducible refine Calls.quiet_of (HPn.out _))))
          refine wpQuiet_nil ?_
          intro _ hw'
          obtain ⟨nq, hw''⟩ := hw'
          subst hw''
          go_wp2
          go_roundw
          case rel => exact (HRel _).out
          case measure => simp [intOf]; omega
    · obtain rfl : k = m.wait.length := by omega
      have R := ref_settled hD
      have HR := Lib.hid ((R.setDown false).setFuse (-1))
      have f1 := hD.frozen 1
      have f2 := hD.frozen 2
      have f3 := hD.frozen 3
      clear R hD
      go_wp2_with fail
      go_end0
      rw [F.out]
      refine ⟨rfl, _, ⟨_, HR.out, rfl⟩, ?_, ?_⟩
      · exact ((HTr.out.setCell (p := ⟨d, 1, none⟩) (.inl (by simp [refB])) _).setCell (p := ⟨d, 3, none⟩) (.inl (by simp [refB])) _).setCell (p := ⟨d, 2, none⟩) (.inl (by simp [refB])) _
      · intro b hb
        simp [refB, Value.ownBlock] at hb; subst hb; exact .inl (by simp [refB])

end Go.Proofs.Yteijagojagfecaa
