/- The walk of the law DiskPlays. -/
import Derived.Test.YteijagojagfecaaDiskPlay
import Derived.Deep.RegionHeld3
namespace Go.Proofs.Yteijagojagfecaa
open Go.RowKit Go.Maps Go.Joins
set_option linter.unusedVariables false

set_option maxRecDepth 100000 in
set_option maxHeartbeats 8000000 in
theorem diskPlays_walk {w : World} (sec : Int) (s1 : -9223372036854775808 ≤ sec) (s2 : sec ≤ 9223372036854775807) {n c : Nat} {a : Option Addr} {l : List ActD} (hl : ActsIn w w.heap.size a n l) :
    Calls Try.prog 6 #[.int .i64 sec, .slice a n c] w fun e w' => e = .returned (.bool true) ∧ Below w.heap.size w w' := by
  have hfit := hl.2.1
  have HL := Lib.hid hl
  clear hl
  have few' : ∀ w', Below w.heap.size w w' → ActsIn w' w.heap.size a n l := fun w' hb => by
    obtain ⟨e1, e2, e3⟩ := HL.out
    exact ⟨e1, e2, e3.imp id fun ⟨lb, off, ha, hA⟩ => ⟨lb, off, ha, hA.below hb⟩⟩
  have FW := Lib.hid few'
  clear few'
  cases hfew : fewA l
  · have HF := Lib.hid hfew
    clear hfew
    go_enter Try.func6, Try.ntmps6
    go_wp2_with fail
    refine (awake06_any _).mono ?_
    rintro e w1 ⟨rfl, hb1⟩
    go_wp2_with fail
    refine (few_in (FW.out w1 hb1)).mono ?_
    rintro e w2 ⟨rfl, rfl⟩
    rw [HF.out]
    go_wp2_with fail
    refine (awake06_any _).mono ?_
    rintro e w2 ⟨rfl, hb2⟩
    go_wp2_with fail
    go_ret
    exact ⟨rfl, below_step hb2 hb1⟩
  · have HF := Lib.hid hfew
    have hn300 : n ≤ 300 := by rw [HL.out.1]; exact fewA_length hfew
    clear hfew
    go_enter Try.func6, Try.ntmps6
    go_wp2_with fail
    refine (awake06_any _).mono ?_
    rintro e w1 ⟨rfl, hb1⟩
    go_wp2_with fail
    refine (few_in (FW.out w1 hb1)).mono ?_
    rintro e w2 ⟨rfl, rfl⟩
    rw [HF.out]
    go_wp2_with fail
    by_cases hbad : sec < 1 ∨ 65536 < sec
    · refine (new_bad sec _ hbad).mono ?_
      rintro e w2 ⟨rfl, rfl⟩
      rcases hbad with hbad | hbad
      · go_wp2_with fail
        go_ret
        exact ⟨rfl, hb1⟩
      · go_wp2_with fail
        go_ret
        exact ⟨rfl, hb1⟩
    · obtain ⟨N, rfl⟩ := Int.eq_ofNat_of_zero_le (show 0 ≤ sec by omega)
      have hN1 : 1 ≤ N := by omega
      have hN2 : N ≤ 65536 := by omega
      clear hbad s1 s2
      refine (new_any N _ hN1 hN2).mono ?_
      rintro e w2 ⟨d, rfl, F2, hD2, hb2, hF2⟩
      have e1 : ((N : Int) == 0) = false := by simp; omega
      by_cases hbig : 100 < N
      · go_wp2_with fail
        refine (is_len hD2).mono ?_
        rintro e w3 ⟨rfl, rfl⟩
        have : (newM (newSu N)).sure.length = N := by simp [newM, newSu]
        rw [this]
        go_wp2_with fail
        go_ret
        exact ⟨rfl, below_step hb2 hb1⟩
      · go_wp2_with fail
        refine (rnew_any N _ hN2).mono ?_
        rintro e w3 ⟨r, rfl, G3, hR3, hb3, hG3⟩
        have hP : PlayAt w w3 d r F2 G3 (newM (newSu N)) (newM (newSu N)) 0 := by
          have q := DOk.new (newSu_size N) (by simp [newSu]; omega) (by simp [newSu]; omega)
          refine ⟨hD2.touch (F := []) (Touch.of_below hb3) (fun _ _ h => by cases h), hR3, q, q, below_step hb3 (below_step hb2 hb1), fun b hb => Nat.le_trans hb1.size (hF2 b hb), fun b hb => Nat.le_trans hb1.size (Nat.le_trans hb2.size (hG3 b hb)), fun b hb hb' => ?_⟩
          have h1 := hG3 b hb'
          have h2 := hD2.lt b hb
          omega
        generalize newM (newSu N) = m0 at *
        clear hD2 hb2 hF2 hR3 hb3 hG3 hb1
        have HP0 := Lib.hid hP
        clear hP
        go_wp2_with fail
        go_loopw [8, 9, 10, 11, 12, 13, 14] (fun c _ _ _ _ _ _ wr => ∃ (k : Nat) (m : DM) (F G : List Nat), k ≤ n ∧ c = .int .i64 k ∧ PlayAt w wr d r F G m m (2 * k)) (fun c _ _ _ _ _ _ _ => n - (intOf c).toNat)
        case atStart => exact ⟨0, m0, F2, G3, Nat.zero_le _, rfl, HP0.out⟩
        case round =>
          clear HP0 HF m0 F2 G3
          obtain ⟨k, m, F, G, hk, rfl, hS⟩ := hrel
          by_cases hlt : k < n
          · obtain ⟨lb, off, x, ha, hx, hX, hlb⟩ := HL.out.at_ hS.below hlt
            rw [ha]
            have c0 := hX.c0
            have c1 := hX.c1
            have c2 := hX.c2
            have c3 := hX.c3
            have c4 := hX.c4
            have c5 := hX.c5
            rw [addr_add] at c1 c2 c3 c4 c5
            have ku := hX.ok.u1
            have ku2 := hX.ok.u2
            have ka := hX.ok.at_
            have kn := hX.ok.n
            have ks := hX.ok.s
            have P0 := PlayAt.box hS (x := x) (b0 := .int .u8 x.b1) hX.keep hX.keepB
            clear hX hS ha hx
            have hk6 : x.b1 % 6 = 0 ∨ x.b1 % 6 = 1 ∨ x.b1 % 6 = 2 ∨ x.b1 % 6 = 3 ∨ x.b1 % 6 = 4 ∨ x.b1 % 6 = 5 := by omega
            have HK := Lib.hid hk6
            clear hk6
            obtain ⟨B, hB⟩ : ∃ B, wr.heap.size = B := ⟨_, rfl⟩
            rcases HK.out with h6 | h6 | h6 | h6 | h6 | h6
            · as_aux_lemma =>
              go_wp2_with fail
              rw [hB] at P0
              generalize wr.alloc (.cells #[.int .u8 x.b1, .int .u8 x.b2, .int .i64 x.at_, .int .i64 x.n, .string x.s, .slice x.ka x.kn x.kc] 34) = wa at *
              clear hB
              have P1 := P0.drew
              go_region_held3 (fun w' => w'.cell? ⟨B, 2, none⟩ = some (.int .i64 x.at_) ∧ w'.cell? ⟨B, 1, none⟩ = some (.int .u8 x.b2)) (first | exact ⟨P1.c2, P1.c1⟩ | exact ⟨PlayB.c2 (by assumption), PlayB.c1 (by assumption)⟩)
                (first
                  | (go_at_call 17; refine (play_fill (by assumption) ku2.1 ku2.2).mono ?_; rintro e w' ⟨rfl, hP⟩)
                  | (go_at_call 16; refine (play_write (by assumption) (by omega) x.at_ (fillB x.b2) ka.1 ka.2 (by rw [fillB_size]; omega)).mono ?_; rintro e w' ⟨rfl, F', hP⟩)
                  | (go_at_call 31; refine (play_rwrite (by assumption) (by omega) x.at_ (fillB x.b2) ka.1 ka.2 (by rw [fillB_size]; omega)).mono ?_; rintro e w' ⟨rfl, G', hP⟩))
              generalize (wrM m x.at_ (fillB x.b2)).2 = m' at *
              go_wp2_with fail
              have c1' := hP.play.ref
              obtain ⟨wv, hr, hG⟩ := c1'
              have hs0 := imgM_size m'.sure hP.play.ok.size.1
              have HZ := Lib.hid hP.play.ok.size.1
              have HR := Lib.hid hr
              have HP := Lib.hid hP
              have lr := World.rowIs.lt hr.cells
              have x0 : ∀ x : Later w', x.1.cell? ⟨r, 0, none⟩ = some (.string (imgM m'.sure)) := fun x => (x.cell lr).trans hr.cell.1
              have x3 : ∀ x : Later w', x.1.cell? ⟨r, 3, none⟩ = some (.bool m'.down) := fun x => (x.cell lr).trans hr.cell.2.2.2
              obtain ⟨wad, wc, hwv⟩ : ∃ wad wc, wv = .slice wad m'.wait.length wc := by
                rcases ownsRow_forms hr.wait with ⟨e, h0⟩ | ⟨g, cap, e⟩
                · exact ⟨_, _, by rw [h0]; exact e⟩
                · exact ⟨_, _, e⟩
              have x1 : ∀ x : Later w', x.1.cell? ⟨r, 1, none⟩ = some (.slice wad m'.wait.length wc) := fun x => by rw [← hwv]; exact (x.cell lr).trans hr.cell.2.1
              have hD : ∀ x : Later w', IsDisk x.1 d F' m' := fun x => HP.out.play.disk.touch (F := []) (Touch.of_below x.2) (fun _ _ h => by cases h)
              have hR : ∀ x : Later w', RefAt x.1 r wv m' := fun x => HR.out.touch (F := []) (Touch.of_below x.2) (fun _ _ h => by cases h)
              have HD := fun x => Lib.hid (hD x)
              have HRR := fun x => Lib.hid (hR x)
              clear hD hR hr hwv hP hs0 hG lr
              go_wp2_with fail
              refine wp_region_later (by kernel_rfl) (by kernel_rfl) ?_
              repeat (quiet_step ((first | (go_at_call 36; with_reducible refine Later.call_same (is_pending (HD _).out)) | (go_at_call 22; with_reducible refine Later.call_same (is_down (HD _).out)) | (go_at_call 37; with_reducible refine Later.call (is_image (HD _).out HP.out.play.ok)) | (go_at_call 29; with_reducible refine Later.call_same (is_len (HD _).out)) | (go_at_call 38; with_reducible refine Later.call_same (rlen_any (HRR _).out HZ.out HP.out.play.ok.few)))))
              refine wpQuiet_nil ?_
              intro _ hw'
              obtain ⟨⟨w6, hb6⟩, hw''⟩ := hw'
              subst hw''
              clear x0 x1 x3
              go_wp2_with fail
              go_roundw
              case rel => exact ⟨k + 1, _, _, _, by omega, by go_num, (HP.out.play.stay hb6).more (by omega)⟩
              case measure => simp [intOf]; omega
            · as_aux_lemma =>
              go_wp2_with fail
              rw [hB] at P0
              generalize wr.alloc (.cells #[.int .u8 x.b1, .int .u8 x.b2, .int .i64 x.at_, .int .i64 x.n, .string x.s, .slice x.ka x.kn x.kc] 34) = wa at *
              clear hB
              refine (play_flush P0 (by omega)).mono ?_
              rintro e w5 ⟨rfl, F', hP⟩
              have y2 := hP.c2
              have y3 := hP.c3
              have y5 := hP.c5
              go_wp2_with fail
              clear y2 y3 y5
              refine (play_rflush hP (by omega)).mono ?_
              rintro e w' ⟨rfl, G', hP⟩
              go_wp2_with fail
              generalize (flM m).2 = m' at *
              have c1' := hP.play.ref
              obtain ⟨wv, hr, hG⟩ := c1'
              have hs0 := imgM_size m'.sure hP.play.ok.size.1
              have HZ := Lib.hid hP.play.ok.size.1
              have HR := Lib.hid hr
              have HP := Lib.hid hP
              have lr := World.rowIs.lt hr.cells
              have x0 : ∀ x : Later w', x.1.cell? ⟨r, 0, none⟩ = some (.string (imgM m'.sure)) := fun x => (x.cell lr).trans hr.cell.1
              have x3 : ∀ x : Later w', x.1.cell? ⟨r, 3, none⟩ = some (.bool m'.down) := fun x => (x.cell lr).trans hr.cell.2.2.2
              obtain ⟨wad, wc, hwv⟩ : ∃ wad wc, wv = .slice wad m'.wait.length wc := by
                rcases ownsRow_forms hr.wait with ⟨e, h0⟩ | ⟨g, cap, e⟩
                · exact ⟨_, _, by rw [h0]; exact e⟩
                · exact ⟨_, _, e⟩
              have x1 : ∀ x : Later w', x.1.cell? ⟨r, 1, none⟩ = some (.slice wad m'.wait.length wc) := fun x => by rw [← hwv]; exact (x.cell lr).trans hr.cell.2.1
              have hD : ∀ x : Later w', IsDisk x.1 d F' m' := fun x => HP.out.play.disk.touch (F := []) (Touch.of_below x.2) (fun _ _ h => by cases h)
              have hR : ∀ x : Later w', RefAt x.1 r wv m' := fun x => HR.out.touch (F := []) (Touch.of_below x.2) (fun _ _ h => by cases h)
              have HD := fun x => Lib.hid (hD x)
              have HRR := fun x => Lib.hid (hR x)
              clear hD hR hr hwv hP hs0 hG lr
              go_wp2_with fail
              refine wp_region_later (by kernel_rfl) (by kernel_rfl) ?_
              repeat (quiet_step ((first | (go_at_call 36; with_reducible refine Later.call_same (is_pending (HD _).out)) | (go_at_call 22; with_reducible refine Later.call_same (is_down (HD _).out)) | (go_at_call 37; with_reducible refine Later.call (is_image (HD _).out HP.out.play.ok)) | (go_at_call 29; with_reducible refine Later.call_same (is_len (HD _).out)) | (go_at_call 38; with_reducible refine Later.call_same (rlen_any (HRR _).out HZ.out HP.out.play.ok.few)))))
              refine wpQuiet_nil ?_
              intro _ hw'
              obtain ⟨⟨w6, hb6⟩, hw''⟩ := hw'
              subst hw''
              clear x0 x1 x3
              go_wp2_with fail
              go_roundw
              case rel => exact ⟨k + 1, _, _, _, by omega, by go_num, (HP.out.play.stay hb6).more (by omega)⟩
              case measure => simp [intOf]; omega
            · as_aux_lemma =>
              go_wp2_with fail
              rw [hB] at P0
              generalize wr.alloc (.cells #[.int .u8 x.b1, .int .u8 x.b2, .int .i64 x.at_, .int .i64 x.n, .string x.s, .slice x.ka x.kn x.kc] 34) = wa at *
              clear hB
              refine (play_fuse P0 x.n kn.1 kn.2).mono ?_
              rintro e w5 ⟨rfl, F', hP⟩
              have y2 := hP.c2
              have y3 := hP.c3
              have y5 := hP.c5
              go_wp2_with fail
              clear y2 y3 y5
              refine (play_arm hP x.n kn.1 kn.2).mono ?_
              rintro e w' ⟨rfl, G', hP⟩
              go_wp2_with fail
              generalize fuM m x.n = m' at *
              have c1' := hP.play.ref
              obtain ⟨wv, hr, hG⟩ := c1'
              have hs0 := imgM_size m'.sure hP.play.ok.size.1
              have HZ := Lib.hid hP.play.ok.size.1
              have HR := Lib.hid hr
              have HP := Lib.hid hP
              have lr := World.rowIs.lt hr.cells
              have x0 : ∀ x : Later w', x.1.cell? ⟨r, 0, none⟩ = some (.string (imgM m'.sure)) := fun x => (x.cell lr).trans hr.cell.1
              have x3 : ∀ x : Later w', x.1.cell? ⟨r, 3, none⟩ = some (.bool m'.down) := fun x => (x.cell lr).trans hr.cell.2.2.2
              obtain ⟨wad, wc, hwv⟩ : ∃ wad wc, wv = .slice wad m'.wait.length wc := by
                rcases ownsRow_forms hr.wait with ⟨e, h0⟩ | ⟨g, cap, e⟩
                · exact ⟨_, _, by rw [h0]; exact e⟩
                · exact ⟨_, _, e⟩
              have x1 : ∀ x : Later w', x.1.cell? ⟨r, 1, none⟩ = some (.slice wad m'.wait.length wc) := fun x => by rw [← hwv]; exact (x.cell lr).trans hr.cell.2.1
              have hD : ∀ x : Later w', IsDisk x.1 d F' m' := fun x => HP.out.play.disk.touch (F := []) (Touch.of_below x.2) (fun _ _ h => by cases h)
              have hR : ∀ x : Later w', RefAt x.1 r wv m' := fun x => HR.out.touch (F := []) (Touch.of_below x.2) (fun _ _ h => by cases h)
              have HD := fun x => Lib.hid (hD x)
              have HRR := fun x => Lib.hid (hR x)
              clear hD hR hr hwv hP hs0 hG lr
              go_wp2_with fail
              refine wp_region_later (by kernel_rfl) (by kernel_rfl) ?_
              repeat (quiet_step ((first | (go_at_call 36; with_reducible refine Later.call_same (is_pending (HD _).out)) | (go_at_call 22; with_reducible refine Later.call_same (is_down (HD _).out)) | (go_at_call 37; with_reducible refine Later.call (is_image (HD _).out HP.out.play.ok)) | (go_at_call 29; with_reducible refine Later.call_same (is_len (HD _).out)) | (go_at_call 38; with_reducible refine Later.call_same (rlen_any (HRR _).out HZ.out HP.out.play.ok.few)))))
              refine wpQuiet_nil ?_
              intro _ hw'
              obtain ⟨⟨w6, hb6⟩, hw''⟩ := hw'
              subst hw''
              clear x0 x1 x3
              go_wp2_with fail
              go_roundw
              case rel => exact ⟨k + 1, _, _, _, by omega, by go_num, (HP.out.play.stay hb6).more (by omega)⟩
              case measure => simp [intOf]; omega
            · as_aux_lemma =>
              go_wp2_with fail
              rw [hB] at P0
              generalize wr.alloc (.cells #[.int .u8 x.b1, .int .u8 x.b2, .int .i64 x.at_, .int .i64 x.n, .string x.s, .slice x.ka x.kn x.kc] 34) = wa at *
              clear hB
              refine (play_crash P0 (by omega) x.n x.at_ ka.1 ka.2).mono ?_
              rintro e w5 ⟨rfl, F', hP⟩
              have y2 := hP.c2
              have y3 := hP.c3
              have y5 := hP.c5
              go_wp2_with fail
              clear y2 y3 y5
              refine (play_rcrash hP (by omega) x.n x.at_ ka.1 ka.2).mono ?_
              rintro e w' ⟨rfl, G', hP⟩
              go_wp2_with fail
              generalize crM m x.kn x.kf x.n x.at_ = m' at *
              have c1' := hP.play.ref
              obtain ⟨wv, hr, hG⟩ := c1'
              have hs0 := imgM_size m'.sure hP.play.ok.size.1
              have HZ := Lib.hid hP.play.ok.size.1
              have HR := Lib.hid hr
              have HP := Lib.hid hP
              have lr := World.rowIs.lt hr.cells
              have x0 : ∀ x : Later w', x.1.cell? ⟨r, 0, none⟩ = some (.string (imgM m'.sure)) := fun x => (x.cell lr).trans hr.cell.1
              have x3 : ∀ x : Later w', x.1.cell? ⟨r, 3, none⟩ = some (.bool m'.down) := fun x => (x.cell lr).trans hr.cell.2.2.2
              obtain ⟨wad, wc, hwv⟩ : ∃ wad wc, wv = .slice wad m'.wait.length wc := by
                rcases ownsRow_forms hr.wait with ⟨e, h0⟩ | ⟨g, cap, e⟩
                · exact ⟨_, _, by rw [h0]; exact e⟩
                · exact ⟨_, _, e⟩
              have x1 : ∀ x : Later w', x.1.cell? ⟨r, 1, none⟩ = some (.slice wad m'.wait.length wc) := fun x => by rw [← hwv]; exact (x.cell lr).trans hr.cell.2.1
              have hD : ∀ x : Later w', IsDisk x.1 d F' m' := fun x => HP.out.play.disk.touch (F := []) (Touch.of_below x.2) (fun _ _ h => by cases h)
              have hR : ∀ x : Later w', RefAt x.1 r wv m' := fun x => HR.out.touch (F := []) (Touch.of_below x.2) (fun _ _ h => by cases h)
              have HD := fun x => Lib.hid (hD x)
              have HRR := fun x => Lib.hid (hR x)
              clear hD hR hr hwv hP hs0 hG lr
              go_wp2_with fail
              refine wp_region_later (by kernel_rfl) (by kernel_rfl) ?_
              repeat (quiet_step ((first | (go_at_call 36; with_reducible refine Later.call_same (is_pending (HD _).out)) | (go_at_call 22; with_reducible refine Later.call_same (is_down (HD _).out)) | (go_at_call 37; with_reducible refine Later.call (is_image (HD _).out HP.out.play.ok)) | (go_at_call 29; with_reducible refine Later.call_same (is_len (HD _).out)) | (go_at_call 38; with_reducible refine Later.call_same (rlen_any (HRR _).out HZ.out HP.out.play.ok.few)))))
              refine wpQuiet_nil ?_
              intro _ hw'
              obtain ⟨⟨w6, hb6⟩, hw''⟩ := hw'
              subst hw''
              clear x0 x1 x3
              go_wp2_with fail
              go_roundw
              case rel => exact ⟨k + 1, _, _, _, by omega, by go_num, (HP.out.play.stay hb6).more (by omega)⟩
              case measure => simp [intOf]; omega
            · as_aux_lemma =>
              go_wp2_with fail
              rw [hB] at P0
              generalize wr.alloc (.cells #[.int .u8 x.b1, .int .u8 x.b2, .int .i64 x.at_, .int .i64 x.n, .string x.s, .slice x.ka x.kn x.kc] 34) = wa at *
              clear hB
              refine (play_read P0 x.at_ ka.1 ka.2).mono ?_
              rintro e w5 ⟨rfl, rfl⟩
              have y2 := P0.c2
              go_wp2_with fail
              clear y2
              refine (play_rread P0 (by omega) x.at_ ka.1 ka.2).mono ?_
              rintro e w5 ⟨rfl, rfl⟩
              go_wp2_with fail
              have hP := P0
              obtain ⟨m', hm'⟩ : ∃ m', m' = m := ⟨_, rfl⟩
              subst hm'
              obtain ⟨F', hF'⟩ : ∃ F', F' = F := ⟨_, rfl⟩
              subst hF'
              have c1' := hP.play.ref
              obtain ⟨wv, hr, hG⟩ := c1'
              have hs0 := imgM_size m'.sure hP.play.ok.size.1
              have HZ := Lib.hid hP.play.ok.size.1
              have HR := Lib.hid hr
              have HP := Lib.hid hP
              have lr := World.rowIs.lt hr.cells
              have x0 : ∀ x : Later wa, x.1.cell? ⟨r, 0, none⟩ = some (.string (imgM m'.sure)) := fun x => (x.cell lr).trans hr.cell.1
              have x3 : ∀ x : Later wa, x.1.cell? ⟨r, 3, none⟩ = some (.bool m'.down) := fun x => (x.cell lr).trans hr.cell.2.2.2
              obtain ⟨wad, wc, hwv⟩ : ∃ wad wc, wv = .slice wad m'.wait.length wc := by
                rcases ownsRow_forms hr.wait with ⟨e, h0⟩ | ⟨g, cap, e⟩
                · exact ⟨_, _, by rw [h0]; exact e⟩
                · exact ⟨_, _, e⟩
              have x1 : ∀ x : Later wa, x.1.cell? ⟨r, 1, none⟩ = some (.slice wad m'.wait.length wc) := fun x => by rw [← hwv]; exact (x.cell lr).trans hr.cell.2.1
              have hD : ∀ x : Later wa, IsDisk x.1 d F' m' := fun x => HP.out.play.disk.touch (F := []) (Touch.of_below x.2) (fun _ _ h => by cases h)
              have hR : ∀ x : Later wa, RefAt x.1 r wv m' := fun x => HR.out.touch (F := []) (Touch.of_below x.2) (fun _ _ h => by cases h)
              have HD := fun x => Lib.hid (hD x)
              have HRR := fun x => Lib.hid (hR x)
              clear hD hR hr hwv hP hs0 hG lr
              go_wp2_with fail
              refine wp_region_later (by kernel_rfl) (by kernel_rfl) ?_
              repeat (quiet_step ((first | (go_at_call 36; with_reducible refine Later.call_same (is_pending (HD _).out)) | (go_at_call 22; with_reducible refine Later.call_same (is_down (HD _).out)) | (go_at_call 37; with_reducible refine Later.call (is_image (HD _).out HP.out.play.ok)) | (go_at_call 29; with_reducible refine Later.call_same (is_len (HD _).out)) | (go_at_call 38; with_reducible refine Later.call_same (rlen_any (HRR _).out HZ.out HP.out.play.ok.few)))))
              refine wpQuiet_nil ?_
              intro _ hw'
              obtain ⟨⟨w6, hb6⟩, hw''⟩ := hw'
              subst hw''
              clear x0 x1 x3
              go_wp2_with fail
              go_roundw
              case rel => exact ⟨k + 1, _, _, _, by omega, by go_num, (HP.out.play.stay hb6).more (by omega)⟩
              case measure => simp [intOf]; omega
            · as_aux_lemma =>
              go_wp2_with fail
              rw [hB] at P0
              generalize wr.alloc (.cells #[.int .u8 x.b1, .int .u8 x.b2, .int .i64 x.at_, .int .i64 x.n, .string x.s, .slice x.ka x.kn x.kc] 34) = wa at *
              clear hB
              have P1 := P0.drew
              go_region_held3 (fun w' => w'.cell? ⟨B, 2, none⟩ = some (.int .i64 x.at_) ∧ w'.cell? ⟨B, 4, none⟩ = some (.string x.s)) (first | exact ⟨P1.c2, P1.c4⟩ | exact ⟨PlayB.c2 (by assumption), PlayB.c4 (by assumption)⟩)
                (first
                  | (go_at_call 16; refine (play_write (by assumption) (by omega) x.at_ (x.s) ka.1 ka.2 (ks)).mono ?_; rintro e w' ⟨rfl, F', hP⟩)
                  | (go_at_call 31; refine (play_rwrite (by assumption) (by omega) x.at_ (x.s) ka.1 ka.2 (ks)).mono ?_; rintro e w' ⟨rfl, G', hP⟩))
              generalize (wrM m x.at_ (x.s)).2 = m' at *
              go_wp2_with fail
              have c1' := hP.play.ref
              obtain ⟨wv, hr, hG⟩ := c1'
              have hs0 := imgM_size m'.sure hP.play.ok.size.1
              have HZ := Lib.hid hP.play.ok.size.1
              have HR := Lib.hid hr
              have HP := Lib.hid hP
              have lr := World.rowIs.lt hr.cells
              have x0 : ∀ x : Later w', x.1.cell? ⟨r, 0, none⟩ = some (.string (imgM m'.sure)) := fun x => (x.cell lr).trans hr.cell.1
              have x3 : ∀ x : Later w', x.1.cell? ⟨r, 3, none⟩ = some (.bool m'.down) := fun x => (x.cell lr).trans hr.cell.2.2.2
              obtain ⟨wad, wc, hwv⟩ : ∃ wad wc, wv = .slice wad m'.wait.length wc := by
                rcases ownsRow_forms hr.wait with ⟨e, h0⟩ | ⟨g, cap, e⟩
                · exact ⟨_, _, by rw [h0]; exact e⟩
                · exact ⟨_, _, e⟩
              have x1 : ∀ x : Later w', x.1.cell? ⟨r, 1, none⟩ = some (.slice wad m'.wait.length wc) := fun x => by rw [← hwv]; exact (x.cell lr).trans hr.cell.2.1
              have hD : ∀ x : Later w', IsDisk x.1 d F' m' := fun x => HP.out.play.disk.touch (F := []) (Touch.of_below x.2) (fun _ _ h => by cases h)
              have hR : ∀ x : Later w', RefAt x.1 r wv m' := fun x => HR.out.touch (F := []) (Touch.of_below x.2) (fun _ _ h => by cases h)
              have HD := fun x => Lib.hid (hD x)
              have HRR := fun x => Lib.hid (hR x)
              clear hD hR hr hwv hP hs0 hG lr
              go_wp2_with fail
              refine wp_region_later (by kernel_rfl) (by kernel_rfl) ?_
              repeat (quiet_step ((first | (go_at_call 36; with_reducible refine Later.call_same (is_pending (HD _).out)) | (go_at_call 22; with_reducible refine Later.call_same (is_down (HD _).out)) | (go_at_call 37; with_reducible refine Later.call (is_image (HD _).out HP.out.play.ok)) | (go_at_call 29; with_reducible refine Later.call_same (is_len (HD _).out)) | (go_at_call 38; with_reducible refine Later.call_same (rlen_any (HRR _).out HZ.out HP.out.play.ok.few)))))
              refine wpQuiet_nil ?_
              intro _ hw'
              obtain ⟨⟨w6, hb6⟩, hw''⟩ := hw'
              subst hw''
              clear x0 x1 x3
              go_wp2_with fail
              go_roundw
              case rel => exact ⟨k + 1, _, _, _, by omega, by go_num, (HP.out.play.stay hb6).more (by omega)⟩
              case measure => simp [intOf]; omega
          · obtain rfl : k = n := by omega
            go_wp2_with fail
            go_ret
            exact ⟨rfl, hS.below⟩

end Go.Proofs.Yteijagojagfecaa
