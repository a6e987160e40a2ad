/- Lemmas on the way to the statement: PagerPlaysWalk. -/
import Derived.Test.YtpaholkmlfaflaaGreatDoorJ16
import Derived.Deep.DeepCutAuto
import Derived.Deep.RegionHeld3
set_option linter.unusedSimpArgs false
set_option linter.unusedVariables false
namespace Go.Proofs.YtpaholkmlfaflaaGreatDoor
open Go.RowKit Go.Maps Go.Joins
set_option linter.unusedVariables false
/-- Between the rounds. -/
structure PgRnd (w wr : World) (d rb kk i : Nat) (p K : Nat) (M : PM) (R : RM) (G : Int) : Prop where
  pp : IsPP w wr d p rb K M R
  rel : Rel M R 300 G
  kb : K ≤ 2000 * i + 100
  gb : G ≤ 3 * (i : Int) + 1
  size : M.size = 60
  room : R.room = kk
  most : R.most = 29
/-- Behind a call of a round. -/
structure PgMid (w wr : World) (d rb kk i B : Nat) (x : ActD) (p K : Nat) (M : PM) (R : RM) (G : Int) : Prop where
  pb : IsPB w wr d p rb K M R B x
  rel : Rel M R 300 G
  kb : K ≤ 2000 * i + 300
  gb : G ≤ 3 * (i : Int) + 4
  size : M.size = 60
  room : R.room = kk
  most : R.most = 29
set_option maxRecDepth 1000000 in
set_option maxHeartbeats 8000000 in
theorem pagerPlays_walk {w : World} (r : Int) (r0 : 0 ≤ r) (r1 : r ≤ 255) {n c : Nat} {a : Option Addr} {l : List ActD} (hl : ActsIn w w.heap.size a n l) :
    Calls Tryz.prog 5 #[.int .u8 r, .slice a n c] w fun e w' => e = .returned (.bool true) ∧ Below w.heap.size w w' := by
  have HAW := Lib.hid (fun W => awake11_any W)
  have hfit := hl.2.1
  have HL := Lib.hid hl
  clear hl
  have few' : ∀ w', Below w.heap.size w w' → ActsIn w' w.heap.size a n l := fun w' hb => by
    obtain ⟨e1, e2, e3⟩ := HL.out
    exact ⟨e1, e2, e3.imp id fun ⟨lb, off, ha, hA⟩ => ⟨lb, off, ha, hA.below hb⟩⟩
  have FW := Lib.hid few'
  clear few'
  cases hfew : fewA l
  · have HF := Lib.hid hfew
    clear hfew
    go_enter Tryz.func5, Tryz.ntmps5
    go_wp2_with fail
    refine (HAW.out _).mono ?_
    rintro e w1 ⟨rfl, hb1⟩
    go_wp2_with fail
    refine (few_in (FW.out w1 hb1)).mono ?_
    rintro e w2 ⟨rfl, rfl⟩
    rw [HF.out]
    go_wp2_with fail
    refine (HAW.out _).mono ?_
    rintro e w2 ⟨rfl, hb2⟩
    go_wp2_with fail
    go_ret
    exact ⟨rfl, below_step hb2 hb1⟩
  have HF := Lib.hid hfew
  have hn60 : n ≤ 60 := by rw [HL.out.1]; exact fewA_length hfew
  clear hfew
  obtain ⟨kk, hkk⟩ : ∃ kk : Nat, (kk : Int) = 2 + r % 40 := ⟨(2 + r % 40).toNat, by omega⟩
  have hk2 : 2 ≤ kk := by omega
  have hk41 : kk ≤ 41 := by omega
  have hm : mostI 300 ((60 : Nat) : Int) = 29 := by decide
  have hup := UpM.new 300
  have hk0 : DOk (newM (newSu 300)) 0 := DOk.new (newSu_size 300) (by simp [newSu]) (by simp [newSu])
  have hfp := formatP_yes (log := 60) hup (by rw [hm]; omega)
  obtain ⟨f1, f2, f3⟩ := format_rel (log := 60) hup hk0 (by omega) kk (by rw [hm]; omega)
  have hk1 := formatX_ok (log := 60) hup hk0 (by rw [hm]; omega)
  rw [hm] at f2 f3
  obtain ⟨X, hX⟩ : ∃ X, X = formatX (newM (newSu 300)) 60 := ⟨_, rfl⟩
  rw [← hX] at f1 f2 f3 hk1 hfp
  obtain ⟨M0, hM0⟩ : ∃ M0, M0 = newP X.2 60 29 kk := ⟨_, rfl⟩
  have hM0s : M0.size = 60 := by rw [hM0]; rfl
  rw [← hM0] at f2 f3
  have HK := Lib.hid (And.intro hk0 (And.intro hk1 (And.intro hM0s f3)))
  have HFP := Lib.hid hfp
  have HF2 := Lib.hid f2
  have HF1 := Lib.hid f1
  have HKK := Lib.hid hkk
  have HND := Lib.hid (fun W => new_any 300 W (by omega) (by omega))
  clear hm hup hk0 hfp f1 f2 f3 hk1 hX hM0 hM0s hkk
  go_enter Tryz.func5, Tryz.ntmps5
  go_wp2_with fail
  refine (HAW.out _).mono ?_
  rintro e w1 ⟨rfl, hb1⟩
  go_wp2_with fail
  refine (few_in (FW.out w1 hb1)).mono ?_
  rintro e w2 ⟨rfl, rfl⟩
  rw [HF.out]
  go_wp2_with fail
  refine (HND.out _).mono ?_
  rintro e w2 ⟨d, rfl, F, hd, hb2, hF⟩
  have HB2 := Lib.hid (below_step hb2 hb1)
  have HFF := Lib.hid (show ∀ b ∈ F, w.heap.size ≤ b from fun b hb => Nat.le_trans hb1.size (hF b hb))
  have HFM := Lib.hid (Format_any hd HK.out.1 (by omega) (60 : Nat) (by omega) (by omega))
  rw [HFP.out] at HFM
  clear hd hb1 hb2 hF
  go_wp2_with fail
  rw [← HKK.out]
  refine HFM.out.mono ?_
  rintro e w3 ⟨rfl, F2, hd2, t2, g2⟩
  have hb3 : Below w.heap.size w w3 := HB2.out.trans (t2.below HB2.out.size HFF.out)
  have hF2 : ∀ x ∈ F2, w.heap.size ≤ x := fun x hx => (g2 x hx).elim (HFF.out x) (fun h => Nat.le_trans HB2.out.size h)
  have HOP := Lib.hid (Open_any hd2 HK.out.2.1 kk (by omega) (by omega))
  rw [HF2.out] at HOP
  have HB3 := Lib.hid hb3
  have HFF2 := Lib.hid hF2
  clear hd2 t2 g2 hb3 hF2 HFM HND
  rw [HF1.out]
  go_wp2_with fail
  refine HOP.out.mono ?_
  rintro e w4 ⟨hb4, v, rfl, hn⟩
  obtain ⟨p, lb, pb, hb, FP, rfl, hpl⟩ := play_new hn HFF2.out HB3.out hb4
  have HS := Lib.hid hpl
  clear hb4 hn hpl HOP
  go_wp2_with fail
  refine (new11_any _ 29 kk (by omega) (by omega) (by omega)).mono ?_
  rintro e w5 ⟨v, rfl, hnr⟩
  obtain ⟨rb, rfl, hpp⟩ := pp_start HS.out hnr
  have HR := Lib.hid (PgRnd.mk (i := 0) (G := 1) hpp HK.out.2.2.2 (by omega) (by omega) HK.out.2.2.1 rfl rfl : PgRnd w w5 d rb kk 0 p 2 M0 (newR 29 kk) 1)
  clear hnr hpp HS
  go_wp2_with fail
  go_loopw [8, 11] (fun v8 v11 wr => ∃ (i p K : Nat) (M : PM) (R : RM) (G : Int), i ≤ n ∧ v11 = .int .i64 i ∧ v8 = .pointer (some ⟨p, 0, none⟩) ∧ PgRnd w wr d rb kk i p K M R G) (fun _ v11 _ => n - (intOf v11).toNat)
  case atStart => exact ⟨0, p, 2, M0, newR 29 kk, 1, Nat.zero_le _, rfl, rfl, HR.out⟩
  case round =>
    clear HR HK HF1 HF2 HB2 HB3 HFP
    obtain ⟨i, p, K, M, R, G, hi, rfl, rfl, hr⟩ := hrel
    have HR := Lib.hid hr
    clear hr
    by_cases hlt : i < n
    · obtain ⟨lb, off, x, rfl, hx, hat, hlb⟩ := (FW.out w (Below.refl _ _)).at_ HR.out.pp.below hlt
      have c0 := hat.c0
      have c1 := hat.c1
      have c2 := hat.c2
      have c3 := hat.c3
      have c4 := hat.c4
      have c5 := hat.c5
      have c6 := hat.c6
      have c7 := hat.c7
      have c8 := hat.c8
      rw [addr_add] at c1 c2 c3 c4 c5 c6 c7 c8
      have HOK := Lib.hid hat.ok
      have u1 := hat.ok.u1
      have u2 := hat.ok.u2
      have un := hat.ok.no
      have un2 := hat.ok.n
      clear hat hx
      go_upto_block 2 with fail
      refine wp_name (fun W hW => ?_)
      have HPB := Lib.hid (show PgMid w W d rb kk i wr.heap.size x p K M R G from by rw [← hW]; exact ⟨HR.out.pp.act x, HR.out.rel, by have := HR.out.kb; omega, by have := HR.out.gb; omega, HR.out.size, HR.out.room, HR.out.most⟩)
      clear hW c0 c1 c2 c3 c4 c5 c6 c7 c8
      have HSN := Lib.hid (soundP_snd HR.out.rel.snd)
      have HMO := Lib.hid (HR.out.rel.rmok (by rw [HR.out.room]; omega))
      have hkb := HR.out.kb
      have hgb := HR.out.gb
      generalize hB : wr.heap.size = B at HPB
      generalize hq : x.b1 % 9 = q
      go_cut [8, 13] (fun v8 v13 wx => v13 = .bool true ∧ ∃ (p' K' : Nat) (M' : PM) (R' : RM) (G' : Int), v8 = .pointer (some ⟨p', 0, none⟩) ∧ PgMid w wx d rb kk i B x p' K' M' R' G')
      case first =>
        have hk9 : q = 0 ∨ q = 1 ∨ q = 2 ∨ q = 3 ∨ q = 4 ∨ q = 5 ∨ q = 6 ∨ q = 7 ∨ q = 8 := by omega
        clear hq
        obtain ⟨g0, g1, g2, g3, g4, g5, g6, g7, g8⟩ := HPB.out.pb.cells
        rcases hk9 with rfl | rfl | rfl | rfl | rfl | rfl | rfl | rfl | rfl
        · as_aux_lemma =>
          obtain ⟨a0, f, M1, R1, e1, e2, e3, e4, e5, e6⟩ := HPB.out.rel.allocs x.b2
          have HAL := Lib.hid (pb_alloc HPB.out.pb HSN.out (by omega) x.b2)
          rw [e1] at HAL
          have HE := Lib.hid (And.intro e2 (And.intro e3 (And.intro e4 (And.intro e5 e6))))
          clear e1 e2 e3 e4 e5 e6
          go_wp2_with fail
          refine HAL.out.mono ?_
          rintro e w4 ⟨rfl, h4⟩
          have q1 := h4.cells.2.1
          have HRA := Lib.hid (pb_ralloc h4 HMO.out x.b2)
          rw [HE.out.1] at HRA
          clear h4
          go_wp2_with fail
          refine HRA.out.mono ?_
          rintro e w5 ⟨rfl, h5⟩
          have H5 := Lib.hid h5
          clear h5 q1
          by_cases hf : f = 10
          · have HRE := Lib.hid (HE.out.2.2.2.2 hf)
            subst hf
            go_wp2_with fail
            refine (pb_abort H5.out).mono ?_
            rintro e w6 ⟨rfl, h6⟩
            have H6 := Lib.hid h6
            rw [HRE.out.1] at H6
            clear h6
            go_wp2_with fail
            refine (pb_rabort H6.out HMO.out).mono ?_
            rintro e w7 ⟨rfl, h7⟩
            have H7 := Lib.hid h7
            clear h7
            go_wp2_with fail
            go_meet
            case rel => exact ⟨rfl, p, _, _, _, G, rfl, H7.out, HRE.out.2, by omega, by omega, HE.out.2.1.trans HR.out.size, HR.out.room, HR.out.most⟩
          · have hf2 : (f == 10) = false := by rw [beq_eq_false_iff_ne]; exact hf
            have HRE := Lib.hid (HE.out.2.2.2.1 hf)
            clear hf
            go_wp2_with fail
            go_meet
            case rel => exact ⟨rfl, p, _, _, _, G, rfl, H5.out, HRE.out, by omega, by omega, HE.out.2.1.trans HR.out.size, HE.out.2.2.1.1.trans HR.out.room, HE.out.2.2.1.2.trans HR.out.most⟩
        · as_aux_lemma =>
          have hk1 := HR.out.rel.way.one
          obtain ⟨L, hL⟩ : ∃ L, L = R.way.kinds.length := ⟨_, rfl⟩
          have hLm : L ≤ 65536 := by rw [hL]; exact Nat.le_trans HR.out.rel.way.le HR.out.rel.big
          obtain ⟨g, cg, k13, kc⟩ := HPB.out.pb.kinds (by omega)
          rw [← hL] at k13 kc
          have HKC := Lib.hid kc
          clear kc
          have HWS := Lib.hid (fun (hf : 0 ≤ x.no → R.way.kinds[x.no.toNat]? ≠ some 255) => HR.out.rel.writes x.no x.b2 (roomB x) hf)
          have HW0 := Lib.hid (fun W (h : IsPB w W d p rb K M R B x) => pb_write h HSN.out (by omega) x.no x.b2 (roomB x))
          have HW1 := Lib.hid (fun W (J : Nat) (N : PM) (h : IsPB w W d p rb J N R B x) => pb_rwrite h HMO.out x.no x.b2 (roomB x) un.1 un.2)
          have HL0 := Lib.hid hL
          clear hL
          by_cases n0 : x.no < 0
          · have hne : 0 ≤ x.no → R.way.kinds[x.no.toNat]? ≠ some 255 := fun h => by omega
            have d1 : decide (0 ≤ x.no) = false := by simp; omega
            obtain ⟨f, M1, R1, e1, e2, e3, e4, e5⟩ := HWS.out hne
            rw [e1] at HW0
            rw [e2] at HW1
            have HE := Lib.hid (And.intro e3 (And.intro e4 e5))
            clear e1 e2 e3 e4 e5 hne
            go_wp2_with fail
            go_quiet (fail)
            try clear hm
            clear k13
            have hwb : IntKind.i64.wrap x.b2 = x.b2 := IntWalk.i64_in _ (by omega)
            go_wp2_with fail
            refine wp_name (fun W2 hW2 => ?_)
            have hP : IsPB w W2.drew d p rb K M R B x := by rw [← hW2]; exact (HPB.out.pb.move (below_drewN' (Below.refl _ _) _)).drew
            clear hW2
            go_region_held3 (fun w' => w'.cell? ⟨B, 0, none⟩ = some (.int .u8 x.b1) ∧ w'.cell? ⟨B, 1, none⟩ = some (.int .u8 x.b2) ∧ w'.cell? ⟨B, 2, none⟩ = some (.int .u8 x.b3) ∧ w'.cell? ⟨B, 3, none⟩ = some (.int .i64 x.no) ∧ w'.cell? ⟨B, 4, none⟩ = some (.int .i64 x.n) ∧ w'.cell? ⟨B, 5, none⟩ = some (.int .u16 x.lng) ∧ w'.cell? ⟨B, 6, none⟩ = some (.slice x.ka x.kn x.kc) ∧ w'.cell? ⟨B, 7, none⟩ = some (.int .i64 x.torn) ∧ w'.cell? ⟨B, 8, none⟩ = some (.int .i64 x.by_)) (exact hP.cells)
              (first
                | (go_at_call 28; refine (room_any x HOK.out _).mono ?_; rintro e w6 ⟨rfl, hbx⟩; have hP := hP.move hbx; clear hbx)
                | (go_at_call 27; refine (HW0.out _ hP).mono ?_; rintro e w6 ⟨rfl, hP⟩)
                | (go_at_call 29; refine (HW1.out _ _ _ hP).mono ?_; rintro e w6 ⟨rfl, hP⟩))
            go_wp2_with fail
            go_meet
            case rel => exact ⟨rfl, p, _, _, _, G, rfl, hP, HE.out.2.2, by omega, by omega, HE.out.1.trans HR.out.size, HE.out.2.1.1.trans HR.out.room, HE.out.2.1.2.trans HR.out.most⟩
          · obtain ⟨m, hm⟩ := Int.eq_ofNat_of_zero_le (show 0 ≤ x.no by omega)
            have HM := Lib.hid hm
            by_cases hmL : m < L
            · have km := HKC.out m hmL
              obtain ⟨v, hv⟩ : ∃ v, v = R.way.kinds.getD m 0 := ⟨_, rfl⟩
              rw [← hv] at km
              have HV := Lib.hid hv
              clear hv
              by_cases h255 : v = 255
              · subst h255
                go_wp2_with fail
                go_quiet (fail)
                go_wp2_with fail
                go_roundw
                case rel => exact ⟨i + 1, p, K, M, R, G, by omega, by go_num, rfl, (HPB.out.pb.move (below_drewN' (Below.refl _ _) _)).toPP, HR.out.rel, by omega, by omega, HR.out.size, HR.out.room, HR.out.most⟩
                case measure => simp [intOf]; omega
              · have hv2 : (v == 255) = false := by rw [beq_eq_false_iff_ne]; exact h255
                have hne : 0 ≤ x.no → R.way.kinds[x.no.toNat]? ≠ some 255 := fun _ he => by
                  rw [HM.out, Int.toNat_natCast] at he
                  apply h255
                  rw [HV.out, List.getD_eq_getElem?_getD, he]; rfl
                obtain ⟨f, M1, R1, e1, e2, e3, e4, e5⟩ := HWS.out hne
                rw [e1] at HW0
                rw [e2] at HW1
                have HE := Lib.hid (And.intro e3 (And.intro e4 e5))
                clear e1 e2 e3 e4 e5 hne
                go_wp2_with fail
                go_quiet (fail)
                try clear hm
                clear k13
                have hwb : IntKind.i64.wrap x.b2 = x.b2 := IntWalk.i64_in _ (by omega)
                go_wp2_with fail
                refine wp_name (fun W2 hW2 => ?_)
                have hP : IsPB w W2.drew d p rb K M R B x := by rw [← hW2]; exact (HPB.out.pb.move (below_drewN' (Below.refl _ _) _)).drew
                clear hW2
                go_region_held3 (fun w' => w'.cell? ⟨B, 0, none⟩ = some (.int .u8 x.b1) ∧ w'.cell? ⟨B, 1, none⟩ = some (.int .u8 x.b2) ∧ w'.cell? ⟨B, 2, none⟩ = some (.int .u8 x.b3) ∧ w'.cell? ⟨B, 3, none⟩ = some (.int .i64 x.no) ∧ w'.cell? ⟨B, 4, none⟩ = some (.int .i64 x.n) ∧ w'.cell? ⟨B, 5, none⟩ = some (.int .u16 x.lng) ∧ w'.cell? ⟨B, 6, none⟩ = some (.slice x.ka x.kn x.kc) ∧ w'.cell? ⟨B, 7, none⟩ = some (.int .i64 x.torn) ∧ w'.cell? ⟨B, 8, none⟩ = some (.int .i64 x.by_)) (exact hP.cells)
                  (first
                    | (go_at_call 28; refine (room_any x HOK.out _).mono ?_; rintro e w6 ⟨rfl, hbx⟩; have hP := hP.move hbx; clear hbx)
                    | (go_at_call 27; refine (HW0.out _ hP).mono ?_; rintro e w6 ⟨rfl, hP⟩)
                    | (go_at_call 29; refine (HW1.out _ _ _ hP).mono ?_; rintro e w6 ⟨rfl, hP⟩))
                go_wp2_with fail
                go_meet
                case rel => exact ⟨rfl, p, _, _, _, G, rfl, hP, HE.out.2.2, by omega, by omega, HE.out.1.trans HR.out.size, HE.out.2.1.1.trans HR.out.room, HE.out.2.1.2.trans HR.out.most⟩
            · have hne : 0 ≤ x.no → R.way.kinds[x.no.toNat]? ≠ some 255 := fun _ he => by
                rw [HM.out, Int.toNat_natCast] at he
                have := (List.getElem?_eq_some_iff.1 he).1
                have := HL0.out
                omega
              have d2 : decide (m < L) = false := by simp; omega
              have d3 : decide ((m : Int) < (L : Int)) = false := by simp; omega
              obtain ⟨f, M1, R1, e1, e2, e3, e4, e5⟩ := HWS.out hne
              rw [e1] at HW0
              rw [e2] at HW1
              have HE := Lib.hid (And.intro e3 (And.intro e4 e5))
              clear e1 e2 e3 e4 e5 hne
              go_wp2_with fail
              go_quiet (fail)
              try clear hm
              clear k13
              have hwb : IntKind.i64.wrap x.b2 = x.b2 := IntWalk.i64_in _ (by omega)
              go_wp2_with fail
              refine wp_name (fun W2 hW2 => ?_)
              have hP : IsPB w W2.drew d p rb K M R B x := by rw [← hW2]; exact (HPB.out.pb.move (below_drewN' (Below.refl _ _) _)).drew
              clear hW2
              go_region_held3 (fun w' => w'.cell? ⟨B, 0, none⟩ = some (.int .u8 x.b1) ∧ w'.cell? ⟨B, 1, none⟩ = some (.int .u8 x.b2) ∧ w'.cell? ⟨B, 2, none⟩ = some (.int .u8 x.b3) ∧ w'.cell? ⟨B, 3, none⟩ = some (.int .i64 x.no) ∧ w'.cell? ⟨B, 4, none⟩ = some (.int .i64 x.n) ∧ w'.cell? ⟨B, 5, none⟩ = some (.int .u16 x.lng) ∧ w'.cell? ⟨B, 6, none⟩ = some (.slice x.ka x.kn x.kc) ∧ w'.cell? ⟨B, 7, none⟩ = some (.int .i64 x.torn) ∧ w'.cell? ⟨B, 8, none⟩ = some (.int .i64 x.by_)) (exact hP.cells)
                (first
                  | (go_at_call 28; refine (room_any x HOK.out _).mono ?_; rintro e w6 ⟨rfl, hbx⟩; have hP := hP.move hbx; clear hbx)
                  | (go_at_call 27; refine (HW0.out _ hP).mono ?_; rintro e w6 ⟨rfl, hP⟩)
                  | (go_at_call 29; refine (HW1.out _ _ _ hP).mono ?_; rintro e w6 ⟨rfl, hP⟩))
              go_wp2_with fail
              go_meet
              case rel => exact ⟨rfl, p, _, _, _, G, rfl, hP, HE.out.2.2, by omega, by omega, HE.out.1.trans HR.out.size, HE.out.2.1.1.trans HR.out.room, HE.out.2.1.2.trans HR.out.most⟩
        · as_aux_lemma =>
          obtain ⟨f, M1, R1, e1, e2, e3, e4, e5, e6⟩ := HPB.out.rel.gives x.no
          have HAL := Lib.hid (pb_free HPB.out.pb HSN.out (by omega) x.no)
          rw [e1] at HAL
          have HE := Lib.hid (And.intro e2 (And.intro e3 (And.intro e4 (And.intro e5 e6))))
          clear e1 e2 e3 e4 e5 e6
          go_wp2_with fail
          refine HAL.out.mono ?_
          rintro e w4 ⟨rfl, h4⟩
          have q3 := h4.cells.2.2.2.1
          have HRA := Lib.hid (pb_rfree h4 HMO.out x.no un.1 un.2)
          rw [HE.out.1] at HRA
          clear h4
          go_wp2_with fail
          refine HRA.out.mono ?_
          rintro e w5 ⟨rfl, h5⟩
          have H5 := Lib.hid h5
          clear h5 q3
          by_cases hf : f = 10
          · have HRE := Lib.hid (HE.out.2.2.2.2 hf)
            subst hf
            go_wp2_with fail
            refine (pb_abort H5.out).mono ?_
            rintro e w6 ⟨rfl, h6⟩
            have H6 := Lib.hid h6
            rw [HRE.out.1] at H6
            clear h6
            go_wp2_with fail
            refine (pb_rabort H6.out HMO.out).mono ?_
            rintro e w7 ⟨rfl, h7⟩
            have H7 := Lib.hid h7
            clear h7
            go_wp2_with fail
            go_meet
            case rel => exact ⟨rfl, p, _, _, _, G, rfl, H7.out, HRE.out.2, by omega, by omega, HE.out.2.1.trans HR.out.size, HR.out.room, HR.out.most⟩
          · have hf2 : (f == 10) = false := by rw [beq_eq_false_iff_ne]; exact hf
            have HRE := Lib.hid (HE.out.2.2.2.1 hf)
            clear hf
            go_wp2_with fail
            go_meet
            case rel => exact ⟨rfl, p, _, _, _, G, rfl, H5.out, HRE.out, by omega, by omega, HE.out.2.1.trans HR.out.size, HE.out.2.2.1.1.trans HR.out.room, HE.out.2.2.1.2.trans HR.out.most⟩
        · as_aux_lemma =>
          obtain ⟨y, hy⟩ : ∃ y, y = x.n % 18446744073709551616 := ⟨_, rfl⟩
          have hyw : IntKind.u64.wrap x.n = y := by rw [IntKind.wrap_u64, hy]
          have y0 : 0 ≤ y := by omega
          have y1 : y ≤ 18446744073709551615 := by omega
          obtain ⟨f, M1, R1, e1, e2, e3, e4, e5⟩ := HPB.out.rel.sroots x.no y y0 y1
          have HW0 := Lib.hid (fun W (h : IsPB w W d p rb K M R B x) => pb_root h (by omega) x.no y y0)
          have HW1 := Lib.hid (fun W (J : Nat) (N : PM) (h : IsPB w W d p rb J N R B x) => pb_rroot h HMO.out x.no y un.1 un.2 y0 y1)
          rw [e1] at HW0
          rw [e2] at HW1
          have HE := Lib.hid (And.intro e3 (And.intro e4 e5))
          have HY := Lib.hid hy
          clear e1 e2 e3 e4 e5 hy
          go_wp2_with fail
          have hP := HPB.out.pb.drew
          go_region_held3 (fun w' => w'.cell? ⟨B, 3, none⟩ = some (.int .i64 x.no) ∧ w'.cell? ⟨B, 4, none⟩ = some (.int .i64 x.n)) (exact ⟨hP.cells.2.2.2.1, hP.cells.2.2.2.2.1⟩)
            (first
              | (go_at_call 32; refine (HW0.out _ hP).mono ?_; rintro e w6 ⟨rfl, hP⟩)
              | (go_at_call 33; refine (HW1.out _ _ _ hP).mono ?_; rintro e w6 ⟨rfl, hP⟩))
          go_wp2_with fail
          go_meet
          case rel => exact ⟨rfl, p, _, _, _, G, rfl, hP, HE.out.2.2, by omega, by omega, HE.out.1.trans HR.out.size, HE.out.2.1.1.trans HR.out.room, HE.out.2.1.2.trans HR.out.most⟩
        · as_aux_lemma =>
          have hcm := HR.out.rel.commit (k := 0) HPB.out.pb.pgok (by rw [HR.out.room]; omega) (by omega)
          rw [HR.out.size] at hcm
          obtain ⟨c0, hc0⟩ : ∃ c0, c0 = cntR R := ⟨_, rfl⟩
          rw [← hc0] at hcm
          have HCO := Lib.hid (fun (hw : (commitP M).2.m.wait = []) => pb_commit HPB.out.pb (by omega) hw)
          have HCN := Lib.hid (fun W (J : Nat) (N : PM) (h : IsPB w W d p rb J N R B x) => pb_count h HMO.out)
          rw [← hc0] at HCN
          have hcl : c0 ≤ 41 := by rw [hc0]; exact Nat.le_trans HR.out.rel.cnt (by rw [HR.out.room]; omega)
          have hsz : (commitP M).2.size = 60 := (commitP_size M).trans HR.out.size
          have HSZ := Lib.hid hsz
          clear hc0 hsz
          by_cases hbig : 60 < 1 + 9 * c0
          · obtain ⟨e1, e2⟩ := hcm.1 hbig
            have HX := HCO.out e2.wt
            rw [e1] at HX
            have HX := Lib.hid HX
            have HE2 := Lib.hid e2
            clear hcm e1 e2
            have d1 : (60 : Int) < 1 + 9 * (c0 : Int) := by omega
            go_wp2_with fail
            refine HX.out.mono ?_
            rintro e w6 ⟨rfl, h6⟩
            have H6 := Lib.hid h6
            clear h6
            go_wp2_with fail
            refine (HCN.out _ _ _ H6.out).mono ?_
            rintro e w7 ⟨rfl, rfl⟩
            go_wp2_with fail
            go_meet
            case rel => exact ⟨rfl, p, _, _, _, _, rfl, H6.out, HE2.out, by omega, by omega, HSZ.out, HR.out.room, HR.out.most⟩
          · obtain ⟨e1, e2⟩ := hcm.2 (by omega)
            have HX := HCO.out e2.wt
            rw [e1] at HX
            have HX := Lib.hid HX
            have HE2 := Lib.hid e2
            clear hcm e1 e2
            have d1 : ¬ (60 : Int) < 1 + 9 * (c0 : Int) := by omega
            go_wp2_with fail
            refine HX.out.mono ?_
            rintro e w6 ⟨rfl, h6⟩
            have H6 := Lib.hid h6
            clear h6
            go_wp2_with fail
            refine (HCN.out _ _ _ H6.out).mono ?_
            rintro e w7 ⟨rfl, rfl⟩
            go_wp2_with fail
            refine (pb_keep H6.out HMO.out).mono ?_
            rintro e w8 ⟨rfl, h8⟩
            have H8 := Lib.hid h8
            clear h8
            go_wp2_with fail
            go_meet
            case rel => exact ⟨rfl, p, _, _, _, _, rfl, H8.out, HE2.out, by omega, by omega, HSZ.out, HR.out.room, HR.out.most⟩
        · as_aux_lemma =>
          go_wp2_with fail
          refine (pb_abort HPB.out.pb).mono ?_
          rintro e w6 ⟨rfl, h6⟩
          have H6 := Lib.hid h6
          clear h6
          go_wp2_with fail
          refine (pb_rabort H6.out HMO.out).mono ?_
          rintro e w7 ⟨rfl, h7⟩
          have H7 := Lib.hid h7
          clear h7
          go_wp2_with fail
          go_meet
          case rel => exact ⟨rfl, p, _, _, _, G, rfl, H7.out, HR.out.rel.abort, by omega, by omega, HR.out.size, HR.out.room, HR.out.most⟩
        · as_aux_lemma =>
          have hcm := HR.out.rel.ck (k := 0) HPB.out.pb.pgok (by omega)
          obtain ⟨c0, hc0⟩ : ∃ c0, c0 = cntR R := ⟨_, rfl⟩
          rw [← hc0] at hcm
          have HCO := Lib.hid (fun (hw : (ckP M).2.m.wait = []) => pb_ck HPB.out.pb hw)
          have HCN := Lib.hid (fun W (J : Nat) (N : PM) (h : IsPB w W d p rb J N R B x) => pb_count h HMO.out)
          rw [← hc0] at HCN
          have hsz : (ckP M).2.size = 60 := (ckP_size M).trans HR.out.size
          have HSZ := Lib.hid hsz
          clear hc0 hsz
          by_cases hbig : 0 < c0
          · have e1 := hcm.1 hbig
            have HX := HCO.out (by rw [e1]; exact HR.out.rel.wt)
            rw [e1] at HX
            have HX := Lib.hid HX
            clear hcm e1
            have d1 : (0 : Int) < (c0 : Int) := by omega
            go_wp2_with fail
            refine HX.out.mono ?_
            rintro e w6 ⟨rfl, h6⟩
            have H6 := Lib.hid h6
            clear h6
            go_wp2_with fail
            refine (HCN.out _ _ _ H6.out).mono ?_
            rintro e w7 ⟨rfl, rfl⟩
            go_wp2_with fail
            go_meet
            case rel => exact ⟨rfl, p, _, _, _, _, rfl, H6.out, HR.out.rel, by omega, by omega, HR.out.size, HR.out.room, HR.out.most⟩
          · obtain rfl : c0 = 0 := by omega
            obtain ⟨e1, e2⟩ := hcm.2 rfl
            have HX := HCO.out e2.wt
            rw [e1] at HX
            have HX := Lib.hid HX
            have HE2 := Lib.hid e2
            clear hcm e1 e2
            go_wp2_with fail
            refine HX.out.mono ?_
            rintro e w6 ⟨rfl, h6⟩
            have H6 := Lib.hid h6
            clear h6
            go_wp2_with fail
            refine (HCN.out _ _ _ H6.out).mono ?_
            rintro e w7 ⟨rfl, rfl⟩
            go_wp2_with fail
            refine (HCN.out _ _ _ H6.out).mono ?_
            rintro e w7 ⟨rfl, rfl⟩
            go_wp2_with fail
            go_meet
            case rel => exact ⟨rfl, p, _, _, _, _, rfl, H6.out, HE2.out, by omega, by omega, HSZ.out, HR.out.room, HR.out.most⟩
        · as_aux_lemma =>
          have HOP := Lib.hid (pb_open HPB.out.pb HR.out.rel (by omega) (by rw [HR.out.room]; omega) (by rw [HR.out.room]; omega))
          rw [HR.out.room] at HOP
          go_wp2_with fail
          try rw [← HKK.out]
          refine HOP.out.mono ?_
          rintro e w6 ⟨p1, rfl, h6⟩
          have H6 := Lib.hid h6
          clear h6
          go_wp2_with fail
          refine (pb_rabort H6.out HMO.out).mono ?_
          rintro e w7 ⟨rfl, h7⟩
          have H7 := Lib.hid h7
          clear h7
          go_wp2_with fail
          go_meet
          case rel => exact ⟨rfl, p1, _, _, _, G, rfl, H7.out, HR.out.rel.abort, by omega, by omega, HR.out.size, HR.out.room, HR.out.most⟩
        · as_aux_lemma =>
          have HOP := Lib.hid (pb_open HPB.out.pb HR.out.rel (by omega) (by rw [HR.out.room]; omega) (by rw [HR.out.room]; omega))
          rw [HR.out.room] at HOP
          go_wp2_with fail
          try rw [← HKK.out]
          refine HOP.out.mono ?_
          rintro e w6 ⟨p1, rfl, h6⟩
          have H6 := Lib.hid h6
          clear h6
          go_wp2_with fail
          refine (pb_rabort H6.out HMO.out).mono ?_
          rintro e w7 ⟨rfl, h7⟩
          have H7 := Lib.hid h7
          clear h7
          go_wp2_with fail
          go_meet
          case rel => exact ⟨rfl, p1, _, _, _, G, rfl, H7.out, HR.out.rel.abort, by omega, by omega, HR.out.size, HR.out.room, HR.out.most⟩
      case rest =>
        as_aux_lemma =>
        obtain ⟨rfl, p1, K1, M1, R1, G1, rfl, hm1⟩ := hcut
        have HM := Lib.hid hm1
        have hk1 := hm1.kb
        have hg1 := hm1.gb
        have hl29 : R1.way.kinds.length ≤ 29 := by rw [← hm1.most]; exact hm1.rel.way.le
        have HTD := Lib.hid (pb_told hm1.pb hm1.rel (by omega))
        clear hm1 HPB
        go_wp2_with fail
        refine HTD.out.mono ?_
        rintro e w8 ⟨k, r', kS, rS, fS, kW, rW, fW, dv, rfl, hT⟩
        have hN := hT.new
        obtain ⟨a1, c1, a2, c2, a3, c3, a4, c4, a5, c5, rfl, rfl, rfl, rfl, rfl⟩ := hN.forms
        have HDI := Lib.hid (fun W J (h : IsPN w W d p1 rb J M1 R1 B x (.slice a1 R1.way.kinds.length c1) (.slice a2 R1.way.rooms.length c2) kS rS fS (.slice a3 R1.way.kinds.length c3) (.slice a4 R1.way.rooms.length c4) (.slice a5 R1.way.free.length c5) dv w8.heap.size) => pn_dirty h HM.out.rel)
        have HCO := Lib.hid (fun W J (h : IsPN w W d p1 rb J M1 R1 B x (.slice a1 R1.way.kinds.length c1) (.slice a2 R1.way.rooms.length c2) kS rS fS (.slice a3 R1.way.kinds.length c3) (.slice a4 R1.way.rooms.length c4) (.slice a5 R1.way.free.length c5) dv w8.heap.size) => pn_count h (HM.out.rel.rmok (by rw [HM.out.room]; omega)))
        have HMS := Lib.hid (fun W J (h : IsPN w W d p1 rb J M1 R1 B x (.slice a1 R1.way.kinds.length c1) (.slice a2 R1.way.rooms.length c2) kS rS fS (.slice a3 R1.way.kinds.length c3) (.slice a4 R1.way.rooms.length c4) (.slice a5 R1.way.free.length c5) dv w8.heap.size) => pn_most h HM.out.rel)
        have HPA := Lib.hid (fun W (h : IsPN w W d p1 rb (K1 + 10 * R1.way.kinds.length + 100) M1 R1 B x (.slice a1 R1.way.kinds.length c1) (.slice a2 R1.way.rooms.length c2) kS rS fS (.slice a3 R1.way.kinds.length c3) (.slice a4 R1.way.rooms.length c4) (.slice a5 R1.way.free.length c5) dv w8.heap.size) => pn_pages h HM.out.rel (by omega))
        have hsa := (fun W J (h : IsPN w W d p1 rb J M1 R1 B x (.slice a1 R1.way.kinds.length c1) (.slice a2 R1.way.rooms.length c2) kS rS fS (.slice a3 R1.way.kinds.length c3) (.slice a4 R1.way.rooms.length c4) (.slice a5 R1.way.free.length c5) dv w8.heap.size) => pn_same h HM.out.rel)
        have hce := (fun W J (h : IsPN w W d p1 rb J M1 R1 B x (.slice a1 R1.way.kinds.length c1) (.slice a2 R1.way.rooms.length c2) kS rS fS (.slice a3 R1.way.kinds.length c3) (.slice a4 R1.way.rooms.length c4) (.slice a5 R1.way.free.length c5) dv w8.heap.size) => h.cells)
        rw [show lenR R1 = ((R1.way.kinds.length : Nat) : Int) from rfl] at HPA
        simp only [stV, x8] at hsa hce hN ⊢
        generalize R1.way.roots.getD 0 0 = y0 at hsa hce hN ⊢
        generalize R1.way.roots.getD 1 0 = y1 at hsa hce hN ⊢
        generalize R1.way.roots.getD 2 0 = y2 at hsa hce hN ⊢
        generalize R1.way.roots.getD 3 0 = y3 at hsa hce hN ⊢
        generalize R1.way.roots.getD 4 0 = y4 at hsa hce hN ⊢
        generalize R1.way.roots.getD 5 0 = y5 at hsa hce hN ⊢
        generalize R1.way.roots.getD 6 0 = y6 at hsa hce hN ⊢
        generalize R1.way.roots.getD 7 0 = y7 at hsa hce hN ⊢
        have HSA := Lib.hid hsa
        have HCE := Lib.hid hce
        have HT := Lib.hid hT
        clear hT hsa hce
        go_wp2_with fail
        have hP := hN.drew
        generalize hNb : w8.heap.size = Nb at *
        go_region_held3 (fun w' => w'.cell? ⟨Nb, 0, none⟩ = some (.slice a1 R1.way.kinds.length c1) ∧ w'.cell? ⟨Nb, 1, none⟩ = some (.slice a2 R1.way.rooms.length c2) ∧ w'.cell? ⟨Nb, 2, none⟩ = some (.slice none 0 0) ∧ w'.cell? ⟨Nb, 3, none⟩ = some (.int .u64 y0) ∧ w'.cell? ⟨Nb, 4, none⟩ = some (.int .u64 y1) ∧ w'.cell? ⟨Nb, 5, none⟩ = some (.int .u64 y2) ∧ w'.cell? ⟨Nb, 6, none⟩ = some (.int .u64 y3) ∧ w'.cell? ⟨Nb, 7, none⟩ = some (.int .u64 y4) ∧ w'.cell? ⟨Nb, 8, none⟩ = some (.int .u64 y5) ∧ w'.cell? ⟨Nb, 9, none⟩ = some (.int .u64 y6) ∧ w'.cell? ⟨Nb, 10, none⟩ = some (.int .u64 y7) ∧
            w'.cell? ⟨rb, 0, none⟩ = some (.int .i64 R1.most) ∧ w'.cell? ⟨rb, 13, none⟩ = some (.slice a3 R1.way.kinds.length c3) ∧ w'.cell? ⟨rb, 14, none⟩ = some (.slice a4 R1.way.rooms.length c4) ∧ w'.cell? ⟨rb, 15, none⟩ = some (.slice a5 R1.way.free.length c5) ∧ w'.cell? ⟨rb, 16, none⟩ = some (.int .u64 y0) ∧ w'.cell? ⟨rb, 17, none⟩ = some (.int .u64 y1) ∧ w'.cell? ⟨rb, 18, none⟩ = some (.int .u64 y2) ∧ w'.cell? ⟨rb, 19, none⟩ = some (.int .u64 y3) ∧ w'.cell? ⟨rb, 20, none⟩ = some (.int .u64 y4) ∧ w'.cell? ⟨rb, 21, none⟩ = some (.int .u64 y5) ∧ w'.cell? ⟨rb, 22, none⟩ = some (.int .u64 y6) ∧ w'.cell? ⟨rb, 23, none⟩ = some (.int .u64 y7)) (exact HCE.out _ _ hP)
          (first
            | (go_at_call 13; refine (HSA.out _ _ hP).mono ?_; rintro e w9 ⟨rfl, hP⟩)
            | (go_at_call 38; refine (HDI.out _ _ hP).mono ?_; rintro e w9 ⟨rfl, hP⟩)
            | (go_at_call 35; refine (HCO.out _ _ hP).mono ?_; rintro e w9 ⟨rfl, hP⟩)
            | (go_at_call 20; refine (HPA.out _ hP).mono ?_; rintro e w9 ⟨rfl, hP⟩)
            | (go_at_call 15; refine (HMS.out _ _ hP).mono ?_; rintro e w9 ⟨rfl, hP⟩))
        have H9 := Lib.hid hP.toPB
        have q3 := hP.toPB.cells.2.2.2.1
        have hre := HM.out.rel.readErr x.no
        have HRD := Lib.hid (pb_read hP.toPB (soundP_snd HM.out.rel.snd) (by omega) x.no)
        obtain ⟨L, hL⟩ : ∃ L : Nat, L = R1.way.kinds.length := ⟨_, rfl⟩
        have hLb : L ≤ 29 := by rw [hL]; exact hl29
        rw [show lenR R1 = ((R1.way.kinds.length : Nat) : Int) from rfl, ← hL] at hre
        generalize readP M1 x.no = Q at HRD hre
        obtain ⟨t1, t2, t3⟩ := Q
        simp only at hre
        have HRE := Lib.hid hre
        have HLL := Lib.hid hL
        clear hP hN hre hL HSA HCE HDI HCO HPA HMS
        by_cases h0 : x.no < 0
        · as_aux_lemma =>
          obtain rfl : t3 = 1 := HRE.out.1 (.inl h0)
          go_wp2_with fail
          refine HRD.out.mono ?_
          rintro e w9 ⟨rfl, h9⟩
          have H10 := Lib.hid h9
          have q3 := h9.cells.2.2.2.1
          clear h9
          have d1 : decide (x.no < 0) = true := by simp; omega
          go_wp2_with fail
          go_quiet (fail)
          have H11 := (H10.out.move (w' := _) (below_drewN' (Below.refl _ _) nq)).toPP
          go_wp2_with fail
          go_roundw
          case rel => exact ⟨i + 1, p1, _, M1, R1, G1, by omega, by go_num, rfl, H11, HM.out.rel, by omega, by omega, HM.out.size, HM.out.room, HM.out.most⟩
          case measure => simp [intOf]; omega
        · have d1 : decide (x.no < 0) = false := by simp; omega
          by_cases h1 : (L : Int) ≤ x.no
          · as_aux_lemma =>
            obtain rfl : t3 = 1 := HRE.out.1 (.inr h1)
            have d2 : decide ((L : Int) ≤ x.no) = true := by simp; omega
            go_wp2_with fail
            refine HRD.out.mono ?_
            rintro e w9 ⟨rfl, h9⟩
            have H10 := Lib.hid (fun W (h : IsPB w W d p1 rb (K1 + 10 * R1.way.kinds.length + 100 + 2 + 4) M1 R1 B x) => pb_pages h (by omega))
            rw [HM.out.rel.pages, show lenR R1 = ((L : Nat) : Int) from by rw [HLL.out]; rfl] at H10
            have q3 := h9.cells.2.2.2.1
            go_wp2_with fail
            have hP := h9.drew
            go_region_held3 (fun w' => w'.cell? ⟨B, 3, none⟩ = some (.int .i64 x.no)) (exact hP.cells.2.2.2.1)
              (first
                | (go_at_call 20; refine (H10.out _ hP).mono ?_; rintro e w10 ⟨rfl, hP⟩))
            go_wp2_with fail
            go_roundw
            case rel => exact ⟨i + 1, p1, _, M1, R1, G1, by omega, by go_num, rfl, hP.toPP, HM.out.rel, by omega, by omega, HM.out.size, HM.out.room, HM.out.most⟩
            case measure => simp [intOf]; omega
          · as_aux_lemma =>
            obtain rfl : t3 = 0 := HRE.out.2 (by omega)
            have d2 : decide ((L : Int) ≤ x.no) = false := by simp; omega
            go_wp2_with fail
            refine HRD.out.mono ?_
            rintro e w9 ⟨rfl, h9⟩
            have H10 := Lib.hid (fun W (h : IsPB w W d p1 rb (K1 + 10 * R1.way.kinds.length + 100 + 2 + 4) M1 R1 B x) => pb_pages h (by omega))
            rw [HM.out.rel.pages, show lenR R1 = ((L : Nat) : Int) from by rw [HLL.out]; rfl] at H10
            have q3 := h9.cells.2.2.2.1
            go_wp2_with fail
            have hP := h9.drew
            go_region_held3 (fun w' => w'.cell? ⟨B, 3, none⟩ = some (.int .i64 x.no)) (exact hP.cells.2.2.2.1)
              (first
                | (go_at_call 20; refine (H10.out _ hP).mono ?_; rintro e w10 ⟨rfl, hP⟩))
            go_wp2_with fail
            go_roundw
            case rel => exact ⟨i + 1, p1, _, M1, R1, G1, by omega, by go_num, rfl, hP.toPP, HM.out.rel, by omega, by omega, HM.out.size, HM.out.room, HM.out.most⟩
            case measure => simp [intOf]; omega
    · obtain rfl : i = n := by omega
      go_wp2_with fail
      go_ret
      exact ⟨rfl, HR.out.pp.below⟩
end Go.Proofs.YtpaholkmlfaflaaGreatDoor

