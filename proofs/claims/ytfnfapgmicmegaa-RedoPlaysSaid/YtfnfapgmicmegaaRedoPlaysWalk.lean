/- The walk of the law RedoPlays. -/
import Derived.Test.YtfnfapgmicmegaaRPlay2
namespace Go.Proofs.Ytfnfapgmicmegaa
open Go.RowKit Go.Maps Go.Joins
set_option linter.unusedVariables false

/-- Nothing stands on a fresh disk, wherever. -/
theorem stM_new_at (n frm size : Nat) (q : Int) (hn : frm < n) : stM (newM (newSu n)) frm size q = ([], 0) := by
  unfold stM
  refine stF_end ?_
  rintro ⟨-, h⟩
  obtain ⟨t, ht, h1, -, -⟩ := txOk_facts h
  unfold txN at ht
  rw [secM_new n (frm + 0) (by omega), nul_cut] at ht
  simp [leN] at ht
  omega
theorem open_new {w0 w : World} {d : Nat} {F : List Nat} (hd : IsDisk w d F (newM (newSu 150))) (hb : Below w0.heap.size w0 w) (hF : ∀ b ∈ F, w0.heap.size ≤ b) (q : Int) (q0 : 0 ≤ q) (q1 : q ≤ 18446744073709551615) :
    Calls Try.prog 8 #[.pointer (some ⟨d, 0, none⟩), .int .i64 (3 : Nat), .int .i64 (100 : Nat), .int .u64 q] w fun e w' => ∃ a c, e = .returned (.tuple #[.pointer (some ⟨w.heap.size, 0, none⟩), .slice a 0 c, .int .i64 0]) ∧
      PlSt w0 w' d w.heap.size F ⟨3, 100, 0, q, false⟩ (newM (newSu 150)) 0 := by
  have hok : DOk (newM (newSu 150)) 0 := DOk.new (newSu_size 150) (by simp [newSu]) (by simp [newSu])
  refine (open_up hd rfl hok 3 100 q (by decide) (by simp [newM, newSu]) q0 q1).mono ?_
  rintro e w' ⟨v, rfl, hl, hrow, hbw⟩
  rw [stM_new_at 150 3 100 q (by decide)] at hl hrow
  obtain ⟨a, c, rfl⟩ := txRow_form hrow
  have hm : (q + (([] : List TxD).length : Int)) % 18446744073709551616 = q := by simp; omega
  simp only [hm] at hl
  refine ⟨a, c, rfl, hl, hd.below hbw, hok, by simp [newM, newSu], fun h => by have := hd.lt _ h; omega, fun b hb' => ?_, hb.trans (hbw.mono hb.size), rfl, rfl, Nat.zero_le _, q0, q1⟩
  rcases List.mem_cons.1 hb' with rfl | hb'
  · exact hb.size
  · exact hF b hb'

set_option maxRecDepth 100000 in
set_option maxHeartbeats 8000000 in
theorem redoPlays_walk {w : World} (q0 : Int) (q1 : 0 ≤ q0) (q2 : q0 ≤ 18446744073709551615) {n c : Nat} {a : Option Addr} {l : List ActD} (hl : ActsIn w w.heap.size a n l) :
    Calls Try.prog 5 #[.int .u64 q0, .slice a n c] w fun e w' => e = .returned (.bool true) ∧ Below w.heap.size w w' := by
  have hfit := hl.2.1
  have HL := Lib.hid hl
  clear hl
  have few' : ∀ w', Below w.heap.size w w' → ActsIn w' w.heap.size a n l := fun w' hb => by
    obtain ⟨e1, e2, e3⟩ := HL.out
    exact ⟨e1, e2, e3.imp id fun ⟨lb, off, ha, hA⟩ => ⟨lb, off, ha, hA.below hb⟩⟩
  have FW := Lib.hid few'
  clear few'
  cases hfew : fewA l
  · have HF := Lib.hid hfew
    clear hfew
    go_enter Try.func5, Try.ntmps5
    go_wp2_with fail
    refine (awake09_any _).mono ?_
    rintro e w1 ⟨rfl, hb1⟩
    go_wp2_with fail
    refine (few_in (FW.out w1 hb1)).mono ?_
    rintro e w2 ⟨rfl, rfl⟩
    rw [HF.out]
    go_wp2_with fail
    refine (awake09_any _).mono ?_
    rintro e w2 ⟨rfl, hb2⟩
    go_wp2_with fail
    go_ret
    exact ⟨rfl, below_step hb2 hb1⟩
  · have HF := Lib.hid hfew
    have hn40 : n ≤ 40 := by rw [HL.out.1]; exact fewA_length hfew
    clear hfew
    go_enter Try.func5, Try.ntmps5
    go_wp2_with fail
    refine (awake09_any _).mono ?_
    rintro e w1 ⟨rfl, hb1⟩
    go_wp2_with fail
    refine (few_in (FW.out w1 hb1)).mono ?_
    rintro e w2 ⟨rfl, rfl⟩
    rw [HF.out]
    go_wp2_with fail
    refine (new_any 150 _ (by omega) (by omega)).mono ?_
    rintro e w2 ⟨d, rfl, F2, hD2, hb2, hF2⟩
    have HO := Lib.hid (open_new hD2 (below_step hb2 hb1) (fun b hb => Nat.le_trans hb1.size (hF2 b hb)) q0 q1 q2)
    clear hD2 hb2 hF2 hb1
    go_wp2_with fail
    refine HO.out.mono ?_
    rintro e w3 ⟨a3, c3, rfl, hS3⟩
    generalize newM (newSu 150) = m0 at *
    clear HO
    have HS3 := Lib.hid hS3
    clear hS3
    go_wp2_with fail
    go_loopw [7, 10, 11, 12, 13] (fun x at_ nx dd i wr => ∃ (k : Nat) (lb : Nat) (F : List Nat) (A : Nat) (Q : Int) (D : Bool) (m : DM), k ≤ n ∧ i = .int .i64 k ∧ x = .pointer (some ⟨lb, 0, none⟩) ∧ at_ = .int .i64 A ∧ nx = .int .u64 Q ∧ dd = .bool D ∧ PlSt w wr d lb F ⟨3, 100, A, Q, D⟩ m (46 * k)) (fun _ _ _ _ i _ => n - (intOf i).toNat)
    case atStart => exact ⟨0, _, _, 0, q0, false, _, Nat.zero_le _, rfl, rfl, rfl, rfl, rfl, HS3.out⟩
    case round =>
      clear HS3 HF m0 F2
      obtain ⟨k, lb, F, A, Q, D, m, hk, rfl, rfl, rfl, rfl, rfl, hS⟩ := hrel
      have hA : A ≤ 100 := hS.at_
      have hQ0 : 0 ≤ Q := hS.n0
      have hQ1 : Q ≤ 18446744073709551615 := hS.n1
      by_cases hlt : k < n
      · obtain ⟨bb, off, x, ha, hx, hX, hlb⟩ := HL.out.at_ hS.below hlt
        rw [ha]
        have c0 := hX.c0
        have c1 := hX.c1
        have c2 := hX.c2
        have c3 := hX.c3
        have c4 := hX.c4
        have c5 := hX.c5
        rw [addr_add] at c1 c2 c3 c4 c5
        have ku := hX.ok.u1
        have ku2 := hX.ok.u2
        have kn := hX.ok.n
        have kt := hX.ok.torn
        have kb := hX.ok.by_
        have HX := Lib.hid hX
        have HS := Lib.hid hS
        clear hX hS ha hx
        have hk6 : x.b1 % 6 = 4 ∨ x.b1 % 6 = 5 ∨ x.b1 % 6 = 3 ∨ (x.b1 % 6 ≠ 4 ∧ x.b1 % 6 ≠ 5 ∧ x.b1 % 6 ≠ 3) := by omega
        rcases hk6 with h6 | h6 | h6 | h6
        · as_aux_lemma =>
          have hf := fz_bd x.n
          have HS1 := Lib.hid (HS.out.move (below_alloc (o := .cells #[.int .u8 x.b1, .int .u8 x.b2, .int .i64 x.n, .slice x.ka x.kn x.kc, .int .i64 x.torn, .int .i64 x.by_] 51) (Below.refl _ _)))
          go_wp2_with fail
          refine (play_fuse HS1.out _ hf.1 hf.2).mono ?_
          rintro e w4 ⟨rfl, F4, m4, hS4⟩
          have HS4 := Lib.hid hS4
          clear hS4 hf
          cases D
          · as_aux_lemma =>
            go_wp2_with fail
            refine (play_next HS4.out).mono ?_
            rintro e w85 ⟨rfl, rfl⟩
            go_wp2_with fail
            refine (play_left HS4.out rfl).mono ?_
            rintro e w86 ⟨rfl, hS86⟩
            have HS86 := Lib.hid hS86
            clear hS86
            go_wp2_with fail
            go_roundw
            case rel => exact ⟨k + 1, _, F4, A, Q, false, m4, by omega, by go_num, rfl, rfl, rfl, rfl, HS86.out.later (by omega)⟩
            case measure => simp [intOf]; omega
          · as_aux_lemma =>
            go_wp2_with fail
            refine (play_next HS4.out).mono ?_
            rintro e w85 ⟨rfl, rfl⟩
            go_wp2_with fail
            refine (play_left_dead HS4.out rfl).mono ?_
            rintro e w86 ⟨rfl, hS86⟩
            have HS86 := Lib.hid hS86
            clear hS86
            go_wp2_with fail
            go_roundw
            case rel => exact ⟨k + 1, _, F4, A, Q, true, m4, by omega, by go_num, rfl, rfl, rfl, rfl, HS86.out.later (by omega)⟩
            case measure => simp [intOf]; omega
        · as_aux_lemma =>
          have HS1 := Lib.hid (HS.out.move (below_alloc (o := .cells #[.int .u8 x.b1, .int .u8 x.b2, .int .i64 x.n, .slice x.ka x.kn x.kc, .int .i64 x.torn, .int .i64 x.by_] 51) (Below.refl _ _)))
          cases D
          · as_aux_lemma =>
            go_wp2_with fail
            refine (play_restart HS1.out rfl).mono ?_
            rintro e w4 ⟨rfl, hS4⟩
            have HS4 := Lib.hid hS4
            clear hS4
            go_wp2_with fail
            refine (play_next HS4.out).mono ?_
            rintro e w85 ⟨rfl, rfl⟩
            go_wp2_with fail
            refine (play_left HS4.out rfl).mono ?_
            rintro e w86 ⟨rfl, hS86⟩
            have HS86 := Lib.hid hS86
            clear hS86
            go_wp2_with fail
            go_roundw
            case rel => exact ⟨k + 1, _, F, 0, Q, false, m, by omega, by go_num, rfl, rfl, rfl, rfl, HS86.out.later (by omega)⟩
            case measure => simp [intOf]; omega
          · as_aux_lemma =>
            go_wp2_with fail
            refine (play_restart_dead HS1.out rfl).mono ?_
            rintro e w4 ⟨rfl, rfl⟩
            go_wp2_with fail
            refine (play_next HS1.out).mono ?_
            rintro e w85 ⟨rfl, rfl⟩
            go_wp2_with fail
            refine (play_left_dead HS1.out rfl).mono ?_
            rintro e w86 ⟨rfl, hS86⟩
            have HS86 := Lib.hid hS86
            clear hS86
            go_wp2_with fail
            go_roundw
            case rel => exact ⟨k + 1, _, F, A, Q, true, m, by omega, by go_num, rfl, rfl, rfl, rfl, HS86.out.later (by omega)⟩
            case measure => simp [intOf]; omega
        · as_aux_lemma =>
          have hsz := HS.out.below.size
          have HS1 := Lib.hid (HS.out.move (below_alloc (o := .cells #[.int .u8 x.b1, .int .u8 x.b2, .int .i64 x.n, .slice x.ka x.kn x.kc, .int .i64 x.torn, .int .i64 x.by_] 51) (Below.refl _ _)))
          have HK := Lib.hid ((HX.out.below ((below_alloc (o := .cells #[.int .u8 x.b1, .int .u8 x.b2, .int .i64 x.n, .slice x.ka x.kn x.kc, .int .i64 x.torn, .int .i64 x.by_] 51) (Below.refl _ _)).mono hsz : Below w.heap.size wr (wr.alloc (.cells #[.int .u8 x.b1, .int .u8 x.b2, .int .i64 x.n, .slice x.ka x.kn x.kc, .int .i64 x.torn, .int .i64 x.by_] 51))) hlb).keep)
          have HN5 := Lib.hid (fun b off (ha : x.ka = some ⟨b, off, none⟩) (hk0 : 0 < x.kn) => (fun hm => by have := HX.out.keepB b off ha hk0; have := HS.out.fresh b (by simp [hm]); omega : b ∉ F))
          go_wp2_with fail
          refine (play_crash HS1.out (by omega) _ _ HK.out HN5.out kb.1 kb.2).mono ?_
          rintro e w4 ⟨rfl, F4, m4, hS4, hw4, hd4⟩
          have hp4 := stM_props m4 3 100 q0
          obtain ⟨im, him⟩ : ∃ im, im = imgM m4.sure := ⟨_, rfl⟩
          have hims : im.size = 9600 := by rw [him, imgM_length _ hS4.ok.size.1, hS4.len]
          have hst := stIn_sure hw4 hS4.ok.size.1 3 100 hS4.ok.few (by rw [hS4.len]; decide)
          rw [← him] at hst
          have HOPEN := Lib.hid (play_open hS4 hd4 q0 q1 q2)
          have HST := fun (w : World) => Lib.hid (stands_any (w := w) hst q0 q1 q2)
          unfold StdPost at HST
          have HIMG := fun (w : World) (hD : IsDisk w d F4 m4) => Lib.hid (is_image hD hS4.ok)
          rw [← him] at HIMG
          generalize stM m4 3 100 q0 = R at hp4 HOPEN HST
          obtain ⟨T, A4⟩ := R
          simp only at hp4 HOPEN HST
          obtain ⟨p1, p2, p3⟩ := hp4
          have sb2 : 6592 ≤ im.size := by omega
          obtain ⟨nx, hnx⟩ : ∃ nx : Int, nx = (q0 + T.length) % 18446744073709551616 := ⟨_, rfl⟩
          have nx0 : 0 ≤ nx := by omega
          have nx1 : nx ≤ 18446744073709551615 := by omega
          have y1 : IntKind.u64.wrap (T.length : Int) = (T.length : Int) := by rw [IntKind.wrap_u64]; omega
          have y2 : IntKind.u64.wrap (q0 + (T.length : Int)) = nx := by rw [IntKind.wrap_u64, hnx]
          rw [← hnx] at HOPEN
          have P3 := Lib.hid p3
          clear hst hS4 hw4 hd4 him hims hnx p3
          go_wp2_with fail
          refine HOPEN.out.mono ?_
          rintro e w5 ⟨v, rfl, hS5, hrow⟩
          have hw5 := hS5.log.lt
          obtain ⟨a, c, rfl⟩ := txRow_form hrow
          have HS5 := Lib.hid hS5
          have HROW := Lib.hid hrow
          clear hS5 hrow HOPEN
          go_wp2_with fail
          refine (HIMG _ HS5.out.disk).out.mono ?_
          rintro e w6 ⟨rfl, hb6⟩
          have HS6 := Lib.hid (HS5.out.move hb6)
          have hw6 := hb6.size
          have HROW6 := Lib.hid (HROW.out.below hb6)
          clear hb6
          go_wp2_with fail
          refine (HST _).out.mono ?_
          rintro e w7 ⟨v2, rfl, hrow2, hb7⟩
          obtain ⟨a2, c2, rfl⟩ := txRowR_form hrow2
          have HROW2 := Lib.hid hrow2
          have HS7 := Lib.hid (HS6.out.move hb7)
          have hw7 := hb7.size
          have HROW7 := Lib.hid (HROW6.out.below hb7)
          clear hrow2 hb7
          go_wp2_with fail
          refine (plain_any HROW7.out rfl (by omega) (by omega)).mono ?_
          rintro e w8 ⟨a8, c8, rfl, hrow8, hb8⟩
          have HROW8 := Lib.hid hrow8
          have HROW28 := Lib.hid (HROW2.out.below hb8)
          have HS8 := Lib.hid (HS7.out.move hb8)
          clear hrow8 hb8
          go_wp2_with fail
          refine (same_any HROW8.out HROW28.out rfl (by omega) (fun y hy => by have := P3.out y hy; omega)).mono ?_
          rintro e w9 ⟨rfl, hd9⟩
          have HS9 := Lib.hid (HS8.out.move hd9.below)
          clear hd9
          go_wp2_with fail
          refine (play_next HS9.out).mono ?_
          rintro e w85 ⟨rfl, rfl⟩
          go_wp2_with fail
          refine (play_left HS9.out rfl).mono ?_
          rintro e w86 ⟨rfl, hS86⟩
          have HS86 := Lib.hid hS86
          clear hS86
          go_wp2_with fail
          go_roundw
          case rel => exact ⟨k + 1, _, F4, A4, nx, false, m4, by omega, by go_num, rfl, rfl, rfl, rfl, HS86.out.later (by omega)⟩
          case measure => simp [intOf]; omega
        · as_aux_lemma =>
          have g4 : (x.b1 % 6 == 4) = false := by rw [beq_eq_false_iff_ne]; exact h6.1
          have g5 : (x.b1 % 6 == 5) = false := by rw [beq_eq_false_iff_ne]; exact h6.2.1
          have g3 : (x.b1 % 6 == 3) = false := by rw [beq_eq_false_iff_ne]; exact h6.2.2
          clear h6
          obtain ⟨W, hW⟩ : ∃ W, W = wr.alloc (.cells #[.int .u8 x.b1, .int .u8 x.b2, .int .i64 x.n, .slice x.ka x.kn x.kc, .int .i64 x.torn, .int .i64 x.by_] 51) := ⟨_, rfl⟩
          have hlt0 : ∀ b ∈ lb :: F, b < wr.heap.size := fun b hb => by
            rcases List.mem_cons.1 hb with rfl | hb
            · exact HS.out.log.lt
            · exact HS.out.disk.lt _ hb
          have HLT := Lib.hid hlt0
          have HS1 := Lib.hid (HS.out.move (below_alloc (o := .cells #[.int .u8 x.b1, .int .u8 x.b2, .int .i64 x.n, .slice x.ka x.kn x.kc, .int .i64 x.torn, .int .i64 x.by_] 51) (Below.refl _ _)))
          have hn5 := actN_bd x.n
          clear hlt0 hW W
          go_wp2_with fail
          refine (pages_any _ _ _ _ _ _ _ ku2.1 ku2.2 kn.1 kn.2).mono ?_
          rintro e w4 ⟨v, rfl, hrow, hb4⟩
          have HS4 := Lib.hid (HS1.out.move hb4)
          have HROW := Lib.hid hrow
          generalize actN x.n = N at hn5 HROW hrow
          obtain ⟨a4, c4, rfl⟩ := act_form hrow
          clear hrow hb4
          go_wp2_with fail
          refine (is_down HS4.out.disk).mono ?_
          rintro e w5 ⟨rfl, rfl⟩
          by_cases hN : N = 0
          · as_aux_lemma =>
            subst hN
            go_wp2_with fail
            refine (play_append_none HS4.out).mono ?_
            rintro e w5 ⟨rfl, hS5⟩
            have HS5 := Lib.hid hS5
            clear hS5
            cases D
            · as_aux_lemma =>
              go_wp2_with fail
              refine (play_next HS5.out).mono ?_
              rintro e w85 ⟨rfl, rfl⟩
              go_wp2_with fail
              refine (play_left HS5.out rfl).mono ?_
              rintro e w86 ⟨rfl, hS86⟩
              have HS86 := Lib.hid hS86
              clear hS86
              go_wp2_with fail
              go_roundw
              case rel => exact ⟨k + 1, _, F, A, Q, false, m, by omega, by go_num, rfl, rfl, rfl, rfl, HS86.out.later (by omega)⟩
              case measure => simp [intOf]; omega
            · as_aux_lemma =>
              go_wp2_with fail
              refine (play_next HS5.out).mono ?_
              rintro e w85 ⟨rfl, rfl⟩
              go_wp2_with fail
              refine (play_left_dead HS5.out rfl).mono ?_
              rintro e w86 ⟨rfl, hS86⟩
              have HS86 := Lib.hid hS86
              clear hS86
              go_wp2_with fail
              go_roundw
              case rel => exact ⟨k + 1, _, F, A, Q, true, m, by omega, by go_num, rfl, rfl, rfl, rfl, HS86.out.later (by omega)⟩
              case measure => simp [intOf]; omega
          · have z1 : ((N : Int) == 0) = false := by rw [beq_eq_false_iff_ne]; omega
            have z2 : (N == 0) = false := by rw [beq_eq_false_iff_ne]; exact hN
            have hN1 : 0 < N := by omega
            have hPG := act_pg (L := lb :: F) HROW.out hN1 (fun b hb => by have := HLT.out b hb; simp; omega)
            have HPG := Lib.hid hPG
            clear hPG hN
            cases D
            · by_cases hr : 100 < A + 1 + 9 * N
              · as_aux_lemma =>
                have hr2 : 100 - (A : Int) < 1 + 9 * (N : Int) := by omega
                go_wp2_with fail
                refine (play_append_room HS4.out (by omega) hN1 hn5 HPG.out rfl hr).mono ?_
                rintro e w5 ⟨rfl, F5, m5, hS5⟩
                have HS5 := Lib.hid hS5
                clear hS5
                go_wp2_with fail
                refine (play_next HS5.out).mono ?_
                rintro e w85 ⟨rfl, rfl⟩
                go_wp2_with fail
                refine (play_left HS5.out rfl).mono ?_
                rintro e w86 ⟨rfl, hS86⟩
                have HS86 := Lib.hid hS86
                clear hS86
                go_wp2_with fail
                go_roundw
                case rel => exact ⟨k + 1, _, F5, A, Q, false, m5, by omega, by go_num, rfl, rfl, rfl, rfl, HS86.out.later (by omega)⟩
                case measure => simp [intOf]; omega
              · have hr2 : ¬ (100 - (A : Int) < 1 + 9 * (N : Int)) := by omega
                obtain ⟨Q1, hQ1⟩ : ∃ Q1 : Int, Q1 = (Q + 1) % 18446744073709551616 := ⟨_, rfl⟩
                have y2 : IntKind.u64.wrap (Q + 1) = Q1 := by rw [IntKind.wrap_u64, hQ1]
                have HAP := Lib.hid (play_append_fits (c := c4) HS4.out (by omega) hN1 hn5 HPG.out rfl (by show A + 1 + 9 * N ≤ 100; omega))
                simp only at HAP
                rw [← hQ1] at HAP
                clear hQ1
                go_wp2_with fail
                refine HAP.out.mono ?_
                rintro e w5 ⟨F5, m5, ⟨rfl, hd, hS5⟩ | ⟨rfl, hd, hS5⟩⟩
                · as_aux_lemma =>
                  rw [hd]
                  have HS5 := Lib.hid hS5
                  clear hS5 HAP hd
                  go_wp2_with fail
                  refine (play_next HS5.out).mono ?_
                  rintro e w85 ⟨rfl, rfl⟩
                  go_wp2_with fail
                  refine (play_left HS5.out rfl).mono ?_
                  rintro e w86 ⟨rfl, hS86⟩
                  have HS86 := Lib.hid hS86
                  clear hS86
                  go_wp2_with fail
                  go_roundw
                  case rel => exact ⟨k + 1, _, F5, (A + 1 + 9 * N), Q1, false, m5, by omega, by go_num, by go_num, rfl, rfl, rfl, HS86.out.later (by omega)⟩
                  case measure => simp [intOf]; omega
                · as_aux_lemma =>
                  have HS5 := Lib.hid hS5
                  have HDN := Lib.hid (hd ▸ is_down hS5.disk : Calls Try.prog 25 #[.pointer (some ⟨d, 0, none⟩)] w5 fun e w' => e = .returned (.bool true) ∧ w5 = w')
                  clear hS5 HAP hd
                  cases hmd : m.down
                  · as_aux_lemma =>
                    go_wp2_with fail
                    refine HDN.out.mono ?_
                    rintro e w6 ⟨rfl, rfl⟩
                    go_wp2_with fail
                    refine (play_next HS5.out).mono ?_
                    rintro e w85 ⟨rfl, rfl⟩
                    go_wp2_with fail
                    refine (play_left_dead HS5.out rfl).mono ?_
                    rintro e w86 ⟨rfl, hS86⟩
                    have HS86 := Lib.hid hS86
                    clear hS86
                    go_wp2_with fail
                    go_roundw
                    case rel => exact ⟨k + 1, _, F5, A, Q, true, m5, by omega, by go_num, rfl, rfl, rfl, rfl, HS86.out.later (by omega)⟩
                    case measure => simp [intOf]; omega
                  · as_aux_lemma =>
                    go_wp2_with fail
                    refine (play_next HS5.out).mono ?_
                    rintro e w85 ⟨rfl, rfl⟩
                    go_wp2_with fail
                    refine (play_left_dead HS5.out rfl).mono ?_
                    rintro e w86 ⟨rfl, hS86⟩
                    have HS86 := Lib.hid hS86
                    clear hS86
                    go_wp2_with fail
                    go_roundw
                    case rel => exact ⟨k + 1, _, F5, A, Q, true, m5, by omega, by go_num, rfl, rfl, rfl, rfl, HS86.out.later (by omega)⟩
                    case measure => simp [intOf]; omega
            · as_aux_lemma =>
              go_wp2_with fail
              refine (play_append_dead HS4.out (by omega) hN1 hn5 HPG.out rfl).mono ?_
              rintro e w5 ⟨rfl, F5, m5, hS5⟩
              have HS5 := Lib.hid hS5
              clear hS5
              go_wp2_with fail
              refine (play_next HS5.out).mono ?_
              rintro e w85 ⟨rfl, rfl⟩
              go_wp2_with fail
              refine (play_left_dead HS5.out rfl).mono ?_
              rintro e w86 ⟨rfl, hS86⟩
              have HS86 := Lib.hid hS86
              clear hS86
              go_wp2_with fail
              go_roundw
              case rel => exact ⟨k + 1, _, F5, A, Q, true, m5, by omega, by go_num, rfl, rfl, rfl, rfl, HS86.out.later (by omega)⟩
              case measure => simp [intOf]; omega
      · obtain rfl : k = n := by omega
        have HB := Lib.hid hS.below
        clear hS
        go_wp2_with fail
        go_ret
        exact ⟨rfl, HB.out⟩
end Go.Proofs.Ytfnfapgmicmegaa
