/- redo's Append on pages that are right. -/
import Derived.Test.YtfnfapgmicmegaaRedo6
import Derived.Deep.DeepCutAuto
namespace Go.Proofs.Ytfnfapgmicmegaa
open Go.RowKit Go.Joins
set_option linter.unusedVariables false

/-- What Append answers, and leaves. -/
def ApPost (w : World) (d lb : Nat) (F : List Nat) (r : Int × LM × DM) (e : Ending) (w' : World) : Prop :=
  e = .returned (.int .i64 r.1) ∧ LogAt w' lb d r.2.1 ∧ (∃ F', IsDisk w' d F' r.2.2 ∧ (∀ b ∈ F', b ∈ F ∨ w.heap.size ≤ b) ∧ lb ∉ F') ∧ Touch (lb :: F) w w'
theorem ApPost.same {w w' : World} {d lb : Nat} {F : List Nat} {l : LM} {m : DM} {e : Int} (hl : LogAt w lb d l) (hd : IsDisk w d F m) (hn : lb ∉ F) (hb : Below w.heap.size w w') : ApPost w d lb F (e, l, m) (.returned (.int .i64 e)) w' :=
  ⟨rfl, hl.below hb, ⟨F, hd.below hb, fun b h => .inl h, hn⟩, Touch.of_below hb⟩

/-- The refusals of a call whose pages are right. -/
def apE (l : LM) (n : Nat) : Int := if l.dead then 17 else if 64 < n then 10 else if l.size < l.at_ + 1 + 9 * n then 9 else 0

def apR (l : LM) (m : DM) (pages : List ByteArray) (n : Nat) : Int × LM × DM := if apE l n = 0 then apM l m pages else (apE l n, l, m)
theorem apR_no {l : LM} {m : DM} {pages : List ByteArray} {n : Nat} {e : Int} (h : apE l n = e) (he : e ≠ 0) : apR l m pages n = (e, l, m) := by unfold apR; rw [if_neg (by rw [h]; exact he), h]
theorem apR_yes {l : LM} {m : DM} {pages : List ByteArray} {n : Nat} (h : apE l n = 0) : apR l m pages n = apM l m pages := by unfold apR; rw [if_pos h]
variable {w : World} {d lb c k : Nat} {F : List Nat} {l : LM} {m : DM} {a : Option Addr} {pages : List ByteArray}

set_option maxRecDepth 100000 in
set_option maxHeartbeats 8000000 in
theorem append_right (hl : LogAt w lb d l) (hd : IsDisk w d F m) (hk : DOk m k) (hkk : k ≤ 100000) (hF : lb ∉ F) (hin : l.frm + l.size ≤ 100000) (hat : l.at_ ≤ l.size) (h0 : 0 ≤ l.next) (h1 : l.next ≤ 18446744073709551615)
    (hne : 0 < pages.length) (hn : pages.length ≤ 1000000000) (hpg : PgAt w a pages (lb :: F)) (hall : ∀ p ∈ pages, p.size = 512) :
    Calls Try.prog 9 #[.pointer (some ⟨lb, 0, none⟩), .slice a pages.length c] w (ApPost w d lb F (apR l m pages pages.length)) := by
  obtain ⟨b, off, rfl, hc, hbn⟩ := hpg
  have hlt0 : b < w.heap.size := cell_lt (hc 0 _ (List.getElem?_eq_getElem hne))
  have hz : ((pages.length : Int) == 0) = false := by rw [beq_eq_false_iff_ne]; omega
  have hz2 : (pages.length == 0) = false := by rw [beq_eq_false_iff_ne]; omega
  have hpos := hne
  obtain ⟨n, hnn⟩ : ∃ n, n = pages.length := ⟨_, rfl⟩
  have hne' : 0 < n := by omega
  have hn' : n ≤ 1000000000 := by omega
  rw [← hnn] at hz hz2 ⊢
  clear hne hn
  have HN := Lib.hid hnn
  have HC := Lib.hid hc
  have HALL := Lib.hid hall
  obtain ⟨c0, c1, c2, c3, c4, c5⟩ := hl.cell
  have hlt := hl.lt
  have SAME := fun (e : Int) (W : World) (hb : Below w.heap.size w W) => Lib.hid (ApPost.same (e := e) hl hd hF hb)
  have HL := Lib.hid hl
  have HPOS := Lib.hid hpos
  clear hnn hc hall hl hpos
  go_enter Try.func9, Try.ntmps9
  go_wp2_with fail
  go_loop [24] (fun v => ∃ j : Nat, j ≤ n ∧ v = .int .i64 j) (fun v => n - (intOf v).toNat)
  case atStart => exact ⟨0, Nat.zero_le _, rfl⟩
  case round =>
    obtain ⟨j, hj, rfl⟩ := hrel
    by_cases hltj : j < n
    · obtain ⟨p, hp⟩ : ∃ p, pages[j]? = some p := ⟨pages[j]'(by rw [← HN.out]; exact hltj), List.getElem?_eq_getElem _⟩
      have hcell : w.cell? ⟨b, off + j, none⟩ = some (.string p) := HC.out j p hp
      have t : ((p.size : Int) != 512) = false := by rw [HALL.out p (List.mem_of_getElem? hp)]; rfl
      clear hp
      go_wp2
      go_round
      case rel => exact ⟨j + 1, by omega, by go_num⟩
      case measure => simp [intOf]; omega
    · obtain rfl : j = n := by omega
      have hbx : Below w.heap.size w ((w.alloc (.cells #[.pointer (some ⟨lb, 0, none⟩)] 28)).alloc (.cells #[.slice (some ⟨b, off, none⟩) j c] 22)) := below_alloc (below_alloc (Below.refl _ _))
      have HBX := Lib.hid hbx
      clear hbx
      cases hdead : l.dead
      · have DE := Lib.hid hdead
        rw [hdead] at c5
        clear hdead
        by_cases h64 : 64 < j
        · have e0 : apE l j = 10 := by unfold apE; rw [DE.out]; simp; omega
          have E0 := Lib.hid e0
          clear e0
          go_wp2
          go_ret
          rw [apR_no E0.out (by decide)]
          exact (SAME 10 _ HBX.out).out
        · obtain ⟨j9, hj9⟩ : ∃ j9 : Nat, j9 = 9 * j := ⟨_, rfl⟩
          obtain ⟨j10, hj10⟩ : ∃ j10 : Nat, j10 = 1 + j9 := ⟨_, rfl⟩
          obtain ⟨left, hleft⟩ : ∃ left : Nat, left = l.size - l.at_ := ⟨_, rfl⟩
          have y1 : IntKind.i64.wrap (9 * (j : Int)) = (j9 : Int) := by rw [IntKind.wrap_i64]; omega
          have y2 : IntKind.i64.wrap (1 + (j9 : Int)) = (j10 : Int) := by rw [IntKind.wrap_i64]; omega
          have y3 : IntKind.i64.wrap ((l.size : Int) - (l.at_ : Int)) = (left : Int) := by rw [IntKind.wrap_i64]; omega
          by_cases hroom : left < j10
          · have e0 : apE l j = 9 := by unfold apE; rw [DE.out]; simp; omega
            have E0 := Lib.hid e0
            clear e0 hj9 hj10 hleft
            go_wp2
            go_quiet (fail)
            go_wp2
            go_ret
            rw [apR_no E0.out (by decide)]
            exact (SAME 9 _ (below_drewN HBX.out _)).out
          · have e0 : apE l j = 0 := by unfold apE; rw [DE.out]; simp; omega
            have E0 := Lib.hid e0
            have hr2 : l.at_ + 1 + 9 * j ≤ l.size := by omega
            have hfl : decide ((left : Int) < (j10 : Int)) = false := by simp; omega
            have hfl2 : decide (left < j10) = false := by simp; omega
            have HFL2 := Lib.hid hfl2
            clear hfl2
            have hFlt := hd.lt
            have hnew : ∀ q, w.heap.size ≤ q → q ∉ F := fun q hq hm => by have := hFlt q hm; omega
            have HNEW := Lib.hid hnew
            clear e0 hj9 hj10 hleft hFlt hnew hroom
            go_upto_region 13 with (fail)
            go_cut [41] (fun s wx => s = .bool false ∧ Below w.heap.size w wx ∧ wx.cell? ⟨w.heap.size, 0, none⟩ = some (.pointer (some ⟨lb, 0, none⟩)) ∧ wx.cell? ⟨w.heap.size + 1, 0, none⟩ = some (.slice (some ⟨b, off, none⟩) j c))
            case first =>
              go_quiet (fail)
              go_wp2_with fail
              go_meet
              refine ⟨by rw [HFL2.out], below_drewN HBX.out _, ?_, ?_⟩
              · simp
              · simp
            case rest =>
            obtain ⟨rfl, hbw, k0, k1⟩ := hcut
            have HBW := Lib.hid hbw
            have hl' := HL.out.below hbw
            obtain ⟨c0, c1, c2, c3, c4, c5⟩ := hl'.cell
            have hltx := hl'.lt
            have hk0 := cell_lt k0
            have hk1 := cell_lt k1
            obtain ⟨p, hp⟩ : ∃ p : Nat, p = l.frm + l.at_ := ⟨_, rfl⟩
            obtain ⟨p1, hp1⟩ : ∃ p1 : Nat, p1 = p + 1 := ⟨_, rfl⟩
            have z1 : IntKind.i64.wrap ((l.frm : Int) + (l.at_ : Int)) = (p : Int) := by rw [IntKind.wrap_i64]; omega
            have z2 : IntKind.i64.wrap ((p : Int) + 1) = (p1 : Int) := by rw [IntKind.wrap_i64]; omega
            have HP := Lib.hid hp
            have HP1 := Lib.hid hp1
            clear hp hp1 y1 y2 y3 hfl hbw hl'
            have hwz : w.heap.size + 1 < wc.heap.size := hk1
            go_upto_region 17 with (fail)
            go_quiet (fail)
            obtain ⟨w1, hw1⟩ : ∃ w1, w1 = (wc.alloc (.cells #[.int .i64 0] 25)).drewN nq := ⟨_, rfl⟩
            have hb1 : Below wc.heap.size wc w1 := by rw [hw1]; exact below_drewN (below_alloc (Below.refl _ _)) _
            have he1 : w1.cell? ⟨wc.heap.size, 0, none⟩ = some (.int .i64 0) := by rw [hw1]; exact cell_new _ _ _
            have hf1 : w1.frozen? ⟨wc.heap.size, 0, none⟩ = false := by rw [hw1]; simp
            have hne1 : ∀ q, q < wc.heap.size → q ∉ F → q ∉ wc.heap.size :: F := fun q hq hm h => by
              rcases List.mem_cons.1 h with h | h
              · omega
              · exact hm h
            have hB : ApB w1 d lb wc.heap.size w.heap.size (w.heap.size + 1) F l (some ⟨b, off, none⟩) j c pages :=
              ⟨(HL.out.below HBW.out).below hb1, (hb1.cell (p := ⟨w.heap.size, 0, none⟩) hk0).trans k0, (hb1.cell (p := ⟨w.heap.size + 1, 0, none⟩) hk1).trans k1,
                ⟨b, off, rfl, fun i x hx => ((below_step hb1 HBW.out).cell (p := ⟨b, off + i, none⟩) hlt0).trans (HC.out i x hx), hne1 b (by omega) (fun h => hbn (by simp [h]))⟩,
                hne1 lb hltx hF, hne1 _ hk0 (HNEW.out _ (Nat.le_refl _)), hne1 _ hk1 (HNEW.out _ (by omega)), HNEW.out _ (by omega), by rw [hw1]; simp⟩
            have hS : ApSt w1 d wc.heap.size F w1 (0, m) := ⟨F, (hd.below HBW.out).below hb1, he1, hf1, Touch.refl _ _, fun b h => .inl h, HNEW.out _ (by omega)⟩
            have HB := Lib.hid hB
            have HS := Lib.hid hS
            have HW1 := Lib.hid hw1
            have HBW1 := Lib.hid (below_step hb1 HBW.out)
            clear hw1 hb1 he1 hf1 hne1 hB hS c0 c1 c2 c3 c4 c5 k0 z1 z2 hbn
            go_wp2_with fail
            rw [← HW1.out]
            clear k1
            go_loopw [9, 69] (fun v c wr => ∃ i q : Nat, i ≤ j ∧ c = .int .i64 i ∧ v = .int .i64 q ∧ q = p1 + 9 * i ∧ ApSt w1 d wc.heap.size F wr (wrN p1 pages m (9 * i))) (fun _ c _ => j - (intOf c).toNat)
            case atStart => exact ⟨0, p1, Nat.zero_le _, rfl, rfl, rfl, HS.out⟩
            case round =>
              clear HS
              obtain ⟨i, q, hij, rfl, rfl, hq, hst⟩ := hrel
              have HQ := Lib.hid hq
              clear hq
              obtain ⟨wo, rfl⟩ : ∃ wo : World, wo = wr := ⟨_, rfl⟩
              obtain ⟨F1, hon1, hB1, ht1, hF1⟩ := HB.out.on HPOS.out hst
              have HON1 := Lib.hid hon1
              have HB1 := Lib.hid hB1
              have HT1 := Lib.hid ht1
              have HF1 := Lib.hid hF1
              have HST := Lib.hid hst
              clear hst hon1 hB1 ht1 hF1
              by_cases hlti : i < j
              · obtain ⟨pg, hpg⟩ : ∃ pg, pages[i]? = some pg := ⟨pages[i]'(by rw [← HN.out]; exact hlti), List.getElem?_eq_getElem _⟩
                have hpz := HALL.out pg (List.mem_of_getElem? hpg)
                obtain ⟨b', off', e', hc', hb'⟩ := HB1.out.pg
                injection e' with e'
                injection e' with e1 e2
                subst e1 e2
                have hcell := hc' i pg hpg
                have HPG := Lib.hid hpg
                have hpz1 : pg.size ≤ 567 := by omega
                have HCUT := fun W => Lib.hid (rcut_any pg W hpz1)
                clear hpz hpg hc' hb'
                go_wp2_with fail
                refine (HCUT _).out.mono ?_
                rintro e w2 ⟨g, cap, rfl, hrow, hb2⟩
                have HROW := Lib.hid hrow
                have HB2 := Lib.hid hb2
                have hg1 := (hrow.lt g rfl).1
                have hg2 := (hrow.lt g rfl).2
                have hgn : g ∉ wc.heap.size :: F1 := fun h => by
                  rcases List.mem_cons.1 h with h | h
                  · have := HB1.out.lt; omega
                  · have := HON1.out.disk.lt g h; omega
                have hB2 := HB1.out.move HPOS.out (Touch.of_below (F := wc.heap.size :: F1) HB2.out) (fun b h => .inl h) HB1.out.e4
                have hS2 := ApSt.skip (HON1.out.below HB2.out)
                have HBB := Lib.hid hB2
                have HSS := Lib.hid hS2
                have HGN := Lib.hid hgn
                clear hcell hrow hb2 hB2 hS2 hgn
                have hqb : q ≤ 200000 := by have := HQ.out; have := HP1.out; have := HP.out; omega
                go_wp2_with fail
                go_loopw [9, 76] (fun v c wr => ∃ t q2 : Nat, t ≤ 9 ∧ c = .int .i64 t ∧ v = .int .i64 q2 ∧ q2 = p1 + (9 * i + t) ∧ ApSt w2 d wc.heap.size F1 wr (wrN p1 pages m (9 * i + t))) (fun _ c _ => 9 - (intOf c).toNat)
                case atStart => exact ⟨0, q, Nat.zero_le _, rfl, rfl, HQ.out, HSS.out⟩
                case round =>
                  clear HSS
                  obtain ⟨t, q2, ht9, rfl, rfl, hq2, hst⟩ := hrel
                  obtain ⟨F2, hon2, hB2, ht2, hF2⟩ := HBB.out.on HPOS.out hst
                  have HQ2 := Lib.hid hq2
                  have HON2 := Lib.hid hon2
                  have HT2 := Lib.hid ht2
                  have HF2 := Lib.hid hF2
                  have HST2 := Lib.hid hst
                  have hq2b : q2 ≤ 200000 := by have := HP1.out; have := HP.out; omega
                  clear hst hon2 hB2 ht2 hF2 hq2
                  by_cases htl : t < 9
                  · have hcell : wr.cell? ⟨g, t, none⟩ = some (.string (secP pg t)) := by
                      refine (HT2.out.cell (p := ⟨g, t, none⟩) hg2 HGN.out).trans ?_
                      have := HROW.out.cells rfl (j := t) (u := .string (secP pg t)) (by simp [secCells, htl])
                      have e : (⟨g, 0, none⟩ : Addr).add t = ⟨g, t, none⟩ := by unfold Addr.add; split <;> simp_all
                      rw [e] at this; exact this
                    have hb3 : Below wr.heap.size wr ((wr.alloc (.cells #[.string (secP pg t)] 9)).alloc (.cells #[.int .i64 q2] 3)) := below_alloc (below_alloc (Below.refl _ _))
                    have hct : ((wr.alloc (.cells #[.string (secP pg t)] 9)).alloc (.cells #[.int .i64 q2] 3)).cell? ⟨wr.heap.size + 1, 0, none⟩ = some (.int .i64 q2) := by
                      simp
                    have hcs : ((wr.alloc (.cells #[.string (secP pg t)] 9)).alloc (.cells #[.int .i64 q2] 3)).cell? ⟨wr.heap.size, 0, none⟩ = some (.string (secP pg t)) := by simp
                    have hsz := secP_size pg hpz1 t htl
                    have HTH := Lib.hid (then_write (HON2.out.below hb3) (hk.wrN p1 pages (9 * i + t)) (by omega) (tt := (q2 : Int)) (by omega) (by omega) (by omega) hct hcs)
                    clear hct hcs hsz hb3
                    go_wp2_with fail
                    refine HTH.out.mono ?_
                    rintro e w3 ⟨rfl, hst3⟩
                    have hst4 := ApSt.trans ((HT2.out.alloc _).alloc _) HF2.out hst3
                    have HST4 := Lib.hid hst4
                    clear hst3 hst4 hcell
                    go_wp2_with fail
                    go_roundw
                    case rel =>
                      refine ⟨t + 1, q2 + 1, by omega, by go_num, by go_num, by have := HQ2.out; omega, ?_⟩
                      rw [wrN_step p1 pages m i t pg HPG.out htl, ← HQ2.out]
                      exact HST4.out
                    case measure => simp [intOf]; omega
                  · obtain rfl : t = 9 := by omega
                    have hst5 := ApSt.trans (HT1.out.trans (Touch.of_below HB2.out) (fun b h => .inl h)) HF1.out HST2.out
                    have HST5 := Lib.hid hst5
                    clear hst5
                    go_wp2_with fail
                    go_roundw
                    case rel => exact ⟨i + 1, q2, by omega, by go_num, rfl, by have := HQ2.out; omega, HST5.out⟩
                    case measure => simp [intOf]; omega
              · obtain rfl : i = j := by omega
                have k0 := HON1.out.box
                have c0 := HON1.out.log.cell.1
                have HTF := Lib.hid (then_flush HON1.out (hk.wrN p1 pages (9 * i)) (by omega))
                go_wp2_with fail
                refine HTF.out.mono ?_
                rintro e w3 ⟨rfl, hst3⟩
                obtain ⟨F3, hon3, hB3, ht3, hF3⟩ := HB1.out.on HPOS.out hst3
                have HON3 := Lib.hid hon3
                have HB3 := Lib.hid hB3
                have HT3 := Lib.hid (HT1.out.trans ht3 (fun b hb => (List.mem_cons.1 hb).elim (fun h => .inl (by simp [h])) (fun h => (HF1.out b h).imp (fun h => by simp [h]) id)))
                have HF3 : Hid (∀ b ∈ F3, b ∈ F ∨ w1.heap.size ≤ b) := Lib.hid (fun b hb => (hF3 b hb).elim (HF1.out b) (fun h => .inr (Nat.le_trans HT1.out.size h)))
                have HTM := Lib.hid (then_mark HON3.out ((hk.wrN p1 pages (9 * i)).stepF (x := (_, _))) (by omega) HB3.out.sl (by omega) (by have := HP.out; omega) h0)
                clear k0 c0 hst3 hon3 hB3 ht3 hF3
                go_wp2_with fail
                refine HTM.out.mono ?_
                rintro e w4 ⟨rfl, hst4⟩
                obtain ⟨F4, hon4, hB4, ht4, hF4⟩ := HB3.out.on HPOS.out hst4
                have HON4 := Lib.hid hon4
                have HB4 := Lib.hid hB4
                have HT4 := Lib.hid (HT3.out.trans ht4 (fun b hb => (List.mem_cons.1 hb).elim (fun h => .inl (by simp [h])) (fun h => (HF3.out b h).imp (fun h => by simp [h]) id)))
                have HF4 : Hid (∀ b ∈ F4, b ∈ F ∨ w1.heap.size ≤ b) := Lib.hid (fun b hb => (hF4 b hb).elim (HF3.out b) (fun h => .inr (Nat.le_trans HT3.out.size h)))
                have k0 := HON4.out.box
                have c0 := HON4.out.log.cell.1
                have HTG := Lib.hid (then_flush HON4.out (((hk.wrN p1 pages (9 * i)).stepF (x := (_, _))).stepW (x := (_, _)) _ _) (by omega))
                clear hst4 hon4 hB4 ht4 hF4
                go_wp2_with fail
                refine HTG.out.mono ?_
                rintro e w5 ⟨rfl, hst5⟩
                obtain ⟨F5, hon5, hB5, ht5, hF5⟩ := HB4.out.on HPOS.out hst5
                have HT5 := Lib.hid (HT4.out.trans ht5 (fun b hb => (List.mem_cons.1 hb).elim (fun h => .inl (by simp [h])) (fun h => (HF4.out b h).imp (fun h => by simp [h]) id)))
                have HF5 : Hid (∀ b ∈ F5, b ∈ F ∨ w1.heap.size ≤ b) := Lib.hid (fun b hb => (hF5 b hb).elim (HF4.out b) (fun h => .inr (Nat.le_trans HT4.out.size h)))
                have hX : stepF (stepW (stepF (wrN p1 pages m (9 * i))) ((l.frm + l.at_ : Nat) : Int) (mkStr l.next (textM (i : Int)))) = apX l m pages := by
                  unfold apX; rw [← HN.out, HP1.out, HP.out]
                have hon6 : ApOn w5 d lb wc.heap.size w.heap.size F5 l (apX l m pages).2 (apX l m pages).1 := by rw [← hX]; exact hon5
                have HON5 := Lib.hid hon6
                have KSL := Lib.hid hB5.sl
                have HT6 : Hid (Touch (lb :: F) w w5) := Lib.hid ((Touch.of_below HBW1.out).trans HT5.out (fun b hb => (List.mem_cons.1 hb).elim (fun h => .inr (by omega)) (fun h => .inl (by simp [h]))))
                have hF6 : ∀ b ∈ F5, b ∈ F ∨ w.heap.size ≤ b := fun b hb => (HF5.out b hb).imp id (fun h => Nat.le_trans HBW1.out.size h)
                have HF6 := Lib.hid hF6
                have k0 := hon6.box
                have ke := hon6.err
                obtain ⟨c0, c1, c2, c3, c4, c5⟩ := hon6.log.cell
                have f3 := hon6.log.frozen 3
                have f4 := hon6.log.frozen 4
                have f5 := hon6.log.frozen 5
                have hlx := hon6.nel2
                clear hst5 hon5 hB5 ht5 hF5 hX hon6 hF6
                by_cases hxe : (apX l m pages).1 = 0
                · have hap : apM l m pages = (0, { l with at_ := l.at_ + 1 + 9 * i, next := (l.next + 1) % 18446744073709551616 }, (apX l m pages).2) := by
                    unfold apM; rw [if_neg (by simp [hxe]), HN.out]
                  have HAP := Lib.hid hap
                  rw [hxe] at ke
                  obtain ⟨i9, hi9⟩ : ∃ i9 : Nat, i9 = 9 * i := ⟨_, rfl⟩
                  obtain ⟨i10, hi10⟩ : ∃ i10 : Nat, i10 = 1 + i9 := ⟨_, rfl⟩
                  obtain ⟨a', ha'⟩ : ∃ a' : Nat, a' = l.at_ + i10 := ⟨_, rfl⟩
                  have y1 : IntKind.i64.wrap (9 * (i : Int)) = (i9 : Int) := by rw [IntKind.wrap_i64]; omega
                  have y2 : IntKind.i64.wrap (1 + (i9 : Int)) = (i10 : Int) := by rw [IntKind.wrap_i64]; omega
                  have y3 : IntKind.i64.wrap ((l.at_ : Int) + (i10 : Int)) = (a' : Int) := by rw [IntKind.wrap_i64]; omega
                  have ea : a' = l.at_ + 1 + 9 * i := by omega
                  have EA := Lib.hid ea
                  have k3 : w5.cell? ⟨w.heap.size + 1, 0, none⟩ = some (.slice (some ⟨b, off, none⟩) i c) := KSL.out
                  clear hap hxe hi9 hi10 ha' ea
                  go_wp2_with fail
                  refine wp_region_tail (C := fun w' => ∃ n, w' = w5.drewN n) 11 (by kernel_rfl) (by kernel_rfl) ⟨1, rfl⟩ ?_
                  simp only [List.take_succ_cons, List.take_zero, List.drop_succ_cons, List.drop_zero]
                  repeat (first | go_big_quiet_step (fail) | quiet_step (fail))
                  refine wpQuiet_nil ?_
                  rintro w6 ⟨nq, rfl⟩
                  go_wp2_with fail
                  go_ret
                  rw [apR_yes E0.out, HAP.out]
                  refine ⟨rfl, ?_, ⟨F5, HON5.out.disk.touch (F := [lb]) ((((Touch.refl _ _).drewN nq).setCell (.inl (by simp)) _).setCell (.inl (by simp)) _) (fun b hb hm => by simp at hm; subst hm; exact HON5.out.nel hb), HF6.out, HON5.out.nel⟩, ((HT6.out.drewN nq).setCell (.inl (by simp)) _).setCell (.inl (by simp)) _⟩
                  refine World.rowIs.congr (World.rowIs.set (World.rowIs.set (show (w5.drewN nq).rowIs lb 60 6 _ from HON5.out.log) 3 (.int .i64 (a' : Nat))) 4 (.int .u64 (IntKind.u64.wrap (l.next + 1)))) (fun t ht => ?_)
                  rcases t with _ | _ | _ | _ | _ | _ | t
                  · rfl
                  · rfl
                  · rfl
                  · rw [EA.out]; rfl
                  · rw [IntKind.wrap_u64]; rfl
                  · rfl
                  · omega
                · have hap : apM l m pages = ((apX l m pages).1, { l with dead := true }, (apX l m pages).2) := by
                    unfold apM; rw [if_pos hxe]
                  have HAP := Lib.hid hap
                  have t : ((apX l m pages).1 != 0) = true := by simpa using hxe
                  clear hap hxe
                  go_wp2_with fail
                  go_ret
                  rw [apR_yes E0.out, HAP.out]
                  refine ⟨rfl, ?_, ⟨F5, HON5.out.disk.touch (F := [lb]) ((Touch.refl _ _).setCell (.inl (by simp)) _) (fun b hb hm => by simp at hm; subst hm; exact HON5.out.nel hb), HF6.out, HON5.out.nel⟩, HT6.out.setCell (.inl (by simp)) _⟩
                  refine World.rowIs.congr (World.rowIs.set HON5.out.log 5 (.bool true)) (fun t ht => ?_)
                  rcases t with _ | _ | _ | _ | _ | _ | t
                  · rfl
                  · rfl
                  · rfl
                  · rfl
                  · rfl
                  · rfl
                  · omega
      · have e0 : apE l j = 17 := by unfold apE; rw [hdead]; rfl
        have E0 := Lib.hid e0
        rw [hdead] at c5
        clear hdead e0
        go_wp2
        go_ret
        rw [apR_no E0.out (by decide)]
        exact (SAME 17 _ HBX.out).out

end Go.Proofs.Ytfnfapgmicmegaa
