/- Lemmas on the way to the statement: RefG, RefH, RefI, RefJ, StoreAt. -/
import Derived.Test.YtpaholkmlfaflaaGreatDoorJ12
import Derived.Test.YtpaholkmlfaflaaGreatDoorJ2
import Derived.Laws.CopyRow
set_option linter.unusedSimpArgs false
set_option linter.unusedVariables false
namespace Go.Proofs.YtpaholkmlfaflaaGreatDoor
open Go.RowKit Go.Joins
set_option linter.unusedVariables false
section
variable {w w' w1 : World} {b : Nat} {kS rS fS kW rW fW dv : Value} {R R' : RM} {F F1 : List Nat} {s : SM} {most : Nat}
theorem RmGo.trans (t : Touch F w w1) (hF : ∀ x ∈ F1, x ∈ F ∨ w.heap.size ≤ x) (h : RmGo w1 w' b F1 R) : RmGo w w' b F R := by
  obtain ⟨F2, h1, t1, f1⟩ := h
  refine ⟨F2, h1, t.trans t1 (fun x hx => hF x hx), fun x hx => ?_⟩
  rcases f1 x hx with h' | h'
  · exact hF x h'
  · exact .inr (Nat.le_trans t.size h')
theorem PreOk.of_fix (h : StOk (fixS s) most) : PreOk s most := by
  have hl := h.lr
  have e : (fixS s).rooms = s.rooms.set 0 (headS s) := rfl
  rw [e, List.length_set] at hl
  refine ⟨hl, h.one, h.le, h.r8, h.rb, h.kind0, h.kinds, fun i r hi hr => ?_, h.fr, h.nd, fun j f hf => ?_, h.conv⟩
  · exact h.rooms i r hi (by rw [e, set_other hi]; exact hr)
  · have h1 := h.link j f hf
    have h2 := (h.fr f (List.mem_of_getElem? hf)).1
    rw [e, set_other (by omega)] at h1
    exact h1
theorem PreOk.more {m2 : Nat} (h : PreOk s most) (hm : most ≤ m2) : PreOk s m2 := ⟨h.lr, h.one, Nat.le_trans h.le hm, h.r8, h.rb, h.kind0, h.kinds, h.rooms, h.fr, h.nd, h.link, h.conv⟩
theorem cell_set_new (w : World) (a : Addr) (v x : Value) (t : TypeId) : ∀ j u, [x][j]? = some u → ((w.setCell a v).alloc (.cells #[x] t)).cell? ((⟨w.heap.size, 0, none⟩ : Addr).add j) = some u := by
  have h := cell_one_new (w.setCell a v) x t
  have e : (w.setCell a v).heap.size = w.heap.size := by simp [World.setCell]
  rw [e] at h
  exact h
theorem ints_two (w : World) (n : Nat) : IntsAt (w.alloc (.cells #[.int .i64 n, .int .i64 0] 3)) w.heap.size [(n : Int), 0] := by
  intro i hi
  rcases i with _ | _ | i
  · simp
  · simp
  · exfalso; simp only [List.length_cons, List.length_nil] at hi; omega
theorem ints_two_set (w : World) (a : Addr) (v : Value) (n : Nat) : IntsAt ((w.setCell a v).alloc (.cells #[.int .i64 n, .int .i64 0] 3)) w.heap.size [(n : Int), 0] := by
  have e : (w.setCell a v).heap.size = w.heap.size := by simp [World.setCell]
  have h := ints_two (w.setCell a v) n
  rw [e] at h
  exact h
theorem two_in (n : Nat) (N : Nat) (h : n < N) : ∀ i, i < [(n : Int), 0].length → 0 ≤ [(n : Int), 0].getD i 0 ∧ [(n : Int), 0].getD i 0 < N := by
  intro i hi
  rcases i with _ | _ | i
  · show 0 ≤ (n : Int) ∧ (n : Int) < N; omega
  · show (0 : Int) ≤ 0 ∧ (0 : Int) < N; omega
  · exfalso; simp only [List.length_cons, List.length_nil] at hi; omega
set_option maxRecDepth 100000 in
set_option maxHeartbeats 1000000 in
theorem give11_any (h : IsRm w b F R) (hk : RmOk R) (no : Int) (n1 : -9223372036854775808 ≤ no) (n2 : no ≤ 9223372036854775807) :
    Calls Tryz.prog 31 #[.pointer (some ⟨b, 0, none⟩), .int .i64 no] w fun e w' => e = .returned (.int .i64 (giveR R no).1) ∧ RmGo w w' b F (giveR R no).2 := by
  have hone := hk.way.one
  have hle := hk.way.le
  have hbig := hk.big
  have hdl := hk.dl
  have hm0 := hk.m0
  have hlr := hk.way.lr
  obtain ⟨kS, rS, fS, kW, rW, fW, dv, hat, rfl⟩ := h
  obtain ⟨g, c, rfl, hcell⟩ := kinds_form hat (by omega)
  have c13 := World.rowIs.cell hat.cells (i := 13) (by decide)
  simp only [rmF] at c13
  have hlt := World.rowIs.lt hat.cells
  have HIS := Lib.hid (show IsRm w b _ R from ⟨_, _, _, _, _, _, _, hat, rfl⟩)
  by_cases hno : no < 1
  · have e : giveR R no = (1, R) := by unfold giveR; rw [if_pos (.inl hno)]
    rw [e]
    go_enter Tryz.func31, Tryz.ntmps31
    go_wp2_with fail
    go_ret
    exact ⟨rfl, RmGo.same HIS.out (Below.refl _ _)⟩
  obtain ⟨n, rfl⟩ : ∃ n : Nat, no = n := ⟨no.toNat, by omega⟩
  have hl : lenR R = R.way.kinds.length := rfl
  by_cases hin : R.way.kinds.length ≤ n
  · have e : giveR R n = (1, R) := by unfold giveR; rw [if_pos (.inr (by rw [hl]; omega))]
    rw [e]
    go_enter Tryz.func31, Tryz.ntmps31
    go_wp2_with fail
    go_ret
    exact ⟨rfl, RmGo.same HIS.out (Below.refl _ _)⟩
  have hcond : ¬ ((n : Int) < 1 ∨ lenR R ≤ n) := by rw [hl]; omega
  have hnl : n < R.way.kinds.length := by omega
  have cn := hcell n hnl
  obtain ⟨x, hx⟩ : ∃ x, x = R.way.kinds.getD n 0 := ⟨_, rfl⟩
  rw [← hx] at cn
  have HX := Lib.hid hx
  clear hcell hx
  by_cases h255 : x = 255
  · have e : giveR R n = (6, R) := by unfold giveR; rw [if_neg hcond, if_pos (by rw [Int.toNat_natCast, ← HX.out]; exact h255)]
    rw [e]
    rw [h255] at cn
    go_enter Tryz.func31, Tryz.ntmps31
    go_wp2_with fail
    go_ret
    exact ⟨rfl, RmGo.same HIS.out (Below.refl _ _)⟩
  have hn255 : (x == 255) = false := by rw [beq_eq_false_iff_ne]; exact h255
  obtain ⟨gr, cr, rfl, hcellr⟩ := rooms_form hat (by omega)
  obtain ⟨gd, cd, rfl, hcelld⟩ := dirty_form hat (by omega)
  obtain ⟨af, cf, hfw⟩ := hat.way.ff
  obtain ⟨L, hL⟩ : ∃ L, L = R.way.free.length := ⟨_, rfl⟩
  have HL := Lib.hid hL
  rw [← hL] at hfw
  subst hfw
  clear hL
  have HIS := Lib.hid (show IsRm w b _ R from ⟨_, _, _, _, _, _, _, hat, rfl⟩)
  have HAT := Lib.hid hat
  have HBG := Lib.hid (big11_any (HIS.out.below (below_alloc (o := .cells #[.int .i64 n, .int .i64 0] 3) (Below.refl _ _))) (by omega) (by omega) hk.room (lb := w.heap.size) (cl := 2) (l := [(n : Int), 0]) (ints_two w n) (by simp) (two_in n _ (by omega)))
  clear hat hcellr hcelld
  cases hbg : bigR R [(n : Int), 0]
  rotate_left
  · have e : giveR R n = (10, R) := by unfold giveR; rw [if_neg hcond, if_neg (by rw [Int.toNat_natCast, ← HX.out]; exact h255), if_pos hbg]
    rw [e]
    rw [hbg] at HBG
    go_enter Tryz.func31, Tryz.ntmps31
    go_wp2_with fail
    refine HBG.out.mono ?_
    rintro e w2 ⟨rfl, q, hq⟩
    have hb2 : Below w.heap.size w w2 := by rw [hq]; exact below_drewN (below_alloc (Below.refl _ _)) _
    have HB2 := Lib.hid hb2
    clear hq hb2
    go_wp2_with fail
    go_ret
    exact ⟨rfl, RmGo.same HIS.out HB2.out⟩
  have e : giveR R n = (0, { R with way := backS R.way n, dirty := markR R.dirty [(n : Int), 0] }) := by
    unfold giveR
    rw [if_neg hcond, if_neg (by rw [Int.toNat_natCast, ← HX.out]; exact h255), hbg]
    rfl
  rw [e]
  rw [hbg] at HBG
  clear e
  have hok := hk.way.back (no := n) (by omega) hnl (fun e => h255 (by rw [HX.out, List.getD_eq_getElem?_getD, e]; rfl))
  obtain ⟨i0, hi, hz0, hz1, hz2⟩ := info_parts Tryz.infoIntP
  have hfd := firstF_bd hk.way.toPreOk
  have hff := free_few hk.way.toPreOk
  rw [← HL.out] at hff
  rcases L with _ | m
  · have HEQ := Lib.hid (firstF_nil HL.out.symm)
    go_enter Tryz.func31, Tryz.ntmps31
    go_wp2_with fail
    refine HBG.out.mono ?_
    rintro e w2 ⟨rfl, q, hq⟩
    have hb2 : Below w.heap.size w w2 := by rw [hq]; exact below_drewN (below_alloc (Below.refl _ _)) _
    have HB2 := Lib.hid hb2
    clear hq hb2
    have hat2 := HAT.out.touch (G := []) (Touch.of_below HB2.out) (fun _ _ => by simp)
    have c15 := World.rowIs.cell hat2.cells (i := 15) (by decide)
    simp only [rmF] at c15
    have hlt2 := World.rowIs.lt hat2.cells
    have HAT2 := Lib.hid hat2
    obtain ⟨w3, hw3⟩ : ∃ w3, w3 = w2 := ⟨_, rfl⟩
    subst hw3
    clear hat2
    have hlt2 := World.rowIs.lt HAT2.out.cells
    have c13 := World.rowIs.cell HAT2.out.cells (i := 13) (by decide)
    simp only [rmF] at c13
    have ck : w3.cell? ⟨g, n, none⟩ = some (.int .i64 x) := by
      rw [HX.out, HAT2.out.way.ko.cellAt n (by omega), kC, List.getElem?_map, List.getD_eq_getElem?_getD, List.getElem?_eq_getElem hnl]
      rfl
    have fk := HAT2.out.way.ko.frozenAt n
    go_wp2_with fail
    have hat3 := HAT2.out.setKind n 255
    have t3 : Touch [g] w3 (w3.setCell ⟨g, n, none⟩ (.int .i64 255)) := (Touch.refl _ _).setCell (.inl (by simp)) _
    generalize w3.setCell ⟨g, n, none⟩ (.int .i64 255) = w4 at hat3 t3 ⊢
    have hlt4 := World.rowIs.lt hat3.cells
    have c14 := World.rowIs.cell hat3.cells (i := 14) (by decide)
    simp only [rmF] at c14
    have k14 : ∀ x : Later w4, x.1.cell? ⟨b, 14, none⟩ = some (.slice (some ⟨gr, 0, none⟩) R.way.rooms.length cr) := fun x => (x.cell hlt4).trans c14
    have HPT := Lib.hid (fun x : Later w4 => refPut_any 0 4 x.1 (by omega) (by omega) (by omega))
    have HFL := Lib.hid (fun x : Later w4 => fill11_any (S (leB 0 4)) 496 x.1 (by rw [S_size, leB_length]; omega) (by omega))
    have hnr : n < R.way.rooms.length := by omega
    have HAT3 := Lib.hid hat3
    have HT3 := Lib.hid t3
    clear hat3 t3 c13 ck fk c14 hlr
    refine wp_region_later_tail 11 (by kernel_rfl) (by kernel_rfl) ?_
    simp only [List.take_succ_cons, List.take_zero, List.drop_succ_cons, List.drop_zero]
    repeat (first | go_big_quiet_step ((first | (go_at_call 70; refine Later.call (HFL.out _)) | (go_at_call 74; refine Later.call (HPT.out _)))) | quiet_step ((first | (go_at_call 70; refine Later.call (HFL.out _)) | (go_at_call 74; refine Later.call (HPT.out _)))))
    refine wpQuiet_nil ?_
    rintro w5 ⟨y5, hw5⟩
    have hb5 : Below w4.heap.size w4 w5 := by rw [hw5]; exact y5.2
    have hat5 := HAT3.out.touch (G := []) (Touch.of_below hb5) (fun _ _ => by simp)
    have f5 := hat5.way.ro.frozenAt n
    have c5 : w5.cell? ⟨gr, n, none⟩ = some (.string (R.way.rooms.getD n ⟨#[]⟩)) := by
      rw [hat5.way.ro.cellAt n (by show n < R.way.rooms.length * 1; omega), List.getD_eq_getElem?_getD]
      show (R.way.rooms.map Value.string)[n]? = _
      rw [List.getElem?_map, List.getElem?_eq_getElem hnr]
      rfl
    have c15 := World.rowIs.cell hat5.cells (i := 15) (by decide)
    simp only [rmF] at c15
    have hbr : b ≠ gr := fun e => hat5.bW (by simp [stB, Value.ownBlock, e])
    have hrb : gr ≠ b := fun e => hbr e.symm
    have hat6 := RmAt.setRoom (R := { R with way := { R.way with kinds := R.way.kinds.set n 255 } }) hat5 n (fillR (S (leB 0 4)) 496)
    have hf6 : (w5.setCell ⟨gr, n, none⟩ (.string (fillR (S (leB 0 4)) 496))).ownsRow 0 3 1 _ R.way.free.length (fC R.way) := hat6.way.fo
    rw [← HL.out] at hf6
    have HAT6 := Lib.hid hat6
    have HATA := Lib.hid (fun o => hat6.touch (G := []) ((Touch.refl [] _).alloc o) (fun _ _ => by simp))
    have HNB := Lib.hid (show b ∉ (Value.slice af 0 cf).ownBlock.toList from fun hm => hat6.bW (by simp only [stB, List.mem_append]; exact .inr (.inr hm)))
    have HF6 := Lib.hid hf6
    have HB5 := Lib.hid hb5
    have hlt5 : b < w5.heap.size := Nat.lt_of_lt_of_le hlt4 hb5.size
    have fb5 := fun i => World.rowIs.frozen hat5.cells i
    clear hw5 hb5 hat5 hat6 hf6 k14
    go_wp2_with (at_builtin; refine wpList_append_near _ rfl (.tmp 75) (.tmp 77) 32 rfl 0 3 i0 (.int .i64 0) 1 8 Tryz.underlying32 hi hz0 hz1 hz2 rfl (by decide) (.slice af 0 cf) 0 (fC R.way) rfl (HF6.out.alloc _) ⟨w5.heap.size, 0, none⟩ 1 1 [.int .i64 n] rfl (by decide) rfl (cell_set_new w5 _ _ _ _) (by intro u hu; simp at hu; subst hu; rfl) (by unfold maxLen; omega) (by omega) (Nat.zero_le _) ?_; intro g2 cap2 w7 hown hgr hnear; have h7 := rowIs_touch (HATA.out _).cells (Touch.of_grown hgr) HNB.out; have q15 := World.rowIs.cell h7 (i := 15) (by decide); simp only [rmF] at q15; have fz7 := World.rowIs.frozen h7 15; have HOWN := Lib.hid hown; have HGR := Lib.hid hgr; have HNEAR := Lib.hid hnear; clear hown hgr hnear h7)
    have hown' : w7.ownsRow 0 3 1 (.slice (some ⟨g2, 0, none⟩) (0 + 1) cap2) (0 + 1) ((R.way.free ++ [(n : Int)]).map (Value.int .i64)) := by
      have := HOWN.out
      unfold fC at this
      rw [List.map_append]
      exact this
    obtain ⟨ha, ht, hn⟩ := RmAt.appFree (R := { R with way := { R.way with kinds := R.way.kinds.set n 255, rooms := R.way.rooms.set n (fillR (S (leB 0 4)) 496) } }) (HATA.out _) (R.way.free ++ [(n : Int)]) (N := 0 + 1) (by rw [List.length_append, ← HL.out]; rfl) hown' HGR.out HNEAR.out
    have hpre := (PreOk.of_fix hok).more hbig
    rw [HEQ.out] at hpre
    have hfin := (IsRm.below (w' := (w7.setCell ⟨b, 15, none⟩ (.slice (some ⟨g2, 0, none⟩) (0 + 1) cap2)).alloc (.cells #[.int .i64 n, .int .i64 0] 3)) ⟨_, _, _, _, _, _, _, ha, rfl⟩ (below_alloc (Below.refl _ _)))
    have hlb : w7.heap.size ∉ rmB b kS rS fS (.slice (some ⟨g, 0, none⟩) R.way.kinds.length c) (.slice (some ⟨gr, 0, none⟩) R.way.rooms.length cr) (.slice (some ⟨g2, 0, none⟩) (0 + 1) cap2) (.slice (some ⟨gd, 0, none⟩) R.dirty.length cd) := fun hm => by
      have := ha.lt _ hm
      have e : (w7.setCell ⟨b, 15, none⟩ (.slice (some ⟨g2, 0, none⟩) (0 + 1) cap2)).heap.size = w7.heap.size := by simp [World.setCell]
      omega
    have HTO := Lib.hid (touch11_any hfin (by show 0 < R.dirty.length; omega) (by show R.dirty.length ≤ 1000000; omega) hpre (lb := w7.heap.size) (cl := 2) (l := [(n : Int), 0]) (ints_two_set w7 _ _ n) (by simp [World.setCell]) hlb (by simp) (two_in n _ (by show n < R.dirty.length; omega)))
    have HALL := Lib.hid (And.intro ht hn)
    clear ha ht hn hfin hlb hown' hpre
    refine HTO.out.mono ?_
    rintro e w8 ⟨rfl, hgo⟩
    have HGO := Lib.hid hgo
    clear hgo
    go_wp2_with fail
    go_ret
    refine ⟨rfl, ?_⟩
    have hgg := HGO.out
    show RmGo _ _ _ _ { R with way := backS R.way n, dirty := _ }
    unfold backS
    rw [HEQ.out]
    refine RmGo.trans ?_ ?_ hgg
    · have t1 : Touch [g] w w5 := (Touch.of_below HB2.out).trans (HT3.out.trans (Touch.of_below (F := []) HB5.out) (fun _ h => by simp at h)) (fun x hx => .inl hx)
      have t2 : Touch (rmB b kS rS fS (.slice (some ⟨g, 0, none⟩) R.way.kinds.length c) (.slice (some ⟨gr, 0, none⟩) R.way.rooms.length cr) (.slice af 0 cf) (.slice (some ⟨gd, 0, none⟩) R.dirty.length cd)) w ((w5.setCell ⟨gr, n, none⟩ (.string (fillR (S (leB 0 4)) 496))).alloc (.cells #[.int .i64 n] 3)) := ((t1.mono (fun x hx => .inl (by simp only [List.mem_singleton] at hx; simp [rmB, stB, Value.ownBlock, hx]))).setCell (.inl (by simp [rmB, stB, Value.ownBlock])) _).alloc _
      exact (t2.trans HALL.out.1 (fun x hx => .inl hx)).alloc _
    · intro x hx
      rcases HALL.out.2 x hx with h | h
      · exact .inl h
      · refine .inr (Nat.le_trans ?_ h)
        have h1 := HB2.out.size
        have h2 := HT3.out.size
        have h3 := HB5.out.size
        simp [World.setCell]
        omega
  · have hfc := firstF_cell (s := R.way) (by rw [← HL.out]; omega)
    rw [← HL.out] at hfc
    obtain ⟨gf, cff, hv⟩ := ownsRow_form HAT.out.way.fo (by rw [← HL.out]; omega)
    have hvv : af = some ⟨gf, 0, none⟩ ∧ cff = cf := by
      simp only [Value.slice.injEq] at hv
      exact ⟨hv.1, hv.2.2.symm⟩
    obtain ⟨rfl, rfl⟩ := hvv
    have hcf : w.cell? ⟨gf, m, none⟩ = some (.int .i64 (firstF R.way)) := by
      have h0 := HAT.out.way.fo
      rw [← HL.out] at h0
      rw [h0.cellAt m (by omega)]
      exact hfc
    have hlf : gf < w.heap.size := (HAT.out.way.fo.lt gf rfl).2
    have HCF := Lib.hid (And.intro hcf hlf)
    have hff1 : IntKind.u64.wrap (firstF R.way) = firstF R.way := by rw [IntKind.wrap_u64]; omega
    obtain ⟨X, hX⟩ : ∃ X, X = firstF R.way := ⟨_, rfl⟩
    have HXF := Lib.hid hX
    have HEQ := Lib.hid hX.symm
    have hfd' := hfd
    rw [← hX] at hff1 hfd'
    clear hfc hv hcf hlf hX hfd
    go_enter Tryz.func31, Tryz.ntmps31
    go_wp2_with fail
    refine HBG.out.mono ?_
    rintro e w2 ⟨rfl, q, hq⟩
    have hb2 : Below w.heap.size w w2 := by rw [hq]; exact below_drewN (below_alloc (Below.refl _ _)) _
    have HB2 := Lib.hid hb2
    clear hq hb2
    have hat2 := HAT.out.touch (G := []) (Touch.of_below HB2.out) (fun _ _ => by simp)
    have c15 := World.rowIs.cell hat2.cells (i := 15) (by decide)
    simp only [rmF] at c15
    have hlt2 := World.rowIs.lt hat2.cells
    have hcf2 : w2.cell? ⟨gf, m, none⟩ = some (.int .i64 X) := by rw [HXF.out]; exact (HB2.out.cell (p := ⟨gf, m, none⟩) HCF.out.2).trans HCF.out.1
    have e1 : ((m + 1 : Nat) : Int) - 1 = (m : Int) := by omega
    have HAT1 := Lib.hid hat2
    clear hat2
    go_wp2_with fail
    go_quiet (fail)
    generalize hq : w2.drewN _ = w3
    have HAT2 := Lib.hid (HAT1.out.touch (w' := w3) (G := []) (by rw [← hq]; exact (Touch.refl _ _).drewN _) (fun _ _ => by simp))
    have HB2 : Hid (Below w.heap.size w w3) := Lib.hid (by rw [← hq]; exact below_drewN HB2.out _)
    clear hq c15 hcf2
    have hlt2 := World.rowIs.lt HAT2.out.cells
    have c13 := World.rowIs.cell HAT2.out.cells (i := 13) (by decide)
    simp only [rmF] at c13
    have ck : w3.cell? ⟨g, n, none⟩ = some (.int .i64 x) := by
      rw [HX.out, HAT2.out.way.ko.cellAt n (by omega), kC, List.getElem?_map, List.getD_eq_getElem?_getD, List.getElem?_eq_getElem hnl]
      rfl
    have fk := HAT2.out.way.ko.frozenAt n
    go_wp2_with fail
    have hat3 := HAT2.out.setKind n 255
    have t3 : Touch [g] w3 (w3.setCell ⟨g, n, none⟩ (.int .i64 255)) := (Touch.refl _ _).setCell (.inl (by simp)) _
    generalize w3.setCell ⟨g, n, none⟩ (.int .i64 255) = w4 at hat3 t3 ⊢
    have hlt4 := World.rowIs.lt hat3.cells
    have c14 := World.rowIs.cell hat3.cells (i := 14) (by decide)
    simp only [rmF] at c14
    have k14 : ∀ x : Later w4, x.1.cell? ⟨b, 14, none⟩ = some (.slice (some ⟨gr, 0, none⟩) R.way.rooms.length cr) := fun x => (x.cell hlt4).trans c14
    have HPT := Lib.hid (fun x : Later w4 => refPut_any X 4 x.1 (by omega) (by omega) (by omega))
    have HFL := Lib.hid (fun x : Later w4 => fill11_any (S (leB X 4)) 496 x.1 (by rw [S_size, leB_length]; omega) (by omega))
    have hnr : n < R.way.rooms.length := by omega
    have HAT3 := Lib.hid hat3
    have HT3 := Lib.hid t3
    clear hat3 t3 c13 ck fk c14 hlr
    refine wp_region_later_tail 11 (by kernel_rfl) (by kernel_rfl) ?_
    simp only [List.take_succ_cons, List.take_zero, List.drop_succ_cons, List.drop_zero]
    repeat (first | go_big_quiet_step ((first | (go_at_call 70; refine Later.call (HFL.out _)) | (go_at_call 74; refine Later.call (HPT.out _)))) | quiet_step ((first | (go_at_call 70; refine Later.call (HFL.out _)) | (go_at_call 74; refine Later.call (HPT.out _)))))
    refine wpQuiet_nil ?_
    rintro w5 ⟨y5, hw5⟩
    have hb5 : Below w4.heap.size w4 w5 := by rw [hw5]; exact y5.2
    have hat5 := HAT3.out.touch (G := []) (Touch.of_below hb5) (fun _ _ => by simp)
    have f5 := hat5.way.ro.frozenAt n
    have c5 : w5.cell? ⟨gr, n, none⟩ = some (.string (R.way.rooms.getD n ⟨#[]⟩)) := by
      rw [hat5.way.ro.cellAt n (by show n < R.way.rooms.length * 1; omega), List.getD_eq_getElem?_getD]
      show (R.way.rooms.map Value.string)[n]? = _
      rw [List.getElem?_map, List.getElem?_eq_getElem hnr]
      rfl
    have c15 := World.rowIs.cell hat5.cells (i := 15) (by decide)
    simp only [rmF] at c15
    have hbr : b ≠ gr := fun e => hat5.bW (by simp [stB, Value.ownBlock, e])
    have hrb : gr ≠ b := fun e => hbr e.symm
    have hat6 := RmAt.setRoom (R := { R with way := { R.way with kinds := R.way.kinds.set n 255 } }) hat5 n (fillR (S (leB X 4)) 496)
    have hf6 : (w5.setCell ⟨gr, n, none⟩ (.string (fillR (S (leB X 4)) 496))).ownsRow 0 3 1 _ R.way.free.length (fC R.way) := hat6.way.fo
    rw [← HL.out] at hf6
    have HAT6 := Lib.hid hat6
    have HATA := Lib.hid (fun o => hat6.touch (G := []) ((Touch.refl [] _).alloc o) (fun _ _ => by simp))
    have HNB := Lib.hid (show b ∉ (Value.slice (some ⟨gf, 0, none⟩) (m+1) cff).ownBlock.toList from fun hm => hat6.bW (by simp only [stB, List.mem_append]; exact .inr (.inr hm)))
    have HF6 := Lib.hid hf6
    have HB5 := Lib.hid hb5
    have hlt5 : b < w5.heap.size := Nat.lt_of_lt_of_le hlt4 hb5.size
    have fb5 := fun i => World.rowIs.frozen hat5.cells i
    clear hw5 hb5 hat5 hat6 hf6 k14
    go_wp2_with (at_builtin; refine wpList_append_near _ rfl (.tmp 75) (.tmp 77) 32 rfl 0 3 i0 (.int .i64 0) 1 8 Tryz.underlying32 hi hz0 hz1 hz2 rfl (by decide) (.slice (some ⟨gf, 0, none⟩) (m+1) cff) (m+1) (fC R.way) rfl (HF6.out.alloc _) ⟨w5.heap.size, 0, none⟩ 1 1 [.int .i64 n] rfl (by decide) rfl (cell_set_new w5 _ _ _ _) (by intro u hu; simp at hu; subst hu; rfl) (by unfold maxLen; omega) (by omega) (Nat.zero_le _) ?_; intro g2 cap2 w7 hown hgr hnear; have h7 := rowIs_touch (HATA.out _).cells (Touch.of_grown hgr) HNB.out; have q15 := World.rowIs.cell h7 (i := 15) (by decide); simp only [rmF] at q15; have fz7 := World.rowIs.frozen h7 15; have HOWN := Lib.hid hown; have HGR := Lib.hid hgr; have HNEAR := Lib.hid hnear; clear hown hgr hnear h7)
    have hown' : w7.ownsRow 0 3 1 (.slice (some ⟨g2, 0, none⟩) ((m+1) + 1) cap2) ((m+1) + 1) ((R.way.free ++ [(n : Int)]).map (Value.int .i64)) := by
      have := HOWN.out
      unfold fC at this
      rw [List.map_append]
      exact this
    obtain ⟨ha, ht, hn⟩ := RmAt.appFree (R := { R with way := { R.way with kinds := R.way.kinds.set n 255, rooms := R.way.rooms.set n (fillR (S (leB X 4)) 496) } }) (HATA.out _) (R.way.free ++ [(n : Int)]) (N := (m+1) + 1) (by rw [List.length_append, ← HL.out]; rfl) hown' HGR.out HNEAR.out
    have hpre := (PreOk.of_fix hok).more hbig
    rw [HEQ.out] at hpre
    have hfin := (IsRm.below (w' := (w7.setCell ⟨b, 15, none⟩ (.slice (some ⟨g2, 0, none⟩) ((m+1) + 1) cap2)).alloc (.cells #[.int .i64 n, .int .i64 0] 3)) ⟨_, _, _, _, _, _, _, ha, rfl⟩ (below_alloc (Below.refl _ _)))
    have hlb : w7.heap.size ∉ rmB b kS rS fS (.slice (some ⟨g, 0, none⟩) R.way.kinds.length c) (.slice (some ⟨gr, 0, none⟩) R.way.rooms.length cr) (.slice (some ⟨g2, 0, none⟩) ((m+1) + 1) cap2) (.slice (some ⟨gd, 0, none⟩) R.dirty.length cd) := fun hm => by
      have := ha.lt _ hm
      have e : (w7.setCell ⟨b, 15, none⟩ (.slice (some ⟨g2, 0, none⟩) ((m+1) + 1) cap2)).heap.size = w7.heap.size := by simp [World.setCell]
      omega
    have HTO := Lib.hid (touch11_any hfin (by show 0 < R.dirty.length; omega) (by show R.dirty.length ≤ 1000000; omega) hpre (lb := w7.heap.size) (cl := 2) (l := [(n : Int), 0]) (ints_two_set w7 _ _ n) (by simp [World.setCell]) hlb (by simp) (two_in n _ (by show n < R.dirty.length; omega)))
    have HALL := Lib.hid (And.intro ht hn)
    clear ha ht hn hfin hlb hown' hpre
    refine HTO.out.mono ?_
    rintro e w8 ⟨rfl, hgo⟩
    have HGO := Lib.hid hgo
    clear hgo
    go_wp2_with fail
    go_ret
    refine ⟨rfl, ?_⟩
    have hgg := HGO.out
    show RmGo _ _ _ _ { R with way := backS R.way n, dirty := _ }
    unfold backS
    rw [HEQ.out]
    refine RmGo.trans ?_ ?_ hgg
    · have t1 : Touch [g] w w5 := (Touch.of_below HB2.out).trans (HT3.out.trans (Touch.of_below (F := []) HB5.out) (fun _ h => by simp at h)) (fun x hx => .inl hx)
      have t2 : Touch (rmB b kS rS fS (.slice (some ⟨g, 0, none⟩) R.way.kinds.length c) (.slice (some ⟨gr, 0, none⟩) R.way.rooms.length cr) (.slice (some ⟨gf, 0, none⟩) (m+1) cff) (.slice (some ⟨gd, 0, none⟩) R.dirty.length cd)) w ((w5.setCell ⟨gr, n, none⟩ (.string (fillR (S (leB X 4)) 496))).alloc (.cells #[.int .i64 n] 3)) := ((t1.mono (fun x hx => .inl (by simp only [List.mem_singleton] at hx; simp [rmB, stB, Value.ownBlock, hx]))).setCell (.inl (by simp [rmB, stB, Value.ownBlock])) _).alloc _
      exact (t2.trans HALL.out.1 (fun x hx => .inl hx)).alloc _
    · intro x hx
      rcases HALL.out.2 x hx with h | h
      · exact .inl h
      · refine .inr (Nat.le_trans ?_ h)
        have h1 := HB2.out.size
        have h2 := HT3.out.size
        have h3 := HB5.out.size
        simp [World.setCell]
        omega
end
end Go.Proofs.YtpaholkmlfaflaaGreatDoor

namespace Go.Proofs.YtpaholkmlfaflaaGreatDoor
open Go.RowKit Go.Joins
set_option linter.unusedVariables false
section
variable {w w' w1 : World} {b : Nat} {kS rS fS kW rW fW dv : Value} {R R' : RM} {F F1 : List Nat} {s : SM} {most : Nat}
theorem own_cap {w : World} {base g n c size : Nat} {e : TypeId} {xs : List Value} (h : w.ownsRow base e size (.slice (some ⟨g, 0, none⟩) n c) n xs) : n ≤ c ∧ c ≤ maxLen := by
  rcases h.2 with ⟨h', _⟩ | ⟨g', cap', cur, h', _, _, hn, hm, _⟩
  · simp at h'
  · simp only [Value.slice.injEq, Option.some.injEq, Addr.mk.injEq, and_true, true_and] at h'
    obtain ⟨rfl, rfl⟩ := h'
    exact ⟨hn, hm⟩
set_option maxRecDepth 100000 in
set_option maxHeartbeats 1000000 in
theorem alloc11_kind (h : IsRm w b F R) (kind : Int) (hkd : kind < 2 ∨ 254 < kind) :
    Calls Tryz.prog 24 #[.pointer (some ⟨b, 0, none⟩), .int .i64 kind] w fun e w' => e = .returned (.tuple #[.int .i64 0, .int .i64 1]) ∧ RmGo w w' b F R := by
  have HIS := Lib.hid h
  by_cases hk2 : kind < 2
  · go_enter Tryz.func24, Tryz.ntmps24
    go_wp2_with fail
    go_ret2
    exact ⟨rfl, RmGo.same HIS.out (Below.refl _ _)⟩
  · have hk3 : 254 < kind := hkd.resolve_left hk2
    go_enter Tryz.func24, Tryz.ntmps24
    go_wp2_with fail
    go_ret2
    exact ⟨rfl, RmGo.same HIS.out (Below.refl _ _)⟩
set_option maxRecDepth 100000 in
set_option maxHeartbeats 1000000 in
theorem alloc11_free (h : IsRm w b F R) (hk : RmOk R) (kind : Int) (k1 : ¬ kind < 2) (k2 : ¬ 254 < kind) (n : Nat) (l : List Int) (hfr : R.way.free = l ++ [(n : Int)]) :
    Calls Tryz.prog 24 #[.pointer (some ⟨b, 0, none⟩), .int .i64 kind] w fun e w' => e = .returned (.tuple #[.int .i64 (allocR R kind).1, .int .i64 (allocR R kind).2.1]) ∧ RmGo w w' b F (allocR R kind).2.2 := by
  have hlast : R.way.free.getLast? = some (n : Int) := by rw [hfr]; simp
  have hone := hk.way.one
  have hle := hk.way.le
  have hbig := hk.big
  have hdl := hk.dl
  have hm0 := hk.m0
  have hlr := hk.way.lr
  have hfn := hk.way.fr n (by rw [hfr]; simp)
  have hnl : n < R.way.kinds.length := by omega
  have hff := free_few hk.way.toPreOk
  have hok := hk.way.take (kind := kind) hlast (by omega) (by omega)
  have hcond : ¬ (kind < 2 ∨ 254 < kind) := by omega
  have hfc := firstF_cell (s := R.way) (by rw [hfr]; simp)
  have hX : firstF R.way = n := by unfold firstF; rw [hlast]; rfl
  rw [hX] at hfc
  obtain ⟨kS, rS, fS, kW, rW, fW, dv, hat, rfl⟩ := h
  obtain ⟨g, c, rfl, hcell⟩ := kinds_form hat (by omega)
  obtain ⟨gr, cr, rfl, hcellr⟩ := rooms_form hat (by omega)
  obtain ⟨gd, cd, rfl, hcelld⟩ := dirty_form hat (by omega)
  obtain ⟨m, hm⟩ : ∃ m, m = l.length := ⟨_, rfl⟩
  have hfl : R.way.free.length = m + 1 := by rw [hfr, hm]; simp
  obtain ⟨gf, cf, hfw⟩ := ownsRow_form hat.way.fo (by omega)
  rw [hfl] at hfw hff hfc
  subst hfw
  rw [show m + 1 - 1 = m by omega] at hfc
  have hcf : w.cell? ⟨gf, m, none⟩ = some (.int .i64 n) := by
    have h0 := hat.way.fo
    rw [hfl] at h0
    rw [h0.cellAt m (by omega)]
    exact hfc
  have hcap := own_cap (hfl ▸ hat.way.fo)
  have hcap0 : m ≤ cf := by omega
  have hcap1 : (m : Int) ≤ cf := by omega
  have hlf : gf < w.heap.size := (hat.way.fo.lt gf rfl).2
  have c13 := World.rowIs.cell hat.cells (i := 13) (by decide)
  have c15 := World.rowIs.cell hat.cells (i := 15) (by decide)
  simp only [rmF] at c13 c15
  have hlt := World.rowIs.lt hat.cells
  have HIS := Lib.hid (show IsRm w b _ R from ⟨_, _, _, _, _, _, _, hat, rfl⟩)
  have HAT := Lib.hid hat
  have HBG := Lib.hid (fun W (hb : Below w.heap.size w W) => big11_any (HIS.out.below (w' := W.alloc (.cells #[.int .i64 n, .int .i64 0] 3)) (below_alloc hb)) (by omega) (by omega) hk.room (lb := W.heap.size) (cl := 2) (l := [(n : Int), 0]) (ints_two W n) (by simp) (two_in n _ (by omega)))
  have e1 : ((m + 1 : Nat) : Int) - 1 = (m : Int) := by omega
  have HF := Lib.hid (And.intro hfr (And.intro hm (And.intro hlast hfl)))
  clear hat hcell hcellr hcelld hfc hfn hX hfr hm hlast hfl
  cases hbg : bigR R [(n : Int), 0]
  rotate_left
  · have e : allocR R kind = (0, 10, R) := by unfold allocR; rw [if_neg hcond, HF.out.2.2.1]; simp only; rw [if_pos hbg]
    rw [e]
    go_enter Tryz.func24, Tryz.ntmps24
    go_wp2_with fail
    go_quiet (fail)
    generalize hq : w.drewN _ = w0
    have hb0 : Below w.heap.size w w0 := by rw [← hq]; exact below_drewN (Below.refl _ _) _
    have HBB := Lib.hid (HBG.out w0 hb0)
    rw [hbg] at HBB
    have HB0 := Lib.hid hb0
    clear hq hb0 c13 c15 hcf
    go_wp2_with fail
    refine HBB.out.mono ?_
    rintro e w2 ⟨rfl, q, hq⟩
    have hb2 : Below w.heap.size w w2 := by rw [hq]; exact below_drewN (below_alloc HB0.out) _
    have HB2 := Lib.hid hb2
    clear hq hb2
    go_wp2_with fail
    go_ret2
    exact ⟨rfl, RmGo.same HIS.out HB2.out⟩
  have e : allocR R kind = ((n : Int), 0, { R with way := takeS R.way n kind, dirty := markR R.dirty [(n : Int), 0] }) := by
    unfold allocR
    rw [if_neg hcond, HF.out.2.2.1]
    simp only
    rw [hbg]
    rfl
  rw [e]
  clear e
  have HPRE := Lib.hid ((PreOk.of_fix hok).more hbig)
  clear hok
  go_enter Tryz.func24, Tryz.ntmps24
  go_wp2_with fail
  go_quiet (fail)
  generalize hq : w.drewN _ = w0
  have hb0 : Below w.heap.size w w0 := by rw [← hq]; exact below_drewN (Below.refl _ _) _
  have HBB := Lib.hid (HBG.out w0 hb0)
  rw [hbg] at HBB
  have HB0 := Lib.hid hb0
  clear hq hb0 c13 c15 hcf
  go_wp2_with fail
  refine HBB.out.mono ?_
  rintro e w2 ⟨rfl, q, hq⟩
  have hb2 : Below w.heap.size w w2 := by rw [hq]; exact below_drewN (below_alloc HB0.out) _
  have HB2 := Lib.hid hb2
  clear hq hb2
  have hat2 := HAT.out.touch (G := []) (Touch.of_below HB2.out) (fun _ _ => by simp)
  have c15 := World.rowIs.cell hat2.cells (i := 15) (by decide)
  simp only [rmF] at c15
  have fb := fun i => World.rowIs.frozen hat2.cells i
  have hlt2 := World.rowIs.lt hat2.cells
  have HAT2 := Lib.hid hat2
  clear hat2
  go_wp2_with fail
  refine wp_region_tail (C := fun w' => ∃ n, w' = w2.drewN n) 17 (by kernel_rfl) (by kernel_rfl) ⟨1, rfl⟩ ?_
  simp only [List.take_succ_cons, List.take_zero, List.drop_succ_cons, List.drop_zero]
  repeat (first | go_big_quiet_step (fail) | quiet_step (fail))
  refine wpQuiet_nil ?_
  rintro w3 ⟨q, hq⟩
  have hat3 := HAT2.out.touch (w' := w3) (G := []) (by rw [hq]; exact (Touch.refl _ _).drewN _) (fun _ _ => by simp)
  have HB3 : Hid (Below w.heap.size w w3) := Lib.hid (by rw [hq]; exact below_drewN HB2.out _)
  have c13 := World.rowIs.cell hat3.cells (i := 13) (by decide)
  have c15 := World.rowIs.cell hat3.cells (i := 15) (by decide)
  simp only [rmF] at c13 c15
  have ck : w3.cell? ⟨g, n, none⟩ = some (.int .i64 (R.way.kinds.getD n 0)) := by
    rw [hat3.way.ko.cellAt n (by omega), kC, List.getElem?_map, List.getD_eq_getElem?_getD, List.getElem?_eq_getElem hnl]
    rfl
  have fk := hat3.way.ko.frozenAt n
  have fb3 := fun i => World.rowIs.frozen hat3.cells i
  have hbk : b ≠ g := fun e => hat3.bW (by simp [stB, Value.ownBlock, e])
  have hkb : g ≠ b := fun e => hbk e.symm
  have hlt3 := World.rowIs.lt hat3.cells
  have hat4 := (hat3.popFree HF.out.1 HF.out.2.1.symm)
  have HAT5 := Lib.hid (RmAt.setKind (R := { R with way := { R.way with free := l } }) hat4 n kind)
  have t5 : Touch [b, g] w3 ((w3.setCell ⟨b, 15, none⟩ (.slice (some ⟨gf, 0, none⟩) m cf)).setCell ⟨g, n, none⟩ (.int .i64 kind)) := ((Touch.refl _ _).setCell (.inl (by simp)) _).setCell (.inl (by simp)) _
  have HT5 := Lib.hid t5
  clear hq hat3 hat4 t5
  go_wp2_with fail
  have hat5 := HAT5.out
  have t5 := HT5.out
  generalize (w3.setCell ⟨b, 15, none⟩ (.slice (some ⟨gf, 0, none⟩) m cf)).setCell ⟨g, n, none⟩ (.int .i64 kind) = w4 at hat5 t5 ⊢
  have hlt4 := World.rowIs.lt hat5.cells
  have c14 := World.rowIs.cell hat5.cells (i := 14) (by decide)
  simp only [rmF] at c14
  have k14 : ∀ x : Later w4, x.1.cell? ⟨b, 14, none⟩ = some (.slice (some ⟨gr, 0, none⟩) R.way.rooms.length cr) := fun x => (x.cell hlt4).trans c14
  have HFL := Lib.hid (fun x : Later w4 => fill11_any ⟨#[]⟩ 496 x.1 (by decide) (by omega))
  have hnr : n < R.way.rooms.length := by omega
  have HAT4 := Lib.hid hat5
  have HT4 := Lib.hid t5
  clear hat5 t5 c13 ck fk c14 hlr HAT5 HT5 c15 fb3
  refine wp_region_later_tail 8 (by kernel_rfl) (by kernel_rfl) ?_
  simp only [List.take_succ_cons, List.take_zero, List.drop_succ_cons, List.drop_zero]
  repeat (first | go_big_quiet_step ((go_at_call 70; refine Later.call (HFL.out _))) | quiet_step ((go_at_call 70; refine Later.call (HFL.out _))))
  refine wpQuiet_nil ?_
  rintro w5 ⟨y5, hw5⟩
  have hb5 : Below w4.heap.size w4 w5 := by rw [hw5]; exact y5.2
  have hat5 := HAT4.out.touch (G := []) (Touch.of_below hb5) (fun _ _ => by simp)
  have f5 := hat5.way.ro.frozenAt n
  have c5 : w5.cell? ⟨gr, n, none⟩ = some (.string (R.way.rooms.getD n ⟨#[]⟩)) := by
    rw [hat5.way.ro.cellAt n (by show n < R.way.rooms.length * 1; omega), List.getD_eq_getElem?_getD]
    show (R.way.rooms.map Value.string)[n]? = _
    rw [List.getElem?_map, List.getElem?_eq_getElem hnr]
    rfl
  have hat6 := RmAt.setRoom (R := { R with way := { R.way with free := l, kinds := R.way.kinds.set n kind } }) hat5 n (fillR ⟨#[]⟩ 496)
  have hfin := (IsRm.below (w' := (w5.setCell ⟨gr, n, none⟩ (.string (fillR ⟨#[]⟩ 496))).alloc (.cells #[.int .i64 n, .int .i64 0] 3)) ⟨_, _, _, _, _, _, _, hat6, rfl⟩ (below_alloc (Below.refl _ _)))
  have hlb : w5.heap.size ∉ rmB b kS rS fS (.slice (some ⟨g, 0, none⟩) R.way.kinds.length c) (.slice (some ⟨gr, 0, none⟩) R.way.rooms.length cr) (.slice (some ⟨gf, 0, none⟩) m cf) (.slice (some ⟨gd, 0, none⟩) R.dirty.length cd) := fun hm => by
    have := hat5.lt _ hm
    omega
  have hpre := HPRE.out
  rw [show R.way.free.dropLast = l by rw [HF.out.1]; simp] at hpre
  have HTO := Lib.hid (touch11_any hfin (by show 0 < R.dirty.length; omega) (by show R.dirty.length ≤ 1000000; omega) hpre (lb := w5.heap.size) (cl := 2) (l := [(n : Int), 0]) (ints_two_set w5 _ _ n) (by simp [World.setCell]) hlb (by simp) (two_in n _ (by show n < R.dirty.length; omega)))
  have HB5 := Lib.hid hb5
  clear hfin hlb hpre hat5 hat6 k14 hw5 hb5
  go_wp2_with fail
  refine HTO.out.mono ?_
  rintro e w8 ⟨rfl, hgo⟩
  have HGO := Lib.hid hgo
  clear hgo
  go_wp2_with fail
  go_ret2
  refine ⟨rfl, ?_⟩
  have hgg := HGO.out
  show RmGo _ _ _ _ { R with way := takeS R.way n kind, dirty := _ }
  unfold takeS
  rw [show R.way.free.dropLast = l by rw [HF.out.1]; simp]
  refine RmGo.trans ?_ ?_ hgg
  · have t1 : Touch [b, g] w w5 := (Touch.of_below HB3.out).trans (HT4.out.trans (Touch.of_below (F := []) HB5.out) (fun _ h => by simp at h)) (fun x hx => .inl hx)
    exact ((t1.mono (fun x hx => .inl (by simp only [List.mem_cons, List.not_mem_nil, or_false] at hx; rcases hx with rfl | rfl <;> simp [rmB, stB, Value.ownBlock]))).setCell (.inl (by simp [rmB, stB, Value.ownBlock])) _).alloc _
  · exact fun x hx => .inl hx
end
end Go.Proofs.YtpaholkmlfaflaaGreatDoor

namespace Go.Proofs.YtpaholkmlfaflaaGreatDoor
open Go.RowKit Go.Joins
set_option linter.unusedVariables false
section
variable {w w' w1 : World} {b : Nat} {kS rS fS kW rW fW dv : Value} {R R' : RM} {F F1 : List Nat} {s : SM} {most : Nat}
theorem RmAt.setKindN {g c N : Nat} (h : RmAt w b kS rS fS (.slice (some ⟨g, 0, none⟩) N c) rW fW dv R) (hN : R.way.kinds.length = N) (i : Nat) (t : Int) :
    RmAt (w.setCell ⟨g, i, none⟩ (.int .i64 t)) b kS rS fS (.slice (some ⟨g, 0, none⟩) N c) rW fW dv { R with way := { R.way with kinds := R.way.kinds.set i t } } := by
  subst hN
  exact h.setKind i t
theorem RmAt.setRoomN {g c N : Nat} (h : RmAt w b kS rS fS kW (.slice (some ⟨g, 0, none⟩) N c) fW dv R) (hN : R.way.rooms.length = N) (i : Nat) (t : ByteArray) :
    RmAt (w.setCell ⟨g, i, none⟩ (.string t)) b kS rS fS kW (.slice (some ⟨g, 0, none⟩) N c) fW dv { R with way := { R.way with rooms := R.way.rooms.set i t } } := by
  subst hN
  exact h.setRoom i t
theorem set_last {α : Type} (l : List α) (x y : α) (K : Nat) (h : K = l.length) : (l ++ [x]).set K y = l ++ [y] := by
  subst h
  rw [List.set_append_right _ _ (Nat.le_refl _), Nat.sub_self]
  rfl
theorem kind_facts {g c n K o : Nat} {v : Value} (h : RmAt (w.setCell ⟨b, o, none⟩ v) b kS rS fS (.slice (some ⟨g, 0, none⟩) n c) rW fW dv R) (hn : R.way.kinds.length = n) (hK : K < n) :
    (∃ v, w.cell? ⟨g, K, none⟩ = some v) ∧ w.frozen? ⟨g, K, none⟩ = false ∧ b ≠ g ∧ g ≠ b := by
  subst hn
  have hbg : b ≠ g := fun e => h.bW (by simp [stB, Value.ownBlock, e])
  have hg := (h.way.ko.lt g rfl).2
  have e : (w.setCell ⟨b, o, none⟩ v).heap.size = w.heap.size := by simp [World.setCell]
  have t : Touch [b] w (w.setCell ⟨b, o, none⟩ v) := (Touch.refl _ _).setCell (.inl (by simp)) _
  have hgn : g ∉ [b] := fun hm => hbg (List.mem_singleton.1 hm).symm
  refine ⟨⟨.int .i64 (R.way.kinds.getD K 0), ?_⟩, ?_, hbg, fun e => hbg e.symm⟩
  · rw [← t.cell (p := ⟨g, K, none⟩) (by show g < w.heap.size; omega) hgn, h.way.ko.cellAt K (by omega), kC, List.getElem?_map, List.getD_eq_getElem?_getD, List.getElem?_eq_getElem hK]
    rfl
  · rw [← t.frozen (p := ⟨g, K, none⟩) (by show g < w.heap.size; omega) hgn, h.way.ko.frozenAt K]
theorem RmAt.roN {N : Nat} (h : RmAt w b kS rS fS kW rW fW dv R) (hN : R.way.rooms.length = N) : w.ownsRow 0 9 1 rW N (rC R.way) := hN ▸ h.way.ro
theorem RmAt.alloc (h : RmAt w b kS rS fS kW rW fW dv R) (o : Obj) : RmAt (w.alloc o) b kS rS fS kW rW fW dv R := h.touch (G := []) ((Touch.refl [] _).alloc o) (fun _ _ => by simp)
set_option maxRecDepth 100000 in
set_option maxHeartbeats 1000000 in
theorem alloc11_new (h : IsRm w b F R) (hk : RmOk R) (kind : Int) (k1 : ¬ kind < 2) (k2 : ¬ 254 < kind) (hfr : R.way.free = []) :
    Calls Tryz.prog 24 #[.pointer (some ⟨b, 0, none⟩), .int .i64 kind] w fun e w' => e = .returned (.tuple #[.int .i64 (allocR R kind).1, .int .i64 (allocR R kind).2.1]) ∧ RmGo w w' b F (allocR R kind).2.2 := by
  have hlast : R.way.free.getLast? = none := by rw [hfr]; rfl
  have hone := hk.way.one
  have hle := hk.way.le
  have hbig := hk.big
  have hdl := hk.dl
  have hm0 := hk.m0
  have hlr := hk.way.lr
  have hcond : ¬ (kind < 2 ∨ 254 < kind) := by omega
  obtain ⟨kS, rS, fS, kW, rW, fW, dv, hat, rfl⟩ := h
  obtain ⟨g, c, rfl, hcell⟩ := kinds_form hat (by omega)
  obtain ⟨gr, cr, rfl, hcellr⟩ := rooms_form hat (by omega)
  obtain ⟨gd, cd, rfl, hcelld⟩ := dirty_form hat (by omega)
  obtain ⟨af, cf, hfw⟩ := hat.way.ff
  rw [show R.way.free.length = 0 by rw [hfr]; rfl] at hfw
  subst hfw
  have c0 := World.rowIs.cell hat.cells (i := 0) (by decide)
  have c13 := World.rowIs.cell hat.cells (i := 13) (by decide)
  have c15 := World.rowIs.cell hat.cells (i := 15) (by decide)
  simp only [rmF] at c0 c13 c15
  have hlt := World.rowIs.lt hat.cells
  have HIS := Lib.hid (show IsRm w b _ R from ⟨_, _, _, _, _, _, _, hat, rfl⟩)
  have HAT := Lib.hid hat
  have HLAST := Lib.hid (And.intro hlast hfr)
  obtain ⟨K, hK⟩ : ∃ K, K = R.way.kinds.length := ⟨_, rfl⟩
  have HK := Lib.hid (And.intro hK hlr)
  have hrl : R.way.rooms.length = K := by omega
  rw [← hK] at c13 HAT HIS hone hle
  rw [hrl] at HAT HIS
  clear hat hcell hcellr hcelld hlast hfr
  by_cases hfull : R.most ≤ K
  · have e : allocR R kind = (0, 8, R) := by unfold allocR; rw [if_neg hcond, HLAST.out.1]; simp only; rw [if_pos (by unfold lenR; omega)]
    rw [e]
    rw [← hK, hrl]
    clear hK hrl hlr
    go_enter Tryz.func24, Tryz.ntmps24
    go_wp2_with fail
    go_ret2
    exact ⟨rfl, RmGo.same HIS.out (Below.refl _ _)⟩
  have hnr : ¬ ((R.most : Int) ≤ (K : Int)) := by omega
  have HBG := Lib.hid (big11_any (HIS.out.below (below_alloc (o := .cells #[.int .i64 K, .int .i64 0] 3) (Below.refl _ _))) (by omega) (by omega) hk.room (lb := w.heap.size) (cl := 2) (l := [(K : Int), 0]) (ints_two w K) (by simp) (two_in K _ (by omega)))
  have hlen : lenR R = K := by unfold lenR; omega
  cases hbg : bigR R [(K : Int), 0]
  rotate_left
  · have e : allocR R kind = (0, 10, R) := by unfold allocR; rw [if_neg hcond, HLAST.out.1]; simp only; rw [hlen, if_neg hnr, if_pos hbg]
    rw [e]
    rw [← hK, hrl]
    rw [hbg] at HBG
    clear hK hrl hlr hlen
    go_enter Tryz.func24, Tryz.ntmps24
    go_wp2_with fail
    refine HBG.out.mono ?_
    rintro e w2 ⟨rfl, q, hq⟩
    have hb2 : Below w.heap.size w w2 := by rw [hq]; exact below_drewN (below_alloc (Below.refl _ _)) _
    have HB2 := Lib.hid hb2
    clear hq hb2 c13 c15 c0
    go_wp2_with fail
    go_ret2
    exact ⟨rfl, RmGo.same HIS.out HB2.out⟩
  have e : allocR R kind = ((K : Int), 0, { R with way := growS R.way kind, dirty := markR R.dirty [(K : Int), 0] }) := by
    unfold allocR
    rw [if_neg hcond, HLAST.out.1]
    simp only
    rw [hlen, if_neg hnr, hbg]
    rfl
  rw [e]
  rw [← hK, hrl]
  rw [hbg] at HBG
  have HPRE := Lib.hid ((PreOk.of_fix (hk.way.grow (kind := kind) (by omega) (by omega) (by omega))).more hbig)
  clear e hK hrl hlr hlen
  obtain ⟨i0, hi, hz0, hz1, hz2⟩ := info_parts Tryz.infoIntP
  obtain ⟨j0, hj, hj0, hj1, hj2⟩ := info_parts Tryz.infoStr
  go_enter Tryz.func24, Tryz.ntmps24
  go_wp2_with fail
  refine HBG.out.mono ?_
  rintro e w2 ⟨rfl, q, hq⟩
  have hb2 : Below w.heap.size w w2 := by rw [hq]; exact below_drewN (below_alloc (Below.refl _ _)) _
  have HB2 := Lib.hid hb2
  clear hq hb2 c13 c15 c0
  have hat2 := HAT.out.touch (G := []) (Touch.of_below HB2.out) (fun _ _ => by simp)
  have c13 := World.rowIs.cell hat2.cells (i := 13) (by decide)
  have c15 := World.rowIs.cell hat2.cells (i := 15) (by decide)
  simp only [rmF] at c13 c15
  have hlt2 := World.rowIs.lt hat2.cells
  have HATA := Lib.hid (fun o => hat2.touch (G := []) ((Touch.refl [] _).alloc o) (fun _ _ => by simp))
  have HNB := Lib.hid (show b ∉ (Value.slice (some ⟨g, 0, none⟩) K c).ownBlock.toList from fun hm => hat2.bW (by simp only [stB, List.mem_append]; exact .inl hm))
  have HNR := Lib.hid (show b ∉ (Value.slice (some ⟨gr, 0, none⟩) K cr).ownBlock.toList from fun hm => hat2.bW (by simp only [stB, List.mem_append]; exact .inr (.inl hm)))
  have hko := hat2.way.ko
  rw [← HK.out.1] at hko
  have HKO := Lib.hid hko
  have HAT2 := Lib.hid hat2
  clear hat2 hko
  go_wp2_with (first
    | (at_builtin; refine wpList_append_near _ rfl (.tmp 79) (.tmp 80) 32 rfl 0 3 i0 (.int .i64 0) 1 8 Tryz.underlying32 hi hz0 hz1 hz2 rfl (by decide) (.slice (some ⟨g, 0, none⟩) K c) K (kC R.way) rfl (HKO.out.alloc _) ⟨w2.heap.size, 0, none⟩ 1 1 [.int .i64 0] rfl (by decide) rfl (cell_one_new _ _ _) (by intro u hu; simp at hu; subst hu; rfl) (by unfold maxLen; omega) (by omega) (Nat.zero_le _) ?_; intro g2 cap2 w3 hown hgr hnear; have h7 := rowIs_touch (HATA.out _).cells (Touch.of_grown hgr) HNB.out; have q13 := World.rowIs.cell h7 (i := 13) (by decide); have q14 := World.rowIs.cell h7 (i := 14) (by decide); simp only [rmF] at q13 q14; have fz7 := World.rowIs.frozen h7 13; have HA3 := Lib.hid (RmAt.appKind (HATA.out _) (R.way.kinds ++ [0]) (N := K + 1) (by rw [List.length_append, HK.out.1]; rfl) (by rw [List.map_append]; exact hown) hgr hnear); have HRO := Lib.hid (RmAt.roN (N := K) HA3.out.1 (by show R.way.rooms.length = K; rw [HK.out.2, ← HK.out.1])); clear hown hgr hnear h7)
    | (at_builtin; refine wpList_append_near _ rfl (.tmp 90) (.tmp 91) 33 rfl 0 9 j0 (.string ⟨#[]⟩) 1 16 Tryz.underlying33 hj hj0 hj1 hj2 rfl (by decide) (.slice (some ⟨gr, 0, none⟩) K cr) K (rC R.way) rfl (HRO.out.alloc _) ⟨w3.heap.size, 0, none⟩ 1 1 [.string ⟨#[]⟩] rfl (by decide) rfl (cell_set_new w3 _ _ _ _) (by intro u hu; simp at hu; subst hu; rfl) (by unfold maxLen; omega) (by omega) (Nat.zero_le _) ?_; intro g3 cap3 w4 hown hgr hnear; clear q13 q14 fz7; have h7 := rowIs_touch (HA3.out.1.alloc _).cells (Touch.of_grown hgr) HNR.out; have q13 := World.rowIs.cell h7 (i := 13) (by decide); simp only [rmF] at q13; have q14 := World.rowIs.cell h7 (i := 14) (by decide); simp only [rmF] at q14; have fz7 := World.rowIs.frozen h7 14; have HA4 := Lib.hid (RmAt.appRoom (HA3.out.1.alloc _) (R.way.rooms ++ [(⟨#[]⟩ : ByteArray)]) (N := K + 1) (by rw [List.length_append, HK.out.2, ← HK.out.1]; rfl) (by rw [List.map_append]; exact hown) hgr hnear); obtain ⟨⟨v0, ck⟩, fk, nk1, nk2⟩ := kind_facts (o := 14) (K := K) HA4.out.1 (by show (R.way.kinds ++ [0]).length = K + 1; rw [List.length_append, HK.out.1]; rfl) (Nat.lt_succ_self _); clear hown hgr hnear h7))
  have hat5 := RmAt.setKindN HA4.out.1 (N := K + 1) (by show (R.way.kinds ++ [0]).length = K + 1; rw [List.length_append, HK.out.1]; rfl) K kind
  have t5 : Touch [b, g2] w4 ((w4.setCell ⟨b, 14, none⟩ (.slice (some ⟨g3, 0, none⟩) (K + 1) cap3)).setCell ⟨g2, K, none⟩ (.int .i64 kind)) := ((Touch.refl _ _).setCell (.inl (by simp)) _).setCell (.inl (by simp)) _
  have hsz5 : ((w4.setCell ⟨b, 14, none⟩ (.slice (some ⟨g3, 0, none⟩) (K + 1) cap3)).setCell ⟨g2, K, none⟩ (.int .i64 kind)).heap.size = w4.heap.size := by simp [World.setCell]
  -- what was turned so far
  have T4 : Touch (rmB b kS rS fS (.slice (some ⟨g, 0, none⟩) K c) (.slice (some ⟨gr, 0, none⟩) K cr) (.slice af 0 cf) (.slice (some ⟨gd, 0, none⟩) R.dirty.length cd)) w ((w4.setCell ⟨b, 14, none⟩ (.slice (some ⟨g3, 0, none⟩) (K + 1) cap3)).setCell ⟨g2, K, none⟩ (.int .i64 kind)) := by
    have ta := ((Touch.of_below (F := rmB b kS rS fS (.slice (some ⟨g, 0, none⟩) K c) (.slice (some ⟨gr, 0, none⟩) K cr) (.slice af 0 cf) (.slice (some ⟨gd, 0, none⟩) R.dirty.length cd)) HB2.out).alloc (.cells #[.int .i64 0] 3))
    have tb := ta.trans HA3.out.2.1 (fun x hx => .inl hx)
    have hs2 := HB2.out.size
    have f3 : ∀ x ∈ rmB b kS rS fS (.slice (some ⟨g2, 0, none⟩) (K + 1) cap2) (.slice (some ⟨gr, 0, none⟩) K cr) (.slice af 0 cf) (.slice (some ⟨gd, 0, none⟩) R.dirty.length cd), x ∈ rmB b kS rS fS (.slice (some ⟨g, 0, none⟩) K c) (.slice (some ⟨gr, 0, none⟩) K cr) (.slice af 0 cf) (.slice (some ⟨gd, 0, none⟩) R.dirty.length cd) ∨ w.heap.size ≤ x := fun x hx => by
      rcases HA3.out.2.2 x hx with h | h
      · exact .inl h
      · refine .inr ?_
        simp at h
        omega
    have tc := (tb.alloc (.cells #[.string ⟨#[]⟩] 9)).trans HA4.out.2.1 f3
    exact tc.setCell (p := ⟨g2, K, none⟩) (f3 g2 (by simp [rmB, stB, Value.ownBlock])) _
  have FF : ∀ x ∈ rmB b kS rS fS (.slice (some ⟨g2, 0, none⟩) (K + 1) cap2) (.slice (some ⟨g3, 0, none⟩) (K + 1) cap3) (.slice af 0 cf) (.slice (some ⟨gd, 0, none⟩) R.dirty.length cd), x ∈ rmB b kS rS fS (.slice (some ⟨g, 0, none⟩) K c) (.slice (some ⟨gr, 0, none⟩) K cr) (.slice af 0 cf) (.slice (some ⟨gd, 0, none⟩) R.dirty.length cd) ∨ w.heap.size ≤ x := by
    have hs2 := HB2.out.size
    have hs3 := HA3.out.2.1.size
    intro x hx
    rcases HA4.out.2.2 x hx with h | h
    · rcases HA3.out.2.2 x h with h | h
      · exact .inl h
      · refine .inr ?_
        simp at h
        omega
    · refine .inr ?_
      simp at h hs3
      omega
  generalize (w4.setCell ⟨b, 14, none⟩ (.slice (some ⟨g3, 0, none⟩) (K + 1) cap3)).setCell ⟨g2, K, none⟩ (.int .i64 kind) = w5 at hat5 t5 T4 hsz5 ⊢
  have hlt5 := World.rowIs.lt hat5.cells
  have c14 := World.rowIs.cell hat5.cells (i := 14) (by decide)
  simp only [rmF] at c14
  have k14 : ∀ x : Later w5, x.1.cell? ⟨b, 14, none⟩ = some (.slice (some ⟨g3, 0, none⟩) (K + 1) cap3) := fun x => (x.cell hlt5).trans c14
  have HFL := Lib.hid (fun x : Later w5 => fill11_any ⟨#[]⟩ 496 x.1 (by decide) (by omega))
  have HAT5 := Lib.hid hat5
  have HT5 := Lib.hid T4
  have HFF := Lib.hid FF
  clear hat5 t5 T4 FF q13 q14 fz7 ck fk c14 hsz5
  refine wp_region_later_tail 8 (by kernel_rfl) (by kernel_rfl) ?_
  simp only [List.take_succ_cons, List.take_zero, List.drop_succ_cons, List.drop_zero]
  repeat (first | go_big_quiet_step ((go_at_call 70; refine Later.call (HFL.out _))) | quiet_step ((go_at_call 70; refine Later.call (HFL.out _))))
  refine wpQuiet_nil ?_
  rintro w6 ⟨y6, hw6⟩
  have hb6 : Below w5.heap.size w5 w6 := by rw [hw6]; exact y6.2
  have hat6 := HAT5.out.touch (G := []) (Touch.of_below hb6) (fun _ _ => by simp)
  have hro6 := RmAt.roN (N := K + 1) hat6 (by show (R.way.rooms ++ [(⟨#[]⟩ : ByteArray)]).length = K + 1; rw [List.length_append, HK.out.2, ← HK.out.1]; rfl)
  have f6 := hro6.frozenAt K
  have hkc : ∃ v, w6.cell? ⟨g3, K, none⟩ = some v := by
    refine ⟨.string ((R.way.rooms ++ [(⟨#[]⟩ : ByteArray)]).getD K ⟨#[]⟩), ?_⟩
    rw [hro6.cellAt K (by omega), List.getD_eq_getElem?_getD]
    show ((R.way.rooms ++ [(⟨#[]⟩ : ByteArray)]).map Value.string)[K]? = _
    rw [List.getElem?_map, List.getElem?_eq_getElem (by rw [List.length_append, HK.out.2, ← HK.out.1]; exact Nat.lt_succ_self _)]
    rfl
  obtain ⟨v6, c6⟩ := hkc
  have hat7 := RmAt.setRoomN hat6 (N := K + 1) (by show (R.way.rooms ++ [(⟨#[]⟩ : ByteArray)]).length = K + 1; rw [List.length_append, HK.out.2, ← HK.out.1]; rfl) K (fillR ⟨#[]⟩ 496)
  have hlb : w6.heap.size ∉ rmB b kS rS fS (.slice (some ⟨g2, 0, none⟩) (K + 1) cap2) (.slice (some ⟨g3, 0, none⟩) (K + 1) cap3) (.slice af 0 cf) (.slice (some ⟨gd, 0, none⟩) R.dirty.length cd) := fun hm => by
    have := hat6.lt _ hm
    omega
  have hfin := (IsRm.below (w' := (w6.setCell ⟨g3, K, none⟩ (.string (fillR ⟨#[]⟩ 496))).alloc (.cells #[.int .i64 K, .int .i64 0] 3)) ⟨_, _, _, _, _, _, _, hat7, rfl⟩ (below_alloc (Below.refl _ _)))
  have hKN : K < R.dirty.length := by omega
  have eK : (R.way.kinds ++ [0]).set K kind = R.way.kinds ++ [kind] := set_last _ _ _ _ HK.out.1
  have eR : (R.way.rooms ++ [(⟨#[]⟩ : ByteArray)]).set K (fillR ⟨#[]⟩ 496) = R.way.rooms ++ [fillR ⟨#[]⟩ 496] := set_last _ _ _ _ (by rw [HK.out.2]; exact HK.out.1)
  simp only [eK, eR] at hfin
  have HTO := Lib.hid (touch11_any hfin (by show 0 < R.dirty.length; omega) (by show R.dirty.length ≤ 1000000; omega) HPRE.out (lb := w6.heap.size) (cl := 2) (l := [(K : Int), 0]) (ints_two_set w6 _ _ K) (by simp [World.setCell]) hlb (by simp) (two_in K _ hKN))
  have HB6 := Lib.hid hb6
  clear hfin hlb hat6 hat7 k14 hw6 hb6 hro6 eK eR
  go_wp2_with fail
  refine HTO.out.mono ?_
  rintro e w8 ⟨rfl, hgo⟩
  have HGO := Lib.hid hgo
  clear hgo
  go_wp2_with fail
  go_ret2
  refine ⟨rfl, RmGo.trans ?_ HFF.out HGO.out⟩
  have t7 := HT5.out.trans (Touch.of_below (F := []) HB6.out) (fun _ h => by simp at h)
  exact (t7.setCell (p := ⟨g3, K, none⟩) (HFF.out g3 (by simp [rmB, stB, Value.ownBlock])) _).alloc _
/-- Alloc. -/
theorem alloc11_any (h : IsRm w b F R) (hk : RmOk R) (kind : Int) :
    Calls Tryz.prog 24 #[.pointer (some ⟨b, 0, none⟩), .int .i64 kind] w fun e w' => e = .returned (.tuple #[.int .i64 (allocR R kind).1, .int .i64 (allocR R kind).2.1]) ∧ RmGo w w' b F (allocR R kind).2.2 := by
  by_cases hc : kind < 2 ∨ 254 < kind
  · have e : allocR R kind = (0, 1, R) := by unfold allocR; rw [if_pos hc]
    rw [e]
    exact alloc11_kind h kind hc
  · rcases hfr : R.way.free.getLast? with _ | f
    · exact alloc11_new h hk kind (fun h => hc (.inl h)) (fun h => hc (.inr h)) (List.getLast?_eq_none_iff.1 hfr)
    · obtain ⟨l, hl⟩ := List.getLast?_eq_some_iff.1 hfr
      have := (hk.way.fr f (by rw [hl]; simp)).1
      obtain ⟨n, rfl⟩ : ∃ n : Nat, f = n := ⟨f.toNat, by omega⟩
      exact alloc11_free h hk kind (fun h => hc (.inl h)) (fun h => hc (.inr h)) n l hl
end
end Go.Proofs.YtpaholkmlfaflaaGreatDoor

namespace Go.Proofs.YtpaholkmlfaflaaGreatDoor
open Go.RowKit Go.Joins
set_option linter.unusedVariables false
section
variable {w w' w1 : World} {b : Nat} {kS rS fS kW rW fW dv : Value} {R R' : RM} {F F1 : List Nat} {s : SM} {most : Nat}
theorem ints_zero (w : World) : IntsAt (w.alloc (.cells #[.int .i64 0] 3)) w.heap.size [(0 : Int)] := ints_one w 0
theorem ints_zero_set (w : World) (a : Addr) (v : Value) : IntsAt ((w.setCell a v).alloc (.cells #[.int .i64 0] 3)) w.heap.size [(0 : Int)] := by
  have e : (w.setCell a v).heap.size = w.heap.size := by simp [World.setCell]
  have h := ints_zero (w.setCell a v)
  rw [e] at h
  exact h
theorem zero_in (N : Nat) (h : 0 < N) : ∀ i, i < [(0 : Int)].length → 0 ≤ [(0 : Int)].getD i 0 ∧ [(0 : Int)].getD i 0 < N := by
  intro i hi
  rcases i with _ | i
  · show (0 : Int) ≤ 0 ∧ (0 : Int) < N; omega
  · exfalso; simp only [List.length_cons, List.length_nil] at hi; omega
set_option maxRecDepth 100000 in
set_option maxHeartbeats 1000000 in
theorem setRoot11_any (h : IsRm w b F R) (hk : RmOk R) (i x : Int) (i1 : -9223372036854775808 ≤ i) (i2 : i ≤ 9223372036854775807) (x0 : 0 ≤ x) (x1 : x ≤ 18446744073709551615) :
    Calls Tryz.prog 33 #[.pointer (some ⟨b, 0, none⟩), .int .i64 i, .int .u64 x] w fun e w' => e = .returned (.int .i64 (setRootR R i x).1) ∧ RmGo w w' b F (setRootR R i x).2 := by
  have HIS := Lib.hid h
  by_cases hc : i < 0
  · have e : setRootR R i x = (1, R) := by unfold setRootR; rw [if_pos (.inl hc)]
    rw [e]
    go_enter Tryz.func33, Tryz.ntmps33
    go_wp2_with fail
    go_ret
    exact ⟨rfl, RmGo.same HIS.out (Below.refl _ _)⟩
  by_cases hc2 : 7 < i
  · have e : setRootR R i x = (1, R) := by unfold setRootR; rw [if_pos (.inr hc2)]
    rw [e]
    go_enter Tryz.func33, Tryz.ntmps33
    go_wp2_with fail
    go_ret
    exact ⟨rfl, RmGo.same HIS.out (Below.refl _ _)⟩
  obtain ⟨n, rfl⟩ : ∃ n : Nat, i = n := ⟨i.toNat, by omega⟩
  have hcond : ¬ ((n : Int) < 0 ∨ 7 < (n : Int)) := by omega
  have hm0 := hk.m0
  have hdl := hk.dl
  have hbig := hk.big
  have hn8 : n < 8 := by omega
  have hn8' : (n : Int) < 8 := by omega
  have HBG := Lib.hid (big11_any (HIS.out.below (below_alloc (o := .cells #[.int .i64 0] 3) (Below.refl _ _))) (by omega) (by omega) hk.room (lb := w.heap.size) (cl := 1) (l := [(0 : Int)]) (ints_zero w) (by simp) (zero_in _ (by omega)))
  cases hbg : bigR R [(0 : Int)]
  rotate_left
  · have e : setRootR R n x = (10, R) := by unfold setRootR; rw [if_neg hcond, if_pos hbg]
    rw [e]
    rw [hbg] at HBG
    go_enter Tryz.func33, Tryz.ntmps33
    go_wp2_with fail
    refine HBG.out.mono ?_
    rintro e w2 ⟨rfl, q, hq⟩
    have hb2 : Below w.heap.size w w2 := by rw [hq]; exact below_drewN (below_alloc (Below.refl _ _)) _
    have HB2 := Lib.hid hb2
    clear hq hb2
    go_wp2_with fail
    go_ret
    exact ⟨rfl, RmGo.same HIS.out HB2.out⟩
  have e : setRootR R n x = (0, { R with way := rootS R.way n x, dirty := markR R.dirty [0] }) := by unfold setRootR; rw [if_neg hcond, hbg]; rfl
  rw [e]
  rw [hbg] at HBG
  clear e h
  obtain ⟨kS, rS, fS, kW, rW, fW, dv, hat, rfl⟩ := HIS.out
  have HAT := Lib.hid hat
  have hpre := (PreOk.of_fix (hk.way.root (i := n) (n := x) hn8 x0 x1)).more hbig
  have HPRE := Lib.hid hpre
  clear hpre hat
  go_enter Tryz.func33, Tryz.ntmps33
  go_wp2_with fail
  refine HBG.out.mono ?_
  rintro e w2 ⟨rfl, q, hq⟩
  have hb2 : Below w.heap.size w w2 := by rw [hq]; exact below_drewN (below_alloc (Below.refl _ _)) _
  have HB2 := Lib.hid hb2
  clear hq hb2
  have hat2 := HAT.out.touch (G := []) (Touch.of_below HB2.out) (fun _ _ => by simp)
  have hlt2 := World.rowIs.lt hat2.cells
  have fb2 := World.rowIs.frozen hat2.cells (16 + n)
  have cb2 := World.rowIs.cell hat2.cells (i := 16 + n) (by omega)
  generalize rmF kS rS fS kW rW fW dv R (16 + n) = v0 at cb2
  have hat3 := hat2.setRoot hk.way.r8 n hn8 x
  have hfin := (IsRm.below (w' := (w2.setCell ⟨b, 16 + n, none⟩ (.int .u64 x)).alloc (.cells #[.int .i64 0] 3)) ⟨_, _, _, _, _, _, _, hat3, rfl⟩ (below_alloc (Below.refl _ _)))
  have hlb : w2.heap.size ∉ rmB b kS rS fS kW rW fW dv := fun hm => by
    have := hat2.lt _ hm
    omega
  have HTO := Lib.hid (touch11_any hfin (by show 0 < R.dirty.length; omega) (by show R.dirty.length ≤ 1000000; omega) HPRE.out (lb := w2.heap.size) (cl := 1) (l := [(0 : Int)]) (ints_zero_set w2 _ _) (by simp [World.setCell]) hlb (by simp) (zero_in _ (by show 0 < R.dirty.length; omega)))
  clear hfin hlb hat2 hat3
  go_wp2_with fail
  refine HTO.out.mono ?_
  rintro e w8 ⟨rfl, hgo⟩
  have HGO := Lib.hid hgo
  clear hgo
  go_wp2_with fail
  go_ret
  refine ⟨rfl, RmGo.trans ?_ (fun x hx => .inl hx) HGO.out⟩
  exact ((Touch.of_below HB2.out).setCell (.inl (by simp [rmB])) _).alloc _
theorem st_set0 {k r f : Value} (h : w.rowIs b 37 11 (stCF k r f s)) (v : Value) : (w.setCell ⟨b, 0, none⟩ v).rowIs b 37 11 (stCF v r f s) := World.rowIs.congr (World.rowIs.set h 0 v) (fun t ht => by rcases t with _ | _ | _ | t <;> rfl)
theorem st_set1 {k r f : Value} (h : w.rowIs b 37 11 (stCF k r f s)) (v : Value) : (w.setCell ⟨b, 1, none⟩ v).rowIs b 37 11 (stCF k v f s) := World.rowIs.congr (World.rowIs.set h 1 v) (fun t ht => by rcases t with _ | _ | _ | t <;> rfl)
theorem st_set2 {k r f : Value} (h : w.rowIs b 37 11 (stCF k r f s)) (v : Value) : (w.setCell ⟨b, 2, none⟩ v).rowIs b 37 11 (stCF k r v s) := World.rowIs.congr (World.rowIs.set h 2 v) (fun t ht => by rcases t with _ | _ | _ | t <;> rfl)
theorem res_state {fn : Func} {p : Tmp} {tmps : Array Value} {W : World} {g : Nat} {G : Nat → Value} {cs : Array Value} (h : fn.results = #[.cell p 37]) (hp : tmps.getD p undef = .pointer (some ⟨g, 0, none⟩)) (hr : W.rowIs g 37 11 G)
    (e : #[G 0, G 1, G 2, G 3, G 4, G 5, G 6, G 7, G 8, G 9, G 10] = cs) : (results fn tmps).run Tryz.prog W = .ok (.agg cs) W := by
  obtain ⟨c, hc, hs, hi⟩ := hr
  have hcs : c = cs := by
    rw [← e]
    apply Array.ext_getElem?
    intro i
    by_cases hlt : i < 11
    · rw [hi i hlt]
      rcases i with _ | _ | _ | _ | _ | _ | _ | _ | _ | _ | _ | i <;> first | rfl | (exfalso; omega)
    · rw [Array.getElem?_eq_none (by omega), Array.getElem?_eq_none (by simp; omega)]
  subst hcs
  exact results_cell_row h tmps W g _ c _ _ hp hc Tryz.underlying37 rfl (by rw [hs]; kernel_rfl)
theorem state_stored {W : World} {g : Nat} {G : Nat → Value} {v0 v1 v2 v3 v4 v5 v6 v7 v8 v9 v10 : Value} (h : W.rowIs g 37 11 G) : (((((((((((W.setCell ⟨g, 0, none⟩ v0).setCell ⟨g, 1, none⟩ v1).setCell ⟨g, 2, none⟩ v2).setCell ⟨g, 3, none⟩ v3).setCell ⟨g, 4, none⟩ v4).setCell ⟨g, 5, none⟩ v5).setCell ⟨g, 6, none⟩ v6).setCell ⟨g, 7, none⟩ v7).setCell ⟨g, 8, none⟩ v8).setCell ⟨g, 9, none⟩ v9).setCell ⟨g, 10, none⟩ v10).rowIs g 37 11 (fun i => #[v0, v1, v2, v3, v4, v5, v6, v7, v8, v9, v10].getD i undef) := by
  refine World.rowIs.congr (World.rowIs.set (World.rowIs.set (World.rowIs.set (World.rowIs.set (World.rowIs.set (World.rowIs.set (World.rowIs.set (World.rowIs.set (World.rowIs.set (World.rowIs.set (World.rowIs.set h 0 v0) 1 v1) 2 v2) 3 v3) 4 v4) 5 v5) 6 v6) 7 v7) 8 v8) 9 v9) 10 v10) (fun t ht => ?_)
  rcases t with _ | _ | _ | _ | _ | _ | _ | _ | _ | _ | _ | t <;> first | rfl | (exfalso; omega)
theorem touch_stored {W W' : World} {g : Nat} {F : List Nat} {v0 v1 v2 v3 v4 v5 v6 v7 v8 v9 v10 : Value} (h : Touch F W' W) (hg : g ∈ F) : Touch F W' (((((((((((W.setCell ⟨g, 0, none⟩ v0).setCell ⟨g, 1, none⟩ v1).setCell ⟨g, 2, none⟩ v2).setCell ⟨g, 3, none⟩ v3).setCell ⟨g, 4, none⟩ v4).setCell ⟨g, 5, none⟩ v5).setCell ⟨g, 6, none⟩ v6).setCell ⟨g, 7, none⟩ v7).setCell ⟨g, 8, none⟩ v8).setCell ⟨g, 9, none⟩ v9).setCell ⟨g, 10, none⟩ v10) := by
  repeat (refine Touch.setCell ?_ (.inl hg) _)
  exact h
set_option maxRecDepth 100000 in
set_option maxHeartbeats 1000000 in
theorem copied11_any {B : Nat} {k r f : Value} (w : World) (h : StRow w B k r f s) (h1 : 1 ≤ s.kinds.length) (h2 : 1 ≤ s.rooms.length) (h3 : s.kinds.length ≤ 1000000) (h4 : s.rooms.length ≤ 1000000) (h5 : s.free.length ≤ 1000000) :
    Calls Tryz.prog 61 #[stV k r f s] w fun e w' => ∃ k' r' f', e = .returned (stV k' r' f' s) ∧ StRow w' w.heap.size k' r' f' s ∧ Below w.heap.size w w' := by
  have hpost : ∀ (k' r' f' : Value), Value.agg #[k', r', f', .int .u64 (s.roots.getD 0 0), .int .u64 (s.roots.getD 1 0), .int .u64 (s.roots.getD 2 0), .int .u64 (s.roots.getD 3 0), .int .u64 (s.roots.getD 4 0), .int .u64 (s.roots.getD 5 0), .int .u64 (s.roots.getD 6 0), .int .u64 (s.roots.getD 7 0)] = stV k' r' f' s := fun _ _ _ => rfl
  rw [← hpost k r f]
  generalize s.roots.getD 0 0 = y0 at hpost ⊢
  generalize s.roots.getD 1 0 = y1 at hpost ⊢
  generalize s.roots.getD 2 0 = y2 at hpost ⊢
  generalize s.roots.getD 3 0 = y3 at hpost ⊢
  generalize s.roots.getD 4 0 = y4 at hpost ⊢
  generalize s.roots.getD 5 0 = y5 at hpost ⊢
  generalize s.roots.getD 6 0 = y6 at hpost ⊢
  generalize s.roots.getD 7 0 = y7 at hpost ⊢
  have HPOST := Lib.hid hpost
  clear hpost
  obtain ⟨gk, ck, rfl⟩ := ownsRow_form h.ko h1
  obtain ⟨gr, cr, rfl⟩ := ownsRow_form h.ro h2
  obtain ⟨af, cf, rfl⟩ := h.ff
  have H := Lib.hid h
  clear h
  go_enter Tryz.func61, Tryz.ntmps61
  go_upto_region 2 with fail
  refine wp_name (fun W0 hW => ?_)
  obtain ⟨S0, hS0⟩ : ∃ S0 : SM, S0 = ⟨[], [], [], [y0, y1, y2, y3, y4, y5, y6, y7]⟩ := ⟨_, rfl⟩
  obtain ⟨FV, hFV⟩ : ∃ FV : Value, FV = .slice af s.free.length cf := ⟨_, rfl⟩
  have HW0 := Lib.hid (show W0.heap.size = w.heap.size + 3 by rw [← hW]; simp)
  have HB0 := Lib.hid (show Below w.heap.size w W0 by rw [← hW]; exact below_alloc (below_alloc (below_alloc (Below.refl _ _))))
  have HT0 := Lib.hid (show W0.rowIs (w.heap.size + 1 + 1) 37 11 (stCF (.slice none 0 0) (.slice none 0 0) (.slice none 0 0) S0) from by
    rw [← hW, hS0]
    have h := stCF_new ((w.alloc (.cells #[Value.slice (some ⟨gk, 0, none⟩) s.kinds.length ck, Value.slice (some ⟨gr, 0, none⟩) s.rooms.length cr, Value.slice af s.free.length cf, .int .u64 y0, .int .u64 y1, .int .u64 y2, .int .u64 y3, .int .u64 y4, .int .u64 y5, .int .u64 y6, .int .u64 y7] 37)).alloc (.cells #[Value.slice none 0 0, Value.slice none 0 0, Value.slice none 0 0, .int .u64 0, .int .u64 0, .int .u64 0, .int .u64 0, .int .u64 0, .int .u64 0, .int .u64 0, .int .u64 0] 37)) (.slice none 0 0) (.slice none 0 0) (.slice none 0 0) ⟨[], [], [], [y0, y1, y2, y3, y4, y5, y6, y7]⟩
    have e : ∀ o1 o2 : Obj, ((w.alloc o1).alloc o2).heap.size = w.heap.size + 1 + 1 := fun _ _ => by simp
    rw [e] at h
    exact h)
  have HS0 := Lib.hid (show W0.rowIs w.heap.size 37 11 (stCF (.slice (some ⟨gk, 0, none⟩) s.kinds.length ck) (.slice (some ⟨gr, 0, none⟩) s.rooms.length cr) FV S0) from by
    rw [← hW, hS0, hFV]
    exact rowIs_touch (stCF_new w _ _ _ ⟨[], [], [], [y0, y1, y2, y3, y4, y5, y6, y7]⟩) (F := []) (((Touch.refl _ _).alloc _).alloc _) (by simp))
  have HU0 := Lib.hid (show W0.rowIs (w.heap.size + 1) 37 11 (stCF (.slice none 0 0) (.slice none 0 0) (.slice none 0 0) ⟨[], [], [], [0, 0, 0, 0, 0, 0, 0, 0]⟩) from by
    rw [← hW]
    have h := stCF_new (w.alloc (.cells #[Value.slice (some ⟨gk, 0, none⟩) s.kinds.length ck, Value.slice (some ⟨gr, 0, none⟩) s.rooms.length cr, Value.slice af s.free.length cf, .int .u64 y0, .int .u64 y1, .int .u64 y2, .int .u64 y3, .int .u64 y4, .int .u64 y5, .int .u64 y6, .int .u64 y7] 37)) (.slice none 0 0) (.slice none 0 0) (.slice none 0 0) ⟨[], [], [], [0, 0, 0, 0, 0, 0, 0, 0]⟩
    have e : ∀ o1 : Obj, (w.alloc o1).heap.size = w.heap.size + 1 := fun _ => by simp
    rw [e] at h
    exact rowIs_touch h (F := []) ((Touch.refl _ _).alloc _) (by simp))
  have HR0 := Lib.hid (H.out.below HB0.out)
  have HS00 := Lib.hid hS0
  clear hW
  obtain ⟨i0, ih, ih0, ih1, ih2⟩ := info_parts Tryz.infoIntP
  obtain ⟨j0, jh, jh0, jh1, jh2⟩ := info_parts Tryz.infoStr
  rw [← hFV]
  have HFV := Lib.hid hFV
  clear hFV hS0

  have ct1 := World.rowIs.cell HT0.out (i := 0) (by decide)
  have cs1 := World.rowIs.cell HS0.out (i := 0) (by decide)
  simp only [stCF] at ct1 cs1
  go_upto_region 3 with (at_builtin; refine wpList_append_near _ rfl (.tmp 8) (.tmp 10) 32 rfl w.heap.size 3 i0 (.int .i64 0) 1 8 Tryz.underlying32 ih ih0 ih1 ih2 rfl (by decide) (.slice none 0 0) 0 [] rfl (World.ownsRow_nil _ _ _ _) ⟨gk, 0, none⟩ s.kinds.length ck (kC s) rfl h1 (by simp [kC]) ((HR0.out.ko).cells rfl) (by intro u hu; simp [kC] at hu; obtain ⟨x, -, rfl⟩ := hu; rfl) (by unfold maxLen; omega) (by omega) HB0.out.size ?_; intro g1 c1 w1 hown hgr hnear; have fz1 := World.rowIs.frozen (rowIs_touch HT0.out (F := []) (Touch.of_grown hgr) (by simp)) 0; have cz1 := World.rowIs.cell (rowIs_touch HT0.out (F := []) (Touch.of_grown hgr) (by simp)) (i := 0) (by decide); simp only [stCF] at cz1; have HOWN1 := Lib.hid hown; have HGR1 := Lib.hid hgr; have HNEAR1 := Lib.hid hnear; clear hown hgr hnear)
  refine wp_name (fun W1 hW1 => ?_)
  have T1 : Touch [] W0 w1 := Touch.of_grown HGR1.out
  have tb1 : Touch [w.heap.size + 1 + 1] w1 W1 := by rw [← hW1]; exact (Touch.refl _ _).setCell (.inl (by simp)) _
  have HB1 := Lib.hid (show Below w.heap.size w W1 from (HB0.out.trans (T1.below HB0.out.size (fun x hx => by simp at hx))).trans (tb1.below (Nat.le_trans HB0.out.size T1.size) (fun x hx => by simp at hx; omega)))
  have hsz1 : W0.heap.size ≤ W1.heap.size := Nat.le_trans (Nat.le_trans (Nat.le_refl _) T1.size) tb1.size
  have HT1 := Lib.hid (show W1.rowIs (w.heap.size + 1 + 1) 37 11 (stCF (.slice (some ⟨g1, 0, none⟩) s.kinds.length c1) (.slice none 0 0) (.slice none 0 0) S0) from by rw [← hW1]; first | exact st_set0 (rowIs_touch HT0.out T1 (by simp)) _ | (have hx := st_set0 (rowIs_touch HT0.out T1 (by simp)) (.slice (some ⟨g1, 0, none⟩) s.kinds.length c1); simpa using hx))
  have HS1 := Lib.hid (show W1.rowIs w.heap.size 37 11 (stCF (.slice (some ⟨gk, 0, none⟩) s.kinds.length ck) (.slice (some ⟨gr, 0, none⟩) s.rooms.length cr) FV S0) from rowIs_touch (rowIs_touch HS0.out T1 (by simp)) tb1 (by simp; omega))
  have HU1 := Lib.hid (rowIs_touch (rowIs_touch HU0.out T1 (by simp)) tb1 (by simp))
  have HR1 := Lib.hid (H.out.below HB1.out)
  have hg1 : W0.heap.size ≤ g1 ∧ g1 < w1.heap.size := ⟨by rcases HNEAR1.out with h | h; cases h; exact h, (HOWN1.out.lt g1 rfl).2⟩
  have HO1 := Lib.hid (show W1.ownsRow w.heap.size 3 1 (.slice (some ⟨g1, 0, none⟩) s.kinds.length c1) s.kinds.length (kC s) from by
    have ho := ownsRow_touch HOWN1.out tb1 (fun q hq => by
      have e : g1 = q := by simpa [Value.ownBlock] using hq
      subst e
      have := HW0.out
      simp
      omega)
    simpa using ho)
  clear ct1 cs1 fz1 cz1 hW1

  have ct2 := World.rowIs.cell HT1.out (i := 1) (by decide)
  have cs2 := World.rowIs.cell HS1.out (i := 1) (by decide)
  simp only [stCF] at ct2 cs2
  go_upto_region 4 with (at_builtin; refine wpList_append_near _ rfl (.tmp 14) (.tmp 16) 33 rfl w.heap.size 9 j0 (.string ⟨#[]⟩) 1 16 Tryz.underlying33 jh jh0 jh1 jh2 rfl (by decide) (.slice none 0 0) 0 [] rfl (World.ownsRow_nil _ _ _ _) ⟨gr, 0, none⟩ s.rooms.length cr (rC s) rfl h2 (by simp [rC]) ((HR1.out.ro).cells rfl) (by intro u hu; simp [rC] at hu; obtain ⟨x, -, rfl⟩ := hu; rfl) (by unfold maxLen; omega) (by omega) HB1.out.size ?_; intro g2 c2 w2 hown hgr hnear; have fz2 := World.rowIs.frozen (rowIs_touch HT1.out (F := []) (Touch.of_grown hgr) (by simp)) 1; have cz2 := World.rowIs.cell (rowIs_touch HT1.out (F := []) (Touch.of_grown hgr) (by simp)) (i := 1) (by decide); simp only [stCF] at cz2; have HOWN2 := Lib.hid hown; have HGR2 := Lib.hid hgr; have HNEAR2 := Lib.hid hnear; clear hown hgr hnear)
  refine wp_name (fun W2 hW2 => ?_)
  have T2 : Touch [] W1 w2 := Touch.of_grown HGR2.out
  have tb2 : Touch [w.heap.size + 1 + 1] w2 W2 := by rw [← hW2]; exact (Touch.refl _ _).setCell (.inl (by simp)) _
  have HB2 := Lib.hid (show Below w.heap.size w W2 from (HB1.out.trans (T2.below HB1.out.size (fun x hx => by simp at hx))).trans (tb2.below (Nat.le_trans HB1.out.size T2.size) (fun x hx => by simp at hx; omega)))
  have hsz2 : W0.heap.size ≤ W2.heap.size := Nat.le_trans (Nat.le_trans hsz1 T2.size) tb2.size
  have HT2 := Lib.hid (show W2.rowIs (w.heap.size + 1 + 1) 37 11 (stCF (.slice (some ⟨g1, 0, none⟩) s.kinds.length c1) (.slice (some ⟨g2, 0, none⟩) s.rooms.length c2) (.slice none 0 0) S0) from by rw [← hW2]; first | exact st_set1 (rowIs_touch HT1.out T2 (by simp)) _ | (have hx := st_set1 (rowIs_touch HT1.out T2 (by simp)) (.slice (some ⟨g2, 0, none⟩) s.rooms.length c2); simpa using hx))
  have HS2 := Lib.hid (show W2.rowIs w.heap.size 37 11 (stCF (.slice (some ⟨gk, 0, none⟩) s.kinds.length ck) (.slice (some ⟨gr, 0, none⟩) s.rooms.length cr) FV S0) from rowIs_touch (rowIs_touch HS1.out T2 (by simp)) tb2 (by simp; omega))
  have HU2 := Lib.hid (rowIs_touch (rowIs_touch HU1.out T2 (by simp)) tb2 (by simp))
  have HR2 := Lib.hid (H.out.below HB2.out)
  have hg2 : W1.heap.size ≤ g2 ∧ g2 < w2.heap.size := ⟨by rcases HNEAR2.out with h | h; cases h; exact h, (HOWN2.out.lt g2 rfl).2⟩
  have HO2 := Lib.hid (show W2.ownsRow w.heap.size 9 1 (.slice (some ⟨g2, 0, none⟩) s.rooms.length c2) s.rooms.length (rC s) from by
    have ho := ownsRow_touch HOWN2.out tb2 (fun q hq => by
      have e : g2 = q := by simpa [Value.ownBlock] using hq
      subst e
      have := HW0.out
      simp
      omega)
    simpa using ho)
  clear ct2 cs2 fz2 cz2 hW2
  have hg2lt : g2 < W2.heap.size := by have := tb2.size; have := hg2.2; omega
  have hg1lt : g1 < W1.heap.size := by have := tb1.size; have := hg1.2; omega
  have hg1lt2 : g1 < W2.heap.size := by have := T2.size; have := tb2.size; omega
  have hge1 : w.heap.size + 3 ≤ g1 := by have := hg1.1; have := HW0.out; omega
  have hge2 : w.heap.size + 3 ≤ g2 := by have := hg2.1; have := HW0.out; omega
  have hne12 : g1 ≠ g2 := by have := hg2.1; omega
  have HO12 := Lib.hid (show W2.ownsRow w.heap.size 3 1 (.slice (some ⟨g1, 0, none⟩) s.kinds.length c1) s.kinds.length (kC s) from ownsRow_touch (ownsRow_touch HO1.out T2 (by simp)) tb2 (fun q hq => by
    have e : g1 = q := by simpa [Value.ownBlock] using hq
    subst e
    simp
    omega))
  rcases Nat.eq_zero_or_pos s.free.length with hz | hz
  · have hfv := HFV.out
    rw [hz] at hfv
    have ct3 := World.rowIs.cell HT2.out (i := 2) (by decide)
    have cs3 := World.rowIs.cell HS2.out (i := 2) (by decide)
    simp only [stCF] at ct3 cs3
    rw [hfv] at cs3
    have fz3 := World.rowIs.frozen HT2.out 2
    have hpure : Sem.run Tryz.prog (pure (#[] : Array Value)) W2 = .ok #[] W2 := rfl
    have hz0 := Lib.hid hz
    clear hfv hz
    cases af with
    | none =>
      go_upto_region 5 with fail
      refine wp_name (fun W3 hW3 => ?_)
      have tb3 : Touch [w.heap.size + 1 + 1] W2 W3 := by rw [← hW3]; exact (Touch.refl _ _).setCell (.inl (by simp)) _
      have HT3 := Lib.hid (show W3.rowIs (w.heap.size + 1 + 1) 37 11 (stCF (.slice (some ⟨g1, 0, none⟩) s.kinds.length c1) (.slice (some ⟨g2, 0, none⟩) s.rooms.length c2) (.slice none 0 0) S0) from by rw [← hW3]; exact st_set2 HT2.out _)
      have HU3 := Lib.hid (rowIs_touch HU2.out tb3 (by simp))
      have KEY := Lib.hid (show ∀ W4, Touch [w.heap.size + 1] W3 W4 → StRow W4 w.heap.size (.slice (some ⟨g1, 0, none⟩) s.kinds.length c1) (.slice (some ⟨g2, 0, none⟩) s.rooms.length c2) (.slice none 0 0) s ∧ Below w.heap.size w W4 from fun W4 t4 => by
        have tt : Touch [w.heap.size + 1 + 1, w.heap.size + 1] W2 W4 := (tb3.mono (fun x hx => .inl (by simp at hx; simp [hx]))).trans t4 (fun x hx => .inl (by simp at hx; simp [hx]))
        have own1 := ownsRow_touch HO12.out tt (fun q hq => by
          have e : g1 = q := by simpa [Value.ownBlock] using hq
          subst e
          simp
          omega)
        have own2 := ownsRow_touch HO2.out tt (fun q hq => by
          have e : g2 = q := by simpa [Value.ownBlock] using hq
          subst e
          simp
          omega)
        refine ⟨⟨own1, own2, ?_, by simp [stB, Value.ownBlock, hne12]⟩, HB2.out.trans (tt.below HB2.out.size (fun x hx => by simp at hx; omega))⟩
        rw [hz0.out, fC, List.eq_nil_of_length_eq_zero hz0.out]
        exact World.ownsRow_nil _ _ _ _)
      clear hW3 ct3 cs3 fz3 hpure tb3
      have v0 := World.rowIs.cell HT3.out (i := 0) (by decide)
      have v1 := World.rowIs.cell HT3.out (i := 1) (by decide)
      have v2 := World.rowIs.cell HT3.out (i := 2) (by decide)
      have v3 := World.rowIs.cell HT3.out (i := 3) (by decide)
      have v4 := World.rowIs.cell HT3.out (i := 4) (by decide)
      have v5 := World.rowIs.cell HT3.out (i := 5) (by decide)
      have v6 := World.rowIs.cell HT3.out (i := 6) (by decide)
      have v7 := World.rowIs.cell HT3.out (i := 7) (by decide)
      have v8 := World.rowIs.cell HT3.out (i := 8) (by decide)
      have v9 := World.rowIs.cell HT3.out (i := 9) (by decide)
      have v10 := World.rowIs.cell HT3.out (i := 10) (by decide)
      simp only [stCF, x8, HS00.out] at v0 v1 v2 v3 v4 v5 v6 v7 v8 v9 v10
      simp only [List.getD_cons_zero, List.getD_cons_succ] at v3 v4 v5 v6 v7 v8 v9 v10
      have uz := fun i => World.rowIs.frozen HU3.out i
      have u0 := World.rowIs.cell HU3.out (i := 0) (by decide)
      have u1 := World.rowIs.cell HU3.out (i := 1) (by decide)
      have u2 := World.rowIs.cell HU3.out (i := 2) (by decide)
      have u3 := World.rowIs.cell HU3.out (i := 3) (by decide)
      have u4 := World.rowIs.cell HU3.out (i := 4) (by decide)
      have u5 := World.rowIs.cell HU3.out (i := 5) (by decide)
      have u6 := World.rowIs.cell HU3.out (i := 6) (by decide)
      have u7 := World.rowIs.cell HU3.out (i := 7) (by decide)
      have u8 := World.rowIs.cell HU3.out (i := 8) (by decide)
      have u9 := World.rowIs.cell HU3.out (i := 9) (by decide)
      have u10 := World.rowIs.cell HU3.out (i := 10) (by decide)
      simp only [stCF, x8] at u0 u1 u2 u3 u4 u5 u6 u7 u8 u9 u10
      go_wp2_with fail
      refine bodyPost_ret_by (v := .agg #[.slice (some ⟨g1, 0, none⟩) s.kinds.length c1, .slice (some ⟨g2, 0, none⟩) s.rooms.length c2, (.slice none 0 0), .int .u64 y0, .int .u64 y1, .int .u64 y2, .int .u64 y3, .int .u64 y4, .int .u64 y5, .int .u64 y6, .int .u64 y7]) (res_state Tryz.results61 rfl (state_stored HU3.out) rfl) rfl ⟨_, _, _, congrArg _ (HPOST.out _ _ _), KEY.out _ (touch_stored (Touch.refl _ _) (by simp))⟩
    | some ad =>
      go_upto_region 5 with fail
      refine wp_name (fun W3 hW3 => ?_)
      have tb3 : Touch [w.heap.size + 1 + 1] W2 W3 := by rw [← hW3]; exact (Touch.refl _ _).setCell (.inl (by simp)) _
      have HT3 := Lib.hid (show W3.rowIs (w.heap.size + 1 + 1) 37 11 (stCF (.slice (some ⟨g1, 0, none⟩) s.kinds.length c1) (.slice (some ⟨g2, 0, none⟩) s.rooms.length c2) (.slice none 0 0) S0) from by rw [← hW3]; exact st_set2 HT2.out _)
      have HU3 := Lib.hid (rowIs_touch HU2.out tb3 (by simp))
      have KEY := Lib.hid (show ∀ W4, Touch [w.heap.size + 1] W3 W4 → StRow W4 w.heap.size (.slice (some ⟨g1, 0, none⟩) s.kinds.length c1) (.slice (some ⟨g2, 0, none⟩) s.rooms.length c2) (.slice none 0 0) s ∧ Below w.heap.size w W4 from fun W4 t4 => by
        have tt : Touch [w.heap.size + 1 + 1, w.heap.size + 1] W2 W4 := (tb3.mono (fun x hx => .inl (by simp at hx; simp [hx]))).trans t4 (fun x hx => .inl (by simp at hx; simp [hx]))
        have own1 := ownsRow_touch HO12.out tt (fun q hq => by
          have e : g1 = q := by simpa [Value.ownBlock] using hq
          subst e
          simp
          omega)
        have own2 := ownsRow_touch HO2.out tt (fun q hq => by
          have e : g2 = q := by simpa [Value.ownBlock] using hq
          subst e
          simp
          omega)
        refine ⟨⟨own1, own2, ?_, by simp [stB, Value.ownBlock, hne12]⟩, HB2.out.trans (tt.below HB2.out.size (fun x hx => by simp at hx; omega))⟩
        rw [hz0.out, fC, List.eq_nil_of_length_eq_zero hz0.out]
        exact World.ownsRow_nil _ _ _ _)
      clear hW3 ct3 cs3 fz3 hpure tb3
      have v0 := World.rowIs.cell HT3.out (i := 0) (by decide)
      have v1 := World.rowIs.cell HT3.out (i := 1) (by decide)
      have v2 := World.rowIs.cell HT3.out (i := 2) (by decide)
      have v3 := World.rowIs.cell HT3.out (i := 3) (by decide)
      have v4 := World.rowIs.cell HT3.out (i := 4) (by decide)
      have v5 := World.rowIs.cell HT3.out (i := 5) (by decide)
      have v6 := World.rowIs.cell HT3.out (i := 6) (by decide)
      have v7 := World.rowIs.cell HT3.out (i := 7) (by decide)
      have v8 := World.rowIs.cell HT3.out (i := 8) (by decide)
      have v9 := World.rowIs.cell HT3.out (i := 9) (by decide)
      have v10 := World.rowIs.cell HT3.out (i := 10) (by decide)
      simp only [stCF, x8, HS00.out] at v0 v1 v2 v3 v4 v5 v6 v7 v8 v9 v10
      simp only [List.getD_cons_zero, List.getD_cons_succ] at v3 v4 v5 v6 v7 v8 v9 v10
      have uz := fun i => World.rowIs.frozen HU3.out i
      have u0 := World.rowIs.cell HU3.out (i := 0) (by decide)
      have u1 := World.rowIs.cell HU3.out (i := 1) (by decide)
      have u2 := World.rowIs.cell HU3.out (i := 2) (by decide)
      have u3 := World.rowIs.cell HU3.out (i := 3) (by decide)
      have u4 := World.rowIs.cell HU3.out (i := 4) (by decide)
      have u5 := World.rowIs.cell HU3.out (i := 5) (by decide)
      have u6 := World.rowIs.cell HU3.out (i := 6) (by decide)
      have u7 := World.rowIs.cell HU3.out (i := 7) (by decide)
      have u8 := World.rowIs.cell HU3.out (i := 8) (by decide)
      have u9 := World.rowIs.cell HU3.out (i := 9) (by decide)
      have u10 := World.rowIs.cell HU3.out (i := 10) (by decide)
      simp only [stCF, x8] at u0 u1 u2 u3 u4 u5 u6 u7 u8 u9 u10
      go_wp2_with fail
      refine bodyPost_ret_by (v := .agg #[.slice (some ⟨g1, 0, none⟩) s.kinds.length c1, .slice (some ⟨g2, 0, none⟩) s.rooms.length c2, (.slice none 0 0), .int .u64 y0, .int .u64 y1, .int .u64 y2, .int .u64 y3, .int .u64 y4, .int .u64 y5, .int .u64 y6, .int .u64 y7]) (res_state Tryz.results61 rfl (state_stored HU3.out) rfl) rfl ⟨_, _, _, congrArg _ (HPOST.out _ _ _), KEY.out _ (touch_stored (Touch.refl _ _) (by simp))⟩
  · obtain ⟨gf, cff, hv⟩ := ownsRow_form H.out.fo hz
    obtain ⟨rfl, rfl⟩ : af = some ⟨gf, 0, none⟩ ∧ cff = cf := by
      simp only [Value.slice.injEq] at hv
      exact ⟨hv.1, hv.2.2.symm⟩
    have hfv := HFV.out
    subst hfv
    have ct3 := World.rowIs.cell HT2.out (i := 2) (by decide)
    have cs3 := World.rowIs.cell HS2.out (i := 2) (by decide)
    simp only [stCF] at ct3 cs3
    go_upto_region 5 with (at_builtin; refine wpList_append_near _ rfl (.tmp 20) (.tmp 22) 32 rfl w.heap.size 3 i0 (.int .i64 0) 1 8 Tryz.underlying32 ih ih0 ih1 ih2 rfl (by decide) (.slice none 0 0) 0 [] rfl (World.ownsRow_nil _ _ _ _) ⟨gf, 0, none⟩ s.free.length cff (fC s) rfl hz (by simp [fC]) ((HR2.out.fo).cells rfl) (by intro u hu; simp [fC] at hu; obtain ⟨x, -, rfl⟩ := hu; rfl) (by unfold maxLen; omega) (by omega) HB2.out.size ?_; intro g3 c3 w3 hown hgr hnear; have fz3 := World.rowIs.frozen (rowIs_touch HT2.out (F := []) (Touch.of_grown hgr) (by simp)) 2; have cz3 := World.rowIs.cell (rowIs_touch HT2.out (F := []) (Touch.of_grown hgr) (by simp)) (i := 2) (by decide); simp only [stCF] at cz3; have HOWN3 := Lib.hid hown; have HGR3 := Lib.hid hgr; have HNEAR3 := Lib.hid hnear; clear hown hgr hnear)
    refine wp_name (fun W3 hW3 => ?_)
    have T3 : Touch [] W2 w3 := Touch.of_grown HGR3.out
    have tb3 : Touch [w.heap.size + 1 + 1] w3 W3 := by rw [← hW3]; exact (Touch.refl _ _).setCell (.inl (by simp)) _
    have HB3 := Lib.hid (show Below w.heap.size w W3 from (HB2.out.trans (T3.below HB2.out.size (fun x hx => by simp at hx))).trans (tb3.below (Nat.le_trans HB2.out.size T3.size) (fun x hx => by simp at hx; omega)))
    have HT3 := Lib.hid (show W3.rowIs (w.heap.size + 1 + 1) 37 11 (stCF (.slice (some ⟨g1, 0, none⟩) s.kinds.length c1) (.slice (some ⟨g2, 0, none⟩) s.rooms.length c2) (.slice (some ⟨g3, 0, none⟩) s.free.length c3) S0) from by rw [← hW3]; first | exact st_set2 (rowIs_touch HT2.out T3 (by simp)) _ | (have hx := st_set2 (rowIs_touch HT2.out T3 (by simp)) (.slice (some ⟨g3, 0, none⟩) s.free.length c3); simpa using hx))
    have HU3 := Lib.hid (rowIs_touch (rowIs_touch HU2.out T3 (by simp)) tb3 (by simp))
    have hg3 : W2.heap.size ≤ g3 ∧ g3 < w3.heap.size := ⟨by rcases HNEAR3.out with h | h; cases h; exact h, (HOWN3.out.lt g3 rfl).2⟩
    have hge3 : w.heap.size + 3 ≤ g3 := by have := hg3.1; omega
    have HO3 := Lib.hid (show W3.ownsRow w.heap.size 3 1 (.slice (some ⟨g3, 0, none⟩) s.free.length c3) s.free.length (fC s) from by
      have ho := ownsRow_touch HOWN3.out tb3 (fun q hq => by
        have e : g3 = q := by simpa [Value.ownBlock] using hq
        subst e
        simp
        omega)
      simpa using ho)
    have hne13 : g1 ≠ g3 := by have := hg3.1; omega
    have hne23 : g2 ≠ g3 := by have := hg3.1; omega
    have KEY := Lib.hid (show ∀ W4, Touch [w.heap.size + 1] W3 W4 → StRow W4 w.heap.size (.slice (some ⟨g1, 0, none⟩) s.kinds.length c1) (.slice (some ⟨g2, 0, none⟩) s.rooms.length c2) (.slice (some ⟨g3, 0, none⟩) s.free.length c3) s ∧ Below w.heap.size w W4 from fun W4 t4 => by
      have tt : Touch [w.heap.size + 1 + 1, w.heap.size + 1] w3 W4 := (tb3.mono (fun x hx => .inl (by simp at hx; simp [hx]))).trans t4 (fun x hx => .inl (by simp at hx; simp [hx]))
      have own1 := ownsRow_touch (ownsRow_touch HO12.out T3 (by simp)) tt (fun q hq => by
        have e : g1 = q := by simpa [Value.ownBlock] using hq
        subst e
        simp
        omega)
      have own2 := ownsRow_touch (ownsRow_touch HO2.out T3 (by simp)) tt (fun q hq => by
        have e : g2 = q := by simpa [Value.ownBlock] using hq
        subst e
        simp
        omega)
      have own3 := ownsRow_touch HO3.out t4 (fun q hq => by
        have e : g3 = q := by simpa [Value.ownBlock] using hq
        subst e
        simp
        omega)
      exact ⟨⟨own1, own2, own3, by simp [stB, Value.ownBlock, hne12, hne13, hne23]⟩, HB3.out.trans (t4.below HB3.out.size (fun x hx => by simp at hx; omega))⟩)
    clear ct3 cs3 fz3 cz3 hW3 tb3 T3
    have v0 := World.rowIs.cell HT3.out (i := 0) (by decide)
    have v1 := World.rowIs.cell HT3.out (i := 1) (by decide)
    have v2 := World.rowIs.cell HT3.out (i := 2) (by decide)
    have v3 := World.rowIs.cell HT3.out (i := 3) (by decide)
    have v4 := World.rowIs.cell HT3.out (i := 4) (by decide)
    have v5 := World.rowIs.cell HT3.out (i := 5) (by decide)
    have v6 := World.rowIs.cell HT3.out (i := 6) (by decide)
    have v7 := World.rowIs.cell HT3.out (i := 7) (by decide)
    have v8 := World.rowIs.cell HT3.out (i := 8) (by decide)
    have v9 := World.rowIs.cell HT3.out (i := 9) (by decide)
    have v10 := World.rowIs.cell HT3.out (i := 10) (by decide)
    simp only [stCF, x8, HS00.out] at v0 v1 v2 v3 v4 v5 v6 v7 v8 v9 v10
    simp only [List.getD_cons_zero, List.getD_cons_succ] at v3 v4 v5 v6 v7 v8 v9 v10
    have uz := fun i => World.rowIs.frozen HU3.out i
    have u0 := World.rowIs.cell HU3.out (i := 0) (by decide)
    have u1 := World.rowIs.cell HU3.out (i := 1) (by decide)
    have u2 := World.rowIs.cell HU3.out (i := 2) (by decide)
    have u3 := World.rowIs.cell HU3.out (i := 3) (by decide)
    have u4 := World.rowIs.cell HU3.out (i := 4) (by decide)
    have u5 := World.rowIs.cell HU3.out (i := 5) (by decide)
    have u6 := World.rowIs.cell HU3.out (i := 6) (by decide)
    have u7 := World.rowIs.cell HU3.out (i := 7) (by decide)
    have u8 := World.rowIs.cell HU3.out (i := 8) (by decide)
    have u9 := World.rowIs.cell HU3.out (i := 9) (by decide)
    have u10 := World.rowIs.cell HU3.out (i := 10) (by decide)
    simp only [stCF, x8] at u0 u1 u2 u3 u4 u5 u6 u7 u8 u9 u10
    go_wp2_with fail
    refine bodyPost_ret_by (v := .agg #[.slice (some ⟨g1, 0, none⟩) s.kinds.length c1, .slice (some ⟨g2, 0, none⟩) s.rooms.length c2, (.slice (some ⟨g3, 0, none⟩) s.free.length c3), .int .u64 y0, .int .u64 y1, .int .u64 y2, .int .u64 y3, .int .u64 y4, .int .u64 y5, .int .u64 y6, .int .u64 y7]) (res_state Tryz.results61 rfl (state_stored HU3.out) rfl) rfl ⟨_, _, _, congrArg _ (HPOST.out _ _ _), KEY.out _ (touch_stored (Touch.refl _ _) (by simp))⟩
end
end Go.Proofs.YtpaholkmlfaflaaGreatDoor

namespace Go.Proofs.YtpaholkmlfaflaaGreatDoor
open Go.RowKit
set_option linter.unusedVariables false
theorem setRow_block {w : World} {g : Nat} {old cs : Array Value} {t : TypeId} (h : w.heap[g]? = some (.cells old t (0, 0))) : (w.setRow g cs).heap[g]? = some (.cells cs t (0, 0)) := by
  simp [World.setRow, Array.getElem?_modify, h]
theorem setRow_touch (w : World) (g : Nat) (cs : Array Value) : Touch [g] w (w.setRow g cs) :=
  ⟨rfl, rfl, rfl, by simp [World.setRow], fun b hb hF => by
    have : g ≠ b := fun e => hF (by simp [e])
    simp [World.setRow, Array.getElem?_modify, this]⟩
/-- What stands in the block then. -/
def partF (G : Nat → Value) (o : Nat) (cells : Array Value) : Nat → Value := fun i => if i < o then G i else if i < o + cells.size then cells.getD (i - o) (.int .i64 0) else G i
theorem part_row {w : World} {g o n : Nat} {t : TypeId} {G : Nat → Value} {cells old : Array Value} (hg : w.heap[g]? = some (.cells old t (0, 0))) (hs : old.size = n) (hc : ∀ i, i < n → old[i]? = some (G i)) (hl : o + cells.size ≤ n) :
    (w.setRow g (old.toList.take o ++ cells.toList ++ old.toList.drop (o + cells.size)).toArray).rowIs g t n (partF G o cells) := by
  refine ⟨_, setRow_block hg, ?_, fun i hi => ?_⟩
  · simp
    omega
  · have ho : (old.toList.take o).length = o := by simp; omega
    rw [List.getElem?_toArray, List.append_assoc]
    unfold partF
    by_cases h1 : i < o
    · rw [List.getElem?_append_left (by omega), if_pos h1, List.getElem?_take_of_lt h1, Array.getElem?_toList]
      exact hc i hi
    · rw [List.getElem?_append_right (by omega), ho, if_neg h1]
      by_cases h2 : i < o + cells.size
      · rw [List.getElem?_append_left (by simp; omega), if_pos h2, Array.getElem?_toList, Array.getD_eq_getD_getElem?, Array.getElem?_eq_getElem (by omega)]
        rfl
      · rw [List.getElem?_append_right (by simp; omega), if_neg h2, List.getElem?_drop, Array.length_toList, show o + cells.size + (i - o - cells.size) = i by omega, Array.getElem?_toList]
        exact hc i hi
theorem wpList_store_at {P : Program} {ops : Array Oper} {rest : List Oper} {o : Oper} {a : Act} {w : World} {Q : Exit → Act → World → Prop} (hgd : o.guard = none) (ty : TypeId) (x y : Operand) (ho : o.op = .store ty x y)
    (g off n : Nat) (cells : Array Value) (hx : a.eval x = .pointer (some ⟨g, off, none⟩)) (hy : a.eval y = .agg cells)
    (t : TypeId) (G : Nat → Value) (hr : w.rowIs g t n G) (hi : (P.info? ty).map (·.size) = some cells.size) (hl : off + cells.size ≤ n) (h1 : cells.all (·.oneCell') = true)
    (h : ∀ w', w'.rowIs g t n (partF G off cells) → Touch [g] w w' → wpList P ops Q rest (a.put o.dst undef) w') : wpList P ops Q (o :: rest) a w := by
  obtain ⟨old, hg, hs, hc⟩ := hr
  have hrun := run_storeCells_at (P := P) g off t cells.toList 0 old w hg (by simp; omega) (fun v hv => (Array.all_eq_true_iff_forall_mem.1 h1) v (by simpa using hv))
  have hw : wpList P ops Q rest (a.put o.dst undef) (w.setRow g (old.toList.take off ++ cells.toList ++ old.toList.drop (off + cells.size)).toArray) := h _ (part_row hg hs hc hl) (setRow_touch _ _ _)
  refine wpList_plain hgd fun _ hK => ?_
  have hv : (storeVar ty ⟨g, off, none⟩ (.agg cells)).run P w = .ok () (w.setRow g (old.toList.take off ++ cells.toList ++ old.toList.drop (off + cells.size)).toArray) := by
    cases hq : P.info? ty with
    | none => simp [hq] at hi
    | some i =>
      have hs : cells.size = i.size := by simp [hq] at hi; omega
      simp only [Nat.add_zero, Array.length_toList] at hrun
      simp [storeVar, sizeOf, typeInfo, hq, Value.cells, hs]
      rw [← hs]
      simpa using hrun
  unfold Oper.wp execOp
  simp only [ho, hx, hy, Instr.storeAt, Instr.sureAddr, Sem.run_bind, Sem.run_pure, Result.andThen_ok, hv]
  exact hK _ _ hw
end Go.Proofs.YtpaholkmlfaflaaGreatDoor

