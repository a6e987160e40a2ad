/- Lemmas on the way to the statement: PagerNilWalk, LaidStart, PagerOpensWalk. -/
import Derived.Test.YtpaholkmlfaflaaGreatDoorJ10
import Derived.Test.YtpaholkmlfaflaaGreatDoorRows
import Derived.Deep.DeepLaidRun
import Derived.Lib.LaidU8
import Derived.KernelRfl
import Derived.ProofKit
namespace Go.Proofs.YtpaholkmlfaflaaGreatDoor
open Go.RowKit Go.Maps Go.Joins
set_option linter.unusedVariables false
set_option maxRecDepth 1000000 in
set_option maxHeartbeats 8000000 in
theorem pagerNil_walk (no kind i : Int) (room : ByteArray) (w : World) (_ : -9223372036854775808 ≤ no) (_ : no ≤ 9223372036854775807) (_ : -9223372036854775808 ≤ kind) (_ : kind ≤ 9223372036854775807) (_ : -9223372036854775808 ≤ i) (_ : i ≤ 9223372036854775807) (hs0 : room.size ≤ 140737488351232) :
    Calls Tryz.prog 6 #[.int .i64 no, .int .i64 kind, .int .i64 i, .string room] w fun e w' => e = .returned (.bool true) ∧ Below w.heap.size w w' := by
  have HAW := Lib.hid (fun W => awake11_any W)
  by_cases hbig : 1000 < room.size
  · go_enter Tryz.func6, Tryz.ntmps6
    go_wp2_with fail
    refine (HAW.out _).mono ?_
    rintro e w1 ⟨rfl, hb1⟩
    go_wp2_with fail
    go_ret
    exact ⟨rfl, hb1⟩
  have hm : mostI 100 ((20 : Nat) : Int) = 9 := by decide
  have hup := UpM.new 100
  have hk0 : DOk (newM (newSu 100)) 0 := DOk.new (newSu_size 100) (by simp [newSu]) (by simp [newSu])
  have hfp := formatP_yes (log := 20) hup (by rw [hm]; omega)
  obtain ⟨f1, f2, f3⟩ := format_rel (log := 20) hup hk0 (by omega) 8 (by rw [hm]; omega)
  have hk1 := formatX_ok (log := 20) hup hk0 (by rw [hm]; omega)
  rw [hm] at f2 f3
  obtain ⟨X, hX⟩ : ∃ X, X = formatX (newM (newSu 100)) 20 := ⟨_, rfl⟩
  rw [← hX] at f1 f2 f3 hk1 hfp
  obtain ⟨M0, hM0⟩ : ∃ M0, M0 = newP X.2 20 9 8 := ⟨_, rfl⟩
  have hh0 : hotL M0 = [] := by
    refine List.eq_nil_iff_forall_not_mem.2 (fun x hx => ?_)
    have := ((hotL_mem x).1 hx).2.2
    rw [hM0] at this
    cases this
  rw [← hM0] at f2 f3
  obtain ⟨Y, hck, hYd, hYw⟩ := ck_burn f3.up (f3.log.elim fun _ h => h.elim fun _ h => h.dead) (by rw [f3.cntDR]; exact cnt_none _) hh0
  obtain ⟨M1, hM1⟩ : ∃ M1 : PM, M1 = { M0 with m := Y, dead := true } := ⟨_, rfl⟩
  rw [← hM1] at hck
  have hd1 : M1.m.down = true := by rw [hM1]; exact hYd
  have hde : M1.dead = true := by rw [hM1]
  have hwt : M1.m.wait = [] := by rw [hM1]; exact hYw.trans (f3.log.elim fun _ h => h.elim fun _ h => h.wait)
  have HWT := Lib.hid hwt
  have hrd : rdP M1 0 = (0, ⟨#[]⟩, 11) := rdP_down hd1 0
  have hsn : Snd M1 := fun h => by rw [hrd] at h; cases h
  have hread : readP M1 0 = (0, ⟨#[]⟩, 11) := by unfold readP; rw [if_neg (by decide), hrd, if_pos (by simp)]
  have hpag : pagesP M1 = 0 := by unfold pagesP; rw [hrd, if_neg (by simp)]
  have hcom : commitP M1 = (17, M1) := by unfold commitP; rw [if_pos hde]
  have hck2 : ckP M1 = (17, M1) := by unfold ckP; rw [if_pos (.inl hde)]
  have hop : openP M1.m 8 = (11, none) := by unfold openP; rw [hd1]; rfl
  have hfo : formatP M1.m (20 : Nat) = (11, M1.m) := by
    have hlen : M1.m.sure.length = 100 := by
      have e1 : (ckP { M0 with m := fuM M0.m 0 }).2.m = M1.m := by rw [hck]
      have e2 : (ckP { M0 with m := fuM M0.m 0 }) = layP { M0 with m := fuM M0.m 0 } := by
        unfold ckP
        have hz : cntD M0 = 0 := by rw [f3.cntDR]; exact cnt_none _
        rw [if_neg (by show ¬ (M0.dead = true ∨ 0 < cntD M0); rw [f3.log.elim fun _ h => h.elim fun _ h => h.dead, hz]; simp)]
      rw [← e1, e2, (layP_m _).1, layX_len]
      exact f3.up.len
    unfold formatP
    rw [hlen, hm, if_neg (by omega), formatX_down hd1]
  have HK := Lib.hid (And.intro hk0 hk1)
  have HFP := Lib.hid (And.intro hfp (And.intro f1 f2))
  have HCK := Lib.hid hck
  have HM1 := Lib.hid (And.intro hsn (And.intro hread (And.intro hpag (And.intro hcom (And.intro hck2 (And.intro hop hfo))))))
  have HND := Lib.hid (fun W => new_any 100 W (by omega) (by omega))
  clear hm hup hk0 hfp f1 f2 f3 hk1 hX hM0 hh0 hck hYd hYw hwt hM1 hd1 hde hrd hsn hread hpag hcom hck2 hop hfo
  go_enter Tryz.func6, Tryz.ntmps6
  go_wp2_with fail
  refine (Read_nil _ _).mono ?_
  rintro e w1 ⟨rfl, rfl⟩
  go_wp2_with fail
  refine (Alloc_nil _ _).mono ?_
  rintro e w1 ⟨rfl, rfl⟩
  go_wp2_with fail
  refine (Root_nil _ _).mono ?_
  rintro e w1 ⟨rfl, rfl⟩
  go_wp2_with fail
  refine (Abort_nil _).mono ?_
  rintro e w1 ⟨rfl, rfl⟩
  go_wp2_with fail
  refine (Write_nil _ _ _ _).mono ?_
  rintro e w1 ⟨rfl, rfl⟩
  go_wp2_with fail
  refine (Free_nil _ _).mono ?_
  rintro e w1 ⟨rfl, rfl⟩
  go_wp2_with fail
  refine (SetRoot_nil _ _ _).mono ?_
  rintro e w1 ⟨rfl, rfl⟩
  go_wp2_with fail
  refine (Commit_nil _).mono ?_
  rintro e w1 ⟨rfl, rfl⟩
  go_wp2_with fail
  refine (Checkpoint_nil _).mono ?_
  rintro e w1 ⟨rfl, rfl⟩
  go_wp2_with fail
  refine (Pages_nil _).mono ?_
  rintro e w1 ⟨rfl, rfl⟩
  go_wp2_with fail
  refine (Most_nil _).mono ?_
  rintro e w1 ⟨rfl, rfl⟩
  go_wp2_with fail
  refine (Dirty_nil _).mono ?_
  rintro e w1 ⟨rfl, rfl⟩
  go_wp2_with fail
  refine (HND.out _).mono ?_
  rintro e w1 ⟨d, rfl, F, hd, hb1, hF⟩
  have HFM := Lib.hid (Format_any hd HK.out.1 (by omega) (20 : Nat) (by omega) (by omega))
  rw [HFP.out.1] at HFM
  have HB1 := Lib.hid hb1
  have HFF := Lib.hid hF
  clear hd hb1 hF
  go_wp2_with fail
  refine HFM.out.mono ?_
  rintro e w2 ⟨rfl, F2, hd2, t2, g2⟩
  have hb2 : Below w.heap.size w w2 := HB1.out.trans (t2.below HB1.out.size HFF.out)
  have hF2 : ∀ x ∈ F2, w.heap.size ≤ x := fun x hx => (g2 x hx).elim (HFF.out x) (fun h => Nat.le_trans HB1.out.size h)
  have HOP := Lib.hid (Open_any hd2 HK.out.2 8 (by omega) (by omega))
  rw [HFP.out.2.2] at HOP
  have HB2 := Lib.hid hb2
  have HFF2 := Lib.hid hF2
  clear hd2 t2 g2 hb2 hF2 HFM HND
  go_wp2_with fail
  refine HOP.out.mono ?_
  rintro e w3 ⟨hb3, v, rfl, hn⟩
  obtain ⟨b, lb, pb, hb, FP, rfl, hpl⟩ := play_new hn HFF2.out HB2.out hb3
  have HS := Lib.hid hpl
  have HFU := Lib.hid (is_fuse hpl.pin.disk 0 (by omega) (by omega))
  clear hb3 hn hpl HOP
  go_wp2_with fail
  refine HFU.out.mono ?_
  rintro e w4 ⟨rfl, hgo⟩
  obtain ⟨FD4, hin, ht, hf4⟩ := HS.out.pin.fused (by omega) hgo
  have HB4 := Lib.hid (HS.out.below.trans (ht.below HS.out.below.size HS.out.fd))
  have HFD4 := Lib.hid (show ∀ x ∈ FD4, w.heap.size ≤ x from fun x hx => (hf4 x hx).elim (HS.out.fd x) (fun h => Nat.le_trans HS.out.below.size h))
  have HC4 := Lib.hid (ck_any hin (by omega))
  rw [HCK.out] at HC4
  clear hgo hin ht hf4 HFU
  go_wp2_with fail
  refine HC4.out.mono ?_
  rintro e w5 ⟨rfl, FD5, hin5', ht5, hf5⟩
  have hin5 := hin5'.rek (hin5'.ok.disk.calm HWT.out)
  have HFD5 := Lib.hid (show ∀ x ∈ FD5, w.heap.size ≤ x from fun x hx => (hf5 x hx).elim (HFD4.out x) (fun h => Nat.le_trans HB4.out.size h))
  have HBLH := Lib.hid (And.intro HS.out.fb (And.intro HS.out.fl HS.out.fh))
  have HB5 := Lib.hid (HB4.out.trans (ht5.below HB4.out.size (fun x hx => by
    simp only [List.mem_cons] at hx
    rcases hx with rfl | rfl | rfl | hx
    · exact HS.out.fb
    · exact HS.out.fl
    · exact HS.out.fh
    · exact HFD4.out x hx)))
  have HP5 := Lib.hid hin5
  have HRD := Lib.hid (Read_any hin5 HM1.out.1 (by omega) 0)
  rw [HM1.out.2.1] at HRD
  have HFP5 := Lib.hid HS.out.fp
  clear hin5 hin5' ht5 hf5 HC4 HS
  go_wp2_with fail
  refine HRD.out.mono ?_
  rintro e w6 ⟨rfl, FP6, hin6, ht6, hf6⟩
  have HB6 := Lib.hid (HB5.out.trans (ht6.below HB5.out.size HFP5.out))
  have HP6 := Lib.hid hin6
  have HFP6 := Lib.hid (show ∀ x ∈ FP6, w.heap.size ≤ x from fun x hx => (hf6 x hx).elim (HFP5.out x) (fun h => Nat.le_trans HB5.out.size h))
  have HOP := Lib.hid (Open_any hin6.disk hin6.ok.disk 8 (by omega) (by omega))
  rw [HM1.out.2.2.2.2.2.1] at HOP
  clear hin6 ht6 hf6 HRD
  go_wp2_with fail
  refine HOP.out.mono ?_
  rintro e w7 ⟨hb7, rfl⟩
  have HB7 := Lib.hid (below_step hb7 HB6.out)
  have HP7 := Lib.hid (HP6.out.below hb7)
  clear hb7 HOP
  go_wp2_with fail
  refine (HAW.out _).mono ?_
  rintro e w8 ⟨rfl, hb8⟩
  have HB8 := Lib.hid (below_step hb8 HB7.out)
  have HP8 := Lib.hid (HP7.out.below hb8)
  have HPG := Lib.hid (pages_any HP8.out (by omega))
  rw [HM1.out.2.2.1] at HPG
  clear hb8
  go_wp2_with fail
  refine HPG.out.mono ?_
  rintro e w9 ⟨rfl, FP9, hin9, ht9, hf9⟩
  have HB9 := Lib.hid (HB8.out.trans (ht9.below HB8.out.size HFP6.out))
  have HFP9 := Lib.hid (show ∀ x ∈ FP9, w.heap.size ≤ x from fun x hx => (hf9 x hx).elim (HFP6.out x) (fun h => Nat.le_trans HB8.out.size h))
  have HCO := Lib.hid (Commit_any hin9 (by omega) (by omega))
  rw [HM1.out.2.2.2.1] at HCO
  have HLT := Lib.hid hin9.lt
  clear hin9 ht9 hf9 HPG
  go_wp2_with fail
  refine HCO.out.mono ?_
  rintro e w10 ⟨rfl, FD10, FP10, hin10', ht10, hf10, hg10⟩
  have hin10 := hin10'.rek (hin10'.ok.disk.calm HWT.out)
  have HB10 := Lib.hid (HB9.out.trans (ht10.below HB9.out.size (fun x hx => by
    simp only [List.mem_cons, List.mem_append] at hx
    rcases hx with rfl | rfl | rfl | hx | hx
    · exact HBLH.out.1
    · exact HBLH.out.2.1
    · exact HBLH.out.2.2
    · exact HFD5.out x hx
    · exact HFP9.out x hx)))
  have HFD10 := Lib.hid (show ∀ x ∈ FD10, w.heap.size ≤ x from fun x hx => (hf10 x hx).elim (HFD5.out x) (fun h => Nat.le_trans HB9.out.size h))
  have HC2 := Lib.hid (ck_any hin10 (by omega))
  rw [HM1.out.2.2.2.2.1] at HC2
  clear hin10 hin10' ht10 hf10 hg10 HCO
  go_wp2_with fail
  refine HC2.out.mono ?_
  rintro e w11 ⟨rfl, FD11, hin11', ht11, hf11⟩
  have hin11 := hin11'.rek (hin11'.ok.disk.calm HWT.out)
  have HB11 := Lib.hid (HB10.out.trans (ht11.below HB10.out.size (fun x hx => by
    simp only [List.mem_cons] at hx
    rcases hx with rfl | rfl | rfl | hx
    · exact HBLH.out.1
    · exact HBLH.out.2.1
    · exact HBLH.out.2.2
    · exact HFD10.out x hx)))
  have HFD11 := Lib.hid (show ∀ x ∈ FD11, w.heap.size ≤ x from fun x hx => (hf11 x hx).elim (HFD10.out x) (fun h => Nat.le_trans HB10.out.size h))
  have HFO := Lib.hid (Format_any hin11.disk hin11.ok.disk (by omega) (20 : Nat) (by omega) (by omega))
  rw [HM1.out.2.2.2.2.2.2] at HFO
  clear hin11 hin11' ht11 hf11 HC2
  go_wp2_with fail
  refine HFO.out.mono ?_
  rintro e w12 ⟨rfl, F12, hd12, t12, g12⟩
  have HB12 := Lib.hid (HB11.out.trans (t12.below HB11.out.size HFD11.out))
  clear hd12 t12 g12 HFO
  go_wp2_with fail
  go_ret
  exact ⟨rfl, HB12.out⟩
end Go.Proofs.YtpaholkmlfaflaaGreatDoor

namespace Go.Proofs.YtpaholkmlfaflaaGreatDoor
open Go.ChangeShapes Go.WideShapes Go.ChangeAt Go.RowKit

noncomputable def laidWorld (os : Os) : World :=
  let w0 := World.holding Tryz.prog os ⟨#[], #[], []⟩
  let put (h : Array Obj) (g : Nat) (cs : Array Value) : Array Obj := h.modify g fun
    | .cells _ t frozen => .cells cs t frozen
    | o => o
  let h1 := put w0.heap 1 (Lib.firstTab.map fun z => Value.int .u8 z).toArray
  let h2 := put h1 2 ((List.range 16).flatMap fun i => [Value.int .u8 (Lib.accLo i), Value.int .u8 (Lib.accHi i)]).toArray
  { w0 with heap := h2 }
set_option maxRecDepth 100000 in
theorem laid_met (os : Os) (args : Array Value) : laidMet Tryz.prog [("unicode/utf8.acceptRanges", Rows.laid_unicode_utf8_acceptRanges), ("unicode/utf8.first", Rows.laid_unicode_utf8_first)] ((laidWorld os).forCall (fun _ _ => 0) ⟨#[], args, []⟩).memory :=
  laidMet_of_run3 8 (by kernel_rfl) (by kernel_rfl) (by kernel_rfl)

end Go.Proofs.YtpaholkmlfaflaaGreatDoor

namespace Go.Proofs.YtpaholkmlfaflaaGreatDoor
open Go.RowKit Go.Maps Go.Joins
set_option linter.unusedVariables false
theorem cutSu_flat (s : ByteArray) : ∀ n, n * 64 ≤ s.size → ((cutSu s n).map (·.data.toList)).flatten = s.data.toList.take (n * 64)
  | 0, _ => by simp [cutSu]
  | n + 1, h => by
    rw [← cutSu_snoc, List.map_append, List.flatten_append, cutSu_flat s n (by omega)]
    simp only [List.map_cons, List.map_nil, List.flatten_cons, List.flatten_nil, List.append_nil]
    rw [extract_cut, data_S]
    unfold cut
    rw [show (n + 1) * 64 - n * 64 = 64 by omega, show (n + 1) * 64 = n * 64 + 64 by omega, List.take_add]
theorem imgM_cut (s : ByteArray) (n : Nat) (hs : s.size = n * 64) : imgM (cutSu s n) = s := by
  unfold imgM
  rw [cutSu_flat s n (by omega), List.take_of_length_le (by rw [data_length]; omega), S_data]
theorem pgE_cases (s : ByteArray) : pgE s = 0 ∨ pgE s = 2 ∨ pgE s = 12 := by
  unfold pgE
  split
  · exact .inr (.inl rfl)
  · split
    · exact .inr (.inr rfl)
    · split
      · exact .inr (.inl rfl)
      · exact .inl rfl
theorem unE_cases (s : ByteArray) (no : Int) : unE s no = 0 ∨ unE s no = 2 ∨ unE s no = 12 ∨ unE s no = 13 := by
  unfold unE
  split
  · split
    · exact .inl rfl
    · exact .inr (.inr (.inr rfl))
  · rcases pgE_cases s with h | h | h
    · exact absurd h (by assumption)
    · exact .inr (.inl h)
    · exact .inr (.inr (.inl h))
theorem sound_up {M : PM} (h : M.m.down = false) : soundP M = 0 ∨ soundP M = 19 := by
  unfold soundP soundR
  rw [rdP_up h]
  simp only
  rw [if_neg (by rcases unE_cases (viewP M 0) 0 with e | e | e | e <;> rw [e] <;> decide)]
  split
  · exact .inr rfl
  · split
    · exact .inr rfl
    · exact .inl rfl
/-- What opening answers while the disk is up. -/
theorem openP_up {m : DM} {room : Nat} (h : m.down = false) : openP m room = (19, none) ∨ ∃ M, openP m room = (0, some M) ∧ soundP M = 0 ∧ M.m = m := by
  unfold openP
  rw [if_neg (by rw [h]; decide)]
  simp only
  split
  · exact .inl rfl
  · unfold openMark
    split
    · exact .inl rfl
    · unfold openHot
      split
      · exact .inl rfl
      · rename_i hot _
        rcases sound_up (M := bootM m (leN (cut (bestT (secM m 0) (secM m (min 1 (m.sure.length - 1)))) 0 8)) (bestN (secM m 0) (secM m (min 1 (m.sure.length - 1)))) (leN (cut (bestT (secM m 0) (secM m (min 1 (m.sure.length - 1)))) 8 4)).toNat (mostI m.sure.length (leN (cut (bestT (secM m 0) (secM m (min 1 (m.sure.length - 1)))) 8 4))) room hot) h with e | e
        · rw [if_pos e]
          exact .inr ⟨_, rfl, e, rfl⟩
        · rw [if_neg (by rw [e]; decide), e]
          exact .inl rfl
section
variable {M : PM}
theorem sound_facts (hs : soundP M = 0) (hu : M.m.down = false) : (rdP M 0).2.2 = 0 ∧ 1 ≤ pagesP M ∧ pagesP M ≤ M.most ∧ pagesP M = usedR (rdP M 0).2.1 := by
  have h0 : (rdP M 0).2.2 = 0 := by
    unfold soundP soundR at hs
    split at hs
    · cases hs
    · split at hs
      · cases hs
      · rename_i h2
        by_cases e : (rdP M 0).2.2 = 0
        · exact e
        · exact absurd (.inl e) h2
  have h1 := soundP_snd hs h0
  have hp : pagesP M = usedR (rdP M 0).2.1 := by unfold pagesP; rw [if_pos h0]
  exact ⟨h0, by omega, by omega, hp⟩
theorem readP_arg (hs : soundP M = 0) (hu : M.m.down = false) (no : Int) : ((readP M no).2.2 = 1) ↔ (no < 0 ∨ pagesP M ≤ no) := by
  obtain ⟨h0, h1, h2, h3⟩ := sound_facts hs hu
  unfold readP
  by_cases a : no < 0
  · rw [if_pos a]; simp [a]
  · rw [if_neg a, if_neg (by rw [h0]; simp), ← h3]
    by_cases b : pagesP M ≤ no
    · rw [if_pos b]; simp [b]
    · rw [if_neg b, rdP_up hu]
      simp only
      constructor
      · intro e
        rcases unE_cases (viewP M no) no with e' | e' | e' | e' <;> rw [e'] at e <;> exact absurd e (by decide)
      · rintro (e | e)
        · exact absurd e a
        · exact absurd e b
theorem rootP_ok (hs : soundP M = 0) (hu : M.m.down = false) (i : Int) : ((rootP M i).2 = 0) ↔ (0 ≤ i ∧ i < 8) := by
  obtain ⟨h0, h1, h2, h3⟩ := sound_facts hs hu
  unfold rootP
  by_cases a : i < 0 ∨ 8 ≤ i
  · rw [if_pos a]; simp; omega
  · rw [if_neg a, if_neg (by rw [h0]; simp)]
    simp; omega
end
theorem bl_eq {a b : Bool} (h : a = true ↔ b = true) : a = b := by cases a <;> cases b <;> simp at h ⊢
set_option maxRecDepth 1000000 in
set_option maxHeartbeats 8000000 in
theorem pagerOpens_walk (s : ByteArray) (room no : Int) (w : World) (hs0 : s.size ≤ 140737488351232) (r1 : -9223372036854775808 ≤ room) (r2 : room ≤ 9223372036854775807) (n1 : -9223372036854775808 ≤ no) (n2 : no ≤ 9223372036854775807) :
    Calls Tryz.prog 4 #[.string s, .int .i64 room, .int .i64 no] w fun e w' => e = .returned (.bool true) ∧ Below w.heap.size w w' := by
  have HAW := Lib.hid (fun W => awake11_any W)
  by_cases hbig : 40000 < s.size
  · go_enter Tryz.func4, Tryz.ntmps4
    go_wp2_with fail
    refine (HAW.out _).mono ?_
    rintro e w1 ⟨rfl, hb1⟩
    have HB1 := Lib.hid hb1
    clear hb1
    go_wp2_with fail
    refine (HAW.out _).mono ?_
    rintro e w2 ⟨rfl, hb2⟩
    go_wp2_with fail
    go_ret
    exact ⟨rfl, below_step hb2 HB1.out⟩
  by_cases hbad : s.size = 0 ∨ s.size % 64 ≠ 0
  · have HLB := Lib.hid (fun W => load_bad s W hs0 (hbad.elim .inl (fun h => .inr (.inr h))))
    clear hbad
    go_enter Tryz.func4, Tryz.ntmps4
    go_wp2_with fail
    refine (HAW.out _).mono ?_
    rintro e w1 ⟨rfl, hb1⟩
    have HB1 := Lib.hid hb1
    clear hb1
    go_wp2_with fail
    refine (HLB.out _).mono ?_
    rintro e w2 ⟨rfl, rfl⟩
    go_wp2_with fail
    refine (Open_nil _ _).mono ?_
    rintro e w2 ⟨rfl, rfl⟩
    go_wp2_with fail
    go_ret
    exact ⟨rfl, HB1.out⟩
  have d0 : decide ((40000 : Int) < (s.size : Int)) = false := by simp; omega
  obtain ⟨n, hn⟩ : ∃ n, s.size = n * 64 := ⟨s.size / 64, by omega⟩
  have HLA := Lib.hid (fun W => load_any s n W (by omega) (by omega) hn)
  have hup : UpM (newM (cutSu s n)) n := ⟨rfl, rfl, cutSu_length s n⟩
  have hk0 : DOk (newM (cutSu s n)) 0 := DOk.new (cutSu_size s n hn) (by rw [cutSu_length]; omega) (by rw [cutSu_length]; omega)
  have him : imgM (newM (cutSu s n)).sure = s := imgM_cut s n hn
  have hwt : (newM (cutSu s n)).wait = [] := rfl
  by_cases hroom : room < 2 ∨ 65536 < room
  · have HRM := Lib.hid (fun W d => Open_room W d room hroom)
    clear hup hk0 him hwt hn hbad
    by_cases q : room < 2
    · go_enter Tryz.func4, Tryz.ntmps4
      go_wp2_with fail
      refine (HAW.out _).mono ?_
      rintro e w1 ⟨rfl, hb1⟩
      have HB1 := Lib.hid hb1
      clear hb1
      go_wp2_with fail
      refine (HLA.out _).mono ?_
      rintro e w2 ⟨d, rfl, F, hd, hb2, hF⟩
      have HB2 := Lib.hid (below_step hb2 HB1.out)
      clear hd hb2 hF
      go_wp2_with fail
      refine (HRM.out _ _).mono ?_
      rintro e w3 ⟨rfl, rfl⟩
      go_wp2_with fail
      go_ret
      exact ⟨rfl, HB2.out⟩
    · have q2 : 65536 < room := hroom.resolve_left q
      go_enter Tryz.func4, Tryz.ntmps4
      go_wp2_with fail
      refine (HAW.out _).mono ?_
      rintro e w1 ⟨rfl, hb1⟩
      have HB1 := Lib.hid hb1
      clear hb1
      go_wp2_with fail
      refine (HLA.out _).mono ?_
      rintro e w2 ⟨d, rfl, F, hd, hb2, hF⟩
      have HB2 := Lib.hid (below_step hb2 HB1.out)
      clear hd hb2 hF
      go_wp2_with fail
      refine (HRM.out _ _).mono ?_
      rintro e w3 ⟨rfl, rfl⟩
      go_wp2_with fail
      go_ret
      exact ⟨rfl, HB2.out⟩
  obtain ⟨rm, rfl⟩ : ∃ rm : Nat, room = rm := ⟨room.toNat, by omega⟩
  have q1 : ¬ (rm : Int) < 2 := by omega
  have q2 : ¬ (65536 : Int) < rm := by omega
  have HK := Lib.hid (And.intro hk0 (And.intro him hwt))
  have hop := openP_up (m := newM (cutSu s n)) (room := rm) rfl
  have HUP := Lib.hid hup
  have st := str_eq (rfl : s = s)
  clear hroom hup hk0 him hwt hn hbad
  rcases hop with he | ⟨M, he, hs, hm⟩
  · have HE := Lib.hid he
    clear he
    go_enter Tryz.func4, Tryz.ntmps4
    go_wp2_with fail
    refine (HAW.out _).mono ?_
    rintro e w1 ⟨rfl, hb1⟩
    have HB1 := Lib.hid hb1
    clear hb1
    go_wp2_with fail
    refine (HLA.out _).mono ?_
    rintro e w2 ⟨d, rfl, F, hd, hb2, hF⟩
    have HB2 := Lib.hid (below_step hb2 HB1.out)
    have HF2 := Lib.hid (show ∀ x ∈ F, w.heap.size ≤ x from fun x hx => Nat.le_trans HB1.out.size (hF x hx))
    have HD2 := Lib.hid hd
    have HOP := Lib.hid (Open_any hd HK.out.1 rm (by omega) (by omega))
    rw [HE.out] at HOP
    clear hd hb2 hF
    go_wp2_with fail
    refine HOP.out.mono ?_
    rintro e w3 ⟨hb3, rfl⟩
    have HIM := Lib.hid (is_image (HD2.out.below hb3) HK.out.1)
    rw [HK.out.2.1] at HIM
    have HB3 := Lib.hid (below_step hb3 HB2.out)
    have HD3 := Lib.hid (HD2.out.below hb3)
    clear hb3
    go_wp2_with fail
    refine HIM.out.mono ?_
    rintro e w4 ⟨rfl, hb4⟩
    have HPN := Lib.hid (is_pending (HD3.out.below hb4))
    rw [HK.out.2.2] at HPN
    have HB4 := Lib.hid (below_step hb4 HB3.out)
    clear hb4
    go_wp2_with fail
    refine HPN.out.mono ?_
    rintro e w5 ⟨rfl, rfl⟩
    go_wp2_with fail
    go_ret
    exact ⟨rfl, HB4.out⟩
  · have HE := Lib.hid he
    have hu : M.m.down = false := by rw [hm]; rfl
    obtain ⟨h0, h1, h2, h3⟩ := sound_facts hs hu
    have hra := readP_arg hs hu no
    have hro := rootP_ok hs hu no
    have hsd := soundP_snd hs
    obtain ⟨kd, rr, er, hrd⟩ : ∃ kd rr er, readP M no = (kd, rr, er) := ⟨_, _, _, rfl⟩
    obtain ⟨rv, re, hrt⟩ : ∃ rv re, rootP M no = (rv, re) := ⟨_, _, rfl⟩
    rw [hrd] at hra
    rw [hrt] at hro
    simp only at hra hro
    have HR := Lib.hid (And.intro hrd (And.intro hrt (And.intro hsd hm)))
    obtain ⟨u, hu'⟩ : ∃ u, u = pagesP M := ⟨_, rfl⟩
    obtain ⟨ms, hms⟩ : ∃ ms : Nat, ms = M.most := ⟨_, rfl⟩
    rw [← hu'] at h1 h2 hra
    rw [← hms] at h2
    have HU := Lib.hid (And.intro hu' hms)
    have g0 : (1 : Int) ≤ u := h1
    have g1 : u ≤ (ms : Int) := h2
    clear he hs hm hu h0 h1 h2 h3 hsd hrd hrt hu' hms
    by_cases a : no < 0
    · have er1 : er = 1 := hra.2 (.inl a)
      have re0 : (re == 0) = false := by
        rw [beq_eq_false_iff_ne]
        intro e; have := hro.1 e; omega
      have a2 : ¬ (0 : Int) ≤ no := by omega
      subst er1
      clear hra hro
      go_enter Tryz.func4, Tryz.ntmps4
      go_wp2_with fail
      refine (HAW.out _).mono ?_
      rintro e w1 ⟨rfl, hb1⟩
      have HB1 := Lib.hid hb1
      clear hb1
      go_wp2_with fail
      refine (HLA.out _).mono ?_
      rintro e w2 ⟨d, rfl, F, hd, hb2, hF⟩
      have HB2 := Lib.hid (below_step hb2 HB1.out)
      have HF2 := Lib.hid (show ∀ x ∈ F, w.heap.size ≤ x from fun x hx => Nat.le_trans HB1.out.size (hF x hx))
      have HD2 := Lib.hid hd
      have HOP := Lib.hid (Open_any hd HK.out.1 rm (by omega) (by omega))
      rw [HE.out] at HOP
      clear hd hb2 hF
      go_wp2_with fail
      refine HOP.out.mono ?_
      rintro e w3 ⟨hb3, v, rfl, hn⟩
      obtain ⟨b, lb, pb, hb, FP, rfl, hpl⟩ := play_new hn HF2.out HB2.out hb3
      have HS := Lib.hid hpl
      have hmi := HR.out.2.2.2
      have HIM := Lib.hid (is_image hpl.pin.disk hpl.pin.ok.disk)
      rw [hmi, HK.out.2.1] at HIM
      clear hb3 hn hpl HOP hmi
      go_wp2_with fail
      refine HIM.out.mono ?_
      rintro e w4 ⟨rfl, hb4⟩
      have HS := Lib.hid (HS.out.move hb4)
      have hpn := is_pending HS.out.pin.disk
      rw [HR.out.2.2.2, HK.out.2.2] at hpn
      have HPN := Lib.hid hpn
      clear hb4 hpn
      go_wp2_with fail
      refine HPN.out.mono ?_
      rintro e w5 ⟨rfl, rfl⟩
      have HRD := Lib.hid (Read_any HS.out.pin HR.out.2.2.1 (by omega) no)
      rw [HR.out.1] at HRD
      clear HPN HIM
      go_wp2_with fail
      refine HRD.out.mono ?_
      rintro e w6 ⟨rfl, hst⟩
      obtain ⟨FP, hpl⟩ := HS.out.step hst
      have HS := Lib.hid hpl
      have HRT := Lib.hid (Root_any hpl.pin (by omega) no)
      rw [HR.out.2.1] at HRT
      clear hst hpl HRD
      go_wp2_with fail
      refine HRT.out.mono ?_
      rintro e w7 ⟨rfl, hst⟩
      obtain ⟨FP, hpl⟩ := HS.out.step hst
      have HS := Lib.hid hpl
      have HPG := Lib.hid (pages_any hpl.pin (by omega))
      rw [← HU.out.1] at HPG
      clear hst hpl HRT
      go_wp2_with fail
      refine HPG.out.mono ?_
      rintro e w8 ⟨rfl, hst⟩
      obtain ⟨FP, hpl⟩ := HS.out.step hst
      have HS := Lib.hid hpl
      have HPG := Lib.hid (pages_any hpl.pin (by omega))
      rw [← HU.out.1] at HPG
      clear hst hpl
      go_wp2_with fail
      refine HPG.out.mono ?_
      rintro e w9 ⟨rfl, hst⟩
      obtain ⟨FP, hpl⟩ := HS.out.step hst
      have HS := Lib.hid hpl
      have HMO := Lib.hid (most_any hpl.pin)
      rw [← HU.out.2] at HMO
      clear hst hpl HPG
      go_wp2_with fail
      refine HMO.out.mono ?_
      rintro e w10 ⟨rfl, rfl⟩
      go_wp2_with fail
      go_ret
      exact ⟨rfl, HS.out.below⟩
    · have a2 : (0 : Int) ≤ no := by omega
      have d1 : decide (no < 0) = false := by simp; omega
      have hro : re = 0 ↔ no < 8 := ⟨fun e => (hro.1 e).2, fun e => hro.2 ⟨a2, e⟩⟩
      by_cases c : no < 8
      · have re0 : (re == 0) = true := by rw [hro.2 c]; rfl
        have d2 : decide (no < 8) = true := by simp; omega
        have D2 := Lib.hid (And.intro re0 d2)
        clear hro c d2 re0
        by_cases g : u ≤ no
        · have er1 : (er == 1) = true := by rw [hra.2 (.inr g)]; rfl
          have d3 : decide (u ≤ no) = true := by simp; omega
          have ER := Lib.hid er1
          have D3 := Lib.hid d3
          clear hra er1 d3 g
          go_enter Tryz.func4, Tryz.ntmps4
          go_wp2_with fail
          refine (HAW.out _).mono ?_
          rintro e w1 ⟨rfl, hb1⟩
          have HB1 := Lib.hid hb1
          clear hb1
          go_wp2_with fail
          refine (HLA.out _).mono ?_
          rintro e w2 ⟨d, rfl, F, hd, hb2, hF⟩
          have HB2 := Lib.hid (below_step hb2 HB1.out)
          have HF2 := Lib.hid (show ∀ x ∈ F, w.heap.size ≤ x from fun x hx => Nat.le_trans HB1.out.size (hF x hx))
          have HD2 := Lib.hid hd
          have HOP := Lib.hid (Open_any hd HK.out.1 rm (by omega) (by omega))
          rw [HE.out] at HOP
          clear hd hb2 hF
          go_wp2_with fail
          refine HOP.out.mono ?_
          rintro e w3 ⟨hb3, v, rfl, hn⟩
          obtain ⟨b, lb, pb, hb, FP, rfl, hpl⟩ := play_new hn HF2.out HB2.out hb3
          have HS := Lib.hid hpl
          have hmi := HR.out.2.2.2
          have HIM := Lib.hid (is_image hpl.pin.disk hpl.pin.ok.disk)
          rw [hmi, HK.out.2.1] at HIM
          clear hb3 hn hpl HOP hmi
          go_wp2_with fail
          refine HIM.out.mono ?_
          rintro e w4 ⟨rfl, hb4⟩
          have HS := Lib.hid (HS.out.move hb4)
          have hpn := is_pending HS.out.pin.disk
          rw [HR.out.2.2.2, HK.out.2.2] at hpn
          have HPN := Lib.hid hpn
          clear hb4 hpn
          go_wp2_with fail
          refine HPN.out.mono ?_
          rintro e w5 ⟨rfl, rfl⟩
          have HRD := Lib.hid (Read_any HS.out.pin HR.out.2.2.1 (by omega) no)
          rw [HR.out.1] at HRD
          clear HPN HIM
          go_wp2_with fail
          refine HRD.out.mono ?_
          rintro e w6 ⟨rfl, hst⟩
          obtain ⟨FP, hpl⟩ := HS.out.step hst
          have HS := Lib.hid hpl
          have HRT := Lib.hid (Root_any hpl.pin (by omega) no)
          rw [HR.out.2.1] at HRT
          clear hst hpl HRD
          go_wp2_with fail
          refine HRT.out.mono ?_
          rintro e w7 ⟨rfl, hst⟩
          obtain ⟨FP, hpl⟩ := HS.out.step hst
          have HS := Lib.hid hpl
          have HPG := Lib.hid (pages_any hpl.pin (by omega))
          rw [← HU.out.1] at HPG
          clear hst hpl HRT
          go_wp2_with fail
          refine HPG.out.mono ?_
          rintro e w8 ⟨rfl, hst⟩
          obtain ⟨FP, hpl⟩ := HS.out.step hst
          have HS := Lib.hid hpl
          have HPG := Lib.hid (pages_any hpl.pin (by omega))
          rw [← HU.out.1] at HPG
          clear hst hpl
          go_wp2_with fail
          refine HPG.out.mono ?_
          rintro e w9 ⟨rfl, hst⟩
          obtain ⟨FP, hpl⟩ := HS.out.step hst
          have HS := Lib.hid hpl
          have HMO := Lib.hid (most_any hpl.pin)
          rw [← HU.out.2] at HMO
          clear hst hpl HPG
          go_wp2_with fail
          refine HMO.out.mono ?_
          rintro e w10 ⟨rfl, rfl⟩
          have er1 := ER.out
          have d3 := D3.out
          have re0 := D2.out.1
          have d2 := D2.out.2
          go_wp2_with fail
          have HPG := Lib.hid (pages_any HS.out.pin (by omega))
          rw [← HU.out.1] at HPG
          refine HPG.out.mono ?_
          rintro e w11 ⟨rfl, hst⟩
          obtain ⟨FP, hpl⟩ := HS.out.step hst
          have HS := Lib.hid hpl
          clear hst hpl HPG
          go_wp2_with fail
          go_ret
          exact ⟨rfl, HS.out.below⟩
        · have er1 : (er == 1) = false := by
            rw [beq_eq_false_iff_ne]
            intro e; rcases hra.1 e with h | h <;> omega
          have d3 : decide (u ≤ no) = false := by simp; omega
          have ER := Lib.hid er1
          have D3 := Lib.hid d3
          clear hra er1 d3 g
          go_enter Tryz.func4, Tryz.ntmps4
          go_wp2_with fail
          refine (HAW.out _).mono ?_
          rintro e w1 ⟨rfl, hb1⟩
          have HB1 := Lib.hid hb1
          clear hb1
          go_wp2_with fail
          refine (HLA.out _).mono ?_
          rintro e w2 ⟨d, rfl, F, hd, hb2, hF⟩
          have HB2 := Lib.hid (below_step hb2 HB1.out)
          have HF2 := Lib.hid (show ∀ x ∈ F, w.heap.size ≤ x from fun x hx => Nat.le_trans HB1.out.size (hF x hx))
          have HD2 := Lib.hid hd
          have HOP := Lib.hid (Open_any hd HK.out.1 rm (by omega) (by omega))
          rw [HE.out] at HOP
          clear hd hb2 hF
          go_wp2_with fail
          refine HOP.out.mono ?_
          rintro e w3 ⟨hb3, v, rfl, hn⟩
          obtain ⟨b, lb, pb, hb, FP, rfl, hpl⟩ := play_new hn HF2.out HB2.out hb3
          have HS := Lib.hid hpl
          have hmi := HR.out.2.2.2
          have HIM := Lib.hid (is_image hpl.pin.disk hpl.pin.ok.disk)
          rw [hmi, HK.out.2.1] at HIM
          clear hb3 hn hpl HOP hmi
          go_wp2_with fail
          refine HIM.out.mono ?_
          rintro e w4 ⟨rfl, hb4⟩
          have HS := Lib.hid (HS.out.move hb4)
          have hpn := is_pending HS.out.pin.disk
          rw [HR.out.2.2.2, HK.out.2.2] at hpn
          have HPN := Lib.hid hpn
          clear hb4 hpn
          go_wp2_with fail
          refine HPN.out.mono ?_
          rintro e w5 ⟨rfl, rfl⟩
          have HRD := Lib.hid (Read_any HS.out.pin HR.out.2.2.1 (by omega) no)
          rw [HR.out.1] at HRD
          clear HPN HIM
          go_wp2_with fail
          refine HRD.out.mono ?_
          rintro e w6 ⟨rfl, hst⟩
          obtain ⟨FP, hpl⟩ := HS.out.step hst
          have HS := Lib.hid hpl
          have HRT := Lib.hid (Root_any hpl.pin (by omega) no)
          rw [HR.out.2.1] at HRT
          clear hst hpl HRD
          go_wp2_with fail
          refine HRT.out.mono ?_
          rintro e w7 ⟨rfl, hst⟩
          obtain ⟨FP, hpl⟩ := HS.out.step hst
          have HS := Lib.hid hpl
          have HPG := Lib.hid (pages_any hpl.pin (by omega))
          rw [← HU.out.1] at HPG
          clear hst hpl HRT
          go_wp2_with fail
          refine HPG.out.mono ?_
          rintro e w8 ⟨rfl, hst⟩
          obtain ⟨FP, hpl⟩ := HS.out.step hst
          have HS := Lib.hid hpl
          have HPG := Lib.hid (pages_any hpl.pin (by omega))
          rw [← HU.out.1] at HPG
          clear hst hpl
          go_wp2_with fail
          refine HPG.out.mono ?_
          rintro e w9 ⟨rfl, hst⟩
          obtain ⟨FP, hpl⟩ := HS.out.step hst
          have HS := Lib.hid hpl
          have HMO := Lib.hid (most_any hpl.pin)
          rw [← HU.out.2] at HMO
          clear hst hpl HPG
          go_wp2_with fail
          refine HMO.out.mono ?_
          rintro e w10 ⟨rfl, rfl⟩
          have er1 := ER.out
          have d3 := D3.out
          have re0 := D2.out.1
          have d2 := D2.out.2
          go_wp2_with fail
          have HPG := Lib.hid (pages_any HS.out.pin (by omega))
          rw [← HU.out.1] at HPG
          refine HPG.out.mono ?_
          rintro e w11 ⟨rfl, hst⟩
          obtain ⟨FP, hpl⟩ := HS.out.step hst
          have HS := Lib.hid hpl
          clear hst hpl HPG
          go_wp2_with fail
          go_ret
          exact ⟨rfl, HS.out.below⟩
      · have re0 : (re == 0) = false := by
          rw [beq_eq_false_iff_ne]
          intro e; exact c (hro.1 e)
        have d2 : decide (no < 8) = false := by simp; omega
        have D2 := Lib.hid (And.intro re0 d2)
        clear hro c d2 re0
        by_cases g : u ≤ no
        · have er1 : (er == 1) = true := by rw [hra.2 (.inr g)]; rfl
          have d3 : decide (u ≤ no) = true := by simp; omega
          have ER := Lib.hid er1
          have D3 := Lib.hid d3
          clear hra er1 d3 g
          go_enter Tryz.func4, Tryz.ntmps4
          go_wp2_with fail
          refine (HAW.out _).mono ?_
          rintro e w1 ⟨rfl, hb1⟩
          have HB1 := Lib.hid hb1
          clear hb1
          go_wp2_with fail
          refine (HLA.out _).mono ?_
          rintro e w2 ⟨d, rfl, F, hd, hb2, hF⟩
          have HB2 := Lib.hid (below_step hb2 HB1.out)
          have HF2 := Lib.hid (show ∀ x ∈ F, w.heap.size ≤ x from fun x hx => Nat.le_trans HB1.out.size (hF x hx))
          have HD2 := Lib.hid hd
          have HOP := Lib.hid (Open_any hd HK.out.1 rm (by omega) (by omega))
          rw [HE.out] at HOP
          clear hd hb2 hF
          go_wp2_with fail
          refine HOP.out.mono ?_
          rintro e w3 ⟨hb3, v, rfl, hn⟩
          obtain ⟨b, lb, pb, hb, FP, rfl, hpl⟩ := play_new hn HF2.out HB2.out hb3
          have HS := Lib.hid hpl
          have hmi := HR.out.2.2.2
          have HIM := Lib.hid (is_image hpl.pin.disk hpl.pin.ok.disk)
          rw [hmi, HK.out.2.1] at HIM
          clear hb3 hn hpl HOP hmi
          go_wp2_with fail
          refine HIM.out.mono ?_
          rintro e w4 ⟨rfl, hb4⟩
          have HS := Lib.hid (HS.out.move hb4)
          have hpn := is_pending HS.out.pin.disk
          rw [HR.out.2.2.2, HK.out.2.2] at hpn
          have HPN := Lib.hid hpn
          clear hb4 hpn
          go_wp2_with fail
          refine HPN.out.mono ?_
          rintro e w5 ⟨rfl, rfl⟩
          have HRD := Lib.hid (Read_any HS.out.pin HR.out.2.2.1 (by omega) no)
          rw [HR.out.1] at HRD
          clear HPN HIM
          go_wp2_with fail
          refine HRD.out.mono ?_
          rintro e w6 ⟨rfl, hst⟩
          obtain ⟨FP, hpl⟩ := HS.out.step hst
          have HS := Lib.hid hpl
          have HRT := Lib.hid (Root_any hpl.pin (by omega) no)
          rw [HR.out.2.1] at HRT
          clear hst hpl HRD
          go_wp2_with fail
          refine HRT.out.mono ?_
          rintro e w7 ⟨rfl, hst⟩
          obtain ⟨FP, hpl⟩ := HS.out.step hst
          have HS := Lib.hid hpl
          have HPG := Lib.hid (pages_any hpl.pin (by omega))
          rw [← HU.out.1] at HPG
          clear hst hpl HRT
          go_wp2_with fail
          refine HPG.out.mono ?_
          rintro e w8 ⟨rfl, hst⟩
          obtain ⟨FP, hpl⟩ := HS.out.step hst
          have HS := Lib.hid hpl
          have HPG := Lib.hid (pages_any hpl.pin (by omega))
          rw [← HU.out.1] at HPG
          clear hst hpl
          go_wp2_with fail
          refine HPG.out.mono ?_
          rintro e w9 ⟨rfl, hst⟩
          obtain ⟨FP, hpl⟩ := HS.out.step hst
          have HS := Lib.hid hpl
          have HMO := Lib.hid (most_any hpl.pin)
          rw [← HU.out.2] at HMO
          clear hst hpl HPG
          go_wp2_with fail
          refine HMO.out.mono ?_
          rintro e w10 ⟨rfl, rfl⟩
          have er1 := ER.out
          have d3 := D3.out
          have re0 := D2.out.1
          have d2 := D2.out.2
          go_wp2_with fail
          have HPG := Lib.hid (pages_any HS.out.pin (by omega))
          rw [← HU.out.1] at HPG
          refine HPG.out.mono ?_
          rintro e w11 ⟨rfl, hst⟩
          obtain ⟨FP, hpl⟩ := HS.out.step hst
          have HS := Lib.hid hpl
          clear hst hpl HPG
          go_wp2_with fail
          go_ret
          exact ⟨rfl, HS.out.below⟩
        · have er1 : (er == 1) = false := by
            rw [beq_eq_false_iff_ne]
            intro e; rcases hra.1 e with h | h <;> omega
          have d3 : decide (u ≤ no) = false := by simp; omega
          have ER := Lib.hid er1
          have D3 := Lib.hid d3
          clear hra er1 d3 g
          go_enter Tryz.func4, Tryz.ntmps4
          go_wp2_with fail
          refine (HAW.out _).mono ?_
          rintro e w1 ⟨rfl, hb1⟩
          have HB1 := Lib.hid hb1
          clear hb1
          go_wp2_with fail
          refine (HLA.out _).mono ?_
          rintro e w2 ⟨d, rfl, F, hd, hb2, hF⟩
          have HB2 := Lib.hid (below_step hb2 HB1.out)
          have HF2 := Lib.hid (show ∀ x ∈ F, w.heap.size ≤ x from fun x hx => Nat.le_trans HB1.out.size (hF x hx))
          have HD2 := Lib.hid hd
          have HOP := Lib.hid (Open_any hd HK.out.1 rm (by omega) (by omega))
          rw [HE.out] at HOP
          clear hd hb2 hF
          go_wp2_with fail
          refine HOP.out.mono ?_
          rintro e w3 ⟨hb3, v, rfl, hn⟩
          obtain ⟨b, lb, pb, hb, FP, rfl, hpl⟩ := play_new hn HF2.out HB2.out hb3
          have HS := Lib.hid hpl
          have hmi := HR.out.2.2.2
          have HIM := Lib.hid (is_image hpl.pin.disk hpl.pin.ok.disk)
          rw [hmi, HK.out.2.1] at HIM
          clear hb3 hn hpl HOP hmi
          go_wp2_with fail
          refine HIM.out.mono ?_
          rintro e w4 ⟨rfl, hb4⟩
          have HS := Lib.hid (HS.out.move hb4)
          have hpn := is_pending HS.out.pin.disk
          rw [HR.out.2.2.2, HK.out.2.2] at hpn
          have HPN := Lib.hid hpn
          clear hb4 hpn
          go_wp2_with fail
          refine HPN.out.mono ?_
          rintro e w5 ⟨rfl, rfl⟩
          have HRD := Lib.hid (Read_any HS.out.pin HR.out.2.2.1 (by omega) no)
          rw [HR.out.1] at HRD
          clear HPN HIM
          go_wp2_with fail
          refine HRD.out.mono ?_
          rintro e w6 ⟨rfl, hst⟩
          obtain ⟨FP, hpl⟩ := HS.out.step hst
          have HS := Lib.hid hpl
          have HRT := Lib.hid (Root_any hpl.pin (by omega) no)
          rw [HR.out.2.1] at HRT
          clear hst hpl HRD
          go_wp2_with fail
          refine HRT.out.mono ?_
          rintro e w7 ⟨rfl, hst⟩
          obtain ⟨FP, hpl⟩ := HS.out.step hst
          have HS := Lib.hid hpl
          have HPG := Lib.hid (pages_any hpl.pin (by omega))
          rw [← HU.out.1] at HPG
          clear hst hpl HRT
          go_wp2_with fail
          refine HPG.out.mono ?_
          rintro e w8 ⟨rfl, hst⟩
          obtain ⟨FP, hpl⟩ := HS.out.step hst
          have HS := Lib.hid hpl
          have HPG := Lib.hid (pages_any hpl.pin (by omega))
          rw [← HU.out.1] at HPG
          clear hst hpl
          go_wp2_with fail
          refine HPG.out.mono ?_
          rintro e w9 ⟨rfl, hst⟩
          obtain ⟨FP, hpl⟩ := HS.out.step hst
          have HS := Lib.hid hpl
          have HMO := Lib.hid (most_any hpl.pin)
          rw [← HU.out.2] at HMO
          clear hst hpl HPG
          go_wp2_with fail
          refine HMO.out.mono ?_
          rintro e w10 ⟨rfl, rfl⟩
          have er1 := ER.out
          have d3 := D3.out
          have re0 := D2.out.1
          have d2 := D2.out.2
          go_wp2_with fail
          have HPG := Lib.hid (pages_any HS.out.pin (by omega))
          rw [← HU.out.1] at HPG
          refine HPG.out.mono ?_
          rintro e w11 ⟨rfl, hst⟩
          obtain ⟨FP, hpl⟩ := HS.out.step hst
          have HS := Lib.hid hpl
          clear hst hpl HPG
          go_wp2_with fail
          go_ret
          exact ⟨rfl, HS.out.below⟩
end Go.Proofs.YtpaholkmlfaflaaGreatDoor

