/- Lemmas on the way to the statement: RefK, Told, Told2, ArrEq, Same11, RefL. -/
import Derived.Test.YtpaholkmlfaflaaGreatDoorJ13
import Derived.Test.YtpaholkmlfaflaaGreatDoorJ10
import Derived.Laws.StructEq
import Derived.WalkKit
set_option linter.unusedSimpArgs false
set_option linter.unusedVariables false
namespace Go.Proofs.YtpaholkmlfaflaaGreatDoor
open Go.RowKit Go.Joins
set_option linter.unusedVariables false
theorem Tryz.sizeState : (Tryz.prog.info? 37).map (·.size) = some 11 := by kernel_rfl
section
variable {w w' w1 : World} {b : Nat} {kS rS fS kW rW fW dv kS' rS' fS' : Value} {R R' : RM} {F F1 G : List Nat} {s : SM} {most : Nat}
/-- What is for good has become another state. -/
theorem RmAt.newSure (h : RmAt w b kS rS fS kW rW fW dv R) (t : Touch G w w') (hG : ∀ x ∈ G, x = b ∨ x ∈ stB kS rS fS ∨ w.heap.size ≤ x) {s' : SM} (hc : w'.rowIs b 43 25 (rmF kS' rS' fS' kW rW fW dv { R with sure := s' })) (hw : StRow w' 0 kS' rS' fS' s') (hn : ∀ x ∈ stB kS' rS' fS', x ∈ stB kS rS fS ∨ w.heap.size ≤ x) :
    RmAt w' b kS' rS' fS' kW rW fW dv { R with sure := s' } := by
  have lw := fun x hx => (h.way.lt x hx).2
  have ld : ∀ x ∈ dv.ownBlock.toList, x < w.heap.size := fun x hx => (h.dirty.lt x (Option.mem_toList.1 hx)).2
  have lb := World.rowIs.lt h.cells
  refine ⟨hc, hw, h.way.touch t (fun x hx hm => ?_), ownsRow_touch h.dirty t (fun g hg hm => ?_), fun hm => ?_, h.bW, h.bD, fun x hx hm => ?_, fun x hx hm => ?_, h.wd⟩
  · rcases hG x hm with rfl | h' | h'
    · exact h.bW hx
    · exact h.sw x h' hx
    · have := lw x hx; omega
  · rcases hG g hm with rfl | h' | h'
    · exact h.bD (own_list hg)
    · exact h.sd g h' (own_list hg)
    · have := ld g (own_list hg); omega
  · rcases hn b hm with h' | h'
    · exact h.bS h'
    · omega
  · rcases hn x hx with h' | h'
    · exact h.sw x h' hm
    · have := lw x hm; omega
  · rcases hn x hx with h' | h'
    · exact h.sd x h' hm
    · have := ld x hm; omega
/-- A new row of flags. -/
theorem RmAt.newFlags {g2 n c : Nat} (h : RmAt w b kS rS fS kW rW fW dv R) (hg : w.grownBy w1 none) (ho : w1.ownsRow 0 4 1 (.slice (some ⟨g2, 0, none⟩) n c) n ((List.replicate n false).map Value.bool)) (hn : w.heap.size ≤ g2) :
    RmAt (w1.setCell ⟨b, 24, none⟩ (.slice (some ⟨g2, 0, none⟩) n c)) b kS rS fS kW rW fW (.slice (some ⟨g2, 0, none⟩) n c) { R with dirty := List.replicate n false } := by
  have hlb := World.rowIs.lt h.cells
  have t1 : Touch [b] w w1 := (Touch.of_grown hg).mono (fun x hx => by simp at hx)
  have tb : Touch [b] w1 (w1.setCell ⟨b, 24, none⟩ (.slice (some ⟨g2, 0, none⟩) n c)) := (Touch.refl _ _).setCell (.inl (by simp)) _
  refine h.newDirty (t1.trans tb (fun x hx => .inl hx)) (fun x hx => .inl (by simpa using hx)) ?_ ?_ (fun x hx => .inr ?_)
  · have h5 := rowIs_touch h.cells (Touch.of_grown hg) (by simp)
    refine World.rowIs.congr (World.rowIs.set h5 24 _) (fun t ht => ?_)
    rcases t with _ | _ | _ | _ | _ | _ | _ | _ | _ | _ | _ | _ | _ | _ | _ | _ | _ | _ | _ | _ | _ | _ | _ | _ | _ | t <;> first | rfl | (exfalso; omega)
  · rw [List.length_replicate]
    refine ownsRow_touch ho tb (fun q hq => ?_)
    have e : g2 = q := by simpa [Value.ownBlock] using hq
    subst e
    simp
    omega
  · have e : x = g2 := by simpa [Value.ownBlock] using hx
    omega
theorem flags_list (n : Nat) : (madeCells (Value.bool false).cells (n * 1)).toList = (List.replicate n false).map Value.bool := by
  have h2 : (Value.bool false).cells = #[Value.bool false] := rfl
  rw [h2, Nat.mul_one, toList_madeCells_one, List.map_replicate]
set_option maxRecDepth 100000 in
set_option maxHeartbeats 4000000 in
theorem keep11_any (h : IsRm w b F R) (hk : RmOk R) :
    Calls Tryz.prog 36 #[.pointer (some ⟨b, 0, none⟩)] w fun e w' => e = .returned (.tuple #[]) ∧ RmGo w w' b F (keepR R) := by
  obtain ⟨kS, rS, fS, kW, rW, fW, dv, hat, rfl⟩ := h
  have hlt := World.rowIs.lt hat.cells
  have hone := hk.way.one
  have hle := hk.way.le
  have hbig := hk.big
  have hm0 := hk.m0
  have hlr := hk.way.lr
  have hff := free_few hk.way.toPreOk
  have HCP := Lib.hid (copied11_any w hat.way (by omega) (by omega) (by omega) (by omega) (by omega))
  have hv2 : ∀ k r f : Value, stV k r f R.way = .agg #[k, r, f, .int .u64 (R.way.roots.getD 0 0), .int .u64 (R.way.roots.getD 1 0), .int .u64 (R.way.roots.getD 2 0), .int .u64 (R.way.roots.getD 3 0), .int .u64 (R.way.roots.getD 4 0), .int .u64 (R.way.roots.getD 5 0), .int .u64 (R.way.roots.getD 6 0), .int .u64 (R.way.roots.getD 7 0)] := fun _ _ _ => rfl
  simp only [hv2] at HCP
  have q0 := World.rowIs.cell hat.cells (i := 13) (by decide)
  have q1 := World.rowIs.cell hat.cells (i := 14) (by decide)
  have q2 := World.rowIs.cell hat.cells (i := 15) (by decide)
  have q3 := World.rowIs.cell hat.cells (i := 16) (by decide)
  have q4 := World.rowIs.cell hat.cells (i := 17) (by decide)
  have q5 := World.rowIs.cell hat.cells (i := 18) (by decide)
  have q6 := World.rowIs.cell hat.cells (i := 19) (by decide)
  have q7 := World.rowIs.cell hat.cells (i := 20) (by decide)
  have q8 := World.rowIs.cell hat.cells (i := 21) (by decide)
  have q9 := World.rowIs.cell hat.cells (i := 22) (by decide)
  have q10 := World.rowIs.cell hat.cells (i := 23) (by decide)
  simp only [rmF, x8] at q0 q1 q2 q3 q4 q5 q6 q7 q8 q9 q10
  have HAT := Lib.hid hat
  have HR := Lib.hid (show ∀ i, .int .u64 (R.way.roots.getD i 0) = x8 R.way i from fun _ => rfl)
  clear hat hv2 hlr
  generalize hy0 : R.way.roots.getD 0 0 = y0 at HCP q3
  generalize hy1 : R.way.roots.getD 1 0 = y1 at HCP q4
  generalize hy2 : R.way.roots.getD 2 0 = y2 at HCP q5
  generalize hy3 : R.way.roots.getD 3 0 = y3 at HCP q6
  generalize hy4 : R.way.roots.getD 4 0 = y4 at HCP q7
  generalize hy5 : R.way.roots.getD 5 0 = y5 at HCP q8
  generalize hy6 : R.way.roots.getD 6 0 = y6 at HCP q9
  generalize hy7 : R.way.roots.getD 7 0 = y7 at HCP q10
  have HY := Lib.hid (And.intro hy0 (And.intro hy1 (And.intro hy2 (And.intro hy3 (And.intro hy4 (And.intro hy5 (And.intro hy6 hy7)))))))
  clear hy0 hy1 hy2 hy3 hy4 hy5 hy6 hy7
  go_enter Tryz.func36, Tryz.ntmps36
  have c0 := World.rowIs.cell HAT.out.cells (i := 0) (by decide)
  simp only [rmF] at c0
  obtain ⟨i0, hi, hz0, hz1, hz2⟩ := info_parts Tryz.infoBoolF
  go_wp2_with fail
  refine HCP.out.mono ?_
  rintro e w1 ⟨k', r', f', rfl, hst, hb1⟩
  have HST := Lib.hid hst
  have HB1 := Lib.hid hb1
  obtain ⟨a1, c1, rfl⟩ := hst.kf
  obtain ⟨a2, c2, rfl⟩ := hst.rf
  obtain ⟨a3, c3, rfl⟩ := hst.ff
  have HAT1 := Lib.hid (HAT.out.touch (G := []) (Touch.of_below hb1) (fun _ _ => by simp))
  clear hst hb1 c0 q0 q1 q2 q3 q4 q5 q6 q7 q8 q9 q10
  go_wp2_with (first
    | (refine wpList_store_at rfl 37 (.tmp 9) (.tmp 7) rfl b 2 25 #[.slice a1 R.way.kinds.length c1, .slice a2 R.way.rooms.length c2, .slice a3 R.way.free.length c3, .int .u64 y0, .int .u64 y1, .int .u64 y2, .int .u64 y3, .int .u64 y4, .int .u64 y5, .int .u64 y6, .int .u64 y7] rfl rfl 43 _ HAT1.out.cells Tryz.sizeState (show 2 + 11 ≤ 25 by decide) (by simp [Value.oneCell']) ?_; intro w2 hr2 ht2; have c0 : w2.cell? ⟨b, 0, none⟩ = some (.int .i64 R.most) := World.rowIs.cell hr2 (i := 0) (by decide); have HR2 := Lib.hid hr2; have HT2 := Lib.hid ht2; clear hr2 ht2)
    | (at_make; refine wpList_make_full _ rfl (.tmp 14) (.tmp 14) 41 rfl 0 4 i0 (.bool false) 1 Tryz.underlying41 hi hz0 hz1 .i64 .i64 R.most R.most R.most rfl rfl rfl rfl (by rw [hz2]; omega) (by unfold maxLen; omega) (Nat.zero_le _) ?_; intro w3 hown hgr; have hr3 := rowIs_touch HR2.out (Touch.of_grown hgr) (by simp); have c24 : w3.cell? ⟨b, 24, none⟩ = some dv := World.rowIs.cell hr3 (i := 24) (by decide); have f24 := World.rowIs.frozen hr3 24; have HOWN := Lib.hid hown; have HGR := Lib.hid hgr; clear hown hgr hr3))
  go_end0
  obtain ⟨rfl, rfl, rfl, rfl, rfl, rfl, rfl, rfl⟩ := HY.out
  have hbw : ∀ x ∈ stB (.slice a1 R.way.kinds.length c1) (.slice a2 R.way.rooms.length c2) (.slice a3 R.way.free.length c3), w.heap.size ≤ x := fun x hx => (HST.out.lt x hx).1
  have hst2 := (HST.out.touch HT2.out (fun x hx hm => by
    have := hbw x hx
    have e : x = b := by simpa using hm
    omega)).base (Nat.zero_le _)
  have t2 : Touch [b] w w2 := (Touch.of_below HB1.out).trans HT2.out (fun x hx => .inl hx)
  have hat2 := HAT.out.newSure t2 (fun x hx => .inl (by simpa using hx)) (World.rowIs.congr HR2.out (fun t ht => by rcases t with _ | _ | _ | _ | _ | _ | _ | _ | _ | _ | _ | _ | _ | _ | _ | _ | _ | _ | _ | _ | _ | _ | _ | _ | _ | t <;> first | rfl | (exfalso; omega))) hst2 (fun x hx => .inr (hbw x hx))
  have hat3 := RmAt.newFlags hat2 HGR.out (by rw [← flags_list]; exact HOWN.out) (Nat.le_refl _)
  have hs1 := HB1.out.size
  have hs2 := HT2.out.size
  refine ⟨rfl, _, ⟨_, _, _, _, _, _, _, hat3, rfl⟩, ?_, fun x hx => ?_⟩
  · refine (((t2.trans (Touch.of_grown HGR.out) (fun x hx => by simp at hx)).mono (fun x hx => .inl ?_)).setCell (.inl (by simp [rmB])) _)
    have e : x = b := by simpa using hx
    simp [rmB, e]
  · simp only [rmB, List.mem_cons, List.mem_append] at hx ⊢
    rcases hx with rfl | hx | hx | hx
    · exact .inl (.inl rfl)
    · exact .inr (hbw x hx)
    · exact .inl (.inr (.inr (.inl hx)))
    · exact .inr (by have e : x = w2.heap.size := by simpa [Value.ownBlock] using hx
                     omega)
set_option maxRecDepth 100000 in
set_option maxHeartbeats 4000000 in
theorem abort11_any (h : IsRm w b F R) (hk : RmOk R) :
    Calls Tryz.prog 26 #[.pointer (some ⟨b, 0, none⟩)] w fun e w' => e = .returned (.tuple #[]) ∧ RmGo w w' b F (abortR R) := by
  obtain ⟨kS, rS, fS, kW, rW, fW, dv, hat, rfl⟩ := h
  have hlt := World.rowIs.lt hat.cells
  have hone := hk.sure.one
  have hle := hk.sure.le
  have hbig := hk.big
  have hm0 := hk.m0
  have hlr := hk.sure.lr
  have hff := free_few hk.sure.toPreOk
  have HCP := Lib.hid (copied11_any w hat.sure (by omega) (by omega) (by omega) (by omega) (by omega))
  have hv2 : ∀ k r f : Value, stV k r f R.sure = .agg #[k, r, f, .int .u64 (R.sure.roots.getD 0 0), .int .u64 (R.sure.roots.getD 1 0), .int .u64 (R.sure.roots.getD 2 0), .int .u64 (R.sure.roots.getD 3 0), .int .u64 (R.sure.roots.getD 4 0), .int .u64 (R.sure.roots.getD 5 0), .int .u64 (R.sure.roots.getD 6 0), .int .u64 (R.sure.roots.getD 7 0)] := fun _ _ _ => rfl
  simp only [hv2] at HCP
  have q0 := World.rowIs.cell hat.cells (i := 2) (by decide)
  have q1 := World.rowIs.cell hat.cells (i := 3) (by decide)
  have q2 := World.rowIs.cell hat.cells (i := 4) (by decide)
  have q3 := World.rowIs.cell hat.cells (i := 5) (by decide)
  have q4 := World.rowIs.cell hat.cells (i := 6) (by decide)
  have q5 := World.rowIs.cell hat.cells (i := 7) (by decide)
  have q6 := World.rowIs.cell hat.cells (i := 8) (by decide)
  have q7 := World.rowIs.cell hat.cells (i := 9) (by decide)
  have q8 := World.rowIs.cell hat.cells (i := 10) (by decide)
  have q9 := World.rowIs.cell hat.cells (i := 11) (by decide)
  have q10 := World.rowIs.cell hat.cells (i := 12) (by decide)
  simp only [rmF, x8] at q0 q1 q2 q3 q4 q5 q6 q7 q8 q9 q10
  have HAT := Lib.hid hat
  have HR := Lib.hid (show ∀ i, .int .u64 (R.sure.roots.getD i 0) = x8 R.sure i from fun _ => rfl)
  clear hat hv2 hlr
  generalize hy0 : R.sure.roots.getD 0 0 = y0 at HCP q3
  generalize hy1 : R.sure.roots.getD 1 0 = y1 at HCP q4
  generalize hy2 : R.sure.roots.getD 2 0 = y2 at HCP q5
  generalize hy3 : R.sure.roots.getD 3 0 = y3 at HCP q6
  generalize hy4 : R.sure.roots.getD 4 0 = y4 at HCP q7
  generalize hy5 : R.sure.roots.getD 5 0 = y5 at HCP q8
  generalize hy6 : R.sure.roots.getD 6 0 = y6 at HCP q9
  generalize hy7 : R.sure.roots.getD 7 0 = y7 at HCP q10
  have HY := Lib.hid (And.intro hy0 (And.intro hy1 (And.intro hy2 (And.intro hy3 (And.intro hy4 (And.intro hy5 (And.intro hy6 hy7)))))))
  clear hy0 hy1 hy2 hy3 hy4 hy5 hy6 hy7
  go_enter Tryz.func26, Tryz.ntmps26
  have c0 := World.rowIs.cell HAT.out.cells (i := 0) (by decide)
  simp only [rmF] at c0
  obtain ⟨i0, hi, hz0, hz1, hz2⟩ := info_parts Tryz.infoBoolF
  go_wp2_with fail
  refine HCP.out.mono ?_
  rintro e w1 ⟨k', r', f', rfl, hst, hb1⟩
  have HST := Lib.hid hst
  have HB1 := Lib.hid hb1
  obtain ⟨a1, c1, rfl⟩ := hst.kf
  obtain ⟨a2, c2, rfl⟩ := hst.rf
  obtain ⟨a3, c3, rfl⟩ := hst.ff
  have HAT1 := Lib.hid (HAT.out.touch (G := []) (Touch.of_below hb1) (fun _ _ => by simp))
  clear hst hb1 c0 q0 q1 q2 q3 q4 q5 q6 q7 q8 q9 q10
  go_wp2_with (first
    | (refine wpList_store_at rfl 37 (.tmp 9) (.tmp 7) rfl b 13 25 #[.slice a1 R.sure.kinds.length c1, .slice a2 R.sure.rooms.length c2, .slice a3 R.sure.free.length c3, .int .u64 y0, .int .u64 y1, .int .u64 y2, .int .u64 y3, .int .u64 y4, .int .u64 y5, .int .u64 y6, .int .u64 y7] rfl rfl 43 _ HAT1.out.cells Tryz.sizeState (show 13 + 11 ≤ 25 by decide) (by simp [Value.oneCell']) ?_; intro w2 hr2 ht2; have c0 : w2.cell? ⟨b, 0, none⟩ = some (.int .i64 R.most) := World.rowIs.cell hr2 (i := 0) (by decide); have HR2 := Lib.hid hr2; have HT2 := Lib.hid ht2; clear hr2 ht2)
    | (at_make; refine wpList_make_full _ rfl (.tmp 14) (.tmp 14) 41 rfl 0 4 i0 (.bool false) 1 Tryz.underlying41 hi hz0 hz1 .i64 .i64 R.most R.most R.most rfl rfl rfl rfl (by rw [hz2]; omega) (by unfold maxLen; omega) (Nat.zero_le _) ?_; intro w3 hown hgr; have hr3 := rowIs_touch HR2.out (Touch.of_grown hgr) (by simp); have c24 : w3.cell? ⟨b, 24, none⟩ = some dv := World.rowIs.cell hr3 (i := 24) (by decide); have f24 := World.rowIs.frozen hr3 24; have HOWN := Lib.hid hown; have HGR := Lib.hid hgr; clear hown hgr hr3))
  go_end0
  obtain ⟨rfl, rfl, rfl, rfl, rfl, rfl, rfl, rfl⟩ := HY.out
  have hbw : ∀ x ∈ stB (.slice a1 R.sure.kinds.length c1) (.slice a2 R.sure.rooms.length c2) (.slice a3 R.sure.free.length c3), w.heap.size ≤ x := fun x hx => (HST.out.lt x hx).1
  have hst2 := (HST.out.touch HT2.out (fun x hx hm => by
    have := hbw x hx
    have e : x = b := by simpa using hm
    omega)).base (Nat.zero_le _)
  have t2 : Touch [b] w w2 := (Touch.of_below HB1.out).trans HT2.out (fun x hx => .inl hx)
  have hat2 := HAT.out.newWay t2 (fun x hx => .inl (by simpa using hx)) (World.rowIs.congr HR2.out (fun t ht => by rcases t with _ | _ | _ | _ | _ | _ | _ | _ | _ | _ | _ | _ | _ | _ | _ | _ | _ | _ | _ | _ | _ | _ | _ | _ | _ | t <;> first | rfl | (exfalso; omega))) hst2 (fun x hx => .inr (hbw x hx))
  have hat3 := RmAt.newFlags hat2 HGR.out (by rw [← flags_list]; exact HOWN.out) (Nat.le_refl _)
  have hs1 := HB1.out.size
  have hs2 := HT2.out.size
  refine ⟨rfl, _, ⟨_, _, _, _, _, _, _, hat3, rfl⟩, ?_, fun x hx => ?_⟩
  · refine (((t2.trans (Touch.of_grown HGR.out) (fun x hx => by simp at hx)).mono (fun x hx => .inl ?_)).setCell (.inl (by simp [rmB])) _)
    have e : x = b := by simpa using hx
    simp [rmB, e]
  · simp only [rmB, List.mem_cons, List.mem_append] at hx ⊢
    rcases hx with rfl | hx | hx | hx
    · exact .inl (.inl rfl)
    · exact .inl (.inr (.inl hx))
    · exact .inr (hbw x hx)
    · exact .inr (by have e : x = w2.heap.size := by simpa [Value.ownBlock] using hx
                     omega)
end
end Go.Proofs.YtpaholkmlfaflaaGreatDoor

namespace Go.Proofs.YtpaholkmlfaflaaGreatDoor
open Go.RowKit Go.Maps Go.Joins
set_option linter.unusedVariables false
section
variable {w0 w w' W W' : World} {b d lb pb hb K k N : Nat} {FD FP : List Nat} {M : PM} {R : RM} {G : Int}
theorem Rel.readAt (h : Rel M R N G) {i : Nat} (hi : i < R.way.kinds.length) : readP M i = (R.way.kinds.getD i 0, R.way.rooms.getD i ⟨#[]⟩, 0) := by
  have hl : lenR R = R.way.kinds.length := rfl
  have hr : i < R.way.rooms.length := by rw [h.way.lr]; exact hi
  unfold readP
  rw [if_neg (by omega), h.rd0, if_neg (by simp)]
  simp only
  rw [h.used, if_neg (by rw [hl]; omega)]
  refine h.rd ?_ ?_
  · rw [List.getD_eq_getElem?_getD, List.getElem?_eq_getElem hi]; rfl
  · rw [List.getD_eq_getElem?_getD, List.getElem?_eq_getElem hr]; rfl
theorem Rel.rootAt (h : Rel M R N G) {i : Nat} (hi : i < 8) : rootP M i = (R.way.roots.getD i 0, 0) := by
  have h8 := h.way.r8
  have hx : R.way.roots[i]? = some (R.way.roots.getD i 0) := by rw [List.getD_eq_getElem?_getD, List.getElem?_eq_getElem (by omega)]; rfl
  have hb := h.way.rb _ (List.mem_of_getElem? hx)
  unfold rootP
  rw [if_neg (by omega), h.rd0, if_neg (by simp)]
  simp only
  rw [Int.toNat_natCast, headS_root h8 hx hb.1 hb.2]
/-- What was told so far. -/
def partS (s : SM) (i j : Nat) : SM := ⟨s.kinds.take i, s.rooms.take i, [], (s.roots.take j) ++ List.replicate (8 - j) 0⟩
theorem partS_kinds {s : SM} {i j : Nat} (h : i < s.kinds.length) : kC (partS s i j) ++ [.int .i64 (s.kinds.getD i 0)] = (s.kinds.take (i + 1)).map (Value.int .i64) := by
  unfold kC partS
  simp only
  rw [List.take_add_one, List.map_append, List.getElem?_eq_getElem h, List.getD_eq_getElem?_getD, List.getElem?_eq_getElem h]
  rfl
theorem partS_rooms {s : SM} {i j : Nat} (h : i < s.rooms.length) : rC (partS s i j) ++ [.string (s.rooms.getD i ⟨#[]⟩)] = (s.rooms.take (i + 1)).map Value.string := by
  unfold rC partS
  simp only
  rw [List.take_add_one, List.map_append, List.getElem?_eq_getElem h, List.getD_eq_getElem?_getD, List.getElem?_eq_getElem h]
  rfl
theorem partS_root {s : SM} {n j : Nat} (hr : s.roots.length = 8) (h : j < 8) (i : Nat) : x8 (partS s n (j + 1)) i = if i = j then .int .u64 (s.roots.getD j 0) else x8 (partS s n j) i := by
  have key : (partS s n (j + 1)).roots = (partS s n j).roots.set j (s.roots.getD j 0) := by
    unfold partS
    simp only
    have e1 : 8 - j = (8 - (j + 1)) + 1 := by omega
    rw [e1, List.replicate_succ, List.set_append_right _ _ (by rw [List.length_take]; omega)]
    have e2 : j - (s.roots.take j).length = 0 := by rw [List.length_take]; omega
    have e3 : s.roots.take (j + 1) = s.roots.take j ++ [s.roots.getD j 0] := by
      rw [List.take_add_one, List.getElem?_eq_getElem (by omega), List.getD_eq_getElem?_getD, List.getElem?_eq_getElem (by omega)]
      rfl
    rw [e2, List.set_cons_zero, e3, List.append_assoc]
    rfl
  have hl : (partS s n j).roots.length = 8 := by unfold partS; simp; omega
  unfold x8
  rw [key]
  by_cases e : i = j
  · subst e
    rw [if_pos rfl, List.getD_eq_getElem?_getD, set_same (by omega)]; rfl
  · rw [if_neg e, List.getD_eq_getElem?_getD, set_other e, ← List.getD_eq_getElem?_getD]
theorem partS_all {s : SM} {most : Nat} (h : StOk s most) : partS s s.kinds.length 8 = { s with free := [] } := by
  unfold partS
  rw [List.take_length, ← h.lr, List.take_length, List.take_of_length_le (by have := h.r8; omega)]
  simp
/-- What stands while the pages are asked for. -/
structure TldP (w wr : World) (b d lb pb hb : Nat) (FD FP0 FP : List Nat) (K : Nat) (k r : Value) (M : PM) (s : SM) : Prop where
  lt0 : b < w.heap.size ∧ lb < w.heap.size ∧ hb < w.heap.size ∧ ∀ x ∈ FD, x < w.heap.size
  pin : PgIn wr b d lb pb hb FD FP K 0 M
  t : Touch FP0 w wr
  fp : ∀ x ∈ FP, x ∈ FP0 ∨ w.heap.size ≤ x
  rb : wr.rowIs w.heap.size 37 11 (stCF (.slice none 0 0) (.slice none 0 0) (.slice none 0 0) ⟨[], [], [], List.replicate 8 0⟩)
  sb : wr.rowIs (w.heap.size + 1) 37 11 (stCF k r (.slice none 0 0) s)
  st : StRow wr w.heap.size k r (.slice none 0 0) s
  o1 : w.heap.size ∉ FP
  o2 : w.heap.size + 1 ∉ FP
  o3 : Off (stB k r (.slice none 0 0)) FP
  sz : w.heap.size + 2 ≤ wr.heap.size
  n1 : w.heap.size ∉ stB k r (.slice none 0 0)
  n2 : w.heap.size + 1 ∉ stB k r (.slice none 0 0)
end
section
variable {w w' W W' : World} {b d lb pb hb K k' J : Nat} {FD FP FP0 : List Nat} {M : PM} {k r : Value} {s s' : SM}
theorem TldP.step (h : TldP w W b d lb pb hb FD FP0 FP K k r M s) (p : PgStep W W' b d lb pb hb FD FP J 0 M) : ∃ FP', TldP w W' b d lb pb hb FD FP0 FP' J k r M s := by
  obtain ⟨FP', h1, t1, f1⟩ := p
  have hsz := h.sz
  refine ⟨FP', h.lt0, h1, h.t.trans t1 h.fp, fun x hx => ?_, rowIs_touch h.rb t1 h.o1, rowIs_touch h.sb t1 h.o2, h.st.touch t1 h.o3, fun hm => ?_, fun hm => ?_, fun x hx hm => ?_, Nat.le_trans hsz t1.size, h.n1, h.n2⟩
  · rcases f1 x hx with h' | h'
    · exact h.fp x h'
    · exact .inr (by omega)
  · rcases f1 _ hm with h' | h'
    · exact h.o1 h'
    · omega
  · rcases f1 _ hm with h' | h'
    · exact h.o2 h'
    · omega
  · rcases f1 x hm with h' | h'
    · exact h.o3 x hx h'
    · have := (h.st.lt x hx).2
      omega
theorem TldP.appK (h : TldP w W b d lb pb hb FD FP0 FP K k r M s) {g2 c2 n : Nat} {o : Obj} {w5 : World} (l : List Int) (hN : l.length = n) (ho : w5.ownsRow w.heap.size 3 1 (.slice (some ⟨g2, 0, none⟩) n c2) n (l.map (Value.int .i64))) (hg : (W.alloc o).grownBy w5 k.ownBlock) (hn : k.ownBlock = some g2 ∨ (W.alloc o).heap.size ≤ g2) :
    TldP w (w5.setCell ⟨w.heap.size + 1, 0, none⟩ (.slice (some ⟨g2, 0, none⟩) n c2)) b d lb pb hb FD FP0 FP K (Value.slice (some ⟨g2, 0, none⟩) n c2) r M { s with kinds := l } := by
  subst hN
  have hne : ∀ x ∈ k.ownBlock.toList, x ∈ stB k r (.slice none 0 0) := fun x hx => by simp only [stB, List.mem_append]; exact .inl hx
  have t5 : Touch k.ownBlock.toList W w5 := ((Touch.refl _ W).alloc o).trans (Touch.of_grown hg) (fun x hx => .inl hx)
  have tb : Touch [w.heap.size + 1] w5 (w5.setCell ⟨w.heap.size + 1, 0, none⟩ (.slice (some ⟨g2, 0, none⟩) l.length c2)) := (Touch.refl _ _).setCell (.inl (by simp)) _
  have tt : Touch ((w.heap.size + 1) :: k.ownBlock.toList) W (w5.setCell ⟨w.heap.size + 1, 0, none⟩ (.slice (some ⟨g2, 0, none⟩) l.length c2)) := (t5.mono (fun x hx => .inl (by simp [hx]))).trans tb (fun x hx => .inl (by simp at hx; simp [hx]))
  have hge : ∀ x ∈ (w.heap.size + 1) :: k.ownBlock.toList, w.heap.size ≤ x := fun x hx => by
    rcases List.mem_cons.1 hx with rfl | hx
    · omega
    · exact (h.st.lt x (hne x hx)).1
  have hsA : (W.alloc o).heap.size = W.heap.size + 1 := by simp
  have hg2 : g2 ∈ k.ownBlock.toList ∨ W.heap.size + 1 ≤ g2 := by
    rcases hn with hn | hn
    · exact .inl (by rw [hn]; simp)
    · exact .inr (by omega)
  have hst := h.st.newK t5 (fun x hx => .inl hx) ho (fun x hx => by
    have e : x = g2 := by simpa [Value.ownBlock] using hx
    subst e
    exact hg2.imp id (fun h => by omega))
  have hnew : ∀ x ∈ stB (Value.slice (some ⟨g2, 0, none⟩) l.length c2) r (.slice none 0 0), x ∈ stB k r (.slice none 0 0) ∨ W.heap.size + 1 ≤ x := fun x hx => by
    simp only [stB, List.mem_append] at hx ⊢
    rcases hx with hx | hx | hx
    · have e : x = g2 := by simpa [Value.ownBlock] using hx
      subst e
      exact hg2.imp .inl id
    · exact .inl (.inr (.inl hx))
    · exact .inl (.inr (.inr hx))
  obtain ⟨l1, l2, l3, l4⟩ := h.lt0
  have hsz := h.sz
  have h2 : w.heap.size + 1 ∉ stB (Value.slice (some ⟨g2, 0, none⟩) l.length c2) r (.slice none 0 0) := fun hm => (hnew _ hm).elim h.n2 (fun h => by omega)
  refine ⟨h.lt0, h.pin.touch tt (fun hm => by have := hge _ hm; omega) (fun hm => by have := hge _ hm; omega) (fun hm => by have := hge _ hm; omega) (fun x hx hm => by have := hge _ hm; have := l4 x hx; omega) (fun x hx hm => ?_), h.t.trans tt (fun x hx => .inr (hge x hx)), h.fp, rowIs_touch h.rb tt (fun hm => ?_), ?_, hst.touch tb (fun x hx hm => ?_), h.o1, h.o2, fun x hx hm => ?_, Nat.le_trans hsz tt.size, fun hm => (hnew _ hm).elim h.n1 (fun h => by omega), h2⟩
  · rcases List.mem_cons.1 hm with rfl | hm
    · exact h.o2 hx
    · exact h.o3 x (hne x hm) hx
  · rcases List.mem_cons.1 hm with hm | hm
    · omega
    · exact h.n1 (hne _ hm)
  · exact st_set0 (rowIs_touch h.sb t5 (fun hm => h.n2 (hne _ hm))) _
  · have e : x = w.heap.size + 1 := by simpa using hm
    subst e
    exact h2 hx
  · rcases hnew x hx with h' | h'
    · exact h.o3 x h' hm
    · have := h.pin.lt.2.2.2.2 x hm
      omega
theorem TldP.appR (h : TldP w W b d lb pb hb FD FP0 FP K k r M s) {g2 c2 n : Nat} {o : Obj} {w5 : World} (l : List ByteArray) (hN : l.length = n) (ho : w5.ownsRow w.heap.size 9 1 (.slice (some ⟨g2, 0, none⟩) n c2) n (l.map Value.string)) (hg : (W.alloc o).grownBy w5 r.ownBlock) (hn : r.ownBlock = some g2 ∨ (W.alloc o).heap.size ≤ g2) :
    TldP w (w5.setCell ⟨w.heap.size + 1, 1, none⟩ (.slice (some ⟨g2, 0, none⟩) n c2)) b d lb pb hb FD FP0 FP K k (Value.slice (some ⟨g2, 0, none⟩) n c2) M { s with rooms := l } := by
  subst hN
  have hne : ∀ x ∈ r.ownBlock.toList, x ∈ stB k r (.slice none 0 0) := fun x hx => by simp only [stB, List.mem_append]; exact .inr (.inl hx)
  have t5 : Touch r.ownBlock.toList W w5 := ((Touch.refl _ W).alloc o).trans (Touch.of_grown hg) (fun x hx => .inl hx)
  have tb : Touch [w.heap.size + 1] w5 (w5.setCell ⟨w.heap.size + 1, 1, none⟩ (.slice (some ⟨g2, 0, none⟩) l.length c2)) := (Touch.refl _ _).setCell (.inl (by simp)) _
  have tt : Touch ((w.heap.size + 1) :: r.ownBlock.toList) W (w5.setCell ⟨w.heap.size + 1, 1, none⟩ (.slice (some ⟨g2, 0, none⟩) l.length c2)) := (t5.mono (fun x hx => .inl (by simp [hx]))).trans tb (fun x hx => .inl (by simp at hx; simp [hx]))
  have hge : ∀ x ∈ (w.heap.size + 1) :: r.ownBlock.toList, w.heap.size ≤ x := fun x hx => by
    rcases List.mem_cons.1 hx with rfl | hx
    · omega
    · exact (h.st.lt x (hne x hx)).1
  have hsA : (W.alloc o).heap.size = W.heap.size + 1 := by simp
  have hg2 : g2 ∈ r.ownBlock.toList ∨ W.heap.size + 1 ≤ g2 := by
    rcases hn with hn | hn
    · exact .inl (by rw [hn]; simp)
    · exact .inr (by omega)
  have hst := h.st.newR t5 (fun x hx => .inl hx) ho (fun x hx => by
    have e : x = g2 := by simpa [Value.ownBlock] using hx
    subst e
    exact hg2.imp id (fun h => by omega))
  have hnew : ∀ x ∈ stB k (Value.slice (some ⟨g2, 0, none⟩) l.length c2) (.slice none 0 0), x ∈ stB k r (.slice none 0 0) ∨ W.heap.size + 1 ≤ x := fun x hx => by
    simp only [stB, List.mem_append] at hx ⊢
    rcases hx with hx | hx | hx
    · exact .inl (.inl hx)
    · have e : x = g2 := by simpa [Value.ownBlock] using hx
      subst e
      exact hg2.imp (fun h => .inr (.inl h)) id
    · exact .inl (.inr (.inr hx))
  obtain ⟨l1, l2, l3, l4⟩ := h.lt0
  have hsz := h.sz
  have h2 : w.heap.size + 1 ∉ stB k (Value.slice (some ⟨g2, 0, none⟩) l.length c2) (.slice none 0 0) := fun hm => (hnew _ hm).elim h.n2 (fun h => by omega)
  refine ⟨h.lt0, h.pin.touch tt (fun hm => by have := hge _ hm; omega) (fun hm => by have := hge _ hm; omega) (fun hm => by have := hge _ hm; omega) (fun x hx hm => by have := hge _ hm; have := l4 x hx; omega) (fun x hx hm => ?_), h.t.trans tt (fun x hx => .inr (hge x hx)), h.fp, rowIs_touch h.rb tt (fun hm => ?_), ?_, hst.touch tb (fun x hx hm => ?_), h.o1, h.o2, fun x hx hm => ?_, Nat.le_trans hsz tt.size, fun hm => (hnew _ hm).elim h.n1 (fun h => by omega), h2⟩
  · rcases List.mem_cons.1 hm with rfl | hm
    · exact h.o2 hx
    · exact h.o3 x (hne x hm) hx
  · rcases List.mem_cons.1 hm with hm | hm
    · omega
    · exact h.n1 (hne _ hm)
  · exact st_set1 (rowIs_touch h.sb t5 (fun hm => h.n2 (hne _ hm))) _
  · have e : x = w.heap.size + 1 := by simpa using hm
    subst e
    exact h2 hx
  · rcases hnew x hx with h' | h'
    · exact h.o3 x h' hm
    · have := h.pin.lt.2.2.2.2 x hm
      omega
/-- A root is told. -/
theorem TldP.root (h : TldP w W b d lb pb hb FD FP0 FP K k r M s) (j : Nat) (x : Int) (hk : s'.kinds = s.kinds) (hr : s'.rooms = s.rooms) (hf : s'.free = s.free) (hx : ∀ i, x8 s' i = if i = j then .int .u64 x else x8 s i) (hj : j < 8) :
    TldP w (W.setCell ⟨w.heap.size + 1, 3 + j, none⟩ (.int .u64 x)) b d lb pb hb FD FP0 FP K k r M s' := by
  have tb : Touch [w.heap.size + 1] W (W.setCell ⟨w.heap.size + 1, 3 + j, none⟩ (.int .u64 x)) := (Touch.refl _ _).setCell (.inl (by simp)) _
  have hsz := h.sz
  obtain ⟨l1, l2, l3, l4⟩ := h.lt0
  have hne : ∀ y, y < w.heap.size → y ∉ [w.heap.size + 1] := fun y hy hm => by
    have e : y = w.heap.size + 1 := by simpa using hm
    omega
  have hst := h.st.touch tb (fun y hy hm => by
    have e : y = w.heap.size + 1 := by simpa using hm
    subst e
    exact h.n2 hy)
  have hgt : ∀ y ∈ [w.heap.size + 1], y ∈ FP0 ∨ w.heap.size ≤ y := fun y hy => by
    have e : y = w.heap.size + 1 := by simpa using hy
    exact .inr (by omega)
  refine ⟨h.lt0, h.pin.touch tb (hne _ l1) (hne _ l2) (hne _ l3) (fun y hy => hne _ (l4 y hy)) (fun y hy hm => ?_), h.t.trans tb hgt, h.fp, rowIs_touch h.rb tb (fun hm => by simp at hm), ?_, ⟨?_, ?_, ?_, hst.nd⟩, h.o1, h.o2, h.o3, Nat.le_trans hsz tb.size, h.n1, h.n2⟩
  · have e : y = w.heap.size + 1 := by simpa using hm
    subst e
    exact h.o2 hy
  · refine World.rowIs.congr (World.rowIs.set h.sb (3 + j) _) (fun t ht => ?_)
    rcases t with _ | _ | _ | t
    · rw [if_neg (by omega)]; rfl
    · rw [if_neg (by omega)]; rfl
    · rw [if_neg (by omega)]; rfl
    · show (if t + 1 + 1 + 1 = 3 + j then _ else x8 s t) = x8 s' t
      rw [hx t]
      by_cases e : t = j
      · rw [if_pos (by omega), if_pos e]
      · rw [if_neg (by omega), if_neg e]
  · have := hst.ko; unfold kC at this ⊢; rw [hk]; exact this
  · have := hst.ro; unfold rC at this ⊢; rw [hr]; exact this
  · have := hst.fo; unfold fC at this ⊢; rw [hf]; exact this
end
end Go.Proofs.YtpaholkmlfaflaaGreatDoor

namespace Go.Proofs.YtpaholkmlfaflaaGreatDoor
open Go.RowKit Go.Maps Go.Joins
set_option linter.unusedVariables false
/-- The results of a function that hands back a state and one value more. -/
theorem res_state2 {fn : Func} {p u : Tmp} {tmps : Array Value} {W : World} {g : Nat} {G : Nat → Value} {cs : Array Value} (h : fn.results = #[.cell p 37, .tmp u]) (hp : tmps.getD p undef = .pointer (some ⟨g, 0, none⟩)) (hr : W.rowIs g 37 11 G)
    (e : #[G 0, G 1, G 2, G 3, G 4, G 5, G 6, G 7, G 8, G 9, G 10] = cs) : (results fn tmps).run Tryz.prog W = .ok (.tuple #[.agg cs, tmps.getD u undef]) W := by
  obtain ⟨c, hc, hs, hi⟩ := hr
  have hcs : c = cs := by
    rw [← e]
    apply Array.ext_getElem?
    intro i
    by_cases hlt : i < 11
    · rw [hi i hlt]
      rcases i with _ | _ | _ | _ | _ | _ | _ | _ | _ | _ | _ | i <;> first | rfl | (exfalso; omega)
    · rw [Array.getElem?_eq_none (by omega), Array.getElem?_eq_none (by simp; omega)]
  subst hcs
  rw [results_cell_tmp h]
  have hl := run_loadVar_row (P := Tryz.prog) W g _ 37 c _ _ hc Tryz.underlying37 rfl (by rw [hs]; kernel_rfl)
  simp only [hp, asAddr, Sem.run_pure, Result.andThen_ok, hl]
section
variable {w w' W W' : World} {b d lb pb hb K N : Nat} {FD FP : List Nat} {M : PM} {R : RM} {G : Int}
theorem TldP.sbK {FP0 : List Nat} {k r : Value} {s : SM} {o : Obj} {w5 : World} (h : TldP w W b d lb pb hb FD FP0 FP K k r M s) (hg : (W.alloc o).grownBy w5 k.ownBlock) : w5.rowIs (w.heap.size + 1) 37 11 (stCF k r (.slice none 0 0) s) :=
  rowIs_touch (rowIs_touch h.sb (F := []) ((Touch.refl _ _).alloc o) (by simp)) (Touch.of_grown hg) (fun hm => h.n2 (by simp only [stB, List.mem_append]; exact .inl hm))
theorem TldP.sbR {FP0 : List Nat} {k r : Value} {s : SM} {o : Obj} {w5 : World} (h : TldP w W b d lb pb hb FD FP0 FP K k r M s) (hg : (W.alloc o).grownBy w5 r.ownBlock) : w5.rowIs (w.heap.size + 1) 37 11 (stCF k r (.slice none 0 0) s) :=
  rowIs_touch (rowIs_touch h.sb (F := []) ((Touch.refl _ _).alloc o) (by simp)) (Touch.of_grown hg) (fun hm => h.n2 (by simp only [stB, List.mem_append]; exact .inr (.inl hm)))
theorem TldP.koN {FP0 : List Nat} {k r : Value} {s : SM} {n : Nat} (h : TldP w W b d lb pb hb FD FP0 FP K k r M s) (hn : s.kinds.length = n) : W.ownsRow w.heap.size 3 1 k n (kC s) := hn ▸ h.st.ko
theorem TldP.roN {FP0 : List Nat} {k r : Value} {s : SM} {n : Nat} (h : TldP w W b d lb pb hb FD FP0 FP K k r M s) (hn : s.rooms.length = n) : W.ownsRow w.heap.size 9 1 r n (rC s) := hn ▸ h.st.ro
/-- What Told leaves. -/
structure TldO (w w' : World) (b d lb pb hb : Nat) (FD FP FP' : List Nat) (K : Nat) (k r : Value) (M : PM) (R : RM) : Prop where
  pin : PgIn w' b d lb pb hb FD FP' K 0 M
  t : Touch FP w w'
  fp : ∀ x ∈ FP', x ∈ FP ∨ w.heap.size ≤ x
  st : StRow w' w.heap.size k r (.slice none 0 0) { R.way with free := [] }
  off : Off (stB k r (.slice none 0 0)) FP'
set_option maxRecDepth 100000 in
set_option maxHeartbeats 1000000 in
theorem told_any (h : PgIn w b d lb pb hb FD FP K 0 M) (hr : Rel M R N G) (hK : K ≤ 1000000000000000000) :
    Calls Tryz.prog 12 #[.pointer (some ⟨b, 0, none⟩)] w fun e w' => ∃ k r FP', e = .returned (.tuple #[stV k r (.slice none 0 0) R.way, .bool true]) ∧ TldO w w' b d lb pb hb FD FP FP' (K + 10 * R.way.kinds.length + 100) k r M R := by
  have hone := hr.way.one
  have hle := hr.way.le
  have hbig := hr.big
  have hlr := hr.way.lr
  have hl : lenR R = R.way.kinds.length := rfl
  have hpg := hr.pages
  rw [hl] at hpg
  have hsn := soundP_snd hr.snd
  obtain ⟨n, hn⟩ : ∃ n, n = R.way.kinds.length := ⟨_, rfl⟩
  have HRD := Lib.hid (fun i hi => hr.readAt (i := i) hi)
  have HRT := Lib.hid (fun i hi => hr.rootAt (i := i) hi)
  have HPK := Lib.hid (fun i j hi => partS_kinds (s := R.way) (i := i) (j := j) hi)
  have HPR := Lib.hid (fun i j hi => partS_rooms (s := R.way) (i := i) (j := j) hi)
  have HPX := Lib.hid (fun j hj => partS_root (s := R.way) (n := R.way.kinds.length) (j := j) hr.way.r8 hj)
  have HPA := Lib.hid (partS_all hr.way)
  have HPG := Lib.hid hpg
  have HSN := Lib.hid hsn
  have HNL := Lib.hid (And.intro hn hlr)
  rw [← hn] at hone hle ⊢
  have H := Lib.hid h
  have hlt := h.lt
  have hr8 := hr.way.r8
  have HR8 := Lib.hid hr8
  clear h hpg hsn hlr hl hn hr hr8
  obtain ⟨i0, ih, ih0, ih1, ih2⟩ := info_parts Tryz.infoIntP
  obtain ⟨j0, jh, jh0, jh1, jh2⟩ := info_parts Tryz.infoStr
  go_enter Tryz.func12, Tryz.ntmps12
  go_wp2_with fail
  refine wp_name (fun W0 hW => ?_)
  have HW0 : Hid (W0.heap.size = w.heap.size + 2) := Lib.hid (by rw [← hW]; simp)
  have h0 : TldP w W0 b d lb pb hb FD FP FP K (.slice none 0 0) (.slice none 0 0) M (partS R.way 0 0) := by
    rw [← hW]
    have e1 : ∀ o : Obj, (w.alloc o).heap.size = w.heap.size + 1 := fun _ => by simp
    have hb0 : Below w.heap.size w ((w.alloc (.cells #[.slice none 0 0, .slice none 0 0, .slice none 0 0, .int .u64 0, .int .u64 0, .int .u64 0, .int .u64 0, .int .u64 0, .int .u64 0, .int .u64 0, .int .u64 0] 37)).alloc (.cells #[.slice none 0 0, .slice none 0 0, .slice none 0 0, .int .u64 0, .int .u64 0, .int .u64 0, .int .u64 0, .int .u64 0, .int .u64 0, .int .u64 0, .int .u64 0] 37)) := below_alloc (below_alloc (Below.refl _ _))
    refine ⟨⟨hlt.1, hlt.2.1, hlt.2.2.1, hlt.2.2.2.1⟩, H.out.below hb0, Touch.of_below hb0, fun x hx => .inl hx, ?_, ?_, ⟨World.ownsRow_nil _ _ _ _, World.ownsRow_nil _ _ _ _, World.ownsRow_nil _ _ _ _, by simp [stB, Value.ownBlock]⟩, fun hm => ?_, fun hm => ?_, by intro x hx; simp [stB, Value.ownBlock] at hx, by simp, by simp [stB, Value.ownBlock], by simp [stB, Value.ownBlock]⟩
    · exact rowIs_touch (stCF_new w (.slice none 0 0) (.slice none 0 0) (.slice none 0 0) ⟨[], [], [], List.replicate 8 0⟩) (F := []) ((Touch.refl _ _).alloc _) (by simp)
    · have h := stCF_new (w.alloc (.cells #[.slice none 0 0, .slice none 0 0, .slice none 0 0, .int .u64 0, .int .u64 0, .int .u64 0, .int .u64 0, .int .u64 0, .int .u64 0, .int .u64 0, .int .u64 0] 37)) (.slice none 0 0) (.slice none 0 0) (.slice none 0 0) (partS R.way 0 0)
      rw [e1] at h
      exact h
    · have := hlt.2.2.2.2 _ hm; omega
    · have := hlt.2.2.2.2 _ hm; omega
  clear hW
  have H0 := Lib.hid h0
  clear h0
  go_loopw [5, 6, 7, 8] (fun v5 v6 v7 v8 wr => ∃ i : Nat, i ≤ n ∧ v5 = .int .i64 i ∧ ∃ FP1 K1 k r, K1 ≤ K + 10 * i ∧ TldP w wr b d lb pb hb FD FP FP1 K1 k r M (partS R.way i 0)) (fun v5 _ _ _ _ => n - (intOf v5).toNat)
  case atStart => exact ⟨0, Nat.zero_le _, rfl, _, _, _, _, Nat.le_refl _, H0.out⟩
  case round =>
    obtain ⟨i, hi, rfl, FP1, K1, k, r, hK1, hp⟩ := hrel
    have HP := Lib.hid hp
    have HC := Lib.hid (pages_any hp.pin (by omega))
    rw [HPG.out, ← HNL.out.1] at HC
    clear hp
    by_cases hlt : i < n
    · go_wp2_with fail
      refine HC.out.mono ?_
      rintro e w1 ⟨rfl, hst⟩
      obtain ⟨FP2, hp2⟩ := HP.out.step hst
      have HP2 := Lib.hid hp2
      have HRA := Lib.hid (Read_any hp2.pin HSN.out (by omega) (i : Int))
      rw [HRD.out i (by rw [← HNL.out.1]; exact hlt)] at HRA
      have hki := HPK.out i 0 (by rw [← HNL.out.1]; exact hlt)
      have hri := HPR.out i 0 (by rw [HNL.out.2, ← HNL.out.1]; exact hlt)
      generalize R.way.kinds.getD i 0 = kv at HRA hki
      generalize R.way.rooms.getD i ⟨#[]⟩ = rv at HRA hri
      have HKI := Lib.hid (And.intro hki hri)
      clear hst hp2 HC hki hri
      go_wp2_with fail
      refine HRA.out.mono ?_
      rintro e w2 ⟨rfl, hst⟩
      obtain ⟨FP3, hp3⟩ := HP2.out.step hst
      have HP3 := Lib.hid hp3
      have z0 := World.rowIs.cell hp3.sb (i := 0) (by decide)
      have z1 := World.rowIs.cell hp3.sb (i := 1) (by decide)
      simp only [stCF] at z0 z1
      have hlb := World.rowIs.lt hp3.sb
      have HKO := Lib.hid (hp3.koN (n := i) (by show (R.way.kinds.take i).length = i; rw [List.length_take, ← HNL.out.1]; omega))
      have hsz3 := hp3.sz
      clear hst hp3 HRA
      go_wp2_with (first
        | (at_builtin; refine wpList_append_near _ rfl (.tmp 29) (.tmp 31) 32 rfl w.heap.size 3 i0 (.int .i64 0) 1 8 Tryz.underlying32 ih ih0 ih1 ih2 rfl (by decide) k i (kC (partS R.way i 0)) rfl (HKO.out.alloc _) ⟨w2.heap.size, 0, none⟩ 1 1 [.int .i64 kv] rfl (by decide) rfl (cell_one_new _ _ _) (by intro u hu; simp at hu; subst hu; rfl) (by unfold maxLen; omega) (by omega) (by simp; omega) ?_; intro g2 c2 w3 hown hgr hnear; have hsb := HP3.out.sbK hgr; clear z0 z1; have z0 := World.rowIs.cell hsb (i := 0) (by decide); have z1 := World.rowIs.cell hsb (i := 1) (by decide); simp only [stCF] at z0 z1; have zf := World.rowIs.frozen hsb 0; have HA := Lib.hid (HP3.out.appK (R.way.kinds.take (i + 1)) (n := i + 1) (by rw [List.length_take, ← HNL.out.1]; omega) (by rw [← HKI.out.1]; exact hown) hgr hnear); have HRO := Lib.hid (HA.out.roN (n := i) (by show (R.way.rooms.take i).length = i; rw [List.length_take, HNL.out.2, ← HNL.out.1]; omega)); have hsz4 := HA.out.sz; clear hown hgr hnear hsb)
        | (at_builtin; refine wpList_append_near _ rfl (.tmp 35) (.tmp 37) 33 rfl w.heap.size 9 j0 (.string ⟨#[]⟩) 1 16 Tryz.underlying33 jh jh0 jh1 jh2 rfl (by decide) r i (rC (partS R.way i 0)) rfl (HRO.out.alloc _) ⟨w3.heap.size, 0, none⟩ 1 1 [.string rv] rfl (by decide) rfl (cell_set_new w3 _ _ _ _) (by intro u hu; simp at hu; subst hu; rfl) (by unfold maxLen; omega) (by omega) (by simp [World.setCell] at hsz4 ⊢; omega) ?_; intro g3 c3 w4 hown hgr hnear; have hsb := HA.out.sbR hgr; clear z0 z1 zf; have z1 := World.rowIs.cell hsb (i := 1) (by decide); simp only [stCF] at z1; have zf := World.rowIs.frozen hsb 1; have HB := Lib.hid (HA.out.appR (R.way.rooms.take (i + 1)) (n := i + 1) (by rw [List.length_take, HNL.out.2, ← HNL.out.1]; omega) (by rw [← HKI.out.2]; exact hown) hgr hnear); clear hown hgr hnear hsb))
      go_roundw
      case rel => exact ⟨i + 1, by omega, by go_num, _, _, _, _, by omega, HB.out⟩
      case measure => simp [intOf]; omega
    · obtain rfl : i = n := by omega
      go_wp2_with fail
      refine HC.out.mono ?_
      rintro e w1 ⟨rfl, hst⟩
      obtain ⟨FP2, hp2⟩ := HP.out.step hst
      have HP2 := Lib.hid hp2
      clear hst hp2 HC
      go_wp2_with fail
      go_loopw [9, 10, 11] (fun v9 v10 v11 wr => ∃ j : Nat, j ≤ 8 ∧ v9 = .int .i64 j ∧ ∃ FP1 K2, K2 ≤ K + 10 * i + 2 + 10 * j ∧ TldP w wr b d lb pb hb FD FP FP1 K2 k r M (partS R.way i j)) (fun v9 _ _ _ => 8 - (intOf v9).toNat)
      case atStart => exact ⟨0, Nat.zero_le _, rfl, _, _, by omega, HP2.out⟩
      case round =>
        obtain ⟨j, hj, rfl, FP3, K2, hK2, hp⟩ := hrel
        have HP3 := Lib.hid hp
        by_cases hlt8 : j < 8
        · have HRA := Lib.hid (Root_any hp.pin (by omega) (j : Int))
          rw [HRT.out j hlt8] at HRA
          have hpx := HPX.out j hlt8
          rw [← HNL.out.1] at hpx
          generalize R.way.roots.getD j 0 = x at HRA hpx
          have HX := Lib.hid hpx
          have hj8 : (j : Int) < 8 := by omega
          clear hp hpx
          go_wp2_with fail
          refine HRA.out.mono ?_
          rintro e w3 ⟨rfl, hst⟩
          obtain ⟨FP4, hp4⟩ := HP3.out.step hst
          have HP4 := Lib.hid hp4
          have zc := World.rowIs.cell hp4.sb (i := 3 + j) (by omega)
          have zf := World.rowIs.frozen hp4.sb (3 + j)
          generalize stCF k r (.slice none 0 0) (partS R.way i j) (3 + j) = v0 at zc
          clear hst hp4 HRA
          go_wp2_with fail
          have hp5 := HP4.out.root (s' := partS R.way i (j + 1)) j x rfl rfl rfl HX.out hlt8
          have HP5 := Lib.hid hp5
          clear hp5 zc zf
          go_roundw
          case rel => exact ⟨j + 1, by omega, by go_num, _, _, by omega, HP5.out⟩
          case measure => simp [intOf]; omega
        · obtain rfl : j = 8 := by omega
          have hpa := HPA.out
          rw [← HNL.out.1] at hpa
          rw [hpa] at hp
          have hst := hp.st
          obtain ⟨a1, c1, rfl⟩ := hst.kf
          obtain ⟨a2, c2, rfl⟩ := hst.rf
          have z0 := World.rowIs.cell hp.sb (i := 0) (by decide)
          have z1 := World.rowIs.cell hp.sb (i := 1) (by decide)
          have z2 := World.rowIs.cell hp.sb (i := 2) (by decide)
          have z3 := World.rowIs.cell hp.sb (i := 3) (by decide)
          have z4 := World.rowIs.cell hp.sb (i := 4) (by decide)
          have z5 := World.rowIs.cell hp.sb (i := 5) (by decide)
          have z6 := World.rowIs.cell hp.sb (i := 6) (by decide)
          have z7 := World.rowIs.cell hp.sb (i := 7) (by decide)
          have z8 := World.rowIs.cell hp.sb (i := 8) (by decide)
          have z9 := World.rowIs.cell hp.sb (i := 9) (by decide)
          have z10 := World.rowIs.cell hp.sb (i := 10) (by decide)
          simp only [stCF, x8] at z0 z1 z2 z3 z4 z5 z6 z7 z8 z9 z10
          have hv2 : ∀ k r f : Value, stV k r f R.way = .agg #[k, r, f, .int .u64 (R.way.roots.getD 0 0), .int .u64 (R.way.roots.getD 1 0), .int .u64 (R.way.roots.getD 2 0), .int .u64 (R.way.roots.getD 3 0), .int .u64 (R.way.roots.getD 4 0), .int .u64 (R.way.roots.getD 5 0), .int .u64 (R.way.roots.getD 6 0), .int .u64 (R.way.roots.getD 7 0)] := fun _ _ _ => rfl
          generalize R.way.roots.getD 0 0 = y0 at hv2 z3
          generalize R.way.roots.getD 1 0 = y1 at hv2 z4
          generalize R.way.roots.getD 2 0 = y2 at hv2 z5
          generalize R.way.roots.getD 3 0 = y3 at hv2 z6
          generalize R.way.roots.getD 4 0 = y4 at hv2 z7
          generalize R.way.roots.getD 5 0 = y5 at hv2 z8
          generalize R.way.roots.getD 6 0 = y6 at hv2 z9
          generalize R.way.roots.getD 7 0 = y7 at hv2 z10
          have HV := Lib.hid hv2
          have HF := Lib.hid hp
          clear hp hst hv2 hpa
          go_wp2_with (refine wpList_store_at rfl 37 (.tmp 2) (.tmp 57) rfl w.heap.size 0 11 #[.slice a1 R.way.kinds.length c1, .slice a2 R.way.rooms.length c2, .slice none 0 0, .int .u64 y0, .int .u64 y1, .int .u64 y2, .int .u64 y3, .int .u64 y4, .int .u64 y5, .int .u64 y6, .int .u64 y7] rfl rfl 37 _ HF.out.rb Tryz.sizeState (show 0 + 11 ≤ 11 by decide) (by simp [Value.oneCell']) ?_; intro w5 hr5 ht5; have HR5 := Lib.hid hr5; have HT5 := Lib.hid ht5; clear hr5 ht5)
          refine bodyPost_ret_by (v := .tuple #[.agg #[.slice a1 R.way.kinds.length c1, .slice a2 R.way.rooms.length c2, .slice none 0 0, .int .u64 y0, .int .u64 y1, .int .u64 y2, .int .u64 y3, .int .u64 y4, .int .u64 y5, .int .u64 y6, .int .u64 y7], .bool true]) (res_state2 Tryz.results12 rfl HR5.out rfl) rfl ?_
          refine ⟨_, _, by rw [HV.out], FP3, ?_⟩
          obtain ⟨l1, l2, l3, l4⟩ := HF.out.lt0
          have hne : ∀ y, y < w.heap.size → y ∉ [w.heap.size] := fun y hy hm => by
            have e : y = w.heap.size := by simpa using hm
            omega
          refine ⟨(HF.out.pin.mono (by omega)).touch HT5.out (hne _ l1) (hne _ l2) (hne _ l3) (fun y hy => hne _ (l4 y hy)) (fun y hy hm => ?_), HF.out.t.trans HT5.out (fun y hy => ?_), HF.out.fp, HF.out.st.touch HT5.out (fun y hy hm => ?_), HF.out.o3⟩
          · have e : y = w.heap.size := by simpa using hm
            subst e
            exact HF.out.o1 hy
          · have e : y = w.heap.size := by simpa using hy
            exact .inr (by omega)
          · have e : y = w.heap.size := by simpa using hm
            subst e
            exact HF.out.n1 hy
end
end Go.Proofs.YtpaholkmlfaflaaGreatDoor

namespace Go.Proofs.YtpaholkmlfaflaaGreatDoor
set_option linter.unusedVariables false
theorem all_range_ints : ∀ (xs ys : List Int), xs.length = ys.length → ((List.range xs.length).all fun i => xs.getD i 0 == ys.getD i 0) = (xs == ys)
  | [], [], _ => rfl
  | x :: xs, y :: ys, h => by
    have ih := all_range_ints xs ys (by simpa using h)
    rw [List.length_cons, List.range_succ_eq_map, List.all_cons, List.all_map]
    simp only [List.getD_cons_zero, Function.comp_def, List.getD_cons_succ, ih]
    simp [List.cons_beq_cons]
  | [], _ :: _, h => by simp at h
  | _ :: _, [], h => by simp at h
section
variable {P : Program} (w : World)
theorem equalIn_ints (d : Nat) (t e : TypeId) (n : Nat) (q : IntKind) (ht : P.underlying t = some (.array n e)) (he : P.underlying e = some (.int q)) (hsz : ∀ w, (sizeOf e).run P w = .ok 1 w)
    (xs ys : List Int) (hx : xs.length = n) (hy : ys.length = n) :
    (Op.equalIn (d + 2) t (.agg (xs.map (Value.int q)).toArray) (.agg (ys.map (Value.int q)).toArray)).run P w = .ok (xs == ys) w := by
  rw [← all_range_ints xs ys (hx.trans hy.symm), hx, List.range_eq_range', Op.equalIn]
  simp only [Sem.run_bind, run_underlying ht, Result.andThen_ok, hsz, Std.Legacy.Range.forIn_eq_forIn_range', Std.Legacy.Range.size, Nat.sub_zero, Nat.add_sub_cancel, Nat.div_one]
  have hl : ∀ i ∈ List.range' 0 n 1, i < n := fun i hi => by simpa using (List.mem_range'_1.1 hi).2
  generalize List.range' 0 n 1 = l at hl ⊢
  induction l with
  | nil => simp
  | cons i l ih =>
    have hi : i < n := hl i (by simp)
    have px : (part e (xs.map (Value.int q)).toArray (i * 1)).run P w = .ok (.int q (xs.getD i 0)) w := by
      simp [part, isAgg, run_underlying he, List.getD, List.getElem?_eq_getElem (show i < xs.length by omega)]
    have py : (part e (ys.map (Value.int q)).toArray (i * 1)).run P w = .ok (.int q (ys.getD i 0)) w := by
      simp [part, isAgg, run_underlying he, List.getD, List.getElem?_eq_getElem (show i < ys.length by omega)]
    have pe : (Op.equalIn (d + 1) e (.int q (xs.getD i 0)) (.int q (ys.getD i 0))).run P w = .ok (xs.getD i 0 == ys.getD i 0) w := run_equalIn_int w d e q q _ _ he
    simp only [List.forIn_cons, Sem.run_bind, px, py, pe, Result.andThen_ok, List.all_cons]
    cases hb : (xs.getD i 0 == ys.getD i 0)
    · simp
    · simp only [Bool.not_true, Bool.false_eq_true, if_false, Sem.run_pure, Result.andThen_ok, Bool.true_and]
      exact ih fun j hj => hl j (by simp [hj])
theorem eql_ints (t e : TypeId) (n : Nat) (q : IntKind) (ht : P.underlying t = some (.array n e)) (he : P.underlying e = some (.int q)) (hsz : ∀ w, (sizeOf e).run P w = .ok 1 w)
    (xs ys : List Int) (hx : xs.length = n) (hy : ys.length = n) :
    (binOp .eql t (.agg (xs.map (Value.int q)).toArray) (.agg (ys.map (Value.int q)).toArray)).run P w = .ok (.bool (xs == ys)) w := by
  rw [run_eql_struct, equalIn_ints w 9998 t e n q ht he hsz xs ys hx hy]
  rfl
end
end Go.Proofs.YtpaholkmlfaflaaGreatDoor

namespace Go.Proofs.YtpaholkmlfaflaaGreatDoor
open Go.RowKit Go.Joins
set_option linter.unusedVariables false
theorem neq_of_eql {P : Program} {t : TypeId} {xs ys : Array Value} {v : Bool} {w : World} (h : (binOp .eql t (.agg xs) (.agg ys)).run P w = .ok (.bool v) w) : (binOp .neq t (.agg xs) (.agg ys)).run P w = .ok (.bool (!v)) w := by
  rw [run_eql_struct] at h
  rw [run_neq_struct]
  generalize (Op.equalIn 10000 t (.agg xs) (.agg ys)).run P w = r at h ⊢
  cases r with
  | ok b w' =>
    simp only [Result.andThen_ok] at h ⊢
    injection h with h1 h2
    injection h1 with h1
    rw [h1, h2]
  | halt x w' => simp [Result.andThen] at h
theorem neq8 (y0 y1 y2 y3 y4 y5 y6 y7 : Int) (w : World) : (binOp .neq 35 (.agg #[.int .u64 y0, .int .u64 y1, .int .u64 y2, .int .u64 y3, .int .u64 y4, .int .u64 y5, .int .u64 y6, .int .u64 y7]) (.agg #[.int .u64 y0, .int .u64 y1, .int .u64 y2, .int .u64 y3, .int .u64 y4, .int .u64 y5, .int .u64 y6, .int .u64 y7])).run Tryz.prog w = .ok (.bool false) w := by
  have h := eql_ints (P := Tryz.prog) w 35 34 8 .u64 Tryz.underlying35 Tryz.underlying34 (fun _ => by kernel_rfl) [y0, y1, y2, y3, y4, y5, y6, y7] [y0, y1, y2, y3, y4, y5, y6, y7] rfl rfl
  rw [beq_self_eq_true] at h
  exact neq_of_eql h
structure SmL (w wr : World) (k1 r1 k2 r2 : Value) : Prop where
  below : Below w.heap.size w wr
  q1 : wr.cell? ⟨w.heap.size, 0, none⟩ = some k1
  q2 : wr.cell? ⟨w.heap.size, 1, none⟩ = some r1
  q3 : wr.cell? ⟨w.heap.size + 1, 0, none⟩ = some k2
  q4 : wr.cell? ⟨w.heap.size + 1, 1, none⟩ = some r2
section
variable {w w' : World} {B1 B2 : Nat} {k1 r1 f1 k2 r2 f2 : Value} {s1 s2 : SM}
set_option maxRecDepth 100000 in
set_option maxHeartbeats 1000000 in
theorem same11_any (h1 : StRow w B1 k1 r1 f1 s1) (h2 : StRow w B2 k2 r2 f2 s2) (ek : s1.kinds = s2.kinds) (er : s1.rooms = s2.rooms) (ex : s1.roots = s2.roots) (hl : s2.rooms.length = s2.kinds.length) (h0 : 1 ≤ s2.kinds.length) (hm : s2.kinds.length ≤ 1000000) :
    Calls Tryz.prog 13 #[stV k1 r1 f1 s1, stV k2 r2 f2 s2] w fun e w' => e = .returned (.bool true) ∧ Below w.heap.size w w' := by
  have hk1 := h1.ko
  have hr1 := h1.ro
  have hk2 := h2.ko
  have hr2 := h2.ro
  rw [kC, ek] at hk1
  rw [rC, er] at hr1
  rw [hl] at hr1 hr2
  obtain ⟨g1, c1, rfl⟩ := ownsRow_form hk1 h0
  obtain ⟨g2, c2, rfl⟩ := ownsRow_form hr1 h0
  obtain ⟨g3, c3, rfl⟩ := ownsRow_form hk2 h0
  obtain ⟨g4, c4, rfl⟩ := ownsRow_form hr2 h0
  have hv : ∀ k r f : Value, stV k r f s1 = stV k r f s2 := fun _ _ _ => by unfold stV x8; rw [ex]
  rw [hv]
  have hv2 : ∀ k r f : Value, stV k r f s2 = .agg #[k, r, f, .int .u64 (s2.roots.getD 0 0), .int .u64 (s2.roots.getD 1 0), .int .u64 (s2.roots.getD 2 0), .int .u64 (s2.roots.getD 3 0), .int .u64 (s2.roots.getD 4 0), .int .u64 (s2.roots.getD 5 0), .int .u64 (s2.roots.getD 6 0), .int .u64 (s2.roots.getD 7 0)] := fun _ _ _ => rfl
  rw [hv2, hv2]
  obtain ⟨n, hn⟩ : ∃ n, n = s2.kinds.length := ⟨_, rfl⟩
  have hkc : ∀ i, i < n → w.cell? ⟨g1, i, none⟩ = some (.int .i64 (s2.kinds.getD i 0)) ∧ w.cell? ⟨g3, i, none⟩ = some (.int .i64 (s2.kinds.getD i 0)) ∧ w.cell? ⟨g2, i, none⟩ = some (.string (s2.rooms.getD i ⟨#[]⟩)) ∧ w.cell? ⟨g4, i, none⟩ = some (.string (s2.rooms.getD i ⟨#[]⟩)) := fun i hi => by
    have a1 : i < s2.kinds.length := by omega
    have a2 : i < s2.rooms.length := by omega
    refine ⟨?_, ?_, ?_, ?_⟩
    · rw [hk1.cellAt i (by omega), List.getElem?_map, List.getD_eq_getElem?_getD, List.getElem?_eq_getElem a1]; rfl
    · rw [hk2.cellAt i (by omega), kC, List.getElem?_map, List.getD_eq_getElem?_getD, List.getElem?_eq_getElem a1]; rfl
    · rw [hr1.cellAt i (by omega), List.getElem?_map, List.getD_eq_getElem?_getD, List.getElem?_eq_getElem a2]; rfl
    · rw [hr2.cellAt i (by omega), rC, List.getElem?_map, List.getD_eq_getElem?_getD, List.getElem?_eq_getElem a2]; rfl
  have HC := Lib.hid hkc
  have HLT := Lib.hid (And.intro (hk1.lt g1 rfl).2 (And.intro (hr1.lt g2 rfl).2 (And.intro (hk2.lt g3 rfl).2 (hr2.lt g4 rfl).2)))
  rw [← hn] at h0 hm ⊢
  generalize s2.roots.getD 0 0 = y0
  generalize s2.roots.getD 1 0 = y1
  generalize s2.roots.getD 2 0 = y2
  generalize s2.roots.getD 3 0 = y3
  generalize s2.roots.getD 4 0 = y4
  generalize s2.roots.getD 5 0 = y5
  generalize s2.roots.getD 6 0 = y6
  generalize s2.roots.getD 7 0 = y7
  clear h1 h2 hk1 hr1 hk2 hr2 ek er ex hv hv2 hkc hn hl
  go_enter Tryz.func13, Tryz.ntmps13
  have hne := neq8 y0 y1 y2 y3 y4 y5 y6 y7
  go_wp2_with fail
  go_loopw [5] (fun v5 wr => ∃ i : Nat, i ≤ n ∧ v5 = .int .i64 i ∧ SmL w wr (.slice (some ⟨g1, 0, none⟩) n c1) (.slice (some ⟨g2, 0, none⟩) n c2) (.slice (some ⟨g3, 0, none⟩) n c3) (.slice (some ⟨g4, 0, none⟩) n c4)) (fun v5 _ => n - (intOf v5).toNat)
  case atStart => exact ⟨0, Nat.zero_le _, rfl, below_alloc (below_alloc (Below.refl _ _)), by simp, by simp, by simp, by simp⟩
  case round =>
    obtain ⟨i, hi, rfl, hm⟩ := hrel
    have HM := Lib.hid hm
    have q1 := hm.q1
    have q2 := hm.q2
    have q3 := hm.q3
    have q4 := hm.q4
    by_cases hlt : i < n
    · obtain ⟨a1, a2, a3, a4⟩ := HC.out i hlt
      have a1 := (hm.below.cell (p := ⟨g1, i, none⟩) HLT.out.1).trans a1
      have a2 := (hm.below.cell (p := ⟨g3, i, none⟩) HLT.out.2.2.1).trans a2
      have a3 := (hm.below.cell (p := ⟨g2, i, none⟩) HLT.out.2.1).trans a3
      have a4 := (hm.below.cell (p := ⟨g4, i, none⟩) HLT.out.2.2.2).trans a4
      generalize s2.kinds.getD i 0 = x at a1 a2
      generalize s2.rooms.getD i ⟨#[]⟩ = z at a3 a4
      have hll : (i : Int) < n := by omega
      clear hm
      go_wp2_with fail
      go_quiet (fail)
      go_wp2_with fail
      go_roundw
      case rel => exact ⟨i + 1, by omega, by go_num, below_drewN HM.out.below _, q1, q2, q3, q4⟩
      case measure => simp [intOf]; omega
    · obtain rfl : i = n := by omega
      clear hm
      go_wp2_with fail
      go_ret
      exact ⟨rfl, HM.out.below⟩
end
end Go.Proofs.YtpaholkmlfaflaaGreatDoor

namespace Go.Proofs.YtpaholkmlfaflaaGreatDoor
open Go.RowKit Go.Joins
set_option linter.unusedVariables false
section
variable {w w' W : World}
/-- What New leaves. -/
def NewRm (w w' : World) (v : Value) (R : RM) : Prop := ∃ b F, v = .pointer (some ⟨b, 0, none⟩) ∧ IsRm w' b F R ∧ Below w.heap.size w w' ∧ ∀ x ∈ F, w.heap.size ≤ x
theorem new_row (w : World) : StRow ((w.alloc (.cells #[.int .i64 1] 3)).alloc (.cells #[.string ⟨#[]⟩] 9)) 0 (.slice (some ⟨w.heap.size, 0, none⟩) 1 1) (.slice (some ⟨w.heap.size + 1, 0, none⟩) 1 1) (.slice none 0 0) ⟨[1], [⟨#[]⟩], [], List.replicate 8 0⟩ := by
  have e1 : ∀ o : Obj, (w.alloc o).heap.size = w.heap.size + 1 := fun _ => by simp
  have h1 := World.ownsRow_lit (base := 0) (e := 3) (size := 1) w #[.int .i64 1] 1 (Nat.zero_le _) (by decide) rfl
  have h2 := World.ownsRow_lit (base := 0) (e := 9) (size := 1) (w.alloc (.cells #[.int .i64 1] 3)) #[.string ⟨#[]⟩] 1 (Nat.zero_le _) (by decide) rfl
  rw [e1] at h2
  exact ⟨h1.alloc _, h2, World.ownsRow_nil _ _ _ _, by simp [stB, Value.ownBlock]⟩
/-- What the new block and its rows are. -/
theorem new_leaf {W3 : World} {B1 B2 gd most room : Nat} {kS rS kW rW fW : Value} (hs : StRow W3 B1 kS rS (.slice none 0 0) newS) (hw : StRow W3 B2 kW rW fW newS) (hd : W3.ownsRow 0 4 1 (.slice (some ⟨gd, 0, none⟩) most most) most ((List.replicate most false).map Value.bool))
    (sw : ∀ x ∈ stB kS rS (.slice none 0 0), x ∉ stB kW rW fW) (sd : ∀ x ∈ stB kS rS (.slice none 0 0), x ≠ gd) (wd : ∀ x ∈ stB kW rW fW, x ≠ gd) :
    RmAt (W3.alloc (.cells #[.int .i64 most, .int .i64 room, kS, rS, .slice none 0 0, .int .u64 0, .int .u64 0, .int .u64 0, .int .u64 0, .int .u64 0, .int .u64 0, .int .u64 0, .int .u64 0, kW, rW, fW, .int .u64 0, .int .u64 0, .int .u64 0, .int .u64 0, .int .u64 0, .int .u64 0, .int .u64 0, .int .u64 0, .slice (some ⟨gd, 0, none⟩) most most] 43)) W3.heap.size kS rS (.slice none 0 0) kW rW fW (.slice (some ⟨gd, 0, none⟩) most most) (newR most room) := by
  have hdl : gd < W3.heap.size := (hd.lt gd rfl).2
  refine ⟨?_, (hs.base (Nat.zero_le _)).touch (F := []) ((Touch.refl _ _).alloc _) (fun _ _ => by simp), (hw.base (Nat.zero_le _)).touch (F := []) ((Touch.refl _ _).alloc _) (fun _ _ => by simp), ?_, fun hm => ?_, fun hm => ?_, fun hm => ?_, sw, fun x hx hm => ?_, fun x hx hm => ?_⟩
  · refine World.rowIs_alloc W3 _ _ _ (fun i hi => ?_)
    rcases i with _ | _ | _ | _ | _ | _ | _ | _ | _ | _ | _ | _ | _ | _ | _ | _ | _ | _ | _ | _ | _ | _ | _ | _ | _ | i <;> first | rfl | (exfalso; simp at hi; done) | (exfalso; simp at hi; omega)
  · have e : (newR most room).dirty.length = most := by show (List.replicate most false).length = most; simp
    rw [e]
    exact hd.alloc _
  · have := (hs.lt _ hm).2; omega
  · have := (hw.lt _ hm).2; omega
  · have e : W3.heap.size = gd := by simpa [Value.ownBlock] using hm
    omega
  · exact sd x hx (by simpa [Value.ownBlock] using hm)
  · exact wd x hx (by simpa [Value.ownBlock] using hm)
set_option maxRecDepth 100000 in
set_option maxHeartbeats 1000000 in
theorem new11_any (w : World) (most room : Nat) (h1 : 1 ≤ most) (h2 : most ≤ 65536) (h3 : room ≤ 65536) :
    Calls Tryz.prog 14 #[.int .i64 most, .int .i64 room] w fun e w' => ∃ v, e = .returned v ∧ NewRm w w' v (newR most room) := by
  obtain ⟨i0, hi, hz0, hz1, hz2⟩ := info_parts Tryz.infoBoolF
  have hpre := newS_pre most h1
  go_enter Tryz.func14, Tryz.ntmps14
  go_upto_region 2 with fail
  refine wp_name (fun W0 hW => ?_)
  obtain ⟨S0, hS0⟩ : ∃ S0 : SM, S0 = ⟨[1], [⟨#[]⟩], [], List.replicate 8 0⟩ := ⟨_, rfl⟩
  have HB0 := Lib.hid (show Below w.heap.size w W0 by rw [← hW]; exact below_alloc (below_alloc (below_alloc (Below.refl _ _))))
  have HSZ := Lib.hid (show W0.heap.size = w.heap.size + 3 by rw [← hW]; simp)
  have hst0 : StRow W0 0 (.slice (some ⟨w.heap.size, 0, none⟩) 1 1) (.slice (some ⟨w.heap.size + 1, 0, none⟩) 1 1) (.slice none 0 0) S0 := by
    rw [← hW, hS0]
    exact (new_row w).below (below_alloc (Below.refl _ _))
  have ht0 : W0.rowIs (w.heap.size + 1 + 1) 37 11 (stCF (.slice (some ⟨w.heap.size, 0, none⟩) 1 1) (.slice (some ⟨w.heap.size + 1, 0, none⟩) 1 1) (.slice none 0 0) S0) := by
    rw [← hW, hS0]
    have e2 : ∀ o1 o2 : Obj, ((w.alloc o1).alloc o2).heap.size = w.heap.size + 1 + 1 := fun _ _ => by simp
    have h := stCF_new ((w.alloc (.cells #[.int .i64 1] 3)).alloc (.cells #[.string ⟨#[]⟩] 9)) (.slice (some ⟨w.heap.size, 0, none⟩) 1 1) (.slice (some ⟨w.heap.size + 1, 0, none⟩) 1 1) (.slice none 0 0) ⟨[1], [⟨#[]⟩], [], List.replicate 8 0⟩
    rw [e2] at h
    exact h
  have hv : stV (.slice (some ⟨w.heap.size, 0, none⟩) 1 1) (.slice (some ⟨w.heap.size + 1, 0, none⟩) 1 1) (.slice none 0 0) S0 = .agg #[.slice (some ⟨w.heap.size, 0, none⟩) 1 1, .slice (some ⟨w.heap.size + 1, 0, none⟩) 1 1, .slice none 0 0, .int .u64 0, .int .u64 0, .int .u64 0, .int .u64 0, .int .u64 0, .int .u64 0, .int .u64 0, .int .u64 0] := by rw [hS0]; rfl
  have hpre0 : PreOk S0 most := by rw [hS0]; exact hpre
  have hH : ∀ x : Later W0, Calls Tryz.prog 60 #[stV (.slice (some ⟨w.heap.size, 0, none⟩) 1 1) (.slice (some ⟨w.heap.size + 1, 0, none⟩) 1 1) (.slice none 0 0) S0] x.1 fun e w' => e = .returned (.string (headS S0)) ∧ Below x.1.heap.size x.1 w' := fun x =>
    head11_any x.1 (hst0.below x.2) hpre0.r8 hpre0.rb (by rw [hS0]; decide) (by rw [hS0]; decide) (by rw [hS0]; decide) (by rw [hS0]; decide)
  rw [hv] at hH
  have hlt := World.rowIs.lt ht0
  have kk : ∀ {o : Nat} {v : Value}, W0.cell? ⟨w.heap.size + 1 + 1, o, none⟩ = some v → ∀ x : Later W0, x.1.cell? ⟨w.heap.size + 1 + 1, o, none⟩ = some v := fun e x => (x.cell hlt).trans e
  have k0 := kk (World.rowIs.cell ht0 (i := 0) (by decide))
  have k1 := kk (World.rowIs.cell ht0 (i := 1) (by decide))
  have k2 := kk (World.rowIs.cell ht0 (i := 2) (by decide))
  have k3 := kk (World.rowIs.cell ht0 (i := 3) (by decide))
  have k4 := kk (World.rowIs.cell ht0 (i := 4) (by decide))
  have k5 := kk (World.rowIs.cell ht0 (i := 5) (by decide))
  have k6 := kk (World.rowIs.cell ht0 (i := 6) (by decide))
  have k7 := kk (World.rowIs.cell ht0 (i := 7) (by decide))
  have k8 := kk (World.rowIs.cell ht0 (i := 8) (by decide))
  have k9 := kk (World.rowIs.cell ht0 (i := 9) (by decide))
  have k10 := kk (World.rowIs.cell ht0 (i := 10) (by decide))
  have hx : ∀ i, i < 8 → x8 S0 i = .int .u64 0 := fun i hi => by
    rw [hS0]
    rcases i with _ | _ | _ | _ | _ | _ | _ | _ | i <;> first | rfl | (exfalso; omega)
  simp only [stCF] at k0 k1 k2 k3 k4 k5 k6 k7 k8 k9 k10
  rw [hx 0 (by decide)] at k3
  rw [hx 1 (by decide)] at k4
  rw [hx 2 (by decide)] at k5
  rw [hx 3 (by decide)] at k6
  rw [hx 4 (by decide)] at k7
  rw [hx 5 (by decide)] at k8
  rw [hx 6 (by decide)] at k9
  rw [hx 7 (by decide)] at k10
  have HH := Lib.hid hH
  have HS0 := Lib.hid hst0
  have HT0 := Lib.hid ht0
  have HV := Lib.hid hv
  have HX := Lib.hid hx
  have HE := Lib.hid hS0
  have HPRE := Lib.hid hpre0
  clear hW kk hH hst0 ht0 hv hx hS0 hpre hpre0
  refine wp_region_later_tail 5 (by kernel_rfl) (by kernel_rfl) ?_
  simp only [List.take_succ_cons, List.take_zero, List.drop_succ_cons, List.drop_zero]
  repeat (first | go_big_quiet_step ((go_at_call 60; refine Later.call (HH.out _))) | quiet_step ((go_at_call 60; refine Later.call (HH.out _))))
  refine wpQuiet_nil ?_
  rintro w3 ⟨y3, hw3⟩
  have hb3 : Below W0.heap.size W0 w3 := by rw [hw3]; exact y3.2
  have hst3 := HS0.out.below hb3
  have hro3 : w3.ownsRow 0 9 1 (.slice (some ⟨w.heap.size + 1, 0, none⟩) 1 1) 1 [.string ⟨#[]⟩] := by
    have h := hst3.ro
    rw [HE.out] at h
    exact h
  have f3 := hro3.frozenAt 0
  have c3 : w3.cell? ⟨w.heap.size + 1, 0, none⟩ = some (.string ⟨#[]⟩) := hro3.cellAt 0 (by decide)
  have HRO3 := Lib.hid hro3
  have HB3 := Lib.hid hb3
  clear hw3 hb3 hst3 hro3 k0 k1 k2 k3 k4 k5 k6 k7 k8 k9 k10
  go_wp2_with fail
  refine wp_name (fun W1 hW1 => ?_)
  have tb1 : Touch [w.heap.size + 1] w3 W1 := by rw [← hW1]; exact (Touch.refl _ _).setCell (.inl (by simp)) _
  have HT1 := Lib.hid (rowIs_touch (rowIs_touch HT0.out (F := []) (Touch.of_below HB3.out) (by simp)) tb1 (by simp))
  have HB1 := Lib.hid (show Below w.heap.size w W1 from (HB0.out.trans (HB3.out.mono HB0.out.size)).trans (tb1.below (Nat.le_trans HB0.out.size HB3.out.size) (fun x hx => by simp at hx; omega)))
  have hso := HRO3.out.stored 0 (.string (headS S0))
  have HS1 := Lib.hid (show StRow W1 0 (.slice (some ⟨w.heap.size, 0, none⟩) 1 1) (.slice (some ⟨w.heap.size + 1, 0, none⟩) 1 1) (.slice none 0 0) newS from by
    have h := (HS0.out.below HB3.out).newR tb1 (fun x hx => .inl (by simpa [Value.ownBlock] using hx)) (l := [headS S0]) (r' := .slice (some ⟨w.heap.size + 1, 0, none⟩) 1 1) (by rw [← hW1]; exact hso.1) (fun x hx => .inl hx)
    rw [HE.out] at h
    exact h)
  clear hW1 tb1 hso c3 f3
  have hlt1 := World.rowIs.lt HT1.out
  have u0 := World.rowIs.cell HT1.out (i := 0) (by decide)
  have u1 := World.rowIs.cell HT1.out (i := 1) (by decide)
  have u2 := World.rowIs.cell HT1.out (i := 2) (by decide)
  have u3 := World.rowIs.cell HT1.out (i := 3) (by decide)
  have u4 := World.rowIs.cell HT1.out (i := 4) (by decide)
  have u5 := World.rowIs.cell HT1.out (i := 5) (by decide)
  have u6 := World.rowIs.cell HT1.out (i := 6) (by decide)
  have u7 := World.rowIs.cell HT1.out (i := 7) (by decide)
  have u8 := World.rowIs.cell HT1.out (i := 8) (by decide)
  have u9 := World.rowIs.cell HT1.out (i := 9) (by decide)
  have u10 := World.rowIs.cell HT1.out (i := 10) (by decide)
  simp only [stCF] at u0 u1 u2 u3 u4 u5 u6 u7 u8 u9 u10
  rw [HX.out 0 (by decide)] at u3
  rw [HX.out 1 (by decide)] at u4
  rw [HX.out 2 (by decide)] at u5
  rw [HX.out 3 (by decide)] at u6
  rw [HX.out 4 (by decide)] at u7
  rw [HX.out 5 (by decide)] at u8
  rw [HX.out 6 (by decide)] at u9
  rw [HX.out 7 (by decide)] at u10
  have hv1 : ∀ k r f : Value, stV k r f newS = .agg #[k, r, f, .int .u64 0, .int .u64 0, .int .u64 0, .int .u64 0, .int .u64 0, .int .u64 0, .int .u64 0, .int .u64 0] := fun _ _ _ => rfl
  have hcp := fun W (hb : Below W1.heap.size W1 W) => copied11_any W (HS1.out.below hb) (by decide) (by decide) (by decide) (by decide) (by decide)
  simp only [hv1] at hcp
  have HCP := Lib.hid hcp
  have HV1 := Lib.hid hv1
  clear hcp hv1
  obtain ⟨C, hC⟩ : ∃ C, C = madeCells (Value.bool false).cells (most * 1) := ⟨_, rfl⟩
  have hmk : ∀ W : World, (Instr.makeSlice 41 (.int .i64 most) (.int .i64 most)).run Tryz.prog W = .ok (.slice (some ⟨W.heap.size, 0, none⟩) most most) (W.alloc (.cells C 4)) := fun W => by
    have h := run_make (P := Tryz.prog) W 41 4 i0 (.bool false) Tryz.underlying41 hi hz0 .i64 .i64 most most (by omega) (Int.le_refl _) (by rw [hz2]; omega) (by omega)
    simp only [Int.toNat_natCast] at h
    rw [hz1, ← hC] at h
    exact h
  have HCC := Lib.hid hC
  clear hC
  have HCS := Lib.hid (show ∀ w', Below W1.heap.size W1 w' → w'.cell? ⟨w.heap.size + 1 + 1, 0, none⟩ = some (.slice (some ⟨w.heap.size, 0, none⟩) 1 1) ∧ w'.cell? ⟨w.heap.size + 1 + 1, 1, none⟩ = some (.slice (some ⟨w.heap.size + 1, 0, none⟩) 1 1) ∧ w'.cell? ⟨w.heap.size + 1 + 1, 2, none⟩ = some (.slice none 0 0) ∧ w'.cell? ⟨w.heap.size + 1 + 1, 3, none⟩ = some (.int .u64 0) ∧ w'.cell? ⟨w.heap.size + 1 + 1, 4, none⟩ = some (.int .u64 0) ∧ w'.cell? ⟨w.heap.size + 1 + 1, 5, none⟩ = some (.int .u64 0) ∧ w'.cell? ⟨w.heap.size + 1 + 1, 6, none⟩ = some (.int .u64 0) ∧ w'.cell? ⟨w.heap.size + 1 + 1, 7, none⟩ = some (.int .u64 0) ∧ w'.cell? ⟨w.heap.size + 1 + 1, 8, none⟩ = some (.int .u64 0) ∧ w'.cell? ⟨w.heap.size + 1 + 1, 9, none⟩ = some (.int .u64 0) ∧ w'.cell? ⟨w.heap.size + 1 + 1, 10, none⟩ = some (.int .u64 0) from fun w' hb => by
    have kk : ∀ {o : Nat} {v : Value}, W1.cell? ⟨w.heap.size + 1 + 1, o, none⟩ = some v → w'.cell? ⟨w.heap.size + 1 + 1, o, none⟩ = some v := fun e => (hb.cell (p := ⟨w.heap.size + 1 + 1, _, none⟩) hlt1).trans e
    exact ⟨kk u0, kk u1, kk u2, kk u3, kk u4, kk u5, kk u6, kk u7, kk u8, kk u9, kk u10⟩)
  clear u0 u1 u2 u3 u4 u5 u6 u7 u8 u9 u10
  go_region_held3 (fun w' => w'.cell? ⟨w.heap.size + 1 + 1, 0, none⟩ = some (.slice (some ⟨w.heap.size, 0, none⟩) 1 1) ∧ w'.cell? ⟨w.heap.size + 1 + 1, 1, none⟩ = some (.slice (some ⟨w.heap.size + 1, 0, none⟩) 1 1) ∧ w'.cell? ⟨w.heap.size + 1 + 1, 2, none⟩ = some (.slice none 0 0) ∧ w'.cell? ⟨w.heap.size + 1 + 1, 3, none⟩ = some (.int .u64 0) ∧ w'.cell? ⟨w.heap.size + 1 + 1, 4, none⟩ = some (.int .u64 0) ∧ w'.cell? ⟨w.heap.size + 1 + 1, 5, none⟩ = some (.int .u64 0) ∧ w'.cell? ⟨w.heap.size + 1 + 1, 6, none⟩ = some (.int .u64 0) ∧ w'.cell? ⟨w.heap.size + 1 + 1, 7, none⟩ = some (.int .u64 0) ∧ w'.cell? ⟨w.heap.size + 1 + 1, 8, none⟩ = some (.int .u64 0) ∧ w'.cell? ⟨w.heap.size + 1 + 1, 9, none⟩ = some (.int .u64 0) ∧ w'.cell? ⟨w.heap.size + 1 + 1, 10, none⟩ = some (.int .u64 0))
    (exact HCS.out _ (by repeat (first | exact HB5.out | exact Below.refl _ _ | refine below_drew ?_ | refine below_alloc ?_)))
    ((go_at_call 61; refine (HCP.out _ (by repeat (first | exact HB5.out | exact Below.refl _ _ | refine below_drew ?_ | refine below_alloc ?_))).mono ?_; rintro e w5 ⟨k', r', f', rfl, hst, hb⟩; have HB5 := Lib.hid (show Below W1.heap.size W1 w5 from below_step hb (by repeat (first | exact HB5.out | exact Below.refl _ _ | refine below_drew ?_ | refine below_alloc ?_))); have HST5 := Lib.hid (And.intro hst hb); clear hst hb))
  all_goals (clear hmk; go_wp2_with fail; go_ret)
  · obtain ⟨hst, hb⟩ := HST5.out
    have hsz1 : W1.heap.size ≤ w5.heap.size := HB5.out.size
    have hmk := World.ownsRow_lit (base := 0) (e := 4) (size := 1) w5 C most (Nat.zero_le _) (by unfold maxLen; omega) (by rw [HCC.out]; simp [madeCells])
    rw [HCC.out, flags_list, ← HCC.out] at hmk
    have hS5 := (HS1.out.below HB5.out).touch (F := []) ((Touch.refl _ _).alloc (.cells C 4)) (fun _ _ => by simp)
    have hW5 := hst.touch (F := []) ((Touch.refl _ _).alloc (.cells C 4)) (fun _ _ => by simp)
    have hlS : ∀ x ∈ stB (.slice (some ⟨w.heap.size, 0, none⟩) 1 1) (.slice (some ⟨w.heap.size + 1, 0, none⟩) 1 1) (.slice none 0 0), w.heap.size ≤ x ∧ x < W1.heap.size := fun x hx => ⟨by simp [stB, Value.ownBlock] at hx; omega, (HS1.out.lt x hx).2⟩
    have hlW : ∀ x ∈ stB k' r' f', W1.heap.size ≤ x ∧ x < w5.heap.size := fun x hx => hst.lt x hx
    have hw1 := HB1.out.size
    have hleaf := new_leaf (room := room) hS5 hW5 hmk (fun x hx hm => by have := hlS x hx; have := hlW x hm; omega) (fun x hx => by have := hlS x hx; omega) (fun x hx => by have := hlW x hx; omega)
    have e : (w5.alloc (.cells C 4)).heap.size = w5.heap.size + 1 := by simp
    rw [e] at hleaf
    refine ⟨_, rfl, _, _, rfl, ⟨_, _, _, _, _, _, _, hleaf, rfl⟩, below_alloc (below_alloc (below_step HB5.out HB1.out)), fun x hx => ?_⟩
    simp only [rmB, List.mem_cons, List.mem_append] at hx
    rcases hx with rfl | hx | hx | hx
    · omega
    · exact (hlS x hx).1
    · have := hlW x hx; omega
    · have e : x = w5.heap.size := by simpa [Value.ownBlock] using hx
      omega
  · obtain ⟨hst, hb⟩ := HST5.out
    have e0 : (W1.alloc (.cells C 4)).drew.heap.size = W1.heap.size + 1 := by simp
    rw [e0] at hst hb
    have hsz1 := hb.size
    rw [e0] at hsz1
    have hmk0 := World.ownsRow_lit (base := 0) (e := 4) (size := 1) W1 C most (Nat.zero_le _) (by unfold maxLen; omega) (by rw [HCC.out]; simp [madeCells])
    rw [HCC.out, flags_list, ← HCC.out] at hmk0
    have hmk : w5.ownsRow 0 4 1 (.slice (some ⟨W1.heap.size, 0, none⟩) most most) most ((List.replicate most false).map Value.bool) := ownsRow_touch (World.ownsRow.drew hmk0) (F := []) (Touch.of_below (by rw [e0]; exact hb)) (by simp)
    have hS5 := HS1.out.below HB5.out
    have hlS : ∀ x ∈ stB (.slice (some ⟨w.heap.size, 0, none⟩) 1 1) (.slice (some ⟨w.heap.size + 1, 0, none⟩) 1 1) (.slice none 0 0), w.heap.size ≤ x ∧ x < W1.heap.size := fun x hx => ⟨by simp [stB, Value.ownBlock] at hx; omega, (HS1.out.lt x hx).2⟩
    have hlW : ∀ x ∈ stB k' r' f', W1.heap.size + 1 ≤ x ∧ x < w5.heap.size := fun x hx => hst.lt x hx
    have hw1 := HB1.out.size
    have hleaf := new_leaf (room := room) hS5 hst hmk (fun x hx hm => by have := hlS x hx; have := hlW x hm; omega) (fun x hx => by have := hlS x hx; omega) (fun x hx => by have := hlW x hx; omega)
    refine ⟨_, rfl, _, _, rfl, ⟨_, _, _, _, _, _, _, hleaf, rfl⟩, below_alloc (below_step HB5.out HB1.out), fun x hx => ?_⟩
    simp only [rmB, List.mem_cons, List.mem_append] at hx
    rcases hx with rfl | hx | hx | hx
    · omega
    · exact (hlS x hx).1
    · have := hlW x hx; omega
    · have e : x = W1.heap.size := by simpa [Value.ownBlock] using hx
      omega
end
end Go.Proofs.YtpaholkmlfaflaaGreatDoor

