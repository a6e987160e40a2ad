/- Lemmas on the way to the statement: PagerC, PagerD, PagerE. -/
import Derived.Test.YtpaholkmlfaflaaGreatDoorJ7
namespace Go.Proofs.YtpaholkmlfaflaaGreatDoor
open Go.RowKit Go.Maps Go.Joins
set_option linter.unusedVariables false
/-- What becomes of a pager. -/
def PgGo (w w' : World) (b d lb pb hb : Nat) (FD FP : List Nat) (K k : Nat) (M : PM) : Prop := ∃ FD' FP', PgIn w' b d lb pb hb FD' FP' K k M ∧ Touch (b :: lb :: hb :: (FD ++ FP)) w w' ∧ (∀ x ∈ FD', x ∈ FD ∨ w.heap.size ≤ x) ∧ ∀ x ∈ FP', x ∈ FP ∨ w.heap.size ≤ x
/-- The dirty pages' texts. -/
def dText (M : PM) (no : Int) : ByteArray := (M.dirty no).getD ⟨#[]⟩
theorem dirtyPages_eq (M : PM) : dirtyPages M = (dirtyL M).map (dText M) := rfl
theorem dirtyL_len (M : PM) : (dirtyL M).length = cntD M := keysI_length _ _
theorem dirtyL_mem (M : PM) (x : Int) : x ∈ dirtyL M ↔ 0 ≤ x ∧ x < 100000 ∧ (M.dirty x).isSome = true := keysI_mem (fun i => (M.dirty i).isSome) 100000 x
/-- Pages are gathered. -/
structure GaLoop (w2 : World) (b d lb pb hb : Nat) (FD FP : List Nat) (K k : Nat) (M : PM) (L : List Int) (v4 v : Value) (wr : World) : Prop where
  ex : ∃ (j : Nat) (F1 : List Nat), j ≤ L.length ∧ v = .int .i64 j ∧ PgIn wr b d lb pb hb FD F1 (K + j) k M ∧ Touch FP w2 wr ∧ (∀ x ∈ F1, x ∈ FP ∨ w2.heap.size ≤ x) ∧ wr.ownsRow w2.heap.size 9 1 v4 j (((L.take j).map (dText M)).map Value.string) ∧ ∀ q, v4.ownBlock = some q → q ∉ F1
/-- The pager is dead. -/
theorem PgIn.died {w : World} {b d lb pb hb K k : Nat} {FD FP : List Nat} {M : PM} (h : PgIn w b d lb pb hb FD FP K k M) (v : Bool) : PgIn (w.setCell ⟨b, 7, none⟩ (.bool v)) b d lb pb hb FD FP K k { M with dead := v } := by
  have t : Touch [b] w (w.setCell ⟨b, 7, none⟩ (.bool v)) := (Touch.refl _ _).setCell (.inl (by simp)) _
  obtain ⟨fr, hp, hc⟩ := h.pool
  obtain ⟨n, hn, hm⟩ := h.hot
  refine ⟨pgF_dead (M2 := { M with dead := v }) h.cells rfl rfl rfl, h.disk.touch t (fun x hx hm => by simp at hm; subst hm; exact h.nb.1 hx), h.log.touch t (by simp; exact fun e => h.nb.2.2.1 e.symm), ⟨fr, hp.touch t (fun x hx hm => by simp at hm; subst hm; exact h.nb.2.1 hx), hc⟩, ⟨n, hn, hm.touch t (by simp; exact fun e => h.nb.2.2.2 e.symm)⟩, ?_, h.nb, h.nl, h.nh, h.nd⟩
  exact ⟨h.ok.disk, h.ok.geo, h.ok.size1, h.ok.most1, h.ok.room1, h.ok.room2, h.ok.frm, h.ok.lsize, h.ok.lat, h.ok.next0, h.ok.next1, h.ok.gen0, h.ok.gen1, h.ok.dom, h.ok.hdom⟩
theorem commitP_eq {M : PM} (h1 : M.dead = false) (h2 : ¬ cntD M = 0) (h3 : ¬ 64 < cntD M) {A : Int × PM} (hA : A = apS M (dirtyPages M)) : commitP M = endP (if A.1 = 9 ∧ 1 + 9 * cntD M ≤ M.size then (if (layP A.2).1 = 0 then apP (layP A.2).2 else layP A.2) else A) := by
  unfold commitP
  rw [if_neg (by rw [h1]; simp), if_neg h2, if_neg h3]
  show endP (if (apP M).1 = 9 ∧ 1 + 9 * cntD M ≤ M.size then _ else apP M) = _
  have e : apP M = A := by rw [hA]; rfl
  rw [e]
theorem flM_wait {m : DM} (h : (flM m).1 = 0) : (flM m).2.wait = [] := by
  unfold flM at h ⊢
  split at h
  · cases h
  · rename_i hd
    rw [if_neg hd]
    split at h
    · rename_i hb; rw [if_pos hb]
    · cases h
theorem stepF_wait {x : Int × DM} (h : (stepF x).1 = 0) : (stepF x).2.wait = [] := by
  have h0 := stepF_zero h
  unfold stepF at h ⊢
  rw [if_pos h0] at h ⊢
  exact flM_wait h
theorem DOk.calm {m : DM} {k : Nat} (h : DOk m k) (hw : m.wait = []) : DOk m 0 := ⟨h.size, h.wait, h.fuse, h.fuse1, h.pos, h.few, by rw [hw]; exact Nat.zero_le _⟩
theorem layP_wait {M : PM} (h : (layP M).1 = 0) : (layP M).2.m.wait = [] := by
  by_cases hz : (layX M).1 = 0
  · rw [(layP_m M).1, layX_eq]
    rw [layX_eq] at hz
    exact stepF_wait hz
  · rw [layP_no hz] at h
    simp only at h
    exact absurd h hz
theorem endP_no {x : Int × PM} (h : x.1 ≠ 0) : endP x = (x.1, { x.2 with dead := x.2.dead || decide (x.1 ≠ 9) }) := by unfold endP; rw [if_neg h]
theorem endP_yes {x : Int × PM} (h : x.1 = 0) : endP x = (0, keepP x.2) := by unfold endP; rw [if_pos h]
/-- So many of the committed pages are hot. -/
def hotJ (M : PM) (hot : Int → Option ByteArray) (L : List Int) (j : Nat) : Int → Option ByteArray := fun i => if i ∈ L.take j then some (dText M i) else hot i
/-- The hot pages are being filled. -/
structure HoLoop (w4 : World) (hb : Nat) (M : PM) (hot : Int → Option ByteArray) (L : List Int) (v : Value) (wr : World) : Prop where
  ex : ∃ j n : Nat, j ≤ L.length ∧ v = .int .i64 j ∧ n = cntI (fun i => (hotJ M hot L j i).isSome) 100000 ∧ MapN wr Tryz.prog 3 hb n (Value.int .i64) Value.string (hotJ M hot L j) ∧ Touch [hb] w4 wr
theorem hotJ_succ {M : PM} {hot : Int → Option ByteArray} {L : List Int} {j : Nat} {x : Int} (hx : L[j]? = some x) : updT (hotJ M hot L j) x (dText M x) = hotJ M hot L (j + 1) := by
  funext i
  unfold updT hotJ
  rw [List.take_add_one, hx]
  by_cases e : i = x
  · subst e; simp
  · simp [e]
section
variable {w w' w1 w2 : World} {b d lb pb hb K J k : Nat} {FD FP F1 : List Nat} {M M' : PM}
theorem PgGo.of_step (h : PgStep w w' b d lb pb hb FD FP K k M) : PgGo w w' b d lb pb hb FD FP K k M := by
  obtain ⟨F', h1, h2, h3⟩ := h
  exact ⟨FD, F', h1, h2.mono (fun x hx => .inl (by simp [hx])), fun x hx => .inl hx, h3⟩
theorem PgGo.of_lay (h : LayGo w w' b d lb pb hb FD FP K k M) (hp : ∀ x ∈ FP, x < w.heap.size) : PgGo w w' b d lb pb hb FD FP K k M := by
  obtain ⟨F', h1, h2, h3⟩ := h
  refine ⟨F', FP, h1, h2.mono (fun x hx => .inl ?_), h3, fun x hx => .inl hx⟩
  simp only [List.mem_cons] at hx
  rcases hx with rfl | rfl | rfl | hx <;> simp [*]
theorem PgGo.trans {FD1 FP1 : List Nat} (t : Touch (b :: lb :: hb :: (FD ++ FP)) w w1) (hD : ∀ x ∈ FD1, x ∈ FD ∨ w.heap.size ≤ x) (hP : ∀ x ∈ FP1, x ∈ FP ∨ w.heap.size ≤ x) (h : PgGo w1 w2 b d lb pb hb FD1 FP1 K k M) : PgGo w w2 b d lb pb hb FD FP K k M := by
  obtain ⟨D2, P2, h1, h2, h3, h4⟩ := h
  refine ⟨D2, P2, h1, t.trans h2 (fun x hx => ?_), fun x hx => (h3 x hx).elim (hD x) (fun h => .inr (Nat.le_trans t.size h)), fun x hx => (h4 x hx).elim (hP x) (fun h => .inr (Nat.le_trans t.size h))⟩
  simp only [List.mem_cons, List.mem_append] at hx ⊢
  rcases hx with rfl | rfl | rfl | hx | hx
  · exact .inl (.inl rfl)
  · exact .inl (.inr (.inl rfl))
  · exact .inl (.inr (.inr (.inl rfl)))
  · exact (hD x hx).imp (fun h => .inr (.inr (.inr (.inl h)))) id
  · exact (hP x hx).imp (fun h => .inr (.inr (.inr (.inr h)))) id
theorem PgGo.fin {w w2 wr w4 w5 : World} {D4 : List Nat} (hb2 : Below w.heap.size w w2) (t : Touch FP w2 wr) (hF : ∀ x ∈ F1, x ∈ FP ∨ w2.heap.size ≤ x) (t4 : Touch (b :: lb :: hb :: FD) wr w4) (f4 : ∀ x ∈ D4, x ∈ FD ∨ wr.heap.size ≤ x) (t5 : Touch [b, lb, hb] w4 w5)
    (h : PgIn w5 b d lb pb hb D4 F1 K k M) : PgGo w w5 b d lb pb hb FD FP K k M := by
  have s1 := hb2.size
  have s2 := t.size
  refine ⟨D4, F1, h, ?_, fun x hx => (f4 x hx).imp id (fun h => by omega), fun x hx => (hF x hx).imp id (fun h => by omega)⟩
  refine (((Touch.of_below (F := b :: lb :: hb :: (FD ++ FP)) hb2).trans t (fun x hx => .inl (by simp [hx]))).trans t4 (fun x hx => .inl ?_)).trans t5 (fun x hx => .inl ?_)
  · simp only [List.mem_cons] at hx
    rcases hx with rfl | rfl | rfl | hx <;> simp [*]
  · simp at hx
    rcases hx with rfl | rfl | rfl <;> simp
theorem hotJ_all {E : PM} (hd : E.dirty = M.dirty) (hdom : ∀ i s, E.dirty i = some s → 0 ≤ i ∧ i < 100000) {L : List Int} (hL : L = dirtyL M) : hotJ M E.hot L L.length = (keepP E).hot := by
  have hmem : ∀ x, x ∈ L ↔ 0 ≤ x ∧ x < 100000 ∧ (M.dirty x).isSome = true := fun x => by rw [hL]; exact dirtyL_mem M x
  clear hL
  funext i
  unfold hotJ keepP
  rw [List.take_length]
  simp only [hmem, hd]
  rw [hd] at hdom
  cases e : M.dirty i with
  | none => simp
  | some s =>
    obtain ⟨a, c⟩ := hdom i s e
    simp [a, c, dText, e]
theorem PgIn.kept {w4 w5 w6 : World} {D4 : List Nat} {E : PM} {fr : Hand} {n : Nat} (h : PgIn w4 b d lb pb hb D4 F1 K k E) (ht : Touch [hb] w4 w5) (hm : MapN w5 Tryz.prog 3 hb n (Value.int .i64) Value.string (keepP E).hot) (hn : n = cntI (fun i => ((keepP E).hot i).isSome) 100000)
    (hc : Coh fr E.dirty (baseP E)) (g : PoolGo w5 w6 pb F1 E.room K (cleanAll fr)) : PgGo w5 w6 b d lb pb hb D4 F1 K k (keepP E) := by
  obtain ⟨F6, hp, t6, f6⟩ := g
  have hl := h.lt
  have hs := ht.size
  have n1 : b ∉ [hb] := by simp; exact h.nb.2.2.2
  have n2 : lb ∉ [hb] := by simp; exact h.nl.2.2
  have n3 : ∀ x ∈ D4, x ∉ [hb] := fun x hx hm => by simp at hm; subst hm; exact h.nh.1 hx
  have hk : PgOk (keepP E) k := by
    refine ⟨h.ok.disk, h.ok.geo, h.ok.size1, h.ok.most1, h.ok.room1, h.ok.room2, h.ok.frm, h.ok.lsize, h.ok.lat, h.ok.next0, h.ok.next1, h.ok.gen0, h.ok.gen1, fun i s e => by simp [keepP] at e, fun i s e => ?_⟩
    simp only [keepP] at e
    cases e2 : E.dirty i with
    | none => rw [e2] at e; exact h.ok.hdom i s e
    | some s2 => rw [e2] at e; simp at e; subst e; exact h.ok.dom i _ e2
  refine ⟨D4, F6, ⟨rowIs_touch (rowIs_touch h.cells ht n1) t6 h.nb.2.1, (h.disk.touch ht n3).touch t6 (fun x hx => h.nd x hx), (h.log.touch ht n2).touch t6 h.nl.2.1, ⟨_, hp, ?_⟩, ⟨n, hn, hm.touch t6 h.nh.2⟩, hk, ?_, ?_, ?_, ?_⟩, t6.mono (fun x hx => .inl (by simp [hx])), fun x hx => .inl hx, f6⟩
  · have hb' : baseP (keepP E) = fun i => (E.dirty i).getD (baseP E i) := by
      funext i
      unfold baseP keepP
      simp only
      cases E.dirty i <;> simp
    rw [hb']
    exact hc.clean
  · exact ⟨h.nb.1, fun hx => (f6 _ hx).elim h.nb.2.1 (by omega), h.nb.2.2⟩
  · exact ⟨h.nl.1, fun hx => (f6 _ hx).elim h.nl.2.1 (by omega), h.nl.2.2⟩
  · exact ⟨h.nh.1, fun hx => (f6 _ hx).elim h.nh.2 (by omega)⟩
  · intro x hx hx'
    have := hl.2.2.2.1 x hx
    exact (f6 _ hx').elim (h.nd x hx) (by omega)
theorem PgGo.fin2 {w w2 wr w4 w5 w6 : World} {D4 : List Nat} (hb2 : Below w.heap.size w w2) (t : Touch FP w2 wr) (hF : ∀ x ∈ F1, x ∈ FP ∨ w2.heap.size ≤ x) (t4 : Touch (b :: lb :: hb :: FD) wr w4) (f4 : ∀ x ∈ D4, x ∈ FD ∨ wr.heap.size ≤ x) (t5 : Touch [b, lb, hb] w4 w5)
    (h : PgGo w5 w6 b d lb pb hb D4 F1 K k M) : PgGo w w6 b d lb pb hb FD FP K k M := by
  have s1 := hb2.size
  have s2 := t.size
  refine PgGo.trans ?_ (fun x hx => (f4 x hx).imp id (fun h => by omega)) (fun x hx => (hF x hx).imp id (fun h => by omega)) h
  refine (((Touch.of_below (F := b :: lb :: hb :: (FD ++ FP)) hb2).trans t (fun x hx => .inl (by simp [hx]))).trans t4 (fun x hx => .inl ?_)).trans t5 (fun x hx => .inl ?_)
  · simp only [List.mem_cons] at hx
    rcases hx with rfl | rfl | rfl | hx <;> simp [*]
  · simp at hx
    rcases hx with rfl | rfl | rfl <;> simp
set_option maxRecDepth 1000000 in
set_option maxHeartbeats 8000000 in
theorem Commit_any (h : PgIn w b d lb pb hb FD FP K k M) (hK : K ≤ 2000000000000000000) (hk : k ≤ 90000) :
    Calls Tryz.prog 34 #[.pointer (some ⟨b, 0, none⟩)] w fun e w' => e = .returned (.int .i64 (commitP M).1) ∧ PgGo w w' b d lb pb hb FD FP (K + 100) (k + 3000000) (commitP M).2 := by
  obtain ⟨i0, hi, hz0, hz1, hz2⟩ := info_parts Tryz.infoStr
  obtain ⟨c0, c1, c2, c3, c4, c5, c6, c7⟩ := h.cell
  have H := Lib.hid h
  obtain ⟨fr, hp, hc⟩ := h.pool
  have HD := Lib.hid (pdirty_any hp)
  have hkey : keysI (isDirty fr) 100000 = dirtyL M := hc.keys
  have hcn : cntDirty fr = cntD M := hc.cnt
  rw [hkey, hcn] at HD
  have HLT := Lib.hid h.lt
  clear h hp hc hkey hcn
  cases hdd : M.dead
  rotate_left
  · have e : commitP M = (17, M) := by unfold commitP; rw [if_pos hdd]
    rw [e]
    rw [hdd] at c7
    go_enter Tryz.func34, Tryz.ntmps34
    go_wp2_with fail
    go_ret
    exact ⟨rfl, PgGo.of_lay (LayGo.same (H.out.mono (by omega)) (Below.refl _ _) (by omega)) HLT.out.2.2.2.2⟩
  rw [hdd] at c7
  by_cases hn0 : cntD M = 0
  · have e : commitP M = (0, M) := by unfold commitP; rw [if_neg (by rw [hdd]; simp), if_pos hn0]
    rw [e]
    rw [hn0] at HD
    go_enter Tryz.func34, Tryz.ntmps34
    go_wp2_with fail
    refine HD.out.mono ?_
    rintro e w1 ⟨v, rfl, hrow, hb1⟩
    obtain ⟨a, c, rfl, -⟩ := own_at hrow
    clear hrow
    go_wp2_with fail
    go_ret
    exact ⟨rfl, PgGo.of_lay (LayGo.same (H.out.mono (by omega)) hb1 (by omega)) HLT.out.2.2.2.2⟩
  by_cases hn64 : 64 < cntD M
  · have e : commitP M = (10, M) := by unfold commitP; rw [if_neg (by rw [hdd]; simp), if_neg hn0, if_pos hn64]
    rw [e]
    have e1 : ((cntD M : Int) == 0) = false := by simp; omega
    have e2 : (64 : Int) < (cntD M : Int) := by omega
    go_enter Tryz.func34, Tryz.ntmps34
    go_wp2_with fail
    refine HD.out.mono ?_
    rintro e w1 ⟨v, rfl, hrow, hb1⟩
    obtain ⟨a, c, rfl, -⟩ := own_at hrow
    clear hrow
    go_wp2_with fail
    go_ret
    exact ⟨rfl, PgGo.of_lay (LayGo.same (H.out.mono (by omega)) hb1 (by omega)) HLT.out.2.2.2.2⟩
  have e1 : ((cntD M : Int) == 0) = false := by simp; omega
  have e2 : ¬ (64 : Int) < (cntD M : Int) := by omega
  go_enter Tryz.func34, Tryz.ntmps34
  go_wp2_with fail
  refine HD.out.mono ?_
  rintro e w2 ⟨v, rfl, hrow, hb2⟩
  obtain ⟨a, c, rfl, hcell⟩ := own_at hrow
  obtain ⟨L, hL⟩ : ∃ L, L = dirtyL M := ⟨_, rfl⟩
  rw [← hL] at hcell
  have hLn : L.length = cntD M := by rw [hL]; exact dirtyL_len M
  rw [← hLn]
  rw [← hLn] at e1 e2 hn0 hn64
  have HN0 := Lib.hid (And.intro hn0 hn64)
  have HCELL := Lib.hid hcell
  have HL := Lib.hid hL
  have HLN := Lib.hid hLn
  have HB2 := Lib.hid hb2
  have HP2 := Lib.hid (H.out.below hb2)
  clear hrow hcell hL hLn hb2 hn0 hn64 c0 c1 c2 c3 c4 c5 c6 c7
  go_wp2_with fail
  go_loopw [4, 6, 7, 8, 35] (fun v4 v6 v7 v8 v35 wr => GaLoop w2 b d lb pb hb FD FP K k M L v4 v35 wr) (fun _ _ _ _ v35 _ => L.length - (intOf v35).toNat)
  case atStart => exact ⟨⟨0, FP, Nat.zero_le _, rfl, HP2.out, Touch.refl _ _, fun x hx => .inl hx, World.ownsRow_nil _ _ _ _, fun q hq => by cases hq⟩⟩
  case round =>
    obtain ⟨⟨j, F1, hj, rfl, hin, ht, hF, hrow, hq⟩⟩ := hrel
    have HIN := Lib.hid hin
    have HT := Lib.hid ht
    have HF := Lib.hid hF
    have HROW := Lib.hid hrow
    have HQ := Lib.hid hq
    clear hin ht hF hrow hq
    obtain ⟨c0, c1, c2, c3, c4, c5, c6, c7⟩ := HIN.out.cell
    have bl := HIN.out.lt.1
    by_cases hltj : j < L.length
    · obtain ⟨x, hx⟩ : ∃ x, L[j]? = some x := ⟨L[j], List.getElem?_eq_getElem hltj⟩
      obtain ⟨g, rfl, hg, hgl, hgc⟩ := HCELL.out j (.int .i64 x) (by rw [List.getElem?_map, hx]; rfl)
      have hxm : x ∈ dirtyL M := by rw [← HL.out]; exact List.mem_of_getElem? hx
      obtain ⟨x0, x1, x2⟩ := (dirtyL_mem M x).1 hxm
      obtain ⟨s, hs⟩ := Option.isSome_iff_exists.1 x2
      have gnot : g ∉ FP := fun hm => by have := HLT.out.2.2.2.2 _ hm; omega
      have gc : wr.cell? ⟨g, j, none⟩ = some (.int .i64 x) := (HT.out.cell (p := ⟨g, j, none⟩) hgl gnot).trans hgc
      have gl : g < wr.heap.size := Nat.lt_of_lt_of_le hgl HT.out.size
      have qj1 : (0 : Int) ≤ (j : Int) := by omega
      have qj2 : (j : Int) < (L.length : Int) := by omega
      obtain ⟨fr, hp, hc⟩ := HIN.out.pool
      have hfx : fr x = some (s, true) := (hc.1 x s).2 hs
      have HG := Lib.hid (pget_any (no := x) hp (by omega) (by omega) (by omega))
      rw [hfx] at HG
      simp only [Option.map_some, Option.getD_some, Option.isSome_some] at HG
      have HCO := Lib.hid hc
      clear hp hc hgc gnot
      go_wp2_with fail
      refine HG.out.mono ?_
      rintro e w5 ⟨rfl, hgo⟩
      obtain ⟨F5, h5, t5, f5⟩ := HIN.out.step_same hgo HCO.out
      have hfl := HIN.out.lt
      have HROW5 := Lib.hid (ownsRow_touch HROW.out t5 (fun q hq => HQ.out q hq))
      have HQ5 := Lib.hid (show ∀ q, Value.ownBlock _ = some q → q ∉ F5 from fun q hq hm => (f5 q hm).elim (HQ.out q hq) (fun h => by have := (HROW.out.lt q hq).2; omega))
      have HP5 := Lib.hid h5
      have HT5 := Lib.hid (HT.out.trans t5 (fun x hx => HF.out x hx))
      have HF5 := Lib.hid (show ∀ x ∈ F5, x ∈ FP ∨ w2.heap.size ≤ x from fun x hx => (f5 x hx).elim (HF.out x) (fun h => .inr (Nat.le_trans HT.out.size h)))
      have hcap : j + 1 ≤ maxLen := by have := HN0.out.2; unfold maxLen; omega
      have hts : dText M x = s := by unfold dText; rw [hs]; rfl
      have HSN := Lib.hid (show ((L.take j).map (dText M)).map Value.string ++ [.string s] = ((L.take (j + 1)).map (dText M)).map Value.string by rw [List.take_add_one, hx]; simp [hts])
      clear hgo h5 t5 f5 c0 c1 c2 c3 c4 c5 c6 c7 gc gl qj1 qj2 hts bl
      go_wp2_with (at_builtin; refine wpList_append_near _ rfl (.tmp 48) (.tmp 50) 33 rfl w2.heap.size 9 i0 (.string ⟨#[]⟩) 1 16 Tryz.underlying33 hi hz0 hz1 hz2 rfl (by decide) _ j (((L.take j).map (dText M)).map Value.string) rfl (HROW5.out.alloc _) ⟨w5.heap.size, 0, none⟩ 1 1 [.string s] rfl (by decide) rfl (cell_one_new _ _ _) (by intro u hu; simp at hu; subst hu; rfl) hcap (by have := HN0.out.2; omega) (by have := HT5.out.size; simp; omega) ?_; intro g2 cap w7 hown hgr hat)
      rw [HSN.out] at hown
      have hlt5 := HP5.out.lt
      have hsz2 : w.heap.size ≤ w2.heap.size := HB2.out.size
      have hsz5 : w2.heap.size ≤ w5.heap.size := HT5.out.size
      have hown0 := fun q hq => (HROW5.out.lt q hq).1
      have hT7 : Touch FP w2 w7 := ((HT5.out.trans ((Touch.refl [] w5).alloc (.cells #[.string s] 9)) (fun q hq => by cases hq))).trans (Touch.of_grown hgr) (fun q hq => .inr (hown0 q (Option.mem_toList.1 hq)))
      have hP7 : PgIn w7 b d lb pb hb FD F5 (K + j + 1) k M := (HP5.out.below (below_alloc (o := .cells #[.string s] 9) (Below.refl _ _))).touch (Touch.of_grown hgr) (fun hq => by have := hown0 _ (Option.mem_toList.1 hq); have := HLT.out.1; omega) (fun hq => by have := hown0 _ (Option.mem_toList.1 hq); have := HLT.out.2.1; omega) (fun hq => by have := hown0 _ (Option.mem_toList.1 hq); have := HLT.out.2.2.1; omega)
        (fun x hx hq => by have := hown0 _ (Option.mem_toList.1 hq); have := HLT.out.2.2.2.1 x hx; omega) (fun x hx hq => HQ5.out x (Option.mem_toList.1 hq) hx)
      have hq7 : ∀ q, (Value.slice (some ⟨g2, 0, none⟩) (j + 1) cap).ownBlock = some q → q ∉ F5 := fun q hq hm => by
        have e : q = g2 := by simp [Value.ownBlock] at hq; exact hq.symm
        subst e
        rcases hat with h | h
        · exact HQ5.out q h hm
        · have := hlt5.2.2.2.2 q hm; simp at h; omega
      have HT7 := Lib.hid hT7
      have HP7 := Lib.hid hP7
      have HQ7 := Lib.hid hq7
      have HO7 := Lib.hid hown
      clear hown hgr hat hT7 hP7 hq7 hlt5 hown0
      go_wp2_with fail
      go_roundw
      case rel => exact ⟨⟨j + 1, F5, by omega, by go_num, HP7.out, HT7.out, HF5.out, HO7.out, HQ7.out⟩⟩
      case measure => simp [intOf]; omega
    · obtain rfl : L.length = j := by omega
      obtain ⟨wg, rfl⟩ : ∃ wg : World, wg = wr := ⟨_, rfl⟩
      obtain ⟨hn0, hn64⟩ := HN0.out
      have hLm : (L.take L.length).map (dText M) = dirtyPages M := by rw [List.take_length, HL.out]; rfl
      rw [hLm] at HROW
      obtain ⟨g, cap, hv⟩ := ownsRow_form HROW.out (by omega)
      subst hv
      have hpl : (dirtyPages M).length = L.length := by rw [dirtyPages_eq, List.length_map, HL.out]
      have hsz2 : w.heap.size ≤ w2.heap.size := HB2.out.size
      have hg := HROW.out.lt g rfl
      have hpg : PgAt wg (some ⟨g, 0, none⟩) (dirtyPages M) (lb :: FD) := by
        refine ⟨g, 0, rfl, fun i x hx => ?_, fun hm => ?_⟩
        · rw [Nat.zero_add, HROW.out.cellAt i (by have := (List.getElem?_eq_some_iff.1 hx).1; omega), List.getElem?_map, hx]; rfl
        · rcases List.mem_cons.1 hm with e | hm
          · have := HLT.out.2.1; omega
          · have := HLT.out.2.2.2.1 _ hm; omega
      have hall : ∀ p ∈ dirtyPages M, p.size = 512 := fun p hp => by
        rw [dirtyPages_eq] at hp
        obtain ⟨x, hx, rfl⟩ := List.mem_map.1 hp
        obtain ⟨_, _, x2⟩ := (dirtyL_mem M x).1 hx
        obtain ⟨s, hs⟩ := Option.isSome_iff_exists.1 x2
        unfold dText
        rw [hs]
        exact (H.out.ok.dom x s hs).2.2
      have hap := append_step (c := cap) HIN.out (by omega) (by omega) (by omega) hpg hall
      obtain ⟨A, hA⟩ : ∃ A, A = apS M (dirtyPages M) := ⟨_, rfl⟩
      rw [← hA, hpl] at hap
      have HAP := Lib.hid hap
      have HPG := Lib.hid (And.intro hpg (And.intro hall hpl))
      have HCM := Lib.hid (commitP_eq hdd (by rw [← HLN.out]; exact hn0) (by rw [← HLN.out]; exact hn64) hA)
      have HA := Lib.hid hA
      have HNN := Lib.hid (And.intro hn0 hn64)
      have HDD := Lib.hid hdd
      have hsz : M.size ≤ 65536 := by have := H.out.ok.geo; have := H.out.ok.disk.few; omega
      have q1 : IntKind.i64.wrap (9 * (L.length : Int)) = 9 * (L.length : Int) := IntWalk.i64_in _ (by omega)
      have q2 : IntKind.i64.wrap (1 + 9 * (L.length : Int)) = 1 + 9 * (L.length : Int) := IntWalk.i64_in _ (by omega)
      clear hpg hall hLm hap hA hn0 hn64 hdd
      go_wp2_with fail
      refine HAP.out.mono ?_
      rintro e w4 ⟨rfl, D4, h4, t4, f4⟩
      have HP4 := Lib.hid h4
      have T4 := Lib.hid t4
      have F4 := Lib.hid f4
      clear h4 t4 f4 c0 c1 c2 c3 c4 c5 c6 c7 bl
      by_cases hz : A.1 = 0
      · have ez : (A.1 != 0) = false := by rw [hz]; rfl
        have e9 : (A.1 == 9) = false := by rw [hz]; rfl
        have T4' := Lib.hid (T4.out.mono (G := b :: lb :: hb :: FD) (fun x hx => .inl (by simp only [List.mem_cons] at hx; rcases hx with rfl | hx <;> simp [*])))
        have HDA : Hid (A.2.dirty = M.dirty) := Lib.hid (by rw [HA.out]; rfl)
        have hcm := HCM.out
        rw [if_neg (fun h => by have := h.1; omega)] at hcm
        rw [endP_yes hz] at hcm
        have HC := Lib.hid hcm
        obtain ⟨nh, hnh, hm⟩ := HP4.out.hot
        have HMH := Lib.hid hm
        have HNH := Lib.hid hnh
        clear hcm hm hnh
        go_wp2_with fail
        go_loopw [10, 11, 98] (fun v10 v11 v98 wr => HoLoop w4 hb M A.2.hot L v98 wr) (fun _ _ v98 _ => L.length - (intOf v98).toNat)
        case atStart => exact ⟨⟨0, nh, Nat.zero_le _, rfl, by rw [HNH.out]; rfl, HMH.out, Touch.refl _ _⟩⟩
        case round =>
          obtain ⟨⟨i, n9, hi9, rfl, hn9, hm9, ht9⟩⟩ := hrel
          have HN9 := Lib.hid hn9
          have HM9 := Lib.hid hm9
          have HT9 := Lib.hid ht9
          clear hn9 hm9 ht9
          have hwrs : w2.heap.size ≤ wg.heap.size := HT.out.size
          have hwxs : wg.heap.size ≤ w4.heap.size := T4'.out.size
          have hwys : w4.heap.size ≤ wr.heap.size := HT9.out.size
          have far : ∀ q, w.heap.size ≤ q → q ∉ b :: lb :: hb :: FD := fun q hq hm => by
            simp only [List.mem_cons] at hm
            rcases hm with e | e | e | hm
            · have := HLT.out.1; omega
            · have := HLT.out.2.1; omega
            · have := HLT.out.2.2.1; omega
            · have := HLT.out.2.2.2.1 _ hm; omega
          have r9 := rowIs_touch HP4.out.cells HT9.out (by simp; exact HP4.out.nb.2.2.2)
          by_cases hlti : i < L.length
          · obtain ⟨x, hx⟩ : ∃ x, L[i]? = some x := ⟨L[i], List.getElem?_eq_getElem hlti⟩
            obtain ⟨gL, rfl, hgL1, hgL2, hgc⟩ := HCELL.out i (.int .i64 x) (by rw [List.getElem?_map, hx]; rfl)
            have hxm : x ∈ dirtyL M := by rw [← HL.out]; exact List.mem_of_getElem? hx
            obtain ⟨x0, x1, x2⟩ := (dirtyL_mem M x).1 hxm
            have gc : wr.cell? ⟨gL, i, none⟩ = some (.int .i64 x) := (HT9.out.cell (p := ⟨gL, i, none⟩) (by show gL < _; omega) (fun hm => absurd (show gL = hb by simpa using hm) (by have := HLT.out.2.2.1; omega))).trans ((T4'.out.cell (p := ⟨gL, i, none⟩) (by show gL < _; omega) (far gL (by omega))).trans ((HT.out.cell (p := ⟨gL, i, none⟩) hgL2 (fun hm => by have := HLT.out.2.2.2.2 gL hm; omega)).trans hgc))
            have gl : gL < wr.heap.size := by omega
            have hpc : wg.cell? ⟨g, i, none⟩ = some (.string (dText M x)) := by
              obtain ⟨b', o', e', hc', hn'⟩ := HPG.out.1
              injection e' with e'
              injection e' with e1' e2'
              subst e1' e2'
              have := hc' i (dText M x) (by rw [dirtyPages_eq, List.getElem?_map, ← HL.out, hx]; rfl)
              rwa [Nat.zero_add] at this
            have pc : wr.cell? ⟨g, i, none⟩ = some (.string (dText M x)) := (HT9.out.cell (p := ⟨g, i, none⟩) (by show g < _; omega) (fun hm => absurd (show g = hb by simpa using hm) (by have := HLT.out.2.2.1; omega))).trans ((T4'.out.cell (p := ⟨g, i, none⟩) hg.2 (far g (by omega))).trans hpc)
            have pl : g < wr.heap.size := by omega
            have b6 : wr.cell? ⟨b, 6, none⟩ = some (.map (some hb)) := World.rowIs.cell r9 (i := 6) (by decide)
            have bl9 := World.rowIs.lt r9
            have qi1 : (0 : Int) ≤ (i : Int) := by omega
            have qi2 : (i : Int) < (L.length : Int) := by omega
            have HK := Lib.hid (keyP (no := x) (by omega) (by omega))
            have HX := Lib.hid (And.intro hx (And.intro x0 x1))
            have HMQ := fun q => Lib.hid (HM9.out.touch (F := []) ((Touch.refl _ _).drewN q) (by simp))
            have hcap9 : n9 < maxLen := by rw [HN9.out]; have := cntI_leN (fun k => (hotJ M A.2.hot L i k).isSome) 100000; unfold maxLen; omega
            clear hgc hpc far r9 hx x0 x1 x2 hxm
            go_wp2_with fail
            refine wp_region_tail (C := fun w' => ∃ n, w' = wr.drewN n) 9 (by kernel_rfl) (by kernel_rfl) ⟨1, rfl⟩ ?_
            simp only [List.take_succ_cons, List.take_zero, List.drop_succ_cons, List.drop_zero]
            repeat (first | go_big_quiet_step (fail) | quiet_step (fail))
            refine wpQuiet_nil ?_
            rintro w9 ⟨nq, rfl⟩
            clear gc gl pc pl b6 bl9 qi1 qi2
            go_wp2_with (at_mapUpdate; refine wpList_update_M _ rfl _ _ _ 88 rfl 3 9 Tryz.keyIntP Tryz.underlying88 hb n9 (Value.int .i64) Value.string (hotJ M A.2.hot L i) (HMQ nq).out rfl hcap9 x _ rfl HK.out (inj_I x) (dText M x) rfl ?_; intro w7 n7 hm7 hn7 ht7)
            have hcs := cntI_set (p := fun k => (hotJ M A.2.hot L (i + 1) k).isSome) (q := fun k => (hotJ M A.2.hot L i k).isSome) (x := x.toNat) (fun k hk => by
              rw [← hotJ_succ HX.out.1]
              unfold updT
              rw [if_neg (by intro e; apply hk; rw [e]; have := HX.out.2.1; omega)]) 100000 (by have := HX.out.2.2; omega)
            rw [show ((x.toNat : Nat) : Int) = x by have := HX.out.2.1; omega] at hcs
            have hnew : (hotJ M A.2.hot L (i + 1) x).isSome = true := by rw [← hotJ_succ HX.out.1]; unfold updT; rw [if_pos rfl]; rfl
            rw [hnew] at hcs
            have HN7 := Lib.hid (show n7 = cntI (fun k => (hotJ M A.2.hot L (i + 1) k).isSome) 100000 by have := HN9.out; simp only [if_true] at hcs; omega)
            have HM7 := Lib.hid (hotJ_succ HX.out.1 ▸ hm7)
            have HT7 := Lib.hid ((HT9.out.drewN nq).trans ht7 (fun q hq => .inl hq))
            clear hm7 hn7 ht7 hcs hnew
            go_wp2_with fail
            go_roundw
            case rel => exact ⟨⟨i + 1, n7, by omega, by go_num, HN7.out, HM7.out, HT7.out⟩⟩
            case measure => simp [intOf]; omega
          · obtain rfl : L.length = i := by omega
            have hall9 := hotJ_all (E := A.2) HDA.out (fun i s e => by have a1 := HP4.out.ok.dom i s e; have a2 := HP4.out.ok.geo; have a3 := HP4.out.ok.disk.few; omega) HL.out
            have HN9' := HN9.out
            have HM9' := HM9.out
            rw [hall9] at HM9'
            simp only [hall9] at HN9'
            have HN10 := Lib.hid HN9'
            have HM10 := Lib.hid HM9'
            obtain ⟨fr, hp, hc⟩ := HP4.out.pool
            have HCL := Lib.hid (pclean_any (hp.touch HT9.out (fun x hx hm => by simp at hm; subst hm; exact HP4.out.nh.2 hx)))
            have HCO := Lib.hid hc
            have b5 : wr.cell? ⟨b, 5, none⟩ = some (.pointer (some ⟨pb, 0, none⟩)) := World.rowIs.cell r9 (i := 5) (by decide)
            have bl9 := World.rowIs.lt r9
            clear hall9 HN9' HM9' hp hc r9 far
            go_wp2_with fail
            refine HCL.out.mono ?_
            rintro e w7 ⟨rfl, hgo⟩
            have HGO := Lib.hid hgo
            clear hgo
            go_wp2_with fail
            go_ret
            rw [HC.out]
            have hkp := HP4.out.kept HT9.out HM10.out HN10.out HCO.out HGO.out
            refine ⟨rfl, ?_⟩
            obtain ⟨A1, A2, g1, g2, g3, g4⟩ := PgGo.fin2 HB2.out HT.out HF.out T4'.out F4.out (HT9.out.mono (fun x hx => .inl (by simp at hx; simp [hx]))) hkp
            exact ⟨A1, A2, (g1.mono (by have := HNN.out.2; omega)).rek (g1.ok.disk.mono (by have := HNN.out.2; omega)), g2, g3, g4⟩
      · have ez : (A.1 != 0) = true := by simpa using hz
        by_cases h9 : A.1 = 9
        · have hdA : A.2.dead = false := by rw [HA.out]; exact HDD.out
          have hsA : A.2.size = M.size := by rw [HA.out]; rfl
          have e9 : (A.1 == 9) = true := by rw [h9]; rfl
          have e9' : (A.1 != 9) = false := by rw [h9]; rfl
          by_cases hfit : 1 + 9 * cntD M ≤ M.size
          · have hcm := HCM.out
            rw [if_pos ⟨h9, hfit⟩] at hcm
            have hly := lay_any HP4.out (by have := HNN.out.2; omega)
            obtain ⟨Y, hY⟩ : ∃ Y, Y = layP A.2 := ⟨_, rfl⟩
            rw [← hY] at hly hcm
            have HLY := Lib.hid hly
            have HY := Lib.hid hY
            have hfit' : 1 + 9 * (L.length : Int) ≤ (M.size : Int) := by have := HLN.out; omega
            obtain ⟨c0, c1, c2, c3, c4, c5, c6, c7⟩ := HP4.out.cell
            have bl := HP4.out.lt.1
            rw [hsA] at c2
            clear hly hY h9 hz hsA hdA hfit
            go_wp2_with fail
            refine HLY.out.mono ?_
            rintro e w5 ⟨rfl, D5, h5, t5, f5⟩
            have HP5 := Lib.hid h5
            have T5 := Lib.hid (T4.out.mono (G := b :: lb :: hb :: FD) (fun x hx => .inl (by simp only [List.mem_cons] at hx; rcases hx with rfl | hx <;> simp [*])) |>.trans t5 (fun x hx => by
              simp only [List.mem_cons] at hx ⊢
              rcases hx with rfl | rfl | rfl | hx
              · exact .inl (.inl rfl)
              · exact .inl (.inr (.inl rfl))
              · exact .inl (.inr (.inr (.inl rfl)))
              · exact (F4.out x hx).imp (fun h => .inr (.inr (.inr h))) id))
            have F5 := Lib.hid (show ∀ x ∈ D5, x ∈ FD ∨ wg.heap.size ≤ x from fun x hx => (f5 x hx).elim (F4.out x) (fun h => .inr (Nat.le_trans T4.out.size h)))
            clear h5 t5 f5 c0 c1 c2 c3 c4 c5 c6 c7 bl q1 q2 hfit' e9 e9' ez HLY
            by_cases hy : Y.1 = 0
            · rw [if_pos hy] at hcm
              have hyw : Y.2.m.wait = [] := by rw [HY.out]; rw [HY.out] at hy; exact layP_wait hy
              have hyd : dirtyPages Y.2 = dirtyPages M := by
                have e : Y.2.dirty = M.dirty := by rw [HY.out, (layP_m A.2).2.2, HA.out]; rfl
                unfold dirtyPages dirtyL
                rw [e]
              have hwrs : w2.heap.size ≤ wg.heap.size := HT.out.size
              have gno : g ∉ b :: lb :: hb :: FD := fun hm => by
                simp only [List.mem_cons] at hm
                rcases hm with e | e | e | hm
                · have := HLT.out.1; omega
                · have := HLT.out.2.1; omega
                · have := HLT.out.2.2.1; omega
                · have := HLT.out.2.2.2.1 _ hm; omega
              have hpg5 : PgAt w5 (some ⟨g, 0, none⟩) (dirtyPages M) (lb :: D5) := by
                obtain ⟨b', o', e', hc', hn'⟩ := HPG.out.1
                injection e' with e'
                injection e' with e1' e2'
                subst e1' e2'
                refine ⟨g, 0, rfl, fun i x hx => (T5.out.cell (p := ⟨g, 0 + i, none⟩) hg.2 gno).trans (hc' i x hx), fun hm => ?_⟩
                rcases List.mem_cons.1 hm with e | hm
                · exact gno (by simp [e])
                · rcases F5.out g hm with h | h
                  · exact gno (by simp [h])
                  · omega
              have hap5 := append_step (c := cap) (HP5.out.rek (HP5.out.ok.disk.calm hyw)) (by omega) (by have := HPG.out.2.2; have := HNN.out; omega) (by have := HPG.out.2.2; have := HNN.out; omega) hpg5 HPG.out.2.1
              have e3 : apP Y.2 = apS Y.2 (dirtyPages M) := by
                unfold apP apS
                rw [hyd]
              obtain ⟨Z, hZ⟩ : ∃ Z, Z = apS Y.2 (dirtyPages M) := ⟨_, rfl⟩
              rw [← hZ, HPG.out.2.2] at hap5
              rw [e3, ← hZ] at hcm
              have HAP5 := Lib.hid hap5
              have HZ := Lib.hid hZ
              obtain ⟨c0, c1, c2, c3, c4, c5, c6, c7⟩ := HP5.out.cell
              have bl := HP5.out.lt.1
              have ey : (Y.1 == 0) = true := by rw [hy]; rfl
              clear hy hyw hyd gno hpg5 hap5 e3 hZ hwrs
              go_wp2_with fail
              refine HAP5.out.mono ?_
              rintro e w6 ⟨rfl, D6, h6, t6, f6⟩
              have HP6 := Lib.hid h6
              have T6 := Lib.hid (T5.out.trans (t6.mono (G := b :: lb :: hb :: D5) (fun x hx => .inl (by simp only [List.mem_cons] at hx; rcases hx with rfl | hx <;> simp [*]))) (fun x hx => by
                simp only [List.mem_cons] at hx ⊢
                rcases hx with rfl | rfl | rfl | hx
                · exact .inl (.inl rfl)
                · exact .inl (.inr (.inl rfl))
                · exact .inl (.inr (.inr (.inl rfl)))
                · exact (F5.out x hx).imp (fun h => .inr (.inr (.inr h))) id))
              have F6 := Lib.hid (show ∀ x ∈ D6, x ∈ FD ∨ wg.heap.size ≤ x from fun x hx => (f6 x hx).elim (F5.out x) (fun h => .inr (Nat.le_trans T5.out.size h)))
              clear h6 t6 f6 c0 c1 c2 c3 c4 c5 c6 c7 bl ey HAP5
              by_cases hz3 : Z.1 = 0
              · have ez3 : (Z.1 != 0) = false := by rw [hz3]; rfl
                have HDZ : Hid (Z.2.dirty = M.dirty) := Lib.hid (by rw [HZ.out]; show Y.2.dirty = _; rw [HY.out, (layP_m A.2).2.2, HA.out]; rfl)
                rw [endP_yes hz3] at hcm
                have HC := Lib.hid hcm
                obtain ⟨nh, hnh, hm⟩ := HP6.out.hot
                have HMH := Lib.hid hm
                have HNH := Lib.hid hnh
                clear hcm hm hnh
                go_wp2_with fail
                go_loopw [10, 11, 98] (fun v10 v11 v98 wr => HoLoop w6 hb M Z.2.hot L v98 wr) (fun _ _ v98 _ => L.length - (intOf v98).toNat)
                case atStart => exact ⟨⟨0, nh, Nat.zero_le _, rfl, by rw [HNH.out]; rfl, HMH.out, Touch.refl _ _⟩⟩
                case round =>
                  obtain ⟨⟨i, n9, hi9, rfl, hn9, hm9, ht9⟩⟩ := hrel
                  have HN9 := Lib.hid hn9
                  have HM9 := Lib.hid hm9
                  have HT9 := Lib.hid ht9
                  clear hn9 hm9 ht9
                  have hwrs : w2.heap.size ≤ wg.heap.size := HT.out.size
                  have hwxs : wg.heap.size ≤ w6.heap.size := T6.out.size
                  have hwys : w6.heap.size ≤ wr.heap.size := HT9.out.size
                  have far : ∀ q, w.heap.size ≤ q → q ∉ b :: lb :: hb :: FD := fun q hq hm => by
                    simp only [List.mem_cons] at hm
                    rcases hm with e | e | e | hm
                    · have := HLT.out.1; omega
                    · have := HLT.out.2.1; omega
                    · have := HLT.out.2.2.1; omega
                    · have := HLT.out.2.2.2.1 _ hm; omega
                  have r9 := rowIs_touch HP6.out.cells HT9.out (by simp; exact HP6.out.nb.2.2.2)
                  by_cases hlti : i < L.length
                  · obtain ⟨x, hx⟩ : ∃ x, L[i]? = some x := ⟨L[i], List.getElem?_eq_getElem hlti⟩
                    obtain ⟨gL, rfl, hgL1, hgL2, hgc⟩ := HCELL.out i (.int .i64 x) (by rw [List.getElem?_map, hx]; rfl)
                    have hxm : x ∈ dirtyL M := by rw [← HL.out]; exact List.mem_of_getElem? hx
                    obtain ⟨x0, x1, x2⟩ := (dirtyL_mem M x).1 hxm
                    have gc : wr.cell? ⟨gL, i, none⟩ = some (.int .i64 x) := (HT9.out.cell (p := ⟨gL, i, none⟩) (by show gL < _; omega) (fun hm => absurd (show gL = hb by simpa using hm) (by have := HLT.out.2.2.1; omega))).trans ((T6.out.cell (p := ⟨gL, i, none⟩) (by show gL < _; omega) (far gL (by omega))).trans ((HT.out.cell (p := ⟨gL, i, none⟩) hgL2 (fun hm => by have := HLT.out.2.2.2.2 gL hm; omega)).trans hgc))
                    have gl : gL < wr.heap.size := by omega
                    have hpc : wg.cell? ⟨g, i, none⟩ = some (.string (dText M x)) := by
                      obtain ⟨b', o', e', hc', hn'⟩ := HPG.out.1
                      injection e' with e'
                      injection e' with e1' e2'
                      subst e1' e2'
                      have := hc' i (dText M x) (by rw [dirtyPages_eq, List.getElem?_map, ← HL.out, hx]; rfl)
                      rwa [Nat.zero_add] at this
                    have pc : wr.cell? ⟨g, i, none⟩ = some (.string (dText M x)) := (HT9.out.cell (p := ⟨g, i, none⟩) (by show g < _; omega) (fun hm => absurd (show g = hb by simpa using hm) (by have := HLT.out.2.2.1; omega))).trans ((T6.out.cell (p := ⟨g, i, none⟩) hg.2 (far g (by omega))).trans hpc)
                    have pl : g < wr.heap.size := by omega
                    have b6 : wr.cell? ⟨b, 6, none⟩ = some (.map (some hb)) := World.rowIs.cell r9 (i := 6) (by decide)
                    have bl9 := World.rowIs.lt r9
                    have qi1 : (0 : Int) ≤ (i : Int) := by omega
                    have qi2 : (i : Int) < (L.length : Int) := by omega
                    have HK := Lib.hid (keyP (no := x) (by omega) (by omega))
                    have HX := Lib.hid (And.intro hx (And.intro x0 x1))
                    have HMQ := fun q => Lib.hid (HM9.out.touch (F := []) ((Touch.refl _ _).drewN q) (by simp))
                    have hcap9 : n9 < maxLen := by rw [HN9.out]; have := cntI_leN (fun k => (hotJ M Z.2.hot L i k).isSome) 100000; unfold maxLen; omega
                    clear hgc hpc far r9 hx x0 x1 x2 hxm
                    go_wp2_with fail
                    refine wp_region_tail (C := fun w' => ∃ n, w' = wr.drewN n) 9 (by kernel_rfl) (by kernel_rfl) ⟨1, rfl⟩ ?_
                    simp only [List.take_succ_cons, List.take_zero, List.drop_succ_cons, List.drop_zero]
                    repeat (first | go_big_quiet_step (fail) | quiet_step (fail))
                    refine wpQuiet_nil ?_
                    rintro w9 ⟨nq, rfl⟩
                    clear gc gl pc pl b6 bl9 qi1 qi2
                    go_wp2_with (at_mapUpdate; refine wpList_update_M _ rfl _ _ _ 88 rfl 3 9 Tryz.keyIntP Tryz.underlying88 hb n9 (Value.int .i64) Value.string (hotJ M Z.2.hot L i) (HMQ nq).out rfl hcap9 x _ rfl HK.out (inj_I x) (dText M x) rfl ?_; intro w7 n7 hm7 hn7 ht7)
                    have hcs := cntI_set (p := fun k => (hotJ M Z.2.hot L (i + 1) k).isSome) (q := fun k => (hotJ M Z.2.hot L i k).isSome) (x := x.toNat) (fun k hk => by
                      rw [← hotJ_succ HX.out.1]
                      unfold updT
                      rw [if_neg (by intro e; apply hk; rw [e]; have := HX.out.2.1; omega)]) 100000 (by have := HX.out.2.2; omega)
                    rw [show ((x.toNat : Nat) : Int) = x by have := HX.out.2.1; omega] at hcs
                    have hnew : (hotJ M Z.2.hot L (i + 1) x).isSome = true := by rw [← hotJ_succ HX.out.1]; unfold updT; rw [if_pos rfl]; rfl
                    rw [hnew] at hcs
                    have HN7 := Lib.hid (show n7 = cntI (fun k => (hotJ M Z.2.hot L (i + 1) k).isSome) 100000 by have := HN9.out; simp only [if_true] at hcs; omega)
                    have HM7 := Lib.hid (hotJ_succ HX.out.1 ▸ hm7)
                    have HT7 := Lib.hid ((HT9.out.drewN nq).trans ht7 (fun q hq => .inl hq))
                    clear hm7 hn7 ht7 hcs hnew
                    go_wp2_with fail
                    go_roundw
                    case rel => exact ⟨⟨i + 1, n7, by omega, by go_num, HN7.out, HM7.out, HT7.out⟩⟩
                    case measure => simp [intOf]; omega
                  · obtain rfl : L.length = i := by omega
                    have hall9 := hotJ_all (E := Z.2) HDZ.out (fun i s e => by have a1 := HP6.out.ok.dom i s e; have a2 := HP6.out.ok.geo; have a3 := HP6.out.ok.disk.few; omega) HL.out
                    have HN9' := HN9.out
                    have HM9' := HM9.out
                    rw [hall9] at HM9'
                    simp only [hall9] at HN9'
                    have HN10 := Lib.hid HN9'
                    have HM10 := Lib.hid HM9'
                    obtain ⟨fr, hp, hc⟩ := HP6.out.pool
                    have HCL := Lib.hid (pclean_any (hp.touch HT9.out (fun x hx hm => by simp at hm; subst hm; exact HP6.out.nh.2 hx)))
                    have HCO := Lib.hid hc
                    have b5 : wr.cell? ⟨b, 5, none⟩ = some (.pointer (some ⟨pb, 0, none⟩)) := World.rowIs.cell r9 (i := 5) (by decide)
                    have bl9 := World.rowIs.lt r9
                    clear hall9 HN9' HM9' hp hc r9 far
                    go_wp2_with fail
                    refine HCL.out.mono ?_
                    rintro e w7 ⟨rfl, hgo⟩
                    have HGO := Lib.hid hgo
                    clear hgo
                    go_wp2_with fail
                    go_ret
                    rw [HC.out]
                    have hkp := HP6.out.kept HT9.out HM10.out HN10.out HCO.out HGO.out
                    refine ⟨rfl, ?_⟩
                    obtain ⟨A1, A2, g1, g2, g3, g4⟩ := PgGo.fin2 HB2.out HT.out HF.out T6.out F6.out (HT9.out.mono (fun x hx => .inl (by simp at hx; simp [hx]))) hkp
                    exact ⟨A1, A2, (g1.mono (by have := HNN.out.2; omega)).rek (g1.ok.disk.mono (by have := HNN.out.2; omega)), g2, g3, g4⟩
              · rw [endP_no hz3] at hcm
                have ez3 : (Z.1 != 0) = true := by simpa using hz3
                clear hz3
                obtain ⟨vv, hvv⟩ : ∃ vv, vv = (Z.2.dead || decide (Z.1 ≠ 9)) := ⟨_, rfl⟩
                rw [← hvv] at hcm
                have HC := Lib.hid hcm
                have HDE := Lib.hid (HP6.out.died vv)
                have HTD : Hid (∀ vv, Touch [b, lb, hb] w6 (w6.setCell ⟨b, 7, none⟩ (.bool vv))) := Lib.hid (fun vv => (Touch.refl _ _).setCell (.inl (by simp)) _)
                obtain ⟨c0, c1, c2, c3, c4, c5, c6, c7⟩ := HP6.out.cell
                have bl := HP6.out.lt.1
                have fz := World.rowIs.frozen HP6.out.cells 7
                clear hcm
                cases hdE : Z.2.dead
                · by_cases hE9 : Z.1 = 9
                  · have en : (Z.1 != 9) = false := by rw [hE9]; rfl
                    obtain rfl : vv = false := by rw [hvv, hdE, hE9]; rfl
                    rw [hdE] at c7
                    clear hvv hdE hE9
                    go_wp2_with fail
                    go_ret
                    rw [HC.out]
                    exact ⟨rfl, PgGo.fin HB2.out HT.out HF.out T6.out F6.out (HTD.out _) ((HDE.out.mono (by have := HNN.out.2; omega)).rek (HDE.out.ok.disk.mono (by have := HNN.out.2; omega)))⟩
                  · have en : (Z.1 != 9) = true := by simpa using hE9
                    obtain rfl : vv = true := by rw [hvv, hdE]; simp [hE9]
                    rw [hdE] at c7
                    clear hvv hdE hE9
                    go_wp2_with fail
                    go_ret
                    rw [HC.out]
                    exact ⟨rfl, PgGo.fin HB2.out HT.out HF.out T6.out F6.out (HTD.out _) ((HDE.out.mono (by have := HNN.out.2; omega)).rek (HDE.out.ok.disk.mono (by have := HNN.out.2; omega)))⟩
                · obtain rfl : vv = true := by rw [hvv, hdE]; rfl
                  rw [hdE] at c7
                  clear hvv hdE
                  go_wp2_with fail
                  go_ret
                  rw [HC.out]
                  exact ⟨rfl, PgGo.fin HB2.out HT.out HF.out T6.out F6.out (HTD.out _) ((HDE.out.mono (by have := HNN.out.2; omega)).rek (HDE.out.ok.disk.mono (by have := HNN.out.2; omega)))⟩
            · rw [if_neg hy, endP_no hy] at hcm
              have ey : (Y.1 == 0) = false := by simpa using hy
              have ey' : (Y.1 != 0) = true := by simpa using hy
              clear hy
              obtain ⟨vv, hvv⟩ : ∃ vv, vv = (Y.2.dead || decide (Y.1 ≠ 9)) := ⟨_, rfl⟩
              rw [← hvv] at hcm
              have HC := Lib.hid hcm
              have HDE := Lib.hid (HP5.out.died vv)
              have HTD : Hid (∀ vv, Touch [b, lb, hb] w5 (w5.setCell ⟨b, 7, none⟩ (.bool vv))) := Lib.hid (fun vv => (Touch.refl _ _).setCell (.inl (by simp)) _)
              obtain ⟨c0, c1, c2, c3, c4, c5, c6, c7⟩ := HP5.out.cell
              have bl := HP5.out.lt.1
              have fz := World.rowIs.frozen HP5.out.cells 7
              clear hcm
              cases hdE : Y.2.dead
              · by_cases hE9 : Y.1 = 9
                · have en : (Y.1 != 9) = false := by rw [hE9]; rfl
                  obtain rfl : vv = false := by rw [hvv, hdE, hE9]; rfl
                  rw [hdE] at c7
                  clear hvv hdE hE9
                  go_wp2_with fail
                  go_ret
                  rw [HC.out]
                  exact ⟨rfl, PgGo.fin HB2.out HT.out HF.out T5.out F5.out (HTD.out _) ((HDE.out.mono (by have := HNN.out.2; omega)).rek (HDE.out.ok.disk.mono (by have := HNN.out.2; omega)))⟩
                · have en : (Y.1 != 9) = true := by simpa using hE9
                  obtain rfl : vv = true := by rw [hvv, hdE]; simp [hE9]
                  rw [hdE] at c7
                  clear hvv hdE hE9
                  go_wp2_with fail
                  go_ret
                  rw [HC.out]
                  exact ⟨rfl, PgGo.fin HB2.out HT.out HF.out T5.out F5.out (HTD.out _) ((HDE.out.mono (by have := HNN.out.2; omega)).rek (HDE.out.ok.disk.mono (by have := HNN.out.2; omega)))⟩
              · obtain rfl : vv = true := by rw [hvv, hdE]; rfl
                rw [hdE] at c7
                clear hvv hdE
                go_wp2_with fail
                go_ret
                rw [HC.out]
                exact ⟨rfl, PgGo.fin HB2.out HT.out HF.out T5.out F5.out (HTD.out _) ((HDE.out.mono (by have := HNN.out.2; omega)).rek (HDE.out.ok.disk.mono (by have := HNN.out.2; omega)))⟩
          · have hcm := HCM.out
            rw [if_neg (fun h => hfit h.2), endP_no hz, show (A.2.dead || decide (A.1 ≠ 9)) = false by simp [h9, hdA]] at hcm
            have HC := Lib.hid hcm
            obtain ⟨z, hzz⟩ : ∃ z : Int, z = 1 + 9 * (L.length : Int) := ⟨_, rfl⟩
            rw [← hzz] at q2
            have q2' : IntKind.i64.wrap (1 + 9 * (L.length : Int)) = z := by rw [hzz]; exact IntWalk.i64_in _ (by omega)
            have hfit' : ¬ z ≤ (M.size : Int) := by have := HLN.out; omega
            clear hcm hfit q2 hzz
            have HDE := Lib.hid (HP4.out.died (A.2.dead || decide (A.1 ≠ 9)))
            obtain ⟨c0, c1, c2, c3, c4, c5, c6, c7⟩ := HP4.out.cell
            have bl := HP4.out.lt.1
            have fz := World.rowIs.frozen HP4.out.cells 7
            rw [show (A.2.dead || decide (A.1 ≠ 9)) = false by simp [h9, hdA]] at HDE
            rw [hsA] at c2
            rw [hdA] at c7
            have T4' := Lib.hid (T4.out.mono (G := b :: lb :: hb :: FD) (fun x hx => .inl (by simp only [List.mem_cons] at hx; rcases hx with rfl | hx <;> simp [*])))
            have TD : Hid (Touch [b, lb, hb] w4 (w4.setCell ⟨b, 7, none⟩ (.bool false))) := Lib.hid ((Touch.refl _ _).setCell (.inl (by simp)) _)
            clear h9 hz hsA hdA
            go_wp2_with fail
            go_ret
            rw [HC.out]
            exact ⟨rfl, PgGo.fin HB2.out HT.out HF.out T4'.out F4.out TD.out ((HDE.out.mono (by have := HNN.out.2; omega)).rek (HDE.out.ok.disk.mono (by have := HNN.out.2; omega)))⟩
        · have e9 : (A.1 == 9) = false := by simpa using h9
          have e9' : (A.1 != 9) = true := by simpa using h9
          have hcm := HCM.out
          rw [if_neg (fun h => h9 h.1), endP_no hz, show (A.2.dead || decide (A.1 ≠ 9)) = true by simp [h9]] at hcm
          have HC := Lib.hid hcm
          clear hcm
          have HDE := Lib.hid (HP4.out.died (A.2.dead || decide (A.1 ≠ 9)))
          obtain ⟨c0, c1, c2, c3, c4, c5, c6, c7⟩ := HP4.out.cell
          have bl := HP4.out.lt.1
          have fz := World.rowIs.frozen HP4.out.cells 7
          rw [show (A.2.dead || decide (A.1 ≠ 9)) = true by simp [h9]] at HDE
          have T4' := Lib.hid (T4.out.mono (G := b :: lb :: hb :: FD) (fun x hx => .inl (by simp only [List.mem_cons] at hx; rcases hx with rfl | hx <;> simp [*])))
          have TD : Hid (Touch [b, lb, hb] w4 (w4.setCell ⟨b, 7, none⟩ (.bool true))) := Lib.hid ((Touch.refl _ _).setCell (.inl (by simp)) _)
          cases hdA : A.2.dead
          · rw [hdA] at c7
            go_wp2_with fail
            go_ret
            rw [HC.out]
            exact ⟨rfl, PgGo.fin HB2.out HT.out HF.out T4'.out F4.out TD.out ((HDE.out.mono (by have := HNN.out.2; omega)).rek (HDE.out.ok.disk.mono (by have := HNN.out.2; omega)))⟩
          · rw [hdA] at c7
            go_wp2_with fail
            go_ret
            rw [HC.out]
            exact ⟨rfl, PgGo.fin HB2.out HT.out HF.out T4'.out F4.out TD.out ((HDE.out.mono (by have := HNN.out.2; omega)).rek (HDE.out.ok.disk.mono (by have := HNN.out.2; omega)))⟩
end
end Go.Proofs.YtpaholkmlfaflaaGreatDoor

namespace Go.Proofs.YtpaholkmlfaflaaGreatDoor
open Go.RowKit Go.Maps Go.Joins
set_option linter.unusedVariables false
/-- For how many pages there is room. -/
def mostI (n : Nat) (log : Int) : Nat := if log < 10 ∨ (n : Int) < log then 0 else (n - 2 - log.toNat) / 8
/-- So many sectors are made empty. -/
def fmtN (x : Int × DM) (n : Nat) : Int × DM := (List.range n).foldl (fun x (i : Nat) => stepW x (i : Int) (S (nul 64))) x
theorem fmtN_succ (x : Int × DM) (n : Nat) : fmtN x (n + 1) = stepW (fmtN x n) (n : Int) (S (nul 64)) := by
  unfold fmtN; rw [List.range_succ, List.foldl_append]; rfl
theorem fmtN_ok {x : Int × DM} {k : Nat} (h : DOk x.2 k) : ∀ n, DOk (fmtN x n).2 (k + n)
  | 0 => h
  | n + 1 => by rw [fmtN_succ]; exact (fmtN_ok h n).stepW _ _
/-- The page 0 of a new disk. -/
def page0 : ByteArray := pgStr 1 0 (S (leB 1 4))
theorem page0_size : page0.size = 512 := pgStr_size 1 0 _ (by rw [S_size, leB_length]; omega)
def formatX (m : DM) (log : Nat) : Int × DM := stepF (stepW (stepF (putX (fmtN (0, m) (2 + log)) (2 + log) page0)) 1 (mkStr 1 (superT 1 log)))
def formatP (m : DM) (log : Int) : Int × DM := if mostI m.sure.length log < 1 then (1, m) else formatX m log.toNat
/-- Sectors are being made empty. -/
structure FmLoop (w2 : World) (d cb : Nat) (F : List Nat) (m : DM) (n : Nat) (v : Value) (wr : World) : Prop where
  ex : ∃ j : Nat, j ≤ n ∧ v = .int .i64 j ∧ ApSt w2 d cb F wr (fmtN (0, m) j)
section
variable {W w w1 w2 : World} {d cb k : Nat} {F F1 : List Nat} {m : DM} {e0 : Int} {x : Int × DM}
theorem Goes.same (h : IsDisk w d F m) (hb : Below w.heap.size w w1) : Goes w w1 d F m := ⟨F, h.below hb, Touch.of_below hb, fun _ hb => .inl hb⟩
theorem ApSt.goes {w0 : World} (h : ApSt w d cb F w1 x) (hb : Below w0.heap.size w0 w) (hc : w0.heap.size ≤ cb) : Goes w0 w1 d F x.2 := by
  obtain ⟨F', hon, ht, hF⟩ := h.on
  exact ⟨F', hon.disk, (Touch.of_below (F := F) hb).trans ht (fun x hx => (List.mem_cons.1 hx).elim (fun e => .inr (by omega)) .inl), fun x hx => (hF x hx).imp id (fun h => Nat.le_trans hb.size h)⟩
set_option maxRecDepth 100000 in
set_option maxHeartbeats 1000000 in
theorem most_pages (h : IsDisk W d F m) (hn : m.sure.length ≤ 65536) (log : Int) (l1 : -9223372036854775808 ≤ log) (l2 : log ≤ 9223372036854775807) :
    Calls Tryz.prog 41 #[.pointer (some ⟨d, 0, none⟩), .int .i64 log] W fun e w' => e = .returned (.int .i64 (mostI m.sure.length log)) ∧ W = w' := by
  have HL := Lib.hid (is_len h)
  clear h
  unfold mostI
  by_cases h1 : log < 10
  · rw [if_pos (.inl h1)]
    go_enter Tryz.func41, Tryz.ntmps41
    go_wp2_with fail
    go_ret
    exact ⟨rfl, rfl⟩
  by_cases h2 : (m.sure.length : Int) < log
  · rw [if_pos (.inr h2)]
    go_enter Tryz.func41, Tryz.ntmps41
    go_wp2_with fail
    refine HL.out.mono ?_
    rintro e w1 ⟨rfl, rfl⟩
    go_wp2_with fail
    go_ret
    exact ⟨rfl, rfl⟩
  rw [if_neg (by omega)]
  obtain ⟨L, rfl⟩ : ∃ L : Nat, log = L := ⟨log.toNat, by omega⟩
  have q1 : IntKind.i64.wrap ((m.sure.length : Int) - 2) = (m.sure.length : Int) - 2 := IntWalk.i64_in _ (by omega)
  have q2 : IntKind.i64.wrap ((m.sure.length : Int) - 2 - (L : Int)) = (m.sure.length : Int) - 2 - (L : Int) := IntWalk.i64_in _ (by omega)
  have q0 : ((m.sure.length : Int) - 2 - (L : Int)).tdiv 8 = (((m.sure.length - 2 - (L : Int).toNat) / 8 : Nat) : Int) := by
    by_cases hz : (0 : Int) ≤ (m.sure.length : Int) - 2 - (L : Int)
    · rw [Int.tdiv_eq_ediv_of_nonneg hz]; omega
    · have : (m.sure.length : Int) - 2 - (L : Int) = -1 ∨ (m.sure.length : Int) - 2 - (L : Int) = -2 := by omega
      have e : (m.sure.length - 2 - (L : Int).toNat) / 8 = 0 := by omega
      rw [e]
      rcases this with h | h <;> rw [h] <;> decide
  have q3 : IntKind.i64.wrap ((((m.sure.length - 2 - (L : Int).toNat) / 8 : Nat)) : Int) = (((m.sure.length - 2 - (L : Int).toNat) / 8 : Nat) : Int) := IntWalk.i64_in _ (by omega)
  generalize (m.sure.length - 2 - (L : Int).toNat) / 8 = X at q0 q3 ⊢
  go_enter Tryz.func41, Tryz.ntmps41
  go_wp2_with fail
  refine HL.out.mono ?_
  rintro e w1 ⟨rfl, rfl⟩
  go_wp2_with fail
  refine HL.out.mono ?_
  rintro e w1 ⟨rfl, rfl⟩
  go_wp2_with fail
  go_ret
  exact ⟨rfl, rfl⟩
set_option maxRecDepth 100000 in
set_option maxHeartbeats 1000000 in
theorem fmt_fn1 (h : IsDisk W d F m) (hk : DOk m k) (hkk : k ≤ 1000000000) {b0 b1 b2 i : Nat} {s : ByteArray} (hi : i ≤ 1000000) (hs : s.size ≤ 1000)
    (c0 : W.cell? ⟨b0, 0, none⟩ = some (.pointer (some ⟨d, 0, none⟩))) (c1 : W.cell? ⟨b1, 0, none⟩ = some (.int .i64 i)) (c2 : W.cell? ⟨b2, 0, none⟩ = some (.string s)) :
    Calls Tryz.prog 44 #[.pointer (some ⟨b0, 0, none⟩), .pointer (some ⟨b1, 0, none⟩), .pointer (some ⟨b2, 0, none⟩)] W
      fun e w' => e = .returned (.int .i64 (wrM m (i : Int) s).1) ∧ Goes W w' d F (wrM m (i : Int) s).2 := by
  have HW := Lib.hid (is_write h hk hkk (i : Int) s (by omega) (by omega) (by omega))
  clear h
  go_enter Tryz.func44, Tryz.ntmps44
  go_wp2_with fail
  refine HW.out.mono ?_
  rintro e w7 ⟨rfl, hg⟩
  go_wp2_with fail
  go_ret
  exact ⟨rfl, hg⟩
set_option maxRecDepth 100000 in
set_option maxHeartbeats 1000000 in
theorem fmt_fn2 (h : IsDisk W d F m) (hk : DOk m k) (hkk : k ≤ 1000000000) {b0 b1 log : Nat} (hs : log ≤ 65536)
    (c0 : W.cell? ⟨b0, 0, none⟩ = some (.int .i64 log)) (c1 : W.cell? ⟨b1, 0, none⟩ = some (.pointer (some ⟨d, 0, none⟩))) :
    Calls Tryz.prog 50 #[.pointer (some ⟨b0, 0, none⟩), .pointer (some ⟨b1, 0, none⟩)] W
      fun e w' => e = .returned (.int .i64 (wrM m 1 (mkStr 1 (superT 1 log))).1) ∧ Goes W w' d F (wrM m 1 (mkStr 1 (superT 1 log))).2 := by
  have lt1 := cell_lt c1
  have HSU := Lib.hid (fun W => super_any 1 log W (by omega) hs)
  have HMK := Lib.hid (fun W => markPut_any 1 (superT 1 log) W (by omega) (by rw [superT_size]; omega))
  have hms : (mkStr 1 (superT 1 log)).size = 64 := mkStr_size _ _ (by rw [superT_size]; omega)
  have HW := Lib.hid (fun (W1 : World) (hb : Below W.heap.size W W1) => is_write (h.below hb) hk hkk 1 (mkStr 1 (superT 1 log)) (by omega) (by omega) (by omega))
  have HC := Lib.hid c1
  have HD := Lib.hid h
  clear h hms c1
  go_enter Tryz.func50, Tryz.ntmps50
  go_wp2_with fail
  refine (HSU.out _).mono ?_
  rintro e w1 ⟨rfl, hb1⟩
  go_wp2_with fail
  refine (HMK.out _).mono ?_
  rintro e w2 ⟨rfl, hb2⟩
  have hb := below_step hb2 hb1
  have c1 := (hb.cell (p := ⟨b1, 0, none⟩) lt1).trans HC.out
  have l2 := Nat.lt_of_lt_of_le lt1 hb.size
  have HB := Lib.hid hb
  clear hb1 hb2 hb
  go_wp2_with fail
  refine (HW.out _ HB.out).mono ?_
  rintro e w7 ⟨rfl, hg⟩
  go_wp2_with fail
  go_ret
  exact ⟨rfl, Goes.after (Touch.of_below HB.out) hg⟩
set_option maxRecDepth 100000 in
set_option maxHeartbeats 1000000 in
theorem Format_nil (w : World) (log : Int) :
    Calls Tryz.prog 9 #[.pointer none, .int .i64 log] w fun e w' => e = .returned (.int .i64 1) ∧ Below w.heap.size w w' := by
  go_enter Tryz.func9, Tryz.ntmps9
  go_wp2_with fail
  go_ret
  exact ⟨rfl, below_alloc (below_alloc (Below.refl _ _))⟩
set_option maxRecDepth 100000 in
set_option maxHeartbeats 4000000 in
theorem Format_any (h : IsDisk w d F m) (hk : DOk m k) (hkk : k ≤ 100000) (log : Int) (l1 : -9223372036854775808 ≤ log) (l2 : log ≤ 9223372036854775807) :
    Calls Tryz.prog 9 #[.pointer (some ⟨d, 0, none⟩), .int .i64 log] w fun e w' => e = .returned (.int .i64 (formatP m log).1) ∧ Goes w w' d F (formatP m log).2 := by
  have hm := fun (W : World) (hb : Below w.heap.size w W) => most_pages (h.below hb) hk.few log l1 l2
  have H := Lib.hid h
  have hfew := hk.few
  have hFlt := h.lt
  clear h
  unfold formatP
  obtain ⟨N, hN⟩ : ∃ N, N = mostI m.sure.length log := ⟨_, rfl⟩
  rw [← hN] at hm ⊢
  have HM := Lib.hid hm
  clear hm
  by_cases hm1 : N < 1
  · rw [if_pos hm1]
    have t : (N : Int) < 1 := by omega
    go_enter Tryz.func9, Tryz.ntmps9
    go_wp2_with fail
    refine (HM.out _ (below_alloc (below_alloc (Below.refl _ _)))).mono ?_
    rintro e w1 ⟨rfl, rfl⟩
    go_wp2_with fail
    go_ret
    exact ⟨rfl, Goes.same H.out (below_alloc (below_alloc (Below.refl _ _)))⟩
  rw [if_neg hm1]
  have t : ¬ (N : Int) < 1 := by omega
  obtain ⟨hl10, hll⟩ : 10 ≤ log ∧ log ≤ m.sure.length := by
    unfold mostI at hN
    by_cases e : log < 10 ∨ (m.sure.length : Int) < log
    · rw [if_pos e] at hN; omega
    · omega
  obtain ⟨L, rfl⟩ : ∃ L : Nat, log = L := ⟨log.toNat, by omega⟩
  rw [Int.toNat_natCast]
  have HFI := Lib.hid (fun W => pfill_any ⟨#[]⟩ 64 W (by decide) (by omega))
  have HPU := Lib.hid (fun W => put_any 1 4 W (by omega) (by omega))
  have HPK := Lib.hid (fun W => pack_any 1 0 (S (leB 1 4)) W (by decide) (by rw [S_size, leB_length]; omega))
  rw [show fillR ⟨#[]⟩ 64 = S (nul 64) from rfl] at HFI
  rw [show pgStr 1 0 (S (leB 1 4)) = page0 from rfl] at HPK
  clear hN hm1
  go_enter Tryz.func9, Tryz.ntmps9
  go_wp2_with fail
  refine (HM.out _ (below_alloc (below_alloc (Below.refl _ _)))).mono ?_
  rintro e w1 ⟨rfl, rfl⟩
  go_wp2_with fail
  first | refine wp_name (fun W0 hW0 => ?_) | refine calls_name (fun W0 hW0 => ?_)
  have hb0 : Below w.heap.size w W0 := by rw [← hW0]; exact below_alloc (below_alloc (below_alloc (Below.refl _ _)))
  have hc0 : W0.cell? ⟨w.heap.size, 0, none⟩ = some (.pointer (some ⟨d, 0, none⟩)) ∧ W0.cell? ⟨w.heap.size + 1, 0, none⟩ = some (.int .i64 L) ∧ W0.cell? ⟨w.heap.size + 1 + 1, 0, none⟩ = some (.int .i64 0) ∧ W0.frozen? ⟨w.heap.size + 1 + 1, 0, none⟩ = false ∧ W0.heap.size = w.heap.size + 1 + 1 + 1 := by
    rw [← hW0]
    refine ⟨?_, ?_, ?_, ?_, ?_⟩
    · clear hW0; go_simp
    · clear hW0; go_simp
    · clear hW0; go_simp
    · clear hW0; go_simp
    · simp
  clear hW0
  have HB0 := Lib.hid hb0
  have HC0 := Lib.hid hc0
  clear hb0 hc0
  refine (HFI.out _).mono ?_
  rintro e w1 ⟨rfl, hb1⟩
  have hs1 := hb1.size
  have hz := HC0.out.2.2.2.2
  have k0 : w1.cell? ⟨w.heap.size, 0, none⟩ = some (.pointer (some ⟨d, 0, none⟩)) := (hb1.cell (p := ⟨_, _, none⟩) (by show w.heap.size < _; omega)).trans HC0.out.1
  have k1 : w1.cell? ⟨w.heap.size + 1, 0, none⟩ = some (.int .i64 L) := (hb1.cell (p := ⟨_, _, none⟩) (by show w.heap.size + 1 < _; omega)).trans HC0.out.2.1
  have k2 : w1.cell? ⟨w.heap.size + 1 + 1, 0, none⟩ = some (.int .i64 0) := (hb1.cell (p := ⟨_, _, none⟩) (by show w.heap.size + 1 + 1 < _; omega)).trans HC0.out.2.2.1
  have kf : w1.frozen? ⟨w.heap.size + 1 + 1, 0, none⟩ = false := (hb1.frozen (p := ⟨_, _, none⟩) (by show w.heap.size + 1 + 1 < _; omega)).trans HC0.out.2.2.2.1
  have l1' : w.heap.size + 1 < w1.heap.size := by omega
  have HS1 := Lib.hid (show w.heap.size + 1 + 1 < w1.heap.size by omega)
  have HB1 := Lib.hid (below_step hb1 HB0.out)
  have HK1 := Lib.hid (And.intro k0 (And.intro k1 (And.intro k2 kf)))
  have q0 : IntKind.i64.wrap (2 + (L : Int)) = ((2 + L : Nat) : Int) := by rw [IntWalk.i64_in _ (by omega)]; omega
  clear hb1 k0 k2 kf hs1 hz
  go_wp2_with fail
  refine wp_name (fun w2 hw2 => ?_)
  have hb2 : Below w1.heap.size w1 w2 := by rw [← hw2]; exact below_alloc (Below.refl _ _)
  have k3 : w2.cell? ⟨w1.heap.size, 0, none⟩ = some (.string (S (nul 64))) := by rw [← hw2]; exact cell_new _ _ _
  have hs2 : w1.heap.size < w2.heap.size := by rw [← hw2]; simp
  have HS2 := Lib.hid hs2
  have HB2 := Lib.hid (below_step hb2 HB1.out)
  have HON2 : Hid (ChOn w2 d (w.heap.size + 1 + 1) F m 0) := Lib.hid ⟨H.out.below HB2.out, (hb2.cell (p := ⟨_, _, none⟩) HS1.out).trans HK1.out.2.2.1, (hb2.frozen (p := ⟨_, _, none⟩) HS1.out).trans HK1.out.2.2.2, fun hm => by have := hFlt _ hm; omega⟩
  have HCX : ∀ w', Touch ((w.heap.size + 1 + 1) :: F) w2 w' → Hid (w'.cell? ⟨w.heap.size, 0, none⟩ = some (.pointer (some ⟨d, 0, none⟩)) ∧ w'.cell? ⟨w.heap.size + 1, 0, none⟩ = some (.int .i64 L) ∧ w'.cell? ⟨w1.heap.size, 0, none⟩ = some (.string (S (nul 64))) ∧ w1.heap.size < w'.heap.size) := fun w' t => by
    have far : ∀ q, w.heap.size ≤ q → q ≠ w.heap.size + 1 + 1 → q ∉ (w.heap.size + 1 + 1) :: F := fun q hq hn hm => by
      rcases List.mem_cons.1 hm with e | hm
      · exact hn e
      · have := hFlt _ hm; omega
    have := HS1.out
    have := HS2.out
    exact Lib.hid ⟨(t.cell (p := ⟨w.heap.size, 0, none⟩) (by show w.heap.size < _; omega) (far w.heap.size (by omega) (by omega))).trans ((hb2.cell (p := ⟨_, _, none⟩) (by show w.heap.size < _; omega)).trans HK1.out.1), (t.cell (p := ⟨w.heap.size + 1, 0, none⟩) (by show w.heap.size + 1 < _; omega) (far (w.heap.size + 1) (by omega) (by omega))).trans ((hb2.cell (p := ⟨_, _, none⟩) (by show w.heap.size + 1 < _; omega)).trans HK1.out.2.1), (t.cell (p := ⟨w1.heap.size, 0, none⟩) (by show w1.heap.size < _; omega) (far w1.heap.size (by omega) (by omega))).trans k3, Nat.lt_of_lt_of_le HS2.out t.size⟩
  clear hw2 hb2 k3 hs2 k1 l1' q0
  go_loopw [7, 23] (fun v7 v23 wr => FmLoop w2 d (w.heap.size + 1 + 1) F m (2 + L) v23 wr) (fun _ v23 _ => 2 + L - (intOf v23).toNat)
  case atStart => exact ⟨⟨0, Nat.zero_le _, rfl, HON2.out.st⟩⟩
  case round =>
    obtain ⟨⟨j, hj, rfl, hst⟩⟩ := hrel
    obtain ⟨F1, hon, ht, hF1⟩ := hst.on
    have HON := Lib.hid hon
    have HT := Lib.hid ht
    have HF := Lib.hid hF1
    have CX := HCX _ ht
    clear hst hon ht hF1
    by_cases hltj : j < 2 + L
    · have hq2 : (j : Int) < ((2 + L : Nat) : Int) := by omega
      have hdk := fmtN_ok (x := (0, m)) hk j
      have hpos : ∀ (W1 : World) (hb : Below wr.heap.size wr W1) (h2 : W1.cell? ⟨wr.heap.size, 0, none⟩ = some (.int .i64 j)), Hid (Calls Tryz.prog 43 #[.pointer (some ⟨w.heap.size + 1 + 1, 0, none⟩), .func (Fn.func 44) #[] #[.pointer (some ⟨w.heap.size, 0, none⟩), .pointer (some ⟨wr.heap.size, 0, none⟩), .pointer (some ⟨w1.heap.size, 0, none⟩)]] W1 fun e w' => e = .returned (.tuple #[]) ∧ ApSt W1 d (w.heap.size + 1 + 1) F1 w' (if (fmtN (0, m) j).1 = 0 then wrM (fmtN (0, m) j).2 (j : Int) (S (nul 64)) else ((fmtN (0, m) j).1, (fmtN (0, m) j).2))) := fun W1 hb h2 => by
        have hlw := CX.out.2.2.2
        have hls := HS1.out
        exact Lib.hid (then_any (HON.out.below hb) _ _ _ (wrM (fmtN (0, m) j).2 (j : Int) (S (nul 64))) (by kernel_rfl) (fmt_fn1 (HON.out.below hb).disk hdk (by omega) (by omega) (by rw [S_size, nul_length]; omega) ((hb.cell (p := ⟨w.heap.size, 0, none⟩) (by show w.heap.size < _; omega)).trans CX.out.1) h2 ((hb.cell (p := ⟨w1.heap.size, 0, none⟩) (by show w1.heap.size < _; omega)).trans CX.out.2.2.1)))
      clear hdk
      go_wp2_with fail
      first | refine wp_name (fun W3 hW3 => ?_) | refine calls_name (fun W3 hW3 => ?_)
      have hb3 : Below wr.heap.size wr W3 := by rw [← hW3]; exact below_alloc (Below.refl _ _)
      have h2 : W3.cell? ⟨wr.heap.size, 0, none⟩ = some (.int .i64 j) := by rw [← hW3]; clear hW3; go_simp
      clear hW3
      refine (hpos W3 hb3 h2).out.mono ?_
      rintro e w5 ⟨rfl, hst5⟩
      have hst5' : ApSt w2 d (w.heap.size + 1 + 1) F w5 (fmtN (0, m) (j + 1)) := by
        rw [fmtN_succ]
        exact ApSt.trans (HT.out.trans (Touch.of_below (F := (w.heap.size + 1 + 1) :: F) hb3) (fun x hx => .inl hx)) (fun x hx => HF.out x hx) hst5
      have HST := Lib.hid hst5'
      clear hst5 hst5' h2 hb3 hpos
      go_wp2_with fail
      go_roundw
      case rel => exact ⟨⟨j + 1, by omega, by go_num, HST.out⟩⟩
      case measure => simp [intOf]; omega
    obtain rfl : 2 + L = j := by omega
    have hok1 := fmtN_ok (x := (0, m)) hk (2 + L)
    obtain ⟨y1, hy1⟩ : ∃ y1, y1 = fmtN (0, m) (2 + L) := ⟨_, rfl⟩
    rw [← hy1] at HON hok1
    have hok2 : DOk (putX y1 (2 + L) page0).2 (k + (2 + L) + 8) := putN_ok hok1 (2 + L) page0 8
    have hok3 := hok2.stepF
    have hok4 := hok3.stepW 1 (mkStr 1 (superT 1 L))
    have HX := Lib.hid (show formatX m L = stepF (stepW (stepF (putX y1 (2 + L) page0)) 1 (mkStr 1 (superT 1 L))) by rw [hy1]; rfl)
    have HOK := Lib.hid (And.intro hok1 (And.intro hok2 (And.intro hok3 hok4)))
    clear hy1 hok1 hok2 hok3 hok4 hltj
    go_wp2_with fail
    refine (HPU.out _).mono ?_
    rintro e w3 ⟨rfl, hb3⟩
    have HB3 := Lib.hid hb3
    clear hb3
    go_wp2_with fail
    refine (HPK.out _).mono ?_
    rintro e w4 ⟨rfl, hb4⟩
    have hb34 := below_step hb4 HB3.out
    have hst : ApSt wr d (w.heap.size + 1 + 1) F1 w4 y1 := ApSt.first hb34 (HON.out.below hb34).st
    clear hb4 hb34
    obtain ⟨F1, hon, t, f⟩ := hst.on
    have HON := Lib.hid hon
    have HF' := Lib.hid (show ∀ x ∈ F1, x ∈ F ∨ w2.heap.size ≤ x from fun x hx => (f x hx).elim (HF.out x) (fun h => .inr (Nat.le_trans HT.out.size h)))
    have HT' := Lib.hid (HT.out.trans t (fun x hx => (List.mem_cons.1 hx).elim (fun e => .inl (by simp [e])) (fun hm => (HF.out x hm).imp (fun h => by simp [h]) id)))
    have HF := HF'
    have HT := HT'
    have CX := HCX _ HT.out
    clear hst hon t f HF' HT'
    have HPP := Lib.hid (put_page HON.out HOK.out.1 (by omega) (2 + L) page0 (by omega) page0_size)
    have q0 : IntKind.i64.wrap (2 + (L : Int)) = ((2 + L : Nat) : Int) := by rw [IntWalk.i64_in _ (by omega)]; omega
    have k0 := CX.out.1
    have k1 := CX.out.2.1
    have lw := CX.out.2.2.2
    have ls := HS1.out
    have l0 : w.heap.size < w4.heap.size := by omega
    have l1' : w.heap.size + 1 < w4.heap.size := by omega
    go_wp2_with fail
    refine HPP.out.mono ?_
    rintro e w5 ⟨rfl, hst0⟩
    have hst : ApSt w4 d (w.heap.size + 1 + 1) F1 w5 (putX y1 (2 + L) page0) := hst0
    clear hst0 k0 k1 lw l0 l1' q0 HPP
    obtain ⟨F1, hon, t, f⟩ := hst.on
    have HON := Lib.hid hon
    have HF' := Lib.hid (show ∀ x ∈ F1, x ∈ F ∨ w2.heap.size ≤ x from fun x hx => (f x hx).elim (HF.out x) (fun h => .inr (Nat.le_trans HT.out.size h)))
    have HT' := Lib.hid (HT.out.trans t (fun x hx => (List.mem_cons.1 hx).elim (fun e => .inl (by simp [e])) (fun hm => (HF.out x hm).imp (fun h => by simp [h]) id)))
    have HF := HF'
    have HT := HT'
    have CX := HCX _ HT.out
    clear hst hon t f HF' HT'
    have HFL := Lib.hid (pthen_flush HON.out HOK.out.2.1 (by omega))
    have k0 := CX.out.1
    have k1 := CX.out.2.1
    have lw := CX.out.2.2.2
    have ls := HS1.out
    have l0 : w.heap.size < w5.heap.size := by omega
    have l1' : w.heap.size + 1 < w5.heap.size := by omega
    go_wp2_with fail
    refine HFL.out.mono ?_
    rintro e w6 ⟨rfl, hst0⟩
    have hst : ApSt w5 d (w.heap.size + 1 + 1) F1 w6 (stepF (putX y1 (2 + L) page0)) := hst0
    clear hst0 k0 k1 lw l0 l1' HFL
    obtain ⟨F1, hon, t, f⟩ := hst.on
    have HON := Lib.hid hon
    have HF' := Lib.hid (show ∀ x ∈ F1, x ∈ F ∨ w2.heap.size ≤ x from fun x hx => (f x hx).elim (HF.out x) (fun h => .inr (Nat.le_trans HT.out.size h)))
    have HT' := Lib.hid (HT.out.trans t (fun x hx => (List.mem_cons.1 hx).elim (fun e => .inl (by simp [e])) (fun hm => (HF.out x hm).imp (fun h => by simp [h]) id)))
    have HF := HF'
    have HT := HT'
    have CX := HCX _ HT.out
    clear hst hon t f HF' HT'
    have HFN := Lib.hid (fmt_fn2 HON.out.disk HOK.out.2.2.1 (by omega) (by omega) CX.out.2.1 CX.out.1)
    have HTH := Lib.hid (then_any HON.out 50 #[] #[.pointer (some ⟨w.heap.size + 1, 0, none⟩), .pointer (some ⟨w.heap.size, 0, none⟩)] (wrM (stepF (putX y1 (2 + L) page0)).2 1 (mkStr 1 (superT 1 L))) (by kernel_rfl) HFN.out)
    go_wp2_with fail
    refine HTH.out.mono ?_
    rintro e w7 ⟨rfl, hst0⟩
    have hst : ApSt w6 d (w.heap.size + 1 + 1) F1 w7 (stepW (stepF (putX y1 (2 + L) page0)) 1 (mkStr 1 (superT 1 L))) := hst0
    clear hst0 HTH HFN
    obtain ⟨F1, hon, t, f⟩ := hst.on
    have HON := Lib.hid hon
    have HF' := Lib.hid (show ∀ x ∈ F1, x ∈ F ∨ w2.heap.size ≤ x from fun x hx => (f x hx).elim (HF.out x) (fun h => .inr (Nat.le_trans HT.out.size h)))
    have HT' := Lib.hid (HT.out.trans t (fun x hx => (List.mem_cons.1 hx).elim (fun e => .inl (by simp [e])) (fun hm => (HF.out x hm).imp (fun h => by simp [h]) id)))
    have HF := HF'
    have HT := HT'
    have CX := HCX _ HT.out
    clear hst hon t f HF' HT'
    have HFL := Lib.hid (pthen_flush HON.out HOK.out.2.2.2 (by omega))
    have k0 := CX.out.1
    have k1 := CX.out.2.1
    have lw := CX.out.2.2.2
    have ls := HS1.out
    have l0 : w.heap.size < w7.heap.size := by omega
    have l1' : w.heap.size + 1 < w7.heap.size := by omega
    go_wp2_with fail
    refine HFL.out.mono ?_
    rintro e w8 ⟨rfl, hst0⟩
    obtain ⟨X, hXE⟩ : ∃ X, X = formatX m L := ⟨_, rfl⟩
    have hst : ApSt w7 d (w.heap.size + 1 + 1) F1 w8 X := by rw [hXE, HX.out]; exact hst0
    have HXE := Lib.hid hXE
    clear hst0 k0 k1 lw l0 l1' HFL hXE HX
    obtain ⟨F1, hon, t, f⟩ := hst.on
    have HON := Lib.hid hon
    have HF' := Lib.hid (show ∀ x ∈ F1, x ∈ F ∨ w2.heap.size ≤ x from fun x hx => (f x hx).elim (HF.out x) (fun h => .inr (Nat.le_trans HT.out.size h)))
    have HT' := Lib.hid (HT.out.trans t (fun x hx => (List.mem_cons.1 hx).elim (fun e => .inl (by simp [e])) (fun hm => (HF.out x hm).imp (fun h => by simp [h]) id)))
    have HF := HF'
    have HT := HT'
    have CX := HCX _ HT.out
    clear hst hon t f HF' HT'
    have ce := HON.out.err
    have cl := cell_lt HON.out.err
    have hgo : Goes w w8 d F X.2 := ApSt.goes (w := w2) (cb := w.heap.size + 1 + 1) ⟨F1, HON.out.disk, HON.out.err, HON.out.errf, HT.out, HF.out, HON.out.ne⟩ HB2.out (by omega)
    have HGO := Lib.hid hgo
    clear hgo
    go_wp2_with fail
    go_ret
    rw [← HXE.out]
    exact ⟨rfl, HGO.out⟩
end
end Go.Proofs.YtpaholkmlfaflaaGreatDoor

namespace Go.Proofs.YtpaholkmlfaflaaGreatDoor
open Go.RowKit Go.Maps Go.Joins
set_option linter.unusedVariables false
/-- Is the page 0 as it should be? -/
def soundR (kd : Int) (r : ByteArray) (er : Int) (most : Nat) : Int :=
  if er = 11 then 11 else if er ≠ 0 ∨ kd ≠ 1 ∨ r ≠ fillR (r.extract 0 72) 496 then 19 else if usedR r < 1 ∨ (most : Int) < usedR r ∨ usedR r ≤ freeR r then 19 else 0
def soundP (M : PM) : Int := soundR (rdP M 0).1 (rdP M 0).2.1 (rdP M 0).2.2 M.most
section
variable {w w' w1 w2 : World} {b d lb pb hb K J k : Nat} {FD FP F1 : List Nat} {M M' : PM}
theorem soundP_snd (h : soundP M = 0) : Snd M := by
  intro h0
  unfold soundP soundR at h
  rw [h0, if_neg (by decide)] at h
  split at h
  · cases h
  · split at h
    · cases h
    · rename_i h2
      omega
set_option maxRecDepth 100000 in
set_option maxHeartbeats 4000000 in
theorem sound_any (h : PgIn w b d lb pb hb FD FP K k M) (hK : K ≤ 2000000000000000000) :
    Calls Tryz.prog 59 #[.pointer (some ⟨b, 0, none⟩)] w fun e w' => e = .returned (.int .i64 (soundP M)) ∧ PgStep w w' b d lb pb hb FD FP (K + 2) k M := by
  have HR := Lib.hid (pread_int h (by omega) 0 (by omega) (by have := h.ok.most1; omega))
  have hsz := rdP_size (M := M) (no := 0)
  have hmost : M.most ≤ 65536 := by have := h.ok.geo; have := h.ok.disk.few; omega
  clear h
  unfold soundP
  generalize rdP M 0 = x at HR hsz ⊢
  obtain ⟨kd, r, er⟩ := x
  simp only at HR hsz ⊢
  by_cases h11 : er = 11
  · have e : soundR kd r er M.most = 11 := by unfold soundR; rw [if_pos h11]
    rw [e]
    have t1 : (er == 11) = true := by simp [h11]
    clear hsz
    go_enter Tryz.func59, Tryz.ntmps59
    go_wp2_with fail
    refine HR.out.mono ?_
    rintro e w1 ⟨rfl, hst⟩
    have HST := Lib.hid hst
    clear hst
    go_wp2_with fail
    go_ret
    exact ⟨rfl, HST.out⟩
  have t1 : (er == 11) = false := by simp [h11]
  by_cases h0 : er = 0
  rotate_left
  · have e : soundR kd r er M.most = 19 := by unfold soundR; rw [if_neg h11, if_pos (.inl h0)]
    rw [e]
    have t2 : (er != 0) = true := by simpa using h0
    clear hsz
    go_enter Tryz.func59, Tryz.ntmps59
    go_wp2_with fail
    refine HR.out.mono ?_
    rintro e w1 ⟨rfl, hst⟩
    have HST := Lib.hid hst
    clear hst
    go_wp2_with fail
    go_ret
    exact ⟨rfl, HST.out⟩
  have hz := hsz h0
  subst h0
  clear hsz
  by_cases hk : kd = 1
  rotate_left
  · have e : soundR kd r 0 M.most = 19 := by unfold soundR; rw [if_neg h11, if_pos (.inr (.inl hk))]
    rw [e]
    have t2 : (kd != 1) = true := by simpa using hk
    go_enter Tryz.func59, Tryz.ntmps59
    go_wp2_with fail
    refine HR.out.mono ?_
    rintro e w1 ⟨rfl, hst⟩
    have HST := Lib.hid hst
    clear hst
    go_wp2_with fail
    go_ret
    exact ⟨rfl, HST.out⟩
  have t2 : (kd != 1) = false := by simpa using hk
  have hxs : (r.extract 0 72).size = 72 := by rw [ByteArray.size_extract]; omega
  have HFI := Lib.hid (fun W => pfill_any (r.extract 0 72) 496 W (by omega) (by omega))
  obtain ⟨R, hR⟩ : ∃ R, R = fillR (r.extract 0 72) 496 := ⟨_, rfl⟩
  by_cases hr : r = R
  rotate_left
  · have e : soundR kd r 0 M.most = 19 := by unfold soundR; rw [if_neg h11, if_pos (.inr (.inr (by rw [← hR]; exact hr)))]
    rw [e]
    rw [← hR] at HFI
    have t3 := str_ne hr
    clear hR e
    go_enter Tryz.func59, Tryz.ntmps59
    go_wp2_with fail
    refine HR.out.mono ?_
    rintro e w1 ⟨rfl, hst⟩
    have HST := Lib.hid hst
    clear hst
    go_wp2_with fail
    refine (HFI.out _).mono ?_
    rintro e w2 ⟨rfl, hb2⟩
    have HST2 := Lib.hid (HST.out.after hb2)
    go_wp2_with fail
    go_ret
    exact ⟨rfl, HST2.out⟩
  have e0 : soundR kd r 0 M.most = if usedR r < 1 ∨ (M.most : Int) < usedR r ∨ usedR r ≤ freeR r then 19 else 0 := by
    unfold soundR
    rw [if_neg h11, if_neg (by rw [← hR]; simp [hk, hr])]
  rw [e0]
  rw [← hR] at HFI
  have b1 := usedR_bd r
  have b2 := freeR_bd r
  have HH := Lib.hid (fun W p => head_any W p r (by omega) (by omega))
  have HRR := Lib.hid hr
  clear hR e0 hr
  have t3 := str_eq HRR.out
  by_cases u1 : usedR r < 1
  · rw [if_pos (.inl u1)]
    go_enter Tryz.func59, Tryz.ntmps59
    go_wp2_with fail
    refine HR.out.mono ?_
    rintro e w1 ⟨rfl, hst⟩
    have HST := Lib.hid hst
    clear hst
    go_wp2_with fail
    refine (HFI.out _).mono ?_
    rintro e w2 ⟨rfl, hb2⟩
    obtain ⟨F2, h2, t2', f2⟩ := HST.out.after hb2
    have HT := Lib.hid t2'
    have HF := Lib.hid f2
    have HP := Lib.hid h2
    obtain ⟨c0, c1, c2, c3, c4, c5, c6, c7⟩ := h2.cell
    have bl := h2.lt.1
    clear h2 t2' f2 hb2
    go_wp2_with fail
    refine (HH.out _ _).mono ?_
    rintro e w3 ⟨rfl, rfl⟩
    clear t1 t2 t3
    go_wp2_with fail
    go_ret
    exact ⟨rfl, _, HP.out, HT.out, HF.out⟩
  by_cases u2 : (M.most : Int) < usedR r
  · rw [if_pos (.inr (.inl u2))]
    go_enter Tryz.func59, Tryz.ntmps59
    go_wp2_with fail
    refine HR.out.mono ?_
    rintro e w1 ⟨rfl, hst⟩
    have HST := Lib.hid hst
    clear hst
    go_wp2_with fail
    refine (HFI.out _).mono ?_
    rintro e w2 ⟨rfl, hb2⟩
    obtain ⟨F2, h2, t2', f2⟩ := HST.out.after hb2
    have HT := Lib.hid t2'
    have HF := Lib.hid f2
    have HP := Lib.hid h2
    obtain ⟨c0, c1, c2, c3, c4, c5, c6, c7⟩ := h2.cell
    have bl := h2.lt.1
    clear h2 t2' f2 hb2
    go_wp2_with fail
    refine (HH.out _ _).mono ?_
    rintro e w3 ⟨rfl, rfl⟩
    clear t1 t2 t3
    go_wp2_with fail
    go_ret
    exact ⟨rfl, _, HP.out, HT.out, HF.out⟩
  by_cases u3 : usedR r ≤ freeR r
  · rw [if_pos (.inr (.inr u3))]
    go_enter Tryz.func59, Tryz.ntmps59
    go_wp2_with fail
    refine HR.out.mono ?_
    rintro e w1 ⟨rfl, hst⟩
    have HST := Lib.hid hst
    clear hst
    go_wp2_with fail
    refine (HFI.out _).mono ?_
    rintro e w2 ⟨rfl, hb2⟩
    obtain ⟨F2, h2, t2', f2⟩ := HST.out.after hb2
    have HT := Lib.hid t2'
    have HF := Lib.hid f2
    have HP := Lib.hid h2
    obtain ⟨c0, c1, c2, c3, c4, c5, c6, c7⟩ := h2.cell
    have bl := h2.lt.1
    clear h2 t2' f2 hb2
    go_wp2_with fail
    refine (HH.out _ _).mono ?_
    rintro e w3 ⟨rfl, rfl⟩
    clear t1 t2 t3
    go_wp2_with fail
    go_ret
    exact ⟨rfl, _, HP.out, HT.out, HF.out⟩
  · rw [if_neg (by rintro (h | h | h); exact u1 h; exact u2 h; exact u3 h)]
    go_enter Tryz.func59, Tryz.ntmps59
    go_wp2_with fail
    refine HR.out.mono ?_
    rintro e w1 ⟨rfl, hst⟩
    have HST := Lib.hid hst
    clear hst
    go_wp2_with fail
    refine (HFI.out _).mono ?_
    rintro e w2 ⟨rfl, hb2⟩
    obtain ⟨F2, h2, t2', f2⟩ := HST.out.after hb2
    have HT := Lib.hid t2'
    have HF := Lib.hid f2
    have HP := Lib.hid h2
    obtain ⟨c0, c1, c2, c3, c4, c5, c6, c7⟩ := h2.cell
    have bl := h2.lt.1
    clear h2 t2' f2 hb2
    go_wp2_with fail
    refine (HH.out _ _).mono ?_
    rintro e w3 ⟨rfl, rfl⟩
    clear t1 t2 t3
    go_wp2_with fail
    go_ret
    exact ⟨rfl, _, HP.out, HT.out, HF.out⟩
end
end Go.Proofs.YtpaholkmlfaflaaGreatDoor

