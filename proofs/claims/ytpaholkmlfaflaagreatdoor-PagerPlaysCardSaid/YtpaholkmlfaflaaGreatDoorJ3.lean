/- Lemmas on the way to the statement: Disk2, Disk3, Disk4, Disk5, Disk6, DiskIs, Redo3. -/
import Derived.Test.YtpaholkmlfaflaaGreatDoorJ2
import Derived.Deep.RegionHeld3
import Derived.IntWalk
namespace Go.Proofs.YtpaholkmlfaflaaGreatDoor
open Go.RowKit Go.Maps Go.Joins
set_option linter.unusedVariables false

/-- What the writes so far have made of the sectors. -/
def flTo (su : List ByteArray) (l : List (Int × ByteArray)) : List ByteArray := l.foldl (fun su x => su.set x.1.toNat x.2) su
theorem flTo_length : ∀ (l : List (Int × ByteArray)) (su : List ByteArray), (flTo su l).length = su.length
  | [], su => rfl
  | x :: l, su => by
    show (flTo (su.set x.1.toNat x.2) l).length = _
    rw [flTo_length l, List.length_set]
theorem flTo_snoc (su : List ByteArray) (l : List (Int × ByteArray)) (x : Int × ByteArray) : flTo su (l ++ [x]) = (flTo su l).set x.1.toNat x.2 := by
  simp [flTo, List.foldl_append]

/-- Flush's own function. -/
theorem flushFn (i at_ : Int) (s : ByteArray) (w : World) :
    Calls Tryz.prog 86 #[.int .i64 i, .agg #[.int .i64 at_, .string s]] w fun e w' => e = .returned (.string s) ∧ w' = w.alloc (.cells #[.int .i64 at_, .string s] 121) := by
  go_enter Tryz.func86, Tryz.ntmps86
  go_wp2_with fail
  go_ret
  exact ⟨rfl, rfl⟩

/-- A sector is set. -/
theorem DiskAt.setSure {w : World} {d sb sc M : Nat} {wv : Value} {D : DataW Unit} {m : DM} (h : DiskAt w d sb sc M wv D m) (j : Nat) (s : ByteArray) : DiskAt (w.setCell ⟨sb, j, none⟩ (.string s)) d sb sc M wv D { m with sure := m.sure.set j s } := by
  have t : Touch [sb] w (w.setCell ⟨sb, j, none⟩ (.string s)) := (Touch.refl _ _).setCell (.inl (by simp)) _
  refine ⟨World.rowIs.congr (rowIs_touch h.cells t (by simp; exact h.ne1)) (fun i hi => ?_), ?_, ownsRow_touch h.wait t (fun g hg => by simp; exact (h.ne4 g hg).2.1), ownsMap_touch h.map t (by simp; exact fun e => h.ne3 e.symm), h.mapIs, h.ne1, h.ne2, h.ne3, h.ne4⟩
  · rcases i with _ | _ | _ | _ | _ | i <;> simp [diskF]
  · have := (h.sure.stored j (.string s)).1
    simp only [List.length_set]
    rw [List.map_set]
    exact this

/-- Nothing waits any more. -/
theorem disk_settled {w1 w3 : World} {d sb sc M : Nat} {wv : Value} {D : DataW Unit} {m : DM} (h : DiskAt w1 d sb sc M wv D m)
    (hmap : w3.ownsMap Tryz.prog 3 (plainElem Tryz.prog 9) M 0 (.map [] : DataW Unit)) (hg3 : (w1.setCell ⟨d, 1, none⟩ (.slice none 0 0)).grownBy w3 (some M)) :
    DiskAt w3 d sb sc M (.slice none 0 0) (.map []) { m with wait := [] } ∧ Touch [d, M] w1 w3 := by
  have t2 : Touch [d] w1 (w1.setCell ⟨d, 1, none⟩ (.slice none 0 0)) := (Touch.refl _ _).setCell (.inl (by simp)) _
  have t3 := Touch.of_grown hg3
  have hd3 := World.rowIs.set h.cells 1 (.slice none 0 0)
  have hd4 := rowIs_touch hd3 t3 (by simp; exact h.ne2)
  have hs4 := ownsRow_touch (ownsRow_touch h.sure t2 (by intro g' hg'; cases hg'; simp; exact fun e => h.ne1 e.symm)) t3 (by intro g' hg'; cases hg'; simp; exact h.ne3)
  refine ⟨⟨World.rowIs.congr hd4 (fun j hj => by rcases j with _ | _ | _ | _ | _ | j <;> first | rfl | omega), hs4, World.ownsRow_nil _ _ _ _, hmap, MapIs.empty, h.ne1, h.ne2, h.ne3, fun g hg => by cases hg⟩, ?_⟩
  exact (t2.mono (fun b hb => .inl (by simp at hb; subst hb; simp))).trans t3 (fun b hb => .inl (by simp at hb; subst hb; simp))

/-- Are the writes within the disk? -/
def WaitOk (m : DM) : Prop := ∀ x ∈ m.wait, ∃ j : Nat, x.1 = j ∧ j < m.sure.length

set_option maxRecDepth 100000 in
set_option maxHeartbeats 4000000 in
theorem settle_flush {w : World} {d sb sc M : Nat} {wv : Value} {D : DataW Unit} {m : DM} (h : DiskAt w d sb sc M wv D m) (hok : WaitOk m) (hl : m.wait.length ≤ 1000000000) :
    Calls Tryz.prog 85 #[.pointer (some ⟨d, 0, none⟩), .func (Fn.func 86) #[] #[]] w fun e w' => e = .returned (.tuple #[]) ∧ Goes w w' d (diskB d sb M wv) { m with sure := flTo m.sure m.wait, wait := [] } := by
  have hform := ownsRow_forms h.wait
  obtain ⟨a, n, cap, hv⟩ : ∃ a n cap, wv = .slice a n cap := by rcases hform with ⟨e, _⟩ | ⟨g, cap, e⟩ <;> exact ⟨_, _, _, e⟩
  obtain ⟨c0, c1, c2, _, _⟩ := h.cell
  have hn : n = m.wait.length := by
    rcases hform with ⟨e, h0⟩ | ⟨g, cap, e⟩
    · rw [hv] at e; cases e; omega
    · rw [hv] at e; cases e; rfl
  subst hn
  have H0 := Lib.hid h
  have HF := Lib.hid hform
  rw [hv] at c1
  clear h hform
  have HV := Lib.hid hv
  clear hv
  go_enter Tryz.func85, Tryz.ntmps85
  go_wp2
  go_loopw [11] (fun c wr => ∃ k : Nat, k ≤ m.wait.length ∧ c = .int .i64 k ∧ DiskAt wr d sb sc M wv D { m with sure := flTo m.sure (m.wait.take k) } ∧ Touch (diskB d sb M wv) w wr) (fun c _ => m.wait.length - (intOf c).toNat)
  case atStart => exact ⟨0, Nat.zero_le _, rfl, H0.out, Touch.refl _ _⟩
  case round =>
    clear c0 c1 c2
    obtain ⟨k, hk, rfl, hD, ht⟩ := hrel
    by_cases hlt : k < m.wait.length
    · obtain ⟨g, hg⟩ : ∃ g, a = some ⟨g, 0, none⟩ := by
        rcases HF.out with ⟨e, h0⟩ | ⟨g, cap', e⟩
        · omega
        · rw [HV.out] at e; cases e; exact ⟨g, rfl⟩
      rw [hg]
      obtain ⟨j, hj, hjl⟩ := hok m.wait[k] (List.getElem_mem hlt)
      have hw := hD.wait
      rw [HV.out, hg] at hw
      obtain ⟨e1, e2⟩ := waitCells_get m.wait k m.wait[k] (List.getElem?_eq_getElem hlt)
      have x1 := hw.cellAt (k * 2) (by show k * 2 < m.wait.length * 2; omega)
      have x2 := hw.cellAt (k * 2 + 1) (by show k * 2 + 1 < m.wait.length * 2; omega)
      rw [e1, hj] at x1
      rw [e2] at x2
      have hx : m.wait[k] = ((j : Int), m.wait[k].2) := by rw [← hj]
      have S1 : flTo m.sure (m.wait.take (k + 1)) = (flTo m.sure (m.wait.take k)).set j m.wait[k].2 := by
        rw [List.take_succ_eq_append_getElem hlt, flTo_snoc, hx]; rfl
      have HS1 := Lib.hid S1
      clear S1 hx
      generalize m.wait[k].2 = s at *
      have HD := Lib.hid hD
      have hds : d < wr.heap.size := World.rowIs.lt hD.cells
      have hss : sb < wr.heap.size := (hD.sure.lt sb rfl).2
      have c5 := hD.sure.cellAt j (by simp [flTo_length]; omega)
      have f5 := hD.sure.frozenAt j
      obtain ⟨old, hold⟩ : ∃ t, ((flTo m.sure (m.wait.take k)).map Value.string)[j]? = some (.string t) := ⟨(flTo m.sure (m.wait.take k))[j]'(by rw [flTo_length]; exact hjl), by simp [flTo_length, hjl]⟩
      simp only at c5
      rw [hold] at c5
      clear hold
      obtain ⟨c0, _, _, _, _⟩ := hD.cell
      simp only at c0
      rw [flTo_length] at c0
      have j1 : (0 : Int) ≤ j := by omega
      have nd : ¬ sb = d := fun e => H0.out.ne1 e.symm
      have nd' : ¬ d = sb := H0.out.ne1
      have j2 : (j : Int) < m.sure.length := by omega
      clear e1 e2 hw hD
      go_wp2
      go_region_held3 (fun w' => w'.cell? ⟨d, 0, none⟩ = some (.slice (some ⟨sb, 0, none⟩) m.sure.length sc) ∧ w'.cell? ⟨wr.heap.size, 0, none⟩ = some (.int .i64 j) ∧ w'.cell? ⟨wr.heap.size, 1, none⟩ = some (.string s)) (simp [go_sem, World.cell?_alloc_past, *])
        (first
          | (go_at_call 86; refine (flushFn _ _ _ _).mono ?_; rintro e w' ⟨rfl, rfl⟩))
      go_wp2
      have hD2 := (HD.out.setSure j s).touch (F := []) (((Touch.refl [] _).alloc (.cells #[.int .i64 j, .string s] 121)).alloc (.cells #[.int .i64 j, .string s] 121)) (fun _ _ h => by cases h)
      have ht2 : Touch (diskB d sb M wv) w (((wr.setCell ⟨sb, j, none⟩ (.string s)).alloc (.cells #[.int .i64 j, .string s] 121)).alloc (.cells #[.int .i64 j, .string s] 121)) := ((ht.setCell (.inl (by simp [diskB])) _).alloc _).alloc _
      go_roundw
      case rel => exact ⟨k + 1, by omega, by go_num, by rw [HS1.out]; exact hD2.touch (F := []) (Touch.refl [] _).drew (fun _ _ h => by cases h), ht2.drew⟩
      case measure => simp [intOf]; omega
    · obtain rfl : k = m.wait.length := by omega
      rw [List.take_of_length_le (Nat.le_refl _)] at hD
      have HD := Lib.hid hD
      obtain ⟨_, c1, c2, _, _⟩ := hD.cell
      have f1 := hD.frozen 1
      rw [HV.out] at c1
      have HM := ownsMap_touch hD.map ((Touch.refl [d] _).setCell (w' := wr) (p := ⟨d, 1, none⟩) (.inl (by simp)) (.slice none 0 0)) (by simp; exact fun e => hD.ne2 e.symm)
      obtain ⟨w3, hrun, hm3, hg3⟩ := clear_run HM Tryz.underlying88
      obtain ⟨hA, hT⟩ := disk_settled hD hm3 hg3
      have HA := Lib.hid hA
      clear hD HM hm3 hg3 hA
      go_wp2
      go_end0
      refine ⟨rfl, _, ⟨_, _, _, _, _, HA.out, rfl⟩, ht.trans hT (fun b hb => .inl ?_), ?_⟩
      · simp at hb; rcases hb with rfl | rfl <;> simp [diskB]
      · intro b hb
        refine .inl ?_
        simp only [diskB, List.mem_cons, Option.mem_toList] at hb ⊢
        rcases hb with rfl | rfl | rfl | hb
        · exact .inl rfl
        · exact .inr (.inl rfl)
        · exact .inr (.inr (.inl rfl))
        · cases hb

end Go.Proofs.YtpaholkmlfaflaaGreatDoor

namespace Go.Proofs.YtpaholkmlfaflaaGreatDoor
open Go.RowKit Go.Maps Go.Joins
set_option linter.unusedVariables false

/-- What Flush answers, and leaves. -/
def flM (m : DM) : Int × DM :=
  if m.down then (11, m) else if (burnM m).1 then (0, { (burnM m).2 with sure := flTo m.sure m.wait, wait := [] }) else (11, (burnM m).2)

theorem WaitOk.of_eq {m m' : DM} (h : WaitOk m) (h1 : m'.wait = m.wait) (h2 : m'.sure = m.sure) : WaitOk m' := by
  intro x hx; rw [h1] at hx; rw [h2]; exact h x hx
theorem Goes.after {w w1 w2 : World} {d : Nat} {F : List Nat} {m : DM} (t : Touch F w w1) (h : Goes w1 w2 d F m) : Goes w w2 d F m := by
  obtain ⟨F', hD, hT, hF⟩ := h
  exact ⟨F', hD, t.trans hT (fun b hb => .inl hb), fun b hb => (hF b hb).elim .inl (fun h' => .inr (Nat.le_trans t.size h'))⟩

set_option maxRecDepth 100000 in
set_option maxHeartbeats 2000000 in
theorem flush_any {w : World} {d sb sc M : Nat} {wv : Value} {D : DataW Unit} {m : DM} (h : DiskAt w d sb sc M wv D m) (hok : WaitOk m) (hf : m.fuse ≤ 9223372036854775807) (hl : m.wait.length ≤ 1000000000) :
    Calls Tryz.prog 49 #[.pointer (some ⟨d, 0, none⟩)] w fun e w' => e = .returned (.int .i64 (flM m).1) ∧ Goes w w' d (diskB d sb M wv) (flM m).2 := by
  obtain ⟨_, _, _, _, c4⟩ := h.cell
  by_cases hd : m.down = true
  · have F := Lib.hid (show flM m = (11, m) by simp [flM, hd])
    rw [hd] at c4
    clear hd
    go_enter Tryz.func49, Tryz.ntmps49
    go_wp2_with fail
    refine (down_at _ _ _ c4).mono ?_
    rintro e w1 ⟨rfl, rfl⟩
    go_wp2_with fail
    go_ret
    rw [F.out]
    exact ⟨rfl, Goes.of_at h (Touch.refl [] _) (by simp)⟩
  · have hd : m.down = false := by simpa using hd
    rw [hd] at c4
    have HB := Lib.hid (burn_any h hf)
    obtain ⟨e1, e2⟩ := burnM_wait m
    cases hb : (burnM m).1
    · have F := Lib.hid (show flM m = (11, (burnM m).2) by simp [flM, hd, hb])
      rw [hb] at HB
      clear hd hb e1 e2
      go_enter Tryz.func49, Tryz.ntmps49
      go_wp2_with fail
      refine (down_at _ _ _ c4).mono ?_
      rintro e w1 ⟨rfl, rfl⟩
      go_wp2_with fail
      refine HB.out.mono ?_
      rintro e w1 ⟨rfl, hD1, ht1⟩
      go_wp2_with fail
      go_ret
      rw [F.out]
      exact ⟨rfl, Goes.of_at hD1 ht1 (by simp [diskB])⟩
    · have F := Lib.hid (show flM m = (0, { (burnM m).2 with sure := flTo (burnM m).2.sure (burnM m).2.wait, wait := [] }) by simp [flM, hd, hb, e1, e2])
      rw [hb] at HB
      have hok1 := hok.of_eq e1 e2
      have hl1 : (burnM m).2.wait.length ≤ 1000000000 := by rw [e1]; exact hl
      clear hd hb e1 e2
      generalize (burnM m).2 = m1 at *
      go_enter Tryz.func49, Tryz.ntmps49
      go_wp2_with fail
      refine (down_at _ _ _ c4).mono ?_
      rintro e w1 ⟨rfl, rfl⟩
      go_wp2_with fail
      refine HB.out.mono ?_
      rintro e w1 ⟨rfl, hD1, ht1⟩
      go_wp2_with fail
      refine (settle_flush hD1 hok1 hl1).mono ?_
      rintro e w2 ⟨rfl, hG⟩
      go_wp2_with fail
      go_ret
      rw [F.out]
      exact ⟨rfl, Goes.after (ht1.mono (fun b hb => .inl (by simp at hb; subst hb; simp [diskB]))) hG⟩
set_option maxRecDepth 100000 in
theorem flush_nil (w : World) :
    Calls Tryz.prog 49 #[.pointer none] w fun e w' => e = .returned (.int .i64 11) ∧ w = w' := by
  go_enter Tryz.func49, Tryz.ntmps49
  go_wp2_with fail
  refine (down_nil _).mono ?_
  rintro e w1 ⟨rfl, rfl⟩
  go_wp2_with fail
  go_ret
  exact ⟨rfl, rfl⟩
set_option maxRecDepth 100000 in
theorem read_nil (w : World) (i : Int) :
    Calls Tryz.prog 53 #[.pointer none, .int .i64 i] w fun e w' => e = .returned (.tuple #[.string ⟨#[]⟩, .int .i64 11]) ∧ w = w' := by
  go_enter Tryz.func53, Tryz.ntmps53
  go_wp2_with fail
  refine (down_nil _).mono ?_
  rintro e w1 ⟨rfl, rfl⟩
  go_wp2_with fail
  go_ret2
  exact ⟨rfl, rfl⟩
set_option maxRecDepth 100000 in
theorem write_nil (w : World) (i : Int) (s : ByteArray) :
    Calls Tryz.prog 45 #[.pointer none, .int .i64 i, .string s] w fun e w' => e = .returned (.int .i64 11) ∧ w = w' := by
  go_enter Tryz.func45, Tryz.ntmps45
  go_wp2_with fail
  refine (down_nil _).mono ?_
  rintro e w1 ⟨rfl, rfl⟩
  go_wp2_with fail
  go_ret
  exact ⟨rfl, rfl⟩
set_option maxRecDepth 100000 in
theorem image_nil (w : World) :
    Calls Tryz.prog 17 #[.pointer none] w fun e w' => e = .returned (.string ⟨#[]⟩) ∧ w = w' := by
  go_enter Tryz.func17, Tryz.ntmps17
  go_wp2_with fail
  go_ret
  exact ⟨rfl, rfl⟩
/-! The crash's own function. -/
def crV (torn : Int) (n kn : Nat) (kf : Nat → Bool) (k : Nat) (s old : ByteArray) : ByteArray :=
  if (k : Int) = torn then s.extract 0 n ++ old.extract n old.size else if k < kn ∧ kf k = true then s else old
/-- The bools of a slice. -/
def KeepAt (w : World) (a : Option Addr) (kn : Nat) (kf : Nat → Bool) : Prop := kn = 0 ∨ ∃ b off, a = some ⟨b, off, none⟩ ∧ ∀ i, i < kn → w.cell? ⟨b, off + i, none⟩ = some (.bool (kf i))

end Go.Proofs.YtpaholkmlfaflaaGreatDoor

namespace Go.Proofs.YtpaholkmlfaflaaGreatDoor
open Go.RowKit Go.Maps Go.Joins
set_option linter.unusedVariables false

/-- The sectors behind k writes. -/
def crN (torn : Int) (n kn : Nat) (kf : Nat → Bool) (l : List (Int × ByteArray)) (su : List ByteArray) : Nat → List ByteArray
  | 0 => su
  | k + 1 => match l[k]? with
    | some x => (crN torn n kn kf l su k).set x.1.toNat (crV torn n kn kf k x.2 ((crN torn n kn kf l su k).getD x.1.toNat ⟨#[]⟩))
    | none => crN torn n kn kf l su k
theorem crN_length (torn : Int) (n kn : Nat) (kf : Nat → Bool) (l : List (Int × ByteArray)) (su : List ByteArray) : ∀ k, (crN torn n kn kf l su k).length = su.length
  | 0 => rfl
  | k + 1 => by
    have ih := crN_length torn n kn kf l su k
    unfold crN
    split
    · rw [List.length_set, ih]
    · exact ih
theorem crN_step (torn : Int) (n kn : Nat) (kf : Nat → Bool) (l : List (Int × ByteArray)) (su : List ByteArray) (k j : Nat) (s old : ByteArray) (h : l[k]? = some ((j : Int), s)) (ho : (crN torn n kn kf l su k)[j]? = some old) :
    crN torn n kn kf l su (k + 1) = (crN torn n kn kf l su k).set j (crV torn n kn kf k s old) := by
  conv => lhs; unfold crN
  rw [h]
  simp [ho]
/-- All sectors, and all that is written, have 64 bytes. -/
def SizeOk (m : DM) : Prop := (∀ t ∈ m.sure, t.size = 64) ∧ ∀ x ∈ m.wait, x.2.size = 64
theorem crV_size (torn : Int) (n kn : Nat) (kf : Nat → Bool) (k : Nat) (s old : ByteArray) (hn : n ≤ 64) (hs : s.size = 64) (ho : old.size = 64) : (crV torn n kn kf k s old).size = 64 := by
  unfold crV
  split
  · rw [ByteArray.size_append, ByteArray.size_extract, ByteArray.size_extract]; omega
  · split
    · exact hs
    · exact ho
theorem crN_size (torn : Int) (n kn : Nat) (kf : Nat → Bool) (m : DM) (hn : n ≤ 64) (hz : SizeOk m) : ∀ k, k ≤ m.wait.length → ∀ t ∈ crN torn n kn kf m.wait m.sure k, t.size = 64
  | 0, _, t, ht => hz.1 t ht
  | k + 1, hk, t, ht => by
    have ih := crN_size torn n kn kf m hn hz k (by omega)
    unfold crN at ht
    rw [List.getElem?_eq_getElem (by omega)] at ht
    simp only at ht
    by_cases hj : (m.wait[k]).1.toNat < (crN torn n kn kf m.wait m.sure k).length
    · rcases List.mem_or_eq_of_mem_set ht with h | h
      · exact ih t h
      · rw [h]
        refine crV_size _ _ _ _ _ _ _ hn (hz.2 _ (List.getElem_mem _)) (ih _ ?_)
        rw [List.getD_eq_getElem?_getD, List.getElem?_eq_getElem hj]
        exact List.getElem_mem hj
    · rw [List.set_eq_of_length_le (by omega)] at ht
      exact ih t ht

theorem keep_alloc {w : World} {b o : Nat} {v : Value} (h : w.cell? ⟨b, o, none⟩ = some v) (ob : Obj) (q : Nat) : ((w.alloc ob).drewN q).cell? ⟨b, o, none⟩ = some v := by
  rw [World.cell?_drewN]
  exact (World.cell?_alloc_lt w ob ⟨b, o, none⟩ (cell_lt h)).trans h
theorem keepAt_alloc {w : World} {a : Option Addr} {kn : Nat} {kf : Nat → Bool} (h : KeepAt w a kn kf) (ob : Obj) (q : Nat) : KeepAt ((w.alloc ob).drewN q) a kn kf := by
  rcases h with h0 | ⟨b, off, ha, hc⟩
  · exact .inl h0
  · exact .inr ⟨b, off, ha, fun i hi => keep_alloc (hc i hi) ob q⟩

end Go.Proofs.YtpaholkmlfaflaaGreatDoor

namespace Go.Proofs.YtpaholkmlfaflaaGreatDoor
open Go.RowKit Go.Maps Go.Joins
set_option linter.unusedVariables false

/-- What a crash leaves. -/
def crM (m : DM) (kn : Nat) (kf : Nat → Bool) (torn b : Int) : DM :=
  { sure := crN torn (min (max b 0) 64).toNat kn kf m.wait m.sure m.wait.length, wait := [], fuse := -1, down := false }

def four (w : World) (a b c e : Value) (t1 t2 t3 t4 : TypeId) : World := (((w.alloc (.cells #[a] t1)).alloc (.cells #[b] t2)).alloc (.cells #[c] t3)).alloc (.cells #[e] t4)
theorem four_cells (w : World) (a b c e : Value) (t1 t2 t3 t4 : TypeId) :
    (four w a b c e t1 t2 t3 t4).cell? ⟨w.heap.size, 0, none⟩ = some a ∧ (four w a b c e t1 t2 t3 t4).cell? ⟨w.heap.size + 1, 0, none⟩ = some b ∧
    (four w a b c e t1 t2 t3 t4).cell? ⟨w.heap.size + 1 + 1, 0, none⟩ = some c ∧ (four w a b c e t1 t2 t3 t4).cell? ⟨w.heap.size + 1 + 1 + 1, 0, none⟩ = some e := by
  unfold four
  have s1 : (w.alloc (.cells #[a] t1)).heap.size = w.heap.size + 1 := by simp
  have s2 : ((w.alloc (.cells #[a] t1)).alloc (.cells #[b] t2)).heap.size = w.heap.size + 1 + 1 := by simp
  have s3 : (((w.alloc (.cells #[a] t1)).alloc (.cells #[b] t2)).alloc (.cells #[c] t3)).heap.size = w.heap.size + 1 + 1 + 1 := by simp
  have c1 := cell_new w a t1
  have c2 := cell_new (w.alloc (.cells #[a] t1)) b t2
  have c3 := cell_new ((w.alloc (.cells #[a] t1)).alloc (.cells #[b] t2)) c t3
  have c4 := cell_new (((w.alloc (.cells #[a] t1)).alloc (.cells #[b] t2)).alloc (.cells #[c] t3)) e t4
  rw [s1] at c2; rw [s2] at c3; rw [s3] at c4
  exact ⟨keep_alloc (keep_alloc (keep_alloc c1 _ 0) _ 0) _ 0, keep_alloc (keep_alloc c2 _ 0) _ 0, keep_alloc c3 _ 0, c4⟩
theorem four_touch (w : World) (a b c e : Value) (t1 t2 t3 t4 : TypeId) (F : List Nat) : Touch F w (four w a b c e t1 t2 t3 t4) := ((((Touch.refl F w).alloc _).alloc _).alloc _).alloc _

end Go.Proofs.YtpaholkmlfaflaaGreatDoor

namespace Go.Proofs.YtpaholkmlfaflaaGreatDoor
open Go.RowKit Go.Maps Go.Joins
set_option linter.unusedVariables false

/-! A row that is filled from the left. -/
def fillF (n j : Nat) (f : Nat → Value) (z : Value) : List Value := (List.range n).map fun t => if t < j then f t else z
theorem fillF_zero (n : Nat) (f : Nat → Value) (z : Value) : fillF n 0 f z = List.replicate n z := by
  apply List.ext_getElem (by simp [fillF])
  intro i h1 h2
  simp [fillF]
theorem fillF_get (n j : Nat) (f : Nat → Value) (z : Value) (h : j < n) : (fillF n j f z)[j]? = some z := by
  simp [fillF, h]
theorem fillF_set (n j : Nat) (f : Nat → Value) (z : Value) : (fillF n j f z).set j (f j) = fillF n (j + 1) f z := by
  apply List.ext_getElem (by simp [fillF])
  intro i h1 h2
  simp only [List.getElem_set, fillF, List.getElem_map, List.getElem_range]
  by_cases hij : j = i
  · subst hij; simp
  · by_cases hlt : i < j
    · simp [hij, hlt, Nat.lt_succ_of_lt hlt]
    · have : ¬ i < j + 1 := by omega
      simp [hij, hlt, this]
theorem fillF_all (n : Nat) (f : Nat → Value) (z : Value) : fillF n n f z = (List.range n).map f := by
  unfold fillF
  apply List.map_congr_left
  intro t ht
  rw [if_pos (List.mem_range.1 ht)]

/-! Making a disk. -/
def newM (su : List ByteArray) : DM := { sure := su, wait := [], fuse := -1, down := false }

theorem disk_made {w : World} {sb sc n : Nat} {su : List ByteArray} (hn : n = su.length) (hown : w.ownsRow 0 9 1 (.slice (some ⟨sb, 0, none⟩) n sc) n (su.map Value.string)) :
    DiskAt ((w.alloc (.map #[] 0)).alloc (.cells #[.slice (some ⟨sb, 0, none⟩) n sc, .slice none 0 0, .map (some w.heap.size), .int .i64 (-1), .bool false] 90)) (w.heap.size + 1) sb sc w.heap.size (.slice none 0 0) (.map []) (newM su) := by
  have hs := (hown.lt sb rfl).2
  subst hn
  have e1 : (w.alloc (.map #[] 0)).heap.size = w.heap.size + 1 := by simp
  have r := World.rowIs_alloc (w.alloc (.map #[] 0)) #[.slice (some ⟨sb, 0, none⟩) su.length sc, .slice none 0 0, .map (some w.heap.size), .int .i64 (-1), .bool false] 90 (diskF (.slice (some ⟨sb, 0, none⟩) su.length sc) (.slice none 0 0) w.heap.size (newM su))
    (fun i hi => by
      have hi5 : i < 5 := hi
      rcases i with _ | _ | _ | _ | _ | i <;> first | rfl | omega)
  rw [e1] at r
  exact ⟨r, (hown.alloc _).alloc _, World.ownsRow_nil _ _ _ _, (World.ownsMap_made w _ _ _).alloc _, MapIs.empty, by omega, by omega, by omega, fun g hg => by cases hg⟩

set_option maxRecDepth 100000 in
set_option maxHeartbeats 1000000 in
theorem made_any {w : World} {sb sc n : Nat} {su : List ByteArray} (hn : n = su.length) (hown : w.ownsRow 0 9 1 (.slice (some ⟨sb, 0, none⟩) n sc) n (su.map Value.string)) :
    Calls Tryz.prog 40 #[.slice (some ⟨sb, 0, none⟩) n sc] w fun e w' => ∃ d M, e = .returned (.pointer (some ⟨d, 0, none⟩)) ∧ DiskAt w' d sb sc M (.slice none 0 0) (.map []) (newM su) ∧ Below w.heap.size w w' ∧ w.heap.size ≤ d ∧ w.heap.size ≤ M := by
  have hmm := @run_makeMap Tryz.prog
  have HO := Lib.hid (disk_made hn hown)
  clear hown hn
  go_enter Tryz.func40, Tryz.ntmps40
  go_wp2_with fail
  go_ret
  exact ⟨_, _, rfl, HO.out, below_alloc (below_alloc (Below.refl _ _)), by omega, Nat.le_refl _⟩

/-- A disk of the call's own: nothing that was there has turned. -/
def NewDisk (w w' : World) (d : Nat) (m : DM) : Prop := ∃ F, IsDisk w' d F m ∧ Below w.heap.size w w' ∧ ∀ b ∈ F, w.heap.size ≤ b
def newSu (n : Nat) : List ByteArray := List.replicate n (S (nul 64))

set_option maxRecDepth 100000 in
set_option maxHeartbeats 400000 in
theorem new_bad (n : Int) (w : World) (h : n < 1 ∨ 65536 < n) :
    Calls Tryz.prog 22 #[.int .i64 n] w fun e w' => e = .returned (.tuple #[.pointer none, .int .i64 1]) ∧ w = w' := by
  rcases h with h | h
  · go_enter Tryz.func22, Tryz.ntmps22
    go_wp2_with fail
    go_ret2
    exact ⟨rfl, rfl⟩
  · have h1 : ¬ n < 1 := by omega
    go_enter Tryz.func22, Tryz.ntmps22
    go_wp2_with fail
    go_ret2
    exact ⟨rfl, rfl⟩

theorem repeat_nul_list6 (c : Nat) : Lib.repeatL [0] c = nul c := by
  induction c with
  | zero => rfl
  | succ c ih => rw [Lib.repeatL, ih]; rfl
theorem repeat_64 (w : World) :
    Calls Tryz.prog 65 #[.string ⟨#[0]⟩, .int .i64 64] w fun e w' => e = .returned (.string (S (nul 64))) ∧ Below w.heap.size w w' := by
  refine (Tryz.strings_Repeat ⟨#[0]⟩ 64 w (by omega) (by decide)).mono ?_
  rintro e w' ⟨rfl, hb⟩
  refine ⟨?_, hb⟩
  have : (ByteArray.mk #[0]).data.toList = [0] := rfl
  rw [this, repeat_nul_list6]; rfl

set_option maxRecDepth 100000 in
set_option maxHeartbeats 1000000 in
theorem new_any (n : Nat) (w : World) (h1 : 1 ≤ n) (h2 : n ≤ 65536) :
    Calls Tryz.prog 22 #[.int .i64 n] w fun e w' => ∃ d, e = .returned (.tuple #[.pointer (some ⟨d, 0, none⟩), .int .i64 0]) ∧ NewDisk w w' d (newM (newSu n)) := by
  obtain ⟨i0, hi, hz0, hz1, hz2⟩ := info_parts Tryz.infoStr
  have d1 : decide ((n : Int) < 1) = false := by simp; omega
  have d2 : decide ((65536 : Int) < n) = false := by simp; omega
  go_enter Tryz.func22, Tryz.ntmps22
  go_wp2_with fail
  refine (repeat_64 _).mono ?_
  rintro e w0 ⟨rfl, hb0⟩
  go_wp2_with (at_make; refine wpList_make_full _ rfl (.tmp 14) (.tmp 14) 33 rfl w0.heap.size 9 i0 (.string ⟨#[]⟩) 1 Tryz.underlying33 hi hz0 hz1 .i64 .i64 n n n rfl rfl rfl rfl (by rw [hz2]; omega) (by unfold maxLen; omega) (Nat.le_refl _) ?_; intro w1 hown hgr)
  have hb : Below w0.heap.size w0 w1 := (Below.refl _ _).grown hgr (Nat.le_refl _) (by intro k h; cases h)
  clear hgr
  go_loopw [6, 18] (fun _ c wr => ∃ j : Nat, j ≤ n ∧ c = .int .i64 j ∧ wr.ownsRow w0.heap.size 9 1 (.slice (some ⟨w0.heap.size, 0, none⟩) n n) n (fillF n j (fun _ => .string (S (nul 64))) (.string ⟨#[]⟩)) ∧ Below w0.heap.size w0 wr) (fun _ c _ => n - (intOf c).toNat)
  case atStart =>
    refine ⟨0, Nat.zero_le _, rfl, ?_, hb⟩
    rw [fillF_zero]
    have e1 := toList_madeCells_one (Value.string ⟨#[]⟩) n
    have e2 : (Value.string ⟨#[]⟩).cells = #[Value.string ⟨#[]⟩] := rfl
    rw [e2, Nat.mul_one, e1] at hown
    exact hown
  case round =>
    clear hown hb d1 d2
    obtain ⟨j, hj, rfl, hown, hb⟩ := hrel
    by_cases hlt : j < n
    · have hf := hown.frozenAt j
      have hcell : wr.cell? ⟨w0.heap.size, j, none⟩ = some (.string ⟨#[]⟩) := by rw [hown.cellAt j (by omega), fillF_get _ _ _ _ hlt]
      have hs := (hown.stored j (.string (S (nul 64)))).1
      rw [fillF_set n j (fun _ => .string (S (nul 64)))] at hs
      have HS := Lib.hid hs
      clear hs
      go_wp2
      go_roundw
      case rel => exact ⟨j + 1, by omega, by go_num, HS.out, hb.setCell (by simp) _⟩
      case measure => simp [intOf]; omega
    · obtain rfl : j = n := by omega
      rw [fillF_all] at hown
      have hown' : wr.ownsRow 0 9 1 (.slice (some ⟨w0.heap.size, 0, none⟩) j j) j ((newSu j).map Value.string) := by
        have e : (List.range j).map (fun _ => Value.string (S (nul 64))) = (newSu j).map Value.string := by
          apply List.ext_getElem <;> simp [newSu]
        rw [← e]
        exact ownsRow_le hown (Nat.zero_le _)
      have HO := Lib.hid hown'
      clear hown hown'
      go_wp2_with fail
      refine (made_any (by simp [newSu]) HO.out).mono ?_
      rintro e w2 ⟨d, M, rfl, hD, hb2, hd, hM⟩
      go_wp2_with fail
      go_ret2
      refine ⟨d, rfl, _, ⟨_, _, _, _, _, hD, rfl⟩, below_step hb2 (hb0.trans (hb.mono hb0.size)), ?_⟩
      have s0 := hb0.size
      have s1 := hb.size
      intro b hb'
      simp only [diskB, List.mem_cons, Option.mem_toList] at hb'
      rcases hb' with rfl | rfl | rfl | hb'
      · omega
      · exact s0
      · omega
      · cases hb'

/-! Load. -/
def cutSu (s : ByteArray) (n : Nat) : List ByteArray := (List.range n).map fun i => s.extract (i * 64) ((i + 1) * 64)
theorem cutSu_snoc (s : ByteArray) (j : Nat) : cutSu s j ++ [s.extract (j * 64) ((j + 1) * 64)] = cutSu s (j + 1) := by
  simp [cutSu, List.range_succ]
theorem cutSu_length (s : ByteArray) (n : Nat) : (cutSu s n).length = n := by simp [cutSu]

set_option maxRecDepth 100000 in
set_option maxHeartbeats 400000 in
theorem load_bad (s : ByteArray) (w : World) (hs : s.size ≤ 140737488351232) (h : s.size = 0 ∨ 4194304 < s.size ∨ s.size % 64 ≠ 0) :
    Calls Tryz.prog 8 #[.string s] w fun e w' => e = .returned (.tuple #[.pointer none, .int .i64 1]) ∧ w = w' := by
  by_cases h1 : (s.size : Int) / 64 < 1
  · go_enter Tryz.func8, Tryz.ntmps8
    go_wp2_with fail
    go_ret2
    exact ⟨rfl, rfl⟩
  · by_cases h2 : (65536 : Int) < (s.size : Int) / 64
    · clear h
      go_enter Tryz.func8, Tryz.ntmps8
      go_wp2_with fail
      go_ret2
      exact ⟨rfl, rfl⟩
    · have h3 : ((s.size : Int) % 64 != 0) = true := by
        have : (s.size : Int) % 64 ≠ 0 := by omega
        simpa using this
      clear h
      go_enter Tryz.func8, Tryz.ntmps8
      go_wp2_with fail
      go_ret2
      exact ⟨rfl, rfl⟩

set_option maxRecDepth 100000 in
set_option maxHeartbeats 1000000 in
theorem load_any (s : ByteArray) (n : Nat) (w : World) (h0 : 1 ≤ n) (h1 : n ≤ 65536) (hs : s.size = n * 64) :
    Calls Tryz.prog 8 #[.string s] w fun e w' => ∃ d, e = .returned (.tuple #[.pointer (some ⟨d, 0, none⟩), .int .i64 0]) ∧ NewDisk w w' d (newM (cutSu s n)) := by
  obtain ⟨i0, hi, hz0, hz1, hz2⟩ := info_parts Tryz.infoStr
  have q1 : (s.size : Int) / 64 = n := by omega
  have q2 : ((s.size : Int) % 64 != 0) = false := by
    have : (s.size : Int) % 64 = 0 := by omega
    simp [this]
  have d1 : decide ((n : Int) < 1) = false := by simp; omega
  have d2 : decide ((65536 : Int) < n) = false := by simp; omega
  have z1 : s.size ≤ n * 64 := by omega
  have z2 : n * 64 ≤ s.size := by omega
  clear hs
  go_enter Tryz.func8, Tryz.ntmps8
  go_wp2
  go_loopw [5, 23] (fun v c wr => ∃ j : Nat, j ≤ n ∧ c = .int .i64 j ∧ wr.ownsRow w.heap.size 9 1 v j ((cutSu s j).map Value.string) ∧ Below w.heap.size w wr) (fun _ c _ => n - (intOf c).toNat)
  case atStart => exact ⟨0, Nat.zero_le _, rfl, World.ownsRow_nil _ _ _ _, Below.refl _ _⟩
  case round =>
    clear d1 d2 q1 q2
    obtain ⟨j, hj, rfl, hown, hb⟩ := hrel
    have hsz := hb.size
    by_cases hlt : j < n
    · have HC := Lib.hid (cutSu_snoc s j)
      have y1 : ((j : Int) + 1) * 64 ≤ s.size := by omega
      go_wp2_with (at_builtin; refine wpList_append_own _ rfl (.tmp 26) (.tmp 34) 33 rfl w.heap.size 9 i0 (.string ⟨#[]⟩) 1 16 Tryz.underlying33 hi hz0 hz1 hz2 rfl (by decide) _ _ _ rfl (hown.alloc _) ⟨wr.heap.size, 0, none⟩ 1 1 [.string (s.extract (j * 64) ((j + 1) * 64))] rfl rfl ?c1 ?c2 ?c3 ?c4 ?c5 ?_)
      case c1 => exact cell_one_new _ _ _
      case c2 => intro u hu; simp at hu; subst hu; rfl
      case c3 => unfold maxLen; omega
      case c4 => omega
      case c5 => simp; omega
      · intro v' w1 hown' hgrow _
        have e1 : (cutSu s j).map Value.string ++ [Value.string (s.extract (j * 64) ((j + 1) * 64))] = (cutSu s (j + 1)).map Value.string := by rw [← HC.out, List.map_append]; rfl
        rw [e1] at hown'
        have hb' := (hb.alloc hsz (.cells #[.string (s.extract (j * 64) ((j + 1) * 64))] 9)).grown hgrow (by simp; omega) (fun k hk => (hown.lt k hk).1)
        clear hgrow hown e1
        go_wp2
        go_roundw
        case rel => exact ⟨j + 1, by omega, by go_num, hown', hb'⟩
        case measure => simp [intOf]; omega
    · obtain rfl : j = n := by omega
      obtain ⟨g, cap, hv⟩ := ownsRow_form hown (by omega)
      rw [hv] at hown
      have hg : w.heap.size ≤ g := (hown.lt g rfl).1
      have HO := Lib.hid (ownsRow_le hown (Nat.zero_le _))
      clear hown
      rw [hv]
      go_wp2_with fail
      refine (made_any (cutSu_length s j).symm HO.out).mono ?_
      rintro e w2 ⟨d, M, rfl, hD, hb2, hd, hM⟩
      go_wp2_with fail
      go_ret2
      refine ⟨d, rfl, _, ⟨_, _, _, _, _, hD, rfl⟩, below_step hb2 hb, ?_⟩
      intro b hb'
      simp only [diskB, List.mem_cons, Option.mem_toList] at hb'
      rcases hb' with rfl | rfl | rfl | hb'
      · omega
      · exact hg
      · omega
      · cases hb'

/-! Image. -/
def imgM (su : List ByteArray) : ByteArray := S (su.map (·.data.toList)).flatten
theorem join_nil_sep : ∀ l : List (List UInt8), Lib.join l [] = l.flatten := by
  intro l
  unfold Lib.join
  induction l with
  | nil => rfl
  | cons x l ih =>
    cases l with
    | nil => simp [List.intercalate]
    | cons y l =>
      simp only [List.intercalate, List.intersperse, List.flatten_cons] at ih ⊢
      rw [ih]; simp
theorem flatten_length : ∀ (su : List ByteArray), (∀ t ∈ su, t.size = 64) → (su.map (·.data.toList)).flatten.length = su.length * 64
  | [], _ => rfl
  | t :: su, h => by
    have h1 := h t (by simp)
    have h2 := flatten_length su (fun t ht => h t (by simp [ht]))
    simp only [List.map_cons, List.flatten_cons, List.length_append, List.length_cons, h2, data_length, h1]
    omega

set_option maxRecDepth 100000 in
set_option maxHeartbeats 1000000 in
theorem image_any {w : World} {d sb sc M : Nat} {wv : Value} {D : DataW Unit} {m : DM} (h : DiskAt w d sb sc M wv D m) (hz : ∀ t ∈ m.sure, t.size = 64) (hn : m.sure.length ≤ 65536) (hsc : m.sure.length ≤ sc) :
    Calls Tryz.prog 17 #[.pointer (some ⟨d, 0, none⟩)] w fun e w' => e = .returned (.string (imgM m.sure)) ∧ Below w.heap.size w w' := by
  obtain ⟨c0, _, _, _, _⟩ := h.cell
  have hfl := flatten_length m.sure hz
  have J := Tryz.strings_Join sb 0 sc m.sure ⟨#[]⟩ w (fun j x hx => by
      rw [Nat.zero_add, h.sure.cellAt j (by have := (List.getElem?_eq_some_iff.1 hx).1; omega)]
      simp [hx]) (h.sure.lt sb rfl).2 (by omega) hsc (by
      rw [show (ByteArray.mk #[]).data.toList = [] from rfl, join_nil_sep, hfl]; omega)
  rw [show (ByteArray.mk #[]).data.toList = [] from rfl, join_nil_sep] at J
  have HJ := Lib.hid J
  clear J hfl h hz
  go_enter Tryz.func17, Tryz.ntmps17
  go_wp2_with fail
  refine HJ.out.mono ?_
  rintro e w1 ⟨rfl, hb⟩
  go_wp2_with fail
  go_ret
  exact ⟨rfl, hb⟩

end Go.Proofs.YtpaholkmlfaflaaGreatDoor

namespace Go.Proofs.YtpaholkmlfaflaaGreatDoor
open Go.RowKit Go.Maps Go.Joins
set_option linter.unusedVariables false

/-- A disk that is right; at most k writes wait. -/
structure DOk (m : DM) (k : Nat) : Prop where
  size : SizeOk m
  wait : WaitOk m
  fuse : m.fuse ≤ 9223372036854775807
  fuse1 : -1 ≤ m.fuse
  pos : 1 ≤ m.sure.length
  few : m.sure.length ≤ 65536
  waits : m.wait.length ≤ k

theorem DOk.mono {m : DM} {k j : Nat} (h : DOk m k) (hj : k ≤ j) : DOk m j := ⟨h.size, h.wait, h.fuse, h.fuse1, h.pos, h.few, Nat.le_trans h.waits hj⟩
theorem DOk.new {su : List ByteArray} (h : ∀ t ∈ su, t.size = 64) (h1 : 1 ≤ su.length) (h2 : su.length ≤ 65536) : DOk (newM su) 0 :=
  ⟨⟨h, fun x hx => by cases hx⟩, fun x hx => by (cases hx), by simp [newM], by simp [newM], h1, h2, Nat.le_refl _⟩
theorem newSu_size (n : Nat) : ∀ t ∈ newSu n, t.size = 64 := by
  intro t ht
  rw [List.eq_of_mem_replicate ht, S_size, nul_length]
theorem cutSu_size (s : ByteArray) (n : Nat) (hs : s.size = n * 64) : ∀ t ∈ cutSu s n, t.size = 64 := by
  intro t ht
  simp only [cutSu, List.mem_map, List.mem_range] at ht
  obtain ⟨i, hi, rfl⟩ := ht
  rw [ByteArray.size_extract]; omega
theorem DOk.burn {m : DM} {k : Nat} (h : DOk m k) : DOk (burnM m).2 k := by
  have h1 := h.fuse
  have h2 := h.fuse1
  unfold burnM
  split
  · exact ⟨h.size, h.wait, by show (-1 : Int) ≤ _; decide, by show (-1 : Int) ≤ -1; decide, h.pos, h.few, h.waits⟩
  · split
    · exact ⟨h.size, h.wait, by show m.fuse - 1 ≤ _; omega, by show -1 ≤ m.fuse - 1; omega, h.pos, h.few, h.waits⟩
    · exact h
theorem DOk.write {m : DM} {k : Nat} (h : DOk m k) (i : Int) (s : ByteArray) : DOk (wrM m i s).2 (k + 1) := by
  unfold wrM
  split
  · exact h.mono (by omega)
  · split
    · exact h.mono (by omega)
    · rename_i hne
      have hb := h.burn
      obtain ⟨e1, e2⟩ := burnM_wait m
      split
      · refine ⟨⟨hb.size.1, fun x hx => ?_⟩, fun x hx => ?_, hb.fuse, hb.fuse1, hb.pos, hb.few, ?_⟩
        · rcases List.mem_append.1 hx with hx | hx
          · exact hb.size.2 x hx
          · simp at hx; subst hx; show s.size = 64; omega
        · rcases List.mem_append.1 hx with hx | hx
          · exact hb.wait x hx
          · simp at hx; subst hx; exact ⟨i.toNat, by show i = _; omega, by rw [e2]; omega⟩
        · show ((burnM m).2.wait ++ [(i, s)]).length ≤ k + 1
          have := hb.waits
          simp; omega
      · exact hb.mono (by omega)
theorem flTo_mem : ∀ (l : List (Int × ByteArray)) (su : List ByteArray), (∀ t ∈ su, t.size = 64) → (∀ x ∈ l, x.2.size = 64) → ∀ t ∈ flTo su l, t.size = 64
  | [], su, h, _ => h
  | x :: l, su, h, hl => flTo_mem l _ (fun t ht => (List.mem_or_eq_of_mem_set ht).elim (h t) (fun e => by rw [e]; exact hl x (by simp))) (fun y hy => hl y (by simp [hy]))
theorem DOk.flush {m : DM} {k : Nat} (h : DOk m k) : DOk (flM m).2 k := by
  unfold flM
  obtain ⟨e1, e2⟩ := burnM_wait m
  split
  · exact h
  · have hb := h.burn
    split
    · refine ⟨⟨flTo_mem _ _ h.size.1 h.size.2, fun x hx => by cases hx⟩, fun x hx => by (cases hx), hb.fuse, hb.fuse1, ?_, ?_, Nat.zero_le _⟩
      · show 1 ≤ (flTo m.sure m.wait).length; rw [flTo_length]; exact h.pos
      · show (flTo m.sure m.wait).length ≤ 65536; rw [flTo_length]; exact h.few
    · exact hb
theorem DOk.setFuse {m : DM} {k : Nat} (h : DOk m k) (n : Int) (h2 : n ≤ 9223372036854775807) : DOk (fuM m n) k :=
  ⟨h.size, h.wait, by show max n (-1) ≤ _; omega, by show -1 ≤ max n (-1); omega, h.pos, h.few, h.waits⟩
theorem DOk.crash {m : DM} {k : Nat} (h : DOk m k) (kn : Nat) (kf : Nat → Bool) (torn b : Int) : DOk (crM m kn kf torn b) 0 := by
  refine ⟨⟨crN_size _ _ _ _ m (by omega) h.size _ (Nat.le_refl _), fun x hx => by cases hx⟩, fun x hx => by (cases hx), by show (-1 : Int) ≤ _; decide, by show (-1 : Int) ≤ -1; decide, ?_, ?_, Nat.le_refl _⟩
  · show 1 ≤ (crN _ _ _ _ _ _ _).length; rw [crN_length]; exact h.pos
  · show (crN _ _ _ _ _ _ _).length ≤ 65536; rw [crN_length]; exact h.few

theorem ownsRow_cap {w : World} {base n size g c : Nat} {e : TypeId} {a : Option Addr} {xs : List Value} (h : w.ownsRow base e size (.slice (some ⟨g, 0, none⟩) n c) n xs) : n ≤ c := by
  rcases h.2 with ⟨h0, _⟩ | ⟨g', cap, cur, hv, _, _, hc, _⟩
  · cases h0
  · cases hv; exact hc

section
variable {w : World} {d : Nat} {F : List Nat} {m : DM} {k : Nat}
theorem is_down (h : IsDisk w d F m) : Calls Tryz.prog 80 #[.pointer (some ⟨d, 0, none⟩)] w fun e w' => e = .returned (.bool m.down) ∧ w = w' := by
  obtain ⟨sb, sc, M, wv, D, h, rfl⟩ := h
  exact down_at _ _ _ h.cell.2.2.2.2
theorem is_len (h : IsDisk w d F m) : Calls Tryz.prog 10 #[.pointer (some ⟨d, 0, none⟩)] w fun e w' => e = .returned (.int .i64 m.sure.length) ∧ w = w' := by
  obtain ⟨sb, sc, M, wv, D, h, rfl⟩ := h
  exact len_at _ _ _ _ _ h.cell.1
theorem is_pending (h : IsDisk w d F m) : Calls Tryz.prog 16 #[.pointer (some ⟨d, 0, none⟩)] w fun e w' => e = .returned (.int .i64 m.wait.length) ∧ w = w' := by
  obtain ⟨sb, sc, M, wv, D, h, rfl⟩ := h
  rcases ownsRow_forms h.wait with ⟨e, h0⟩ | ⟨g, cap, e⟩
  · have c := h.cell.2.1
    rw [e] at c
    have := pending_at w d _ _ _ c
    rw [h0]; exact this
  · have c := h.cell.2.1
    rw [e] at c
    exact pending_at w d _ _ _ c
theorem is_read (h : IsDisk w d F m) (i : Int) (h1 : -9223372036854775808 ≤ i) (h2 : i ≤ 9223372036854775807) :
    Calls Tryz.prog 53 #[.pointer (some ⟨d, 0, none⟩), .int .i64 i] w fun e w' => e = .returned (.tuple #[.string (rdM m i).1, .int .i64 (rdM m i).2]) ∧ w = w' := by
  obtain ⟨sb, sc, M, wv, D, h, rfl⟩ := h
  exact read_any h i h1 h2
theorem is_fuse (h : IsDisk w d F m) (n : Int) (h1 : -9223372036854775808 ≤ n) (h2 : n ≤ 9223372036854775807) :
    Calls Tryz.prog 39 #[.pointer (some ⟨d, 0, none⟩), .int .i64 n] w fun e w' => e = .returned (.tuple #[]) ∧ Goes w w' d F (fuM m n) := by
  obtain ⟨sb, sc, M, wv, D, h, rfl⟩ := h
  exact (fuse_any h n h1 h2).mono fun e w' ⟨h1, h2, h3⟩ => ⟨h1, Goes.of_at h2 h3 (by simp [diskB])⟩
theorem is_write (h : IsDisk w d F m) (hk : DOk m k) (hkk : k ≤ 1000000000) (i : Int) (s : ByteArray) (h1 : -9223372036854775808 ≤ i) (h2 : i ≤ 9223372036854775807) (hs : s.size ≤ 9223372036854775807) :
    Calls Tryz.prog 45 #[.pointer (some ⟨d, 0, none⟩), .int .i64 i, .string s] w fun e w' => e = .returned (.int .i64 (wrM m i s).1) ∧ Goes w w' d F (wrM m i s).2 := by
  obtain ⟨sb, sc, M, wv, D, h, rfl⟩ := h
  exact write_any h i s h1 h2 hk.fuse hs (Nat.le_trans hk.waits hkk)
theorem is_flush (h : IsDisk w d F m) (hk : DOk m k) (hkk : k ≤ 1000000000) :
    Calls Tryz.prog 49 #[.pointer (some ⟨d, 0, none⟩)] w fun e w' => e = .returned (.int .i64 (flM m).1) ∧ Goes w w' d F (flM m).2 := by
  obtain ⟨sb, sc, M, wv, D, h, rfl⟩ := h
  exact flush_any h hk.wait hk.fuse (Nat.le_trans hk.waits hkk)
theorem is_image (h : IsDisk w d F m) (hk : DOk m k) :
    Calls Tryz.prog 17 #[.pointer (some ⟨d, 0, none⟩)] w fun e w' => e = .returned (.string (imgM m.sure)) ∧ Below w.heap.size w w' := by
  obtain ⟨sb, sc, M, wv, D, h, rfl⟩ := h
  exact image_any h hk.size.1 hk.few (ownsRow_cap (a := none) h.sure)
end

end Go.Proofs.YtpaholkmlfaflaaGreatDoor

namespace Go.Proofs.YtpaholkmlfaflaaGreatDoor
open Go.RowKit Go.Joins
set_option linter.unusedVariables false

/-- A log as plain data. -/
structure LM where
  frm : Nat
  size : Nat
  at_ : Nat
  next : Int
  dead : Bool
def logF (d : Nat) (l : LM) : Nat → Value
  | 0 => .pointer (some ⟨d, 0, none⟩)
  | 1 => .int .i64 l.frm
  | 2 => .int .i64 l.size
  | 3 => .int .i64 l.at_
  | 4 => .int .u64 l.next
  | 5 => .bool l.dead
  | _ => undef
def LogAt (w : World) (lb d : Nat) (l : LM) : Prop := w.rowIs lb 134 6 (logF d l)
theorem LogAt.cell {w : World} {lb d : Nat} {l : LM} (h : LogAt w lb d l) : w.cell? ⟨lb, 0, none⟩ = some (.pointer (some ⟨d, 0, none⟩)) ∧ w.cell? ⟨lb, 1, none⟩ = some (.int .i64 l.frm) ∧ w.cell? ⟨lb, 2, none⟩ = some (.int .i64 l.size) ∧
    w.cell? ⟨lb, 3, none⟩ = some (.int .i64 l.at_) ∧ w.cell? ⟨lb, 4, none⟩ = some (.int .u64 l.next) ∧ w.cell? ⟨lb, 5, none⟩ = some (.bool l.dead) :=
  ⟨World.rowIs.cell h (i := 0) (by decide), World.rowIs.cell h (i := 1) (by decide), World.rowIs.cell h (i := 2) (by decide), World.rowIs.cell h (i := 3) (by decide), World.rowIs.cell h (i := 4) (by decide), World.rowIs.cell h (i := 5) (by decide)⟩
theorem LogAt.frozen {w : World} {lb d : Nat} {l : LM} (h : LogAt w lb d l) (i : Nat) : w.frozen? ⟨lb, i, none⟩ = false := World.rowIs.frozen h i
theorem LogAt.lt {w : World} {lb d : Nat} {l : LM} (h : LogAt w lb d l) : lb < w.heap.size := World.rowIs.lt h
theorem LogAt.touch {w w' : World} {lb d : Nat} {l : LM} {F : List Nat} (h : LogAt w lb d l) (t : Touch F w w') (hF : lb ∉ F) : LogAt w' lb d l := rowIs_touch h t hF
theorem LogAt.below {w w' : World} {lb d : Nat} {l : LM} (h : LogAt w lb d l) (t : Below w.heap.size w w') : LogAt w' lb d l := h.touch (F := []) (Touch.of_below t) (by simp)
theorem IsDisk.below {w w' : World} {d : Nat} {F : List Nat} {m : DM} (h : IsDisk w d F m) (t : Below w.heap.size w w') : IsDisk w' d F m := h.touch (F := []) (Touch.of_below t) (fun _ _ h => by cases h)

/-- A sector. -/
def secM (m : DM) (i : Nat) : ByteArray := (lastW m.wait i).getD (m.sure.getD i ⟨#[]⟩)
theorem rdM_up {m : DM} (i : Nat) (h : m.down = false) (hi : i < m.sure.length) : rdM m (i : Int) = (secM m i, 0) := by
  unfold rdM secM; rw [h, if_neg (by decide), if_neg (by omega), Int.toNat_natCast]
theorem rdM_down {m : DM} (i : Int) (h : m.down = true) : rdM m i = (⟨#[]⟩, 11) := by unfold rdM; rw [h, if_pos rfl]
theorem lastW_size : ∀ (l : List (Int × ByteArray)) (acc : Option ByteArray) (k : Int) {s : ByteArray}, (∀ x ∈ l, x.2.size = 64) → (∀ t, acc = some t → t.size = 64) → l.foldl (fun acc x => if x.1 = k then some x.2 else acc) acc = some s → s.size = 64
  | [], acc, k, s, _, ha, h => ha s h
  | x :: l, acc, k, s, hl, ha, h => by
    refine lastW_size l _ k (fun y hy => hl y (by simp [hy])) (fun t ht => ?_) h
    simp only at ht
    split at ht
    · cases ht; exact hl x (by simp)
    · exact ha t ht
theorem secM_size {m : DM} {k : Nat} (h : DOk m k) (i : Nat) (hi : i < m.sure.length) : (secM m i).size = 64 := by
  unfold secM
  cases hl : lastW m.wait i with
  | some s => exact lastW_size m.wait none i h.size.2 (fun t ht => by cases ht) hl
  | none =>
    show (m.sure.getD i ⟨#[]⟩).size = 64
    have : m.sure[i]? = some (m.sure[i]) := List.getElem?_eq_getElem hi
    simp only [List.getD, this, Option.getD_some]
    exact h.size.1 _ (List.getElem_mem _)

/-- The sectors of page i of what stands at sector p. -/
def pgSecs (m : DM) (p i : Nat) : List ByteArray := (List.range 9).map fun k => secM m (p + 1 + i * 9 + k)
def txN (m : DM) (p : Nat) : Int := leN (cut (mT (secM m p)) 0 2)
/-- Does a mark with this number stand at p, with room for its pages? -/
def txHead (m : DM) (p : Nat) (next : Int) (left : Nat) : Bool :=
  mOk (secM m p) && decide (mN (secM m p) = next) && decide (1 ≤ txN m p ∧ txN m p ≤ 64 ∧ mT (secM m p) = textM (txN m p) ∧ 9 * txN m p ≤ (left : Int) - 1)
def txOk (m : DM) (p : Nat) (next : Int) (left : Nat) : Bool := txHead m p next left && (List.range (txN m p).toNat).all fun i => joinOk (pgSecs m p i)
def txPages (m : DM) (p n : Nat) : List ByteArray := (List.range n).map fun i => joinP (pgSecs m p i)
theorem txPages_snoc (m : DM) (p n : Nat) : txPages m p n ++ [joinP (pgSecs m p n)] = txPages m p (n + 1) := by simp [txPages, List.range_succ]
theorem pgSecs_length (m : DM) (p i : Nat) : (pgSecs m p i).length = 9 := by simp [pgSecs]
theorem pgSecs_take (m : DM) (p i k : Nat) (h : k < 9) : (pgSecs m p i).take k ++ [secM m (p + 1 + i * 9 + k)] = (pgSecs m p i).take (k + 1) := by
  apply takeL_snoc
  simp [pgSecs, h]

/-- The cells of some of a page's sectors; of some pages. -/
def secRow (m : DM) (p i k : Nat) : List Value := ((pgSecs m p i).take k).map Value.string
def pgRow (m : DM) (p i : Nat) : List Value := (txPages m p i).map Value.string
theorem secRow_snoc (m : DM) (p i k r : Nat) (h : k < 9) (hr : p + 1 + i * 9 + k = r) : secRow m p i k ++ [.string (secM m r)] = secRow m p i (k + 1) := by
  unfold secRow; rw [← hr, ← pgSecs_take m p i k h]; simp
theorem secRow_all (m : DM) (p i : Nat) : secRow m p i 9 = (pgSecs m p i).map Value.string := by
  unfold secRow; rw [List.take_of_length_le (by rw [pgSecs_length]; omega)]
theorem pgRow_snoc (m : DM) (p i : Nat) : pgRow m p i ++ [.string (joinP (pgSecs m p i))] = pgRow m p (i + 1) := by
  unfold pgRow; rw [← txPages_snoc]; simp
/-- What reading the next answers. -/
def RdPost (w : World) (m : DM) (l : LM) (e : Ending) (w' : World) : Prop :=
  (txOk m (l.frm + l.at_) l.next (l.size - l.at_) = true ∧ ∃ v, e = .returned (.tuple #[.agg #[.int .u64 l.next, v], .bool true, .int .i64 0]) ∧
      w'.ownsRow w.heap.size 9 1 v (txN m (l.frm + l.at_)).toNat ((txPages m (l.frm + l.at_) (txN m (l.frm + l.at_)).toNat).map Value.string) ∧ Below w.heap.size w w') ∨
  (txOk m (l.frm + l.at_) l.next (l.size - l.at_) = false ∧ e = .returned (.tuple #[.agg #[.int .u64 0, .slice none 0 0], .bool false, .int .i64 0]) ∧ Below w.heap.size w w')
theorem RdPost.no {w w' : World} {m : DM} {l : LM} (h : txOk m (l.frm + l.at_) l.next (l.size - l.at_) = false) (hb : Below w.heap.size w w') : RdPost w m l (.returned (.tuple #[.agg #[.int .u64 0, .slice none 0 0], .bool false, .int .i64 0])) w' := .inr ⟨h, rfl, hb⟩
theorem RdPost.yes {w w' : World} {m : DM} {l : LM} {p left n : Nat} {seq : Int} {v : Value} (hp : p = l.frm + l.at_) (hleft : left = l.size - l.at_) (hok : txOk m p l.next left = true) (hn : txN m p = (n : Int)) (hs : seq = l.next)
    (hrow : w'.ownsRow w.heap.size 9 1 v n (pgRow m p n)) (hb : Below w.heap.size w w') : RdPost w m l (.returned (.tuple #[.agg #[.int .u64 seq, v], .bool true, .int .i64 0])) w' := by
  subst hp hleft hs
  refine .inl ⟨hok, v, rfl, ?_, hb⟩
  rw [hn, Int.toNat_natCast]
  exact hrow
theorem txOk_yes {m : DM} {p left n : Nat} {next : Int} (hn : txN m p = (n : Int)) (hh : txHead m p next left = true) (h : ∀ j, j < n → joinOk (pgSecs m p j) = true) : txOk m p next left = true := by
  unfold txOk
  rw [hh, Bool.true_and, List.all_eq_true, hn, Int.toNat_natCast]
  intro j hj
  exact h j (List.mem_range.1 hj)
theorem txOk_pages {m : DM} {p left n i : Nat} {next : Int} (hn : txN m p = (n : Int)) (hi : i < n) (h : joinOk (pgSecs m p i) = false) : txOk m p next left = false := by
  unfold txOk
  rw [Bool.and_eq_false_iff]
  right
  rw [List.all_eq_false]
  exact ⟨i, by rw [hn]; simpa using hi, by simp [h]⟩
theorem txOk_head {m : DM} {p left : Nat} {next : Int} (h : txHead m p next left = false) : txOk m p next left = false := by unfold txOk; rw [h]; rfl

theorem read_up {w : World} {d : Nat} {F : List Nat} {m : DM} (h : IsDisk w d F m) (hup : m.down = false) (i : Nat) (hi : i < m.sure.length) (hi2 : i ≤ 1000000) :
    Calls Tryz.prog 53 #[.pointer (some ⟨d, 0, none⟩), .int .i64 i] w fun e w' => e = .returned (.tuple #[.string (secM m i), .int .i64 0]) ∧ w = w' := by
  have := is_read h i (by omega) (by omega)
  rwa [rdM_up i hup hi] at this
theorem read_dn {w : World} {d : Nat} {F : List Nat} {m : DM} (h : IsDisk w d F m) (hup : m.down = true) (i : Nat) (hi2 : i ≤ 1000000) :
    Calls Tryz.prog 53 #[.pointer (some ⟨d, 0, none⟩), .int .i64 i] w fun e w' => e = .returned (.tuple #[.string ⟨#[]⟩, .int .i64 11]) ∧ w = w' := by
  have := is_read h i (by omega) (by omega)
  rwa [rdM_down i hup] at this

set_option maxRecDepth 100000 in
set_option maxHeartbeats 2000000 in
/-- Reading while the disk is down. -/
theorem lread_down {w : World} {lb d : Nat} {l : LM} {m : DM} {F : List Nat} (hl : LogAt w lb d l) (hd : IsDisk w d F m) (hdown : m.down = true) (hs : l.frm + l.at_ ≤ 1000000) :
    Calls Tryz.prog 88 #[.pointer (some ⟨lb, 0, none⟩)] w fun e w' => e = .returned (.tuple #[.agg #[.int .u64 0, .slice none 0 0], .bool false, .int .i64 11]) ∧ Below w.heap.size w w' := by
  obtain ⟨c0, c1, c2, c3, c4, c5⟩ := hl.cell
  have hlt := hl.lt
  have hz2 : w.heap.size + 1 ≤ (w.alloc (.cells #[.int .u64 0, .slice none 0 0] 106)).heap.size := by simp
  obtain ⟨p, hp⟩ : ∃ p : Nat, p = l.frm + l.at_ := ⟨_, rfl⟩
  have HRD := fun (W : World) (h : Below w.heap.size w W) => Lib.hid (read_dn (hd.below h) hdown p (by omega))
  have hwr : IntKind.i64.wrap ((l.frm : Int) + (l.at_ : Int)) = (p : Int) := by rw [IntKind.wrap_i64]; omega
  clear hdown hl hp
  go_enter Tryz.func88, Tryz.ntmps88
  go_wp2_with fail
  go_quiet ((go_at_call 53; exact quiet_left (HRD _ (below_drewN (below_alloc (Below.refl _ _)) _)).out))
  go_wp2_with fail
  refine bodyPost_ret (v := .tuple #[.agg #[.int .u64 0, .slice none 0 0], .bool false, .int .i64 11]) (by simp [results, Tryz.results88, go_sem]) rfl ⟨rfl, ?_⟩
  exact ((below_drewN (below_alloc (Below.refl _ _)) _).setCell (by simp) _).setCell (by simp) _

/-- A transaction's two cells. -/
def txF (a b : Value) : Nat → Value
  | 0 => a
  | 1 => b
  | _ => undef
theorem txF_new (w : World) (a b : Value) : (w.alloc (.cells #[a, b] 106)).rowIs w.heap.size 106 2 (txF a b) :=
  World.rowIs_alloc w #[a, b] 106 (txF a b) (fun i hi => by
    rcases i with _ | _ | i
    · rfl
    · rfl
    · simp at hi; omega)
theorem mark_facts {m : DM} {p : Nat} {next : Int} {left : Nat} (h : txHead m p next left = true) : mOk (secM m p) = true ∧ mN (secM m p) = next ∧ 1 ≤ txN m p ∧ txN m p ≤ 64 ∧ mT (secM m p) = textM (txN m p) ∧ 9 * txN m p ≤ (left : Int) - 1 := by
  unfold txHead at h
  simp only [Bool.and_eq_true, decide_eq_true_eq] at h
  exact ⟨h.1.1, h.1.2, h.2.1, h.2.2.1, h.2.2.2.1, h.2.2.2.2⟩
theorem txHead_no {m : DM} {p : Nat} {next : Int} {left : Nat} (h : ¬ (mOk (secM m p) = true ∧ mN (secM m p) = next ∧ 1 ≤ txN m p ∧ txN m p ≤ 64 ∧ mT (secM m p) = textM (txN m p) ∧ 9 * txN m p ≤ (left : Int) - 1)) : txHead m p next left = false := by
  rw [← Bool.not_eq_true]; exact fun e => h (mark_facts e)

set_option maxRecDepth 100000 in
set_option maxHeartbeats 8000000 in
/-- Reading what stands next. -/
theorem lread_up {w : World} {lb d k : Nat} {l : LM} {m : DM} {F : List Nat} (hl : LogAt w lb d l) (hd : IsDisk w d F m) (hup : m.down = false) (hok : DOk m k) (hin : l.frm + l.size ≤ m.sure.length) (hat : l.at_ < l.size) :
    Calls Tryz.prog 88 #[.pointer (some ⟨lb, 0, none⟩)] w (RdPost w m l) := by
  obtain ⟨c0, c1, c2, c3, c4, c5⟩ := hl.cell
  have hlt := hl.lt
  have hfew := hok.few
  obtain ⟨p, hp⟩ : ∃ p : Nat, p = l.frm + l.at_ := ⟨_, rfl⟩
  obtain ⟨left, hleft⟩ : ∃ left : Nat, left = l.size - l.at_ := ⟨_, rfl⟩
  have NO : ∀ W', txOk m p l.next left = false → Below w.heap.size w W' → RdPost w m l (.returned (.tuple #[.agg #[.int .u64 0, .slice none 0 0], .bool false, .int .i64 0])) W' := fun W' h hb => RdPost.no (by rw [← hp, ← hleft]; exact h) hb
  have hpl : p + left ≤ m.sure.length := by omega
  have HRD := fun (W : World) (h : Below w.heap.size w W) => Lib.hid (fun i hi => read_up (hd.below h) hup i hi (by omega))
  have HP := Lib.hid hp
  have HLF := Lib.hid hleft
  have hsz := secM_size hok p (by omega)
  have hsz' : (secM m p).size ≤ 9223372036854775807 := by omega
  have HSZ := fun i hi => Lib.hid (secM_size hok i hi)
  have HNO := Lib.hid NO
  have hwr : IntKind.i64.wrap ((l.frm : Int) + (l.at_ : Int)) = (p : Int) := by rw [IntKind.wrap_i64]; omega
  have hl1 : 1 ≤ left := by omega
  have hla : (l.size : Int) - (l.at_ : Int) = (left : Int) := by omega
  have HLA := Lib.hid hla
  have HLG := Lib.hid hl
  clear hup hp hleft hla NO hl hsz hin
  go_enter Tryz.func88, Tryz.ntmps88
  go_wp2_with fail
  go_quiet ((go_at_call 53; exact quiet_left ((HRD _ (below_drewN (below_alloc (Below.refl _ _)) _)).out p (by omega))))
  go_wp2_with fail
  refine (markGet_any (secM m p) _ hsz').mono ?_
  rintro e w2 ⟨rfl, q2, hw2⟩
  have hb2 : Below w.heap.size w w2 := by rw [hw2]; exact below_drewN (below_drewN (below_alloc (Below.refl _ _)) _) _
  have hr2 : w2.rowIs w.heap.size 106 2 (txF (.int .u64 0) (.slice none 0 0)) := by rw [hw2]; exact txF_new w _ _
  have HR2 := Lib.hid hr2
  have HB2 := Lib.hid hb2
  have hs2 := World.rowIs.lt hr2
  clear c0 c1 c2 c3 c4 c5 hw2 hb2
  obtain ⟨c0, c1, c2, c3, c4, c5⟩ := (HLG.out.below HB2.out).cell
  have k0 := World.rowIs.cell hr2 (i := 0) (by decide)
  have k1 := World.rowIs.cell hr2 (i := 1) (by decide)
  have f0 := World.rowIs.frozen hr2 0
  have f1 := World.rowIs.frozen hr2 1
  simp only [txF] at k0 k1
  clear hr2
  cases hmo : mOk (secM m p)
  · have HF := Lib.hid (txOk_head (txHead_no (m := m) (p := p) (next := l.next) (left := left) (by rw [hmo]; rintro ⟨h, -⟩; cases h)))
    clear hmo
    go_wp2_with fail
    refine bodyPost_ret (v := .tuple #[.agg #[.int .u64 0, .slice none 0 0], .bool false, .int .i64 0]) (by simp [results, Tryz.results88, go_sem, k0, k1]) rfl ?_
    exact HNO.out _ HF.out ((HB2.out.setCell (by simp) _).setCell (by simp) _)
  · by_cases hn : mN (secM m p) = l.next
    · have hN : ∃ n : Nat, txN m p = (n : Int) ∧ n < 65536 := by
        have h := leN_bd (cut (mT (secM m p)) 0 2)
        have hl : (cut (mT (secM m p)) 0 2).length ≤ 2 := by unfold cut; simp; omega
        have : (256 : Int) ^ (cut (mT (secM m p)) 0 2).length ≤ 65536 := by
          generalize (cut (mT (secM m p)) 0 2).length = j at hl
          rcases j with _ | _ | _ | j <;> first | decide | omega
        unfold txN
        exact ⟨(leN (cut (mT (secM m p)) 0 2)).toNat, by omega, by omega⟩
      obtain ⟨n, hN, hn64⟩ := hN
      have hg : leN (cut (mT (secM m p)) 0 2) = (n : Int) := hN
      have hmz : (mT (secM m p)).size = 48 := by
        unfold mT; rw [hmo, if_pos rfl, ByteArray.size_extract, ((mOk_iff _).1 hmo).1]
        rfl
      have hmz1 : 48 ≤ (mT (secM m p)).size := by omega
      have hmz2 : (mT (secM m p)).size ≤ 48 := by omega
      have e1 : (mN (secM m p) != l.next) = false := by rw [hn]; simp
      have HMO := Lib.hid hmo
      have HNX := Lib.hid hn
      have HN := Lib.hid hN
      have HG := Lib.hid hg
      have x2 : ∀ x : Later w2, x.1.cell? ⟨lb, 2, none⟩ = some (.int .i64 l.size) := fun x => (x.cell (Nat.lt_of_lt_of_le hlt HB2.out.size)).trans c2
      have x3 : ∀ x : Later w2, x.1.cell? ⟨lb, 3, none⟩ = some (.int .i64 l.at_) := fun x => (x.cell (Nat.lt_of_lt_of_le hlt HB2.out.size)).trans c3
      have q1 : IntKind.i64.wrap (n : Int) = (n : Int) := IntWalk.i64_in _ (by omega)
      have q2 : IntKind.i64.wrap (9 * (n : Int)) = 9 * (n : Int) := IntWalk.i64_in _ (by omega)
      have q3 : IntKind.i64.wrap ((l.size : Int) - (l.at_ : Int)) = (left : Int) := by rw [IntKind.wrap_i64, HLA.out]; omega
      have q4 : IntKind.i64.wrap ((left : Int) - 1) = (left : Int) - 1 := IntWalk.i64_in _ (by omega)
      have HTX := Lib.hid (fun W => text_any (n : Int) W (by omega) (by omega))
      clear hmo hn hN hg hmz
      have BAD : ¬ (1 ≤ n ∧ n ≤ 64 ∧ mT (secM m p) = textM n ∧ 9 * (n : Int) ≤ (left : Int) - 1) → Hid (txOk m p l.next left = false) := fun h => Lib.hid (txOk_head (txHead_no (by
        rw [HN.out]; rintro ⟨-, -, h1, h2, h3, h4⟩; exact h ⟨by omega, by omega, h3, h4⟩)))
      by_cases b1 : n < 1
      · have HF := BAD (by omega)
        have g1 : decide ((n : Int) < 1) = true := by simp; omega
        clear BAD b1
        go_wp2_with fail
        refine (get_any (mT (secM m p)) 0 2 _ (by omega) (by omega) (by omega)).mono ?_
        rintro e w4 ⟨rfl, rfl⟩
        rw [HG.out]
        go_wp2_with fail
        go_quiet (fail)
        go_wp2_with fail
        refine bodyPost_ret (v := .tuple #[.agg #[.int .u64 0, .slice none 0 0], .bool false, .int .i64 0]) (by simp [results, Tryz.results88, go_sem, k0, k1]) rfl ?_
        exact HNO.out _ HF.out (((below_drewN HB2.out _).setCell (by simp) _).setCell (by simp) _)
      · by_cases b2 : 64 < n
        · have HF := BAD (by omega)
          have g1 : decide ((n : Int) < 1) = false := by simp; omega
          have g2 : decide (64 < (n : Int)) = true := by simp; omega
          clear BAD b1 b2
          go_wp2_with fail
          refine (get_any (mT (secM m p)) 0 2 _ (by omega) (by omega) (by omega)).mono ?_
          rintro e w4 ⟨rfl, rfl⟩
          rw [HG.out]
          go_wp2_with fail
          go_quiet (fail)
          go_wp2_with fail
          refine bodyPost_ret (v := .tuple #[.agg #[.int .u64 0, .slice none 0 0], .bool false, .int .i64 0]) (by simp [results, Tryz.results88, go_sem, k0, k1]) rfl ?_
          exact HNO.out _ HF.out (((below_drewN HB2.out _).setCell (by simp) _).setCell (by simp) _)
        · have g1 : decide ((n : Int) < 1) = false := by simp; omega
          have g2 : decide (64 < (n : Int)) = false := by simp; omega
          by_cases b3 : mT (secM m p) = textM n
          · have st := str_eq b3
            by_cases b4 : 9 * (n : Int) ≤ (left : Int) - 1
            · have g4 : decide ((left : Int) - 1 < 9 * (n : Int)) = false := by simp; omega
              have hhead : txHead m p l.next left = true := by
                unfold txHead
                rw [HMO.out, HNX.out, HN.out, b3]
                simp; omega
              have HHD := Lib.hid hhead
              have B4 := Lib.hid b4
              clear BAD b3 hhead
              go_wp2_with fail
              refine (get_any (mT (secM m p)) 0 2 _ (by omega) (by omega) (by omega)).mono ?_
              rintro e w4 ⟨rfl, rfl⟩
              rw [HG.out]
              go_wp2_with fail
              refine wp_region_later (by kernel_rfl) (by kernel_rfl) ?_
              repeat (first | go_big_quiet_step ((go_at_call 106; refine Later.call (HTX.out _))) | quiet_step ((go_at_call 106; refine Later.call (HTX.out _))))
              refine wpQuiet_nil ?_
              rintro w3 ⟨y3, hw3⟩
              have hb3 : Below w2.heap.size w2 w3 := by rw [hw3]; exact y3.2
              clear hw3
              have HR3 := Lib.hid (rowIs_touch HR2.out (F := []) (Touch.of_below hb3) (by simp))
              have HB3 := Lib.hid (below_step hb3 HB2.out)
              have hs3 : w.heap.size < w3.heap.size := Nat.lt_of_lt_of_le hs2 hb3.size
              clear x2 x3 c0 c1 c2 c3 c4 c5 k0 k1 f0 f1 q1 q2 q3 q4 g1 g2 g4 st HB2 HR2 hb3 HTX e1 hs2
              have q1 : IntKind.i64.wrap (n : Int) = (n : Int) := IntWalk.i64_in _ (by omega)
              obtain ⟨i0, hi, hz0, hz1, hz2⟩ := info_parts Tryz.infoStr
              go_wp2_with fail
              go_loopw [97] (fun c wr => ∃ i : Nat, i ≤ n ∧ c = .int .i64 i ∧ (∀ j, j < i → joinOk (pgSecs m p j) = true) ∧ ∃ v, wr.rowIs w3.heap.size 106 2 (txF (.int .u64 (mN (secM m p))) v) ∧
                wr.ownsRow (w3.heap.size + 1) 9 1 v i (pgRow m p i) ∧ Below w3.heap.size w3 wr) (fun c _ => n - (intOf c).toNat)
              case atStart => exact ⟨0, Nat.zero_le _, rfl, fun j hj => absurd hj (by omega), _, txF_new _ _ _, World.ownsRow_nil _ _ _ _, below_alloc (Below.refl _ _)⟩
              case round =>
                obtain ⟨i, hin, rfl, hjoin, v, hrow, hown, hb⟩ := hrel
                have HJ := Lib.hid hjoin
                have HROW := Lib.hid hrow
                have HOWN := Lib.hid hown
                have HB := Lib.hid hb
                have htl := World.rowIs.lt hrow
                clear hjoin hrow hown hb
                obtain ⟨wo, rfl⟩ : ∃ wo : World, wo = wr := ⟨_, rfl⟩
                by_cases hlt2 : i < n
                · have HBW := Lib.hid (below_step HB.out HB3.out)
                  go_wp2_with fail
                  go_loopw [14, 100] (fun u c wr => ∃ k : Nat, k ≤ 9 ∧ c = .int .i64 k ∧ wr.ownsRow wo.heap.size 9 1 u k (secRow m p i k) ∧ Below wo.heap.size wo wr) (fun _ c _ => 9 - (intOf c).toNat)
                  case atStart => exact ⟨0, Nat.zero_le _, rfl, World.ownsRow_nil _ _ _ _, Below.refl _ _⟩
                  case round =>
                    obtain ⟨k, hk9, rfl, hall, hbx⟩ := hrel
                    have HALL := Lib.hid hall
                    have HBX := Lib.hid hbx
                    have hszx := hbx.size
                    clear hall hbx
                    by_cases hkl : k < 9
                    · have HBWX := Lib.hid (below_step HBX.out HBW.out)
                      obtain ⟨c0, c1, c2, c3, c4, c5⟩ := (HLG.out.below HBWX.out).cell
                      clear c2 c4 c5
                      obtain ⟨p1, hp1⟩ : ∃ p1 : Nat, p1 = p + 1 := ⟨_, rfl⟩
                      obtain ⟨i9, hi9⟩ : ∃ i9 : Nat, i9 = i * 9 := ⟨_, rfl⟩
                      obtain ⟨pi, hpi⟩ : ∃ pi : Nat, pi = p1 + i9 := ⟨_, rfl⟩
                      obtain ⟨r, hr⟩ : ∃ r : Nat, r = pi + k := ⟨_, rfl⟩
                      have w1 : IntKind.i64.wrap ((p : Int) + 1) = (p1 : Int) := by rw [IntKind.wrap_i64]; omega
                      have w2' : IntKind.i64.wrap ((i : Int) * 9) = (i9 : Int) := by rw [IntKind.wrap_i64]; omega
                      have w3' : IntKind.i64.wrap ((p1 : Int) + (i9 : Int)) = (pi : Int) := by rw [IntKind.wrap_i64]; omega
                      have w4' : IntKind.i64.wrap ((pi : Int) + (k : Int)) = (r : Int) := by rw [IntKind.wrap_i64]; omega
                      have hrl : r < m.sure.length := by omega
                      have er : p + 1 + i * 9 + k = r := by omega
                      have HTK := Lib.hid (secRow_snoc m p i k r hkl er)
                      have HRS := (HRD _ HBWX.out)
                      clear hp1 hi9 hpi hr er
                      go_wp2_with fail
                      go_quiet ((go_at_call 53; exact quiet_left ((HRD _ (below_drewN HBWX.out _)).out r hrl)))
                      clear c0 c1 c3 w1 w2' w3' w4'
                      go_wp2_with (at_builtin; refine wpList_append_own _ rfl (.tmp 130) (.tmp 132) 33 rfl wo.heap.size 9 i0 (.string ⟨#[]⟩) 1 16 Tryz.underlying33 hi hz0 hz1 hz2 rfl (by decide) _ _ _ rfl ((show (wr.drewN nq).ownsRow _ _ _ _ _ _ from HALL.out).alloc _) ⟨wr.heap.size, 0, none⟩ 1 1 [.string (secM m r)] rfl rfl ?c1 ?c2 ?c3 ?c4 ?c5 ?_)
                      case c1 => exact cell_one_new _ _ _
                      case c2 => intro u hu; simp at hu; subst hu; rfl
                      case c3 => unfold maxLen; omega
                      case c4 => omega
                      case c5 => simp; omega
                      intro v' w5 hown' hgrow _
                      rw [HTK.out] at hown'
                      have HO' := Lib.hid hown'
                      have HB5 := Lib.hid (((below_drewN HBX.out nq).alloc hszx (.cells #[.string (secM m r)] 9)).grown hgrow (by simp; omega) (fun q hq => (HALL.out.lt q hq).1))
                      clear hown' hgrow
                      go_wp2_with fail
                      go_roundw
                      case rel => exact ⟨k + 1, by omega, by go_num, HO'.out, HB5.out⟩
                      case measure => simp [intOf]; omega
                    · obtain rfl : k = 9 := by omega
                      have hall := HALL.out
                      rw [secRow_all] at hall
                      obtain ⟨g, cap, hv⟩ := ownsRow_form hall (by omega)
                      rw [hv] at hall
                      have hst : StrsAt wr (some ⟨g, 0, none⟩) (pgSecs m p i) := .inr ⟨g, 0, rfl, fun j x hx => by
                        have := hall.cells rfl (j := j) (u := .string x) (by simp [hx])
                        have e : (⟨g, 0, none⟩ : Addr).add j = ⟨g, j, none⟩ := by unfold Addr.add; split <;> simp_all
                        rw [e] at this
                        rw [Nat.zero_add]; exact this⟩
                      have HST := Lib.hid hst
                      have HSS : Hid (∀ s ∈ pgSecs m p i, s.size = 64) := Lib.hid (fun s hs => by
                        simp only [pgSecs, List.mem_map, List.mem_range] at hs
                        obtain ⟨k, hk, rfl⟩ := hs
                        exact (HSZ _ (by omega)).out)
                      subst hv
                      clear HALL hall hst
                      go_wp2_with fail
                      refine (joined_any (pgSecs_length m p i) HST.out HSS.out).mono ?_
                      rintro e w6 ⟨r, rfl, hjr, hb6⟩
                      have HB6 := Lib.hid (below_step hb6 HBX.out)
                      have HB7 := Lib.hid (below_step HB6.out HBW.out)
                      have HJR := Lib.hid hjr
                      have hs6 := HB6.out.size
                      clear hjr hb6
                      cases hjo : joinOk (pgSecs m p i)
                      · have HF := Lib.hid (txOk_pages (left := left) (next := l.next) HN.out hlt2 hjo)
                        have hr7 := rowIs_touch HR3.out (F := []) (Touch.of_below (below_step HB6.out HB.out)) (by simp)
                        have k0 := World.rowIs.cell hr7 (i := 0) (by decide)
                        have k1 := World.rowIs.cell hr7 (i := 1) (by decide)
                        have f0 := World.rowIs.frozen hr7 0
                        have f1 := World.rowIs.frozen hr7 1
                        simp only [txF] at k0 k1
                        clear hjo hr7
                        go_wp2_with fail
                        refine bodyPost_ret (v := .tuple #[.agg #[.int .u64 0, .slice none 0 0], .bool false, .int .i64 0]) (by simp [results, Tryz.results88, go_sem, k0, k1]) rfl ?_
                        exact HNO.out _ HF.out ((HB7.out.setCell (by simp) _).setCell (by simp) _)
                      · have HJO := Lib.hid hjo
                        clear hjo
                        have hrow6 := rowIs_touch HROW.out (F := []) (Touch.of_below HB6.out) (by simp)
                        have hown6 := ownsRow_touch HOWN.out (F := []) (Touch.of_below HB6.out) (by simp)
                        have k1 := World.rowIs.cell hrow6 (i := 1) (by decide)
                        simp only [txF] at k1
                        have HROW6 := Lib.hid hrow6
                        have HOWN6 := Lib.hid hown6
                        have hlt6 := World.rowIs.lt hrow6
                        clear hrow6 hown6
                        have HPS := Lib.hid (pgRow_snoc m p i)
                        have hbv : ∀ q, Value.ownBlock v = some q → w3.heap.size + 1 ≤ q := fun q hq => (HOWN.out.lt q hq).1
                        have HBV := Lib.hid hbv
                        have hrow6a := rowIs_touch HROW6.out (F := []) ((Touch.refl _ _).alloc (.cells #[.string r] 9)) (by simp)
                        have HR6A := Lib.hid hrow6a
                        have hs63 : w3.heap.size + 1 ≤ w6.heap.size := by omega
                        have HJ7 : Hid (∀ j, j < i + 1 → joinOk (pgSecs m p j) = true) := Lib.hid (fun j hj => by
                          rcases Nat.lt_or_ge j i with h | h
                          · exact HJ.out j h
                          · obtain rfl : j = i := by omega
                            exact HJO.out)
                        have hrp : r = joinP (pgSecs m p i) := HJR.out HJO.out
                        subst hrp
                        have HWO := Lib.hid (below_step HB6.out HB.out)
                        clear hbv hrow6a
                        go_wp2_with (at_builtin; refine wpList_append_own _ rfl (.tmp 144) (.tmp 146) 33 rfl (w3.heap.size + 1) 9 i0 (.string ⟨#[]⟩) 1 16 Tryz.underlying33 hi hz0 hz1 hz2 rfl (by decide) v i (pgRow m p i) rfl (HOWN6.out.alloc _) ⟨w6.heap.size, 0, none⟩ 1 1 [.string (joinP (pgSecs m p i))] rfl rfl (cell_one_new _ _ _) (by intro u hu; simp at hu; subst hu; rfl) (by unfold maxLen; omega) (by omega) (by simp; omega) ?_; intro v' w7 hown' hgrow _; obtain ⟨g2, cap2, rfl⟩ := ownsRow_form hown' (by omega); rw [HPS.out] at hown'; have hrow7 := rowIs_touch HR6A.out (Touch.of_grown hgrow) (fun hm => by (have := HBV.out _ (Option.mem_toList.1 hm)); omega); have k1 := World.rowIs.cell hrow7 (i := 1) (by decide); have f1 := World.rowIs.frozen hrow7 1; simp only [txF] at k1; have HOW := Lib.hid hown'; have HGR := Lib.hid hgrow; have HR7 := Lib.hid hrow7; clear hown' hgrow hrow7)
                        go_roundw
                        case rel =>
                          refine ⟨i + 1, by omega, by go_num, HJ7.out, .slice (some ⟨g2, 0, none⟩) (i + 1) cap2, ?_, ?_, ?_⟩
                          · refine World.rowIs.congr (World.rowIs.set HR7.out 1 _) (fun t ht => ?_)
                            rcases t with _ | _ | t
                            · rfl
                            · rfl
                            · omega
                          · refine ownsRow_touch HOW.out ((Touch.refl [w3.heap.size] _).setCell (.inl (by simp)) _) (fun q hq => ?_)
                            have := (HOW.out.lt q hq).1
                            simp; omega
                          · refine Below.setCell ?_ (by simp) _
                            refine Below.grown (below_alloc HWO.out) HGR.out (by simp; omega) (fun q hq => ?_)
                            have := HBV.out q hq
                            omega
                        case measure => simp [intOf]; omega
                · obtain rfl : i = n := by omega
                  have hpos : 1 ≤ i := by have := (mark_facts HHD.out).2.2.1; rw [HN.out] at this; omega
                  obtain ⟨g, cap, hv⟩ := ownsRow_form HOWN.out (by omega)
                  subst hv
                  have k2 := World.rowIs.cell HROW.out (i := 0) (by decide)
                  have k3 := World.rowIs.cell HROW.out (i := 1) (by decide)
                  simp only [txF] at k2 k3
                  have hr7 := rowIs_touch HR3.out (F := []) (Touch.of_below HB.out) (by simp)
                  have k0 := World.rowIs.cell hr7 (i := 0) (by decide)
                  have k1 := World.rowIs.cell hr7 (i := 1) (by decide)
                  have f0 := World.rowIs.frozen hr7 0
                  have f1 := World.rowIs.frozen hr7 1
                  simp only [txF] at k0 k1
                  clear hr7
                  go_wp2_with fail
                  refine bodyPost_ret (v := .tuple #[.agg #[.int .u64 (mN (secM m p)), .slice (some ⟨g, 0, none⟩) i cap], .bool true, .int .i64 0]) (by simp [results, Tryz.results88, go_sem, k0, k1]) rfl ?_
                  have hbF := below_step HB.out HB3.out
                  refine RdPost.yes HP.out HLF.out (txOk_yes HN.out HHD.out HJ.out) HN.out HNX.out ?_ ((hbF.setCell (by simp) _).setCell (by simp) _)
                  refine ownsRow_touch (ownsRow_le HOWN.out (by omega)) (((Touch.refl [w.heap.size] _).setCell (.inl (by simp)) _).setCell (.inl (by simp)) _) (fun q hq => ?_)
                  have := (HOWN.out.lt q hq).1
                  simp; omega
            · have HF := BAD (fun h => b4 h.2.2.2)
              have b5 : (left : Int) - 1 < 9 * (n : Int) := by omega
              have b6 : (left : Int) ≤ 9 * (n : Int) := by omega
              clear BAD b3 b4
              go_wp2_with fail
              refine (get_any (mT (secM m p)) 0 2 _ (by omega) (by omega) (by omega)).mono ?_
              rintro e w4 ⟨rfl, rfl⟩
              rw [HG.out]
              go_wp2_with fail
              refine wp_region_later (by kernel_rfl) (by kernel_rfl) ?_
              repeat (first | go_big_quiet_step ((go_at_call 106; refine Later.call (HTX.out _))) | quiet_step ((go_at_call 106; refine Later.call (HTX.out _))))
              refine wpQuiet_nil ?_
              intro _ hw'
              obtain ⟨⟨w3, hb3⟩, hw''⟩ := hw'
              subst hw''
              clear x2 x3
              have k0 := (hb3.cell (p := ⟨w.heap.size, 0, none⟩) hs2).trans k0
              have k1 := (hb3.cell (p := ⟨w.heap.size, 1, none⟩) hs2).trans k1
              have f0 := (hb3.frozen (p := ⟨w.heap.size, 0, none⟩) hs2).trans f0
              have f1 := (hb3.frozen (p := ⟨w.heap.size, 1, none⟩) hs2).trans f1
              have HB3 := Lib.hid (below_step hb3 HB2.out)
              clear hb3
              go_wp2_with fail
              refine bodyPost_ret (v := .tuple #[.agg #[.int .u64 0, .slice none 0 0], .bool false, .int .i64 0]) (by simp [results, Tryz.results88, go_sem, k0, k1]) rfl ?_
              exact HNO.out _ HF.out ((HB3.out.setCell (by simp) _).setCell (by simp) _)
          · have st := str_ne b3
            have HF := BAD (fun h => b3 h.2.2.1)
            clear BAD b3
            go_wp2_with fail
            refine (get_any (mT (secM m p)) 0 2 _ (by omega) (by omega) (by omega)).mono ?_
            rintro e w4 ⟨rfl, rfl⟩
            rw [HG.out]
            go_wp2_with fail
            refine wp_region_later (by kernel_rfl) (by kernel_rfl) ?_
            repeat (first | go_big_quiet_step ((go_at_call 106; refine Later.call (HTX.out _))) | quiet_step ((go_at_call 106; refine Later.call (HTX.out _))))
            refine wpQuiet_nil ?_
            intro _ hw'
            obtain ⟨⟨w3, hb3⟩, hw''⟩ := hw'
            subst hw''
            clear x2 x3
            have k0 := (hb3.cell (p := ⟨w.heap.size, 0, none⟩) hs2).trans k0
            have k1 := (hb3.cell (p := ⟨w.heap.size, 1, none⟩) hs2).trans k1
            have f0 := (hb3.frozen (p := ⟨w.heap.size, 0, none⟩) hs2).trans f0
            have f1 := (hb3.frozen (p := ⟨w.heap.size, 1, none⟩) hs2).trans f1
            have HB3 := Lib.hid (below_step hb3 HB2.out)
            clear hb3
            go_wp2_with fail
            refine bodyPost_ret (v := .tuple #[.agg #[.int .u64 0, .slice none 0 0], .bool false, .int .i64 0]) (by simp [results, Tryz.results88, go_sem, k0, k1]) rfl ?_
            exact HNO.out _ HF.out ((HB3.out.setCell (by simp) _).setCell (by simp) _)
    · have e1 : (mN (secM m p) != l.next) = true := by simpa using hn
      have HF := Lib.hid (txOk_head (txHead_no (m := m) (p := p) (next := l.next) (left := left) (by rintro ⟨-, h, -⟩; exact hn h)))
      clear hmo hn
      go_wp2_with fail
      refine bodyPost_ret (v := .tuple #[.agg #[.int .u64 0, .slice none 0 0], .bool false, .int .i64 0]) (by simp [results, Tryz.results88, go_sem, k0, k1]) rfl ?_
      exact HNO.out _ HF.out ((HB2.out.setCell (by simp) _).setCell (by simp) _)

end Go.Proofs.YtpaholkmlfaflaaGreatDoor

