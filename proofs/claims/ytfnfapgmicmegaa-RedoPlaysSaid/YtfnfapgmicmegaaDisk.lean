/- The contracts of package disk. -/
import Derived.Test.YtfnfapgmicmegaaDiskRep
import Derived.Test.YtfnfapgmicmegaaShelf
import Derived.WalkSpells
import Derived.WalkLawsBesides
import Derived.Deep.QuietTactic
import Derived.BigQuiet
import Derived.Outline
namespace Go.Proofs.Ytfnfapgmicmegaa
open Go.RowKit Go.Maps Go.Joins
set_option linter.unusedVariables false

set_option maxRecDepth 100000 in
set_option maxHeartbeats 400000 in
theorem down_at (w : World) (d : Nat) (b : Bool) (hc : w.cell? ⟨d, 4, none⟩ = some (.bool b)) :
    Calls Try.prog 25 #[.pointer (some ⟨d, 0, none⟩)] w fun e w' => e = .returned (.bool b) ∧ w = w' := by
  go_enter Try.func25, Try.ntmps25
  go_wp2_with fail
  go_ret
  exact ⟨rfl, rfl⟩
set_option maxRecDepth 100000 in
set_option maxHeartbeats 400000 in
theorem down_nil (w : World) :
    Calls Try.prog 25 #[.pointer none] w fun e w' => e = .returned (.bool true) ∧ w = w' := by
  go_enter Try.func25, Try.ntmps25
  go_wp2_with fail
  go_ret
  exact ⟨rfl, rfl⟩
set_option maxRecDepth 100000 in
set_option maxHeartbeats 400000 in
theorem len_at (w : World) (d sb n sc : Nat) (hc : w.cell? ⟨d, 0, none⟩ = some (.slice (some ⟨sb, 0, none⟩) n sc)) :
    Calls Try.prog 15 #[.pointer (some ⟨d, 0, none⟩)] w fun e w' => e = .returned (.int .i64 n) ∧ w = w' := by
  go_enter Try.func15, Try.ntmps15
  go_wp2_with fail
  go_ret
  exact ⟨rfl, rfl⟩
set_option maxRecDepth 100000 in
set_option maxHeartbeats 400000 in
theorem len_nil (w : World) :
    Calls Try.prog 15 #[.pointer none] w fun e w' => e = .returned (.int .i64 0) ∧ w = w' := by
  go_enter Try.func15, Try.ntmps15
  go_wp2_with fail
  go_ret
  exact ⟨rfl, rfl⟩
set_option maxRecDepth 100000 in
set_option maxHeartbeats 400000 in
theorem pending_at (w : World) (d : Nat) (a : Option Addr) (n c : Nat) (hc : w.cell? ⟨d, 1, none⟩ = some (.slice a n c)) :
    Calls Try.prog 20 #[.pointer (some ⟨d, 0, none⟩)] w fun e w' => e = .returned (.int .i64 n) ∧ w = w' := by
  go_enter Try.func20, Try.ntmps20
  go_wp2_with fail
  go_ret
  exact ⟨rfl, rfl⟩
set_option maxRecDepth 100000 in
set_option maxHeartbeats 400000 in
theorem pending_nil (w : World) :
    Calls Try.prog 20 #[.pointer none] w fun e w' => e = .returned (.int .i64 0) ∧ w = w' := by
  go_enter Try.func20, Try.ntmps20
  go_wp2_with fail
  go_ret
  exact ⟨rfl, rfl⟩

/-- What the fuse leaves: does the call go on, and the disk behind it. -/
def burnM (m : DM) : Bool × DM :=
  if m.fuse = 0 then (false, { m with down := true, fuse := -1 }) else if 0 < m.fuse then (true, { m with fuse := m.fuse - 1 }) else (true, m)

set_option maxRecDepth 100000 in
set_option maxHeartbeats 1000000 in
theorem burn_any {w : World} {d sb sc M : Nat} {wv : Value} {D : DataW Unit} {m : DM} (h : DiskAt w d sb sc M wv D m) (hf : m.fuse ≤ 9223372036854775807) :
    Calls Try.prog 52 #[.pointer (some ⟨d, 0, none⟩)] w fun e w' => e = .returned (.bool (burnM m).1) ∧ DiskAt w' d sb sc M wv D (burnM m).2 ∧ Touch [d] w w' := by
  obtain ⟨_, _, _, c3, c4⟩ := h.cell
  have f3 := h.frozen 3
  have f4 := h.frozen 4
  by_cases h0 : m.fuse = 0
  · have hm : burnM m = (false, { m with down := true, fuse := -1 }) := by simp [burnM, h0]
    have R := (h.setDown true).setFuse (-1)
    have F := Lib.hid hm
    have e0 : (m.fuse == 0) = true := by simp [h0]
    clear hm h0
    generalize m.fuse = n at *
    go_enter Try.func52, Try.ntmps52
    go_wp2_with fail
    go_ret
    rw [F.out]
    exact ⟨rfl, R, ((Touch.refl _ _).setCell (.inl (by simp)) _).setCell (.inl (by simp)) _⟩
  · by_cases h1 : 0 < m.fuse
    · have hm : burnM m = (true, { m with fuse := m.fuse - 1 }) := by simp [burnM, h0, h1]
      have R := h.setFuse (m.fuse - 1)
      have F := Lib.hid hm
      have e0 : (m.fuse == 0) = false := by simp [h0]
      clear hm h0
      generalize m.fuse = n at *
      go_enter Try.func52, Try.ntmps52
      go_wp2_with fail
      go_ret
      rw [F.out]
      exact ⟨rfl, R, (Touch.refl _ _).setCell (.inl (by simp)) _⟩
    · have hm : burnM m = (true, m) := by simp [burnM, h0, h1]
      have F := Lib.hid hm
      have e0 : (m.fuse == 0) = false := by simp [h0]
      clear hm h0
      generalize hn : m.fuse = n at *
      clear hn
      go_enter Try.func52, Try.ntmps52
      go_wp2_with fail
      go_ret
      rw [F.out]
      exact ⟨rfl, h, Touch.refl _ _⟩

/-! Reading. -/
theorem zeroStr (w : World) : (zeroValue 9).run Try.prog w = .ok (.string ⟨#[]⟩) w := by kernel_rfl
theorem look_disk {w : World} {M n : Nat} {D : DataW Unit} {f : Int → Option ByteArray} (h : w.ownsMap Try.prog 3 (plainElem Try.prog 9) M n D) (hm : MapIs D f) (i : Int) (hwf : (Lit.int .i64 i).wf = true) :
    (Instr.lookup 73 (.map (some M)) (.int .i64 i) true).run Try.prog w = .ok (.tuple #[.string ((f i).getD ⟨#[]⟩), .bool (f i).isSome]) w := by
  obtain ⟨v, ps, hrun, hv⟩ := h.look_ok Try.keyInt Try.underlying73 (zeroStr w) (plainElem_string Try.underlying9 (s := ⟨#[]⟩) (by decide)) (keyOf_int_mk Try.underlying3 hwf)
  obtain ⟨s, rfl, he, _⟩ := plainElem_string_inv Try.underlying9 hv
  obtain ⟨h1, h2⟩ := hm.2 i
  rw [hrun, h1]
  rw [h2] at he
  cases hf : f i with
  | none =>
    rw [hf] at he
    simp at he
    have : s = ⟨#[]⟩ := by rw [← S_data s, he.1]; rfl
    rw [this]; rfl
  | some t =>
    rw [hf] at he
    simp at he
    have : s = t := by rw [← S_data s, ← S_data t, he.1]
    rw [this]; rfl

/-- What is read. -/
def rdM (m : DM) (i : Int) : ByteArray × Int :=
  if m.down then (⟨#[]⟩, 11) else if i < 0 ∨ (m.sure.length : Int) ≤ i then (⟨#[]⟩, 1) else ((lastW m.wait i).getD (m.sure.getD i.toNat ⟨#[]⟩), 0)

set_option maxRecDepth 100000 in
set_option maxHeartbeats 1000000 in
theorem read_any {w : World} {d sb sc M : Nat} {wv : Value} {D : DataW Unit} {m : DM} (h : DiskAt w d sb sc M wv D m) (i : Int) (h1 : -9223372036854775808 ≤ i) (h2 : i ≤ 9223372036854775807) :
    Calls Try.prog 48 #[.pointer (some ⟨d, 0, none⟩), .int .i64 i] w fun e w' => e = .returned (.tuple #[.string (rdM m i).1, .int .i64 (rdM m i).2]) ∧ w = w' := by
  obtain ⟨c0, _, c2, c3, c4⟩ := h.cell
  by_cases hd : m.down = true
  · have F := Lib.hid (show rdM m i = (⟨#[]⟩, 11) by simp [rdM, hd])
    rw [hd] at c4
    clear hd
    go_enter Try.func48, Try.ntmps48
    go_wp2_with fail
    refine (down_at _ _ _ c4).mono ?_
    rintro e w1 ⟨rfl, rfl⟩
    go_wp2_with fail
    go_ret2
    rw [F.out]
    exact ⟨rfl, rfl⟩
  · have hd : m.down = false := by simpa using hd
    rw [hd] at c4
    by_cases hneg : i < 0
    · have F := Lib.hid (show rdM m i = (⟨#[]⟩, 1) by simp [rdM, hd, hneg])
      clear hd
      go_enter Try.func48, Try.ntmps48
      go_wp2_with fail
      refine (down_at _ _ _ c4).mono ?_
      rintro e w1 ⟨rfl, rfl⟩
      go_wp2_with fail
      go_ret2
      rw [F.out]
      exact ⟨rfl, rfl⟩
    · obtain ⟨i, rfl⟩ := Int.eq_ofNat_of_zero_le (show 0 ≤ i by omega)
      by_cases hbig : m.sure.length ≤ i
      · have F := Lib.hid (show rdM m i = (⟨#[]⟩, 1) by simp [rdM, hd, hbig])
        clear hd hneg
        go_enter Try.func48, Try.ntmps48
        go_wp2_with fail
        refine (down_at _ _ _ c4).mono ?_
        rintro e w1 ⟨rfl, rfl⟩
        go_wp2_with fail
        go_ret2
        rw [F.out]
        exact ⟨rfl, rfl⟩
      · have hlt : i < m.sure.length := by omega
        have hl := look_disk h.map h.mapIs i (WalkArith.wf_i64 (by omega))
        have F := Lib.hid (show rdM m i = ((lastW m.wait i).getD (m.sure.getD i ⟨#[]⟩), 0) by simp [rdM, hd]; omega)
        have c5 := h.sure.cellAt i (by omega)
        have c5' : (m.sure.map Value.string)[i]? = some (.string (m.sure.getD i ⟨#[]⟩)) := by simp [hlt]
        rw [c5'] at c5
        clear hd hbig hneg c5'
        generalize m.sure.getD i ⟨#[]⟩ = s0 at *
        cases hw : lastW m.wait i with
        | none =>
          rw [hw] at hl F
          simp only [Option.getD_none, Option.isSome_none] at hl
          clear hw
          go_enter Try.func48, Try.ntmps48
          go_wp2_with fail
          refine (down_at _ _ _ c4).mono ?_
          rintro e w1 ⟨rfl, rfl⟩
          go_wp2_with fail
          go_ret2
          rw [F.out]
          exact ⟨rfl, rfl⟩
        | some t =>
          rw [hw] at hl F
          simp only [Option.getD_some, Option.isSome_some] at hl
          clear hw
          go_enter Try.func48, Try.ntmps48
          go_wp2_with fail
          refine (down_at _ _ _ c4).mono ?_
          rintro e w1 ⟨rfl, rfl⟩
          go_wp2_with fail
          go_ret2
          rw [F.out]
          exact ⟨rfl, rfl⟩

/-! The fuse. -/
def fuM (m : DM) (n : Int) : DM := { m with fuse := max n (-1) }
set_option maxRecDepth 100000 in
set_option maxHeartbeats 400000 in
theorem fuse_any {w : World} {d sb sc M : Nat} {wv : Value} {D : DataW Unit} {m : DM} (h : DiskAt w d sb sc M wv D m) (n : Int) (h1 : -9223372036854775808 ≤ n) (h2 : n ≤ 9223372036854775807) :
    Calls Try.prog 22 #[.pointer (some ⟨d, 0, none⟩), .int .i64 n] w fun e w' => e = .returned (.tuple #[]) ∧ DiskAt w' d sb sc M wv D (fuM m n) ∧ Touch [d] w w' := by
  obtain ⟨_, _, _, c3, _⟩ := h.cell
  have f3 := h.frozen 3
  have R := h.setFuse (max n (-1))
  go_enter Try.func22, Try.ntmps22
  go_wp2_with fail
  go_end0
  exact ⟨rfl, R, (Touch.refl _ _).setCell (.inl (by simp)) _⟩
set_option maxRecDepth 100000 in
set_option maxHeartbeats 400000 in
theorem fuse_nil (n : Int) (w : World) :
    Calls Try.prog 22 #[.pointer none, .int .i64 n] w fun e w' => e = .returned (.tuple #[]) ∧ w = w' := by
  go_enter Try.func22, Try.ntmps22
  go_wp2_with fail
  go_end0
  exact ⟨rfl, rfl⟩

/-! Writing. -/
theorem cells_ne {w : World} {b g n : Nat} {t t' : TypeId} {f : Nat → Value} {cur : Array Value} (h : w.rowIs b t n f) (hg : w.heap[g]? = some (.cells cur t' (0, 0))) (ht : t ≠ t') : g ≠ b := by
  rintro rfl
  obtain ⟨c, hc, _⟩ := h
  rw [hc] at hg
  simp at hg
  exact ht hg.2
theorem disk_written {w1 w2 w3 : World} {d sb sc M g cap : Nat} {wv : Value} {D : DataW Unit} {m : DM} {o : Obj} {i : Int} {s : ByteArray} (h : DiskAt w1 d sb sc M wv D m)
    (hown : w2.ownsRow 0 83 2 (.slice (some ⟨g, 0, none⟩) (m.wait.length + 1) cap) (m.wait.length + 1) (waitCells m.wait ++ [.int .i64 i, .string s])) (hgrow : (w1.alloc o).grownBy w2 wv.ownBlock)
    (hmap : w3.ownsMap Try.prog 3 (plainElem Try.prog 9) M (m.wait.length + 1) (D.put (.int .i64 i) (.lit (.string s.data.toList))))
    (hg3 : (w2.setCell ⟨d, 1, none⟩ (.slice (some ⟨g, 0, none⟩) (m.wait.length + 1) cap)).grownBy w3 (some M)) :
    DiskAt w3 d sb sc M (.slice (some ⟨g, 0, none⟩) (m.wait.length + 1) cap) (D.put (.int .i64 i) (.lit (.string s.data.toList))) { m with wait := m.wait ++ [(i, s)] } ∧ Touch (diskB d sb M wv) w1 w3 := by
  have t1 : Touch wv.ownBlock.toList w1 w2 := ((Touch.refl _ _).alloc o).trans (Touch.of_grown hgrow) (fun b hb => .inl hb)
  have hd2 := rowIs_touch h.cells t1 (by simp; exact fun e => (h.ne4 d e).1 rfl)
  have hs2 := ownsRow_touch h.sure t1 (by intro g' hg'; cases hg'; simp; exact fun e => (h.ne4 sb e).2.1 rfl)
  have hM1 : M ∉ wv.ownBlock.toList := by simp; exact fun e => (h.ne4 M e).2.2 rfl
  have hm2 := ownsMap_touch h.map t1 hM1
  obtain ⟨gg, hgg⟩ : ∃ cur, w2.heap[g]? = some (.cells cur 83 (0, 0)) := by
    rcases hown.2 with ⟨h0, _⟩ | ⟨g', cap', cur, hv, _, hg', _⟩
    · cases h0
    · cases hv; exact ⟨cur, hg'⟩
  have n1 : g ≠ d := cells_ne hd2 hgg (by decide)
  have n2 : g ≠ sb := by
    rintro rfl
    rcases hs2.2 with ⟨h0, _⟩ | ⟨g', cap', cur, hv, _, hg', _⟩
    · cases h0
    · cases hv; rw [hg'] at hgg; simp at hgg
  have n3 : g ≠ M := by
    rintro rfl
    obtain ⟨es, clock, hb, _⟩ := hm2
    rw [hb] at hgg; simp at hgg
  have t2 : Touch [d] w2 (w2.setCell ⟨d, 1, none⟩ (.slice (some ⟨g, 0, none⟩) (m.wait.length + 1) cap)) := (Touch.refl _ _).setCell (.inl (by simp)) _
  have t3 := Touch.of_grown hg3
  have hd3 := World.rowIs.set hd2 1 (.slice (some ⟨g, 0, none⟩) (m.wait.length + 1) cap)
  have hd4 := rowIs_touch hd3 t3 (by simp; exact h.ne2)
  have hs4 := ownsRow_touch (ownsRow_touch hs2 t2 (by intro g' hg'; cases hg'; simp; exact fun e => h.ne1 e.symm)) t3 (by intro g' hg'; cases hg'; simp; exact h.ne3)
  have ho4 := ownsRow_touch (ownsRow_touch hown t2 (by intro g' hg'; cases hg'; simp; exact n1)) t3 (by intro g' hg'; cases hg'; simp; exact n3)
  rw [waitCells_snoc] at ho4
  refine ⟨⟨World.rowIs.congr hd4 (fun j hj => by rcases j with _ | _ | _ | _ | _ | j <;> first | rfl | omega), hs4, ?_, ?_, ?_, h.ne1, h.ne2, h.ne3, ?_⟩, ?_⟩
  · simpa using ho4
  · simpa using hmap
  · refine ⟨h.mapIs.1.put _ _, fun k => ?_⟩
    rw [lastW_snoc]
    by_cases hk : i = k
    · subst hk
      rw [if_pos rfl, has_put_same h.mapIs.1 (by simp [WideAt.IsKeyLit])]
      exact ⟨rfl, fun z => atKey_put_same h.mapIs.1 (by simp [WideAt.IsKeyLit]) _ _⟩
    · have hne : (Lit.int .i64 k) ≠ (Lit.int .i64 i) := by intro e; injection e with _ e; exact hk e.symm
      rw [if_neg hk, has_put_other hne]
      exact ⟨(h.mapIs.2 k).1, fun z => by rw [atKey_put_other hne]; exact (h.mapIs.2 k).2 z⟩
  · intro g' hg'; cases hg'; exact ⟨n1, n2, n3⟩
  · have k1 : Touch (diskB d sb M wv) w1 w2 := t1.mono (fun b hb => .inl (by simp [diskB] at hb ⊢; exact .inr (.inr (.inr hb))))
    have k2 : Touch (diskB d sb M wv) w1 (w2.setCell ⟨d, 1, none⟩ (.slice (some ⟨g, 0, none⟩) (m.wait.length + 1) cap)) := k1.setCell (.inl (by simp [diskB])) _
    exact k2.trans t3 (fun b hb => .inl (by simp at hb; subst hb; simp [diskB]))

theorem Try.infoWrite : (Try.prog.info? 83).map (fun i => (i.zero, i.size, i.bytes)) = some (some (.agg #[.int .i64 0, .string ⟨#[]⟩]), 2, 24) := by kernel_rfl

/-- Where a disk goes: it lies in blocks that it had, or in new ones; nothing else has turned. -/
def Goes (w w' : World) (d : Nat) (F : List Nat) (m' : DM) : Prop := ∃ F', IsDisk w' d F' m' ∧ Touch F w w' ∧ ∀ b ∈ F', b ∈ F ∨ w.heap.size ≤ b
theorem Goes.of_at {w w' : World} {d sb sc M : Nat} {wv : Value} {D : DataW Unit} {m : DM} {G : List Nat} (h : DiskAt w' d sb sc M wv D m) (t : Touch G w w') (hG : ∀ b ∈ G, b ∈ diskB d sb M wv) : Goes w w' d (diskB d sb M wv) m :=
  ⟨_, ⟨sb, sc, M, wv, D, h, rfl⟩, t.mono (fun b hb => .inl (hG b hb)), fun b hb => .inl hb⟩

/-- What writing answers, and leaves. -/
def wrM (m : DM) (i : Int) (s : ByteArray) : Int × DM :=
  if m.down then (11, m) else if i < 0 ∨ (m.sure.length : Int) ≤ i ∨ s.size ≠ 64 then (1, m)
  else if (burnM m).1 then (0, { (burnM m).2 with wait := (burnM m).2.wait ++ [(i, s)] }) else (11, (burnM m).2)

theorem burnM_wait (m : DM) : (burnM m).2.wait = m.wait ∧ (burnM m).2.sure = m.sure := by
  unfold burnM; split
  · exact ⟨rfl, rfl⟩
  · split <;> exact ⟨rfl, rfl⟩

set_option maxRecDepth 100000 in
set_option maxHeartbeats 2000000 in
theorem write_any {w : World} {d sb sc M : Nat} {wv : Value} {D : DataW Unit} {m : DM} (h : DiskAt w d sb sc M wv D m) (i : Int) (s : ByteArray) (h1 : -9223372036854775808 ≤ i) (h2 : i ≤ 9223372036854775807) (hf : m.fuse ≤ 9223372036854775807)
    (hs : s.size ≤ 9223372036854775807) (hw : m.wait.length ≤ 1000000000) :
    Calls Try.prog 32 #[.pointer (some ⟨d, 0, none⟩), .int .i64 i, .string s] w fun e w' => e = .returned (.int .i64 (wrM m i s).1) ∧ Goes w w' d (diskB d sb M wv) (wrM m i s).2 := by
  obtain ⟨c0, _, c2, c3, c4⟩ := h.cell
  obtain ⟨i0, hi, hz0, hz1, hz2⟩ := info_parts Try.infoWrite
  by_cases hd : m.down = true
  · have F := Lib.hid (show wrM m i s = (11, m) by simp [wrM, hd])
    rw [hd] at c4
    clear hd
    go_enter Try.func32, Try.ntmps32
    go_wp2_with fail
    refine (down_at _ _ _ c4).mono ?_
    rintro e w1 ⟨rfl, rfl⟩
    go_wp2_with fail
    go_ret
    rw [F.out]
    exact ⟨rfl, Goes.of_at h (Touch.refl [] _) (by simp)⟩
  · have hd : m.down = false := by simpa using hd
    rw [hd] at c4
    by_cases hneg : i < 0
    · have F := Lib.hid (show wrM m i s = (1, m) by simp [wrM, hd, hneg])
      clear hd
      go_enter Try.func32, Try.ntmps32
      go_wp2_with fail
      refine (down_at _ _ _ c4).mono ?_
      rintro e w1 ⟨rfl, rfl⟩
      go_wp2_with fail
      go_ret
      rw [F.out]
      exact ⟨rfl, Goes.of_at h (Touch.refl [] _) (by simp)⟩
    · obtain ⟨i, rfl⟩ := Int.eq_ofNat_of_zero_le (show 0 ≤ i by omega)
      by_cases hbig : m.sure.length ≤ i
      · have F := Lib.hid (show wrM m i s = (1, m) by simp [wrM, hd, hbig])
        clear hd hneg
        go_enter Try.func32, Try.ntmps32
        go_wp2_with fail
        refine (down_at _ _ _ c4).mono ?_
        rintro e w1 ⟨rfl, rfl⟩
        go_wp2_with fail
        go_ret
        rw [F.out]
        exact ⟨rfl, Goes.of_at h (Touch.refl [] _) (by simp)⟩
      · have hlt : i < m.sure.length := by omega
        by_cases hz : s.size = 64
        · have hz' : ((s.size : Int) != 64) = false := by simp [hz]
          have hsp : wrM m i s = if (burnM m).1 then (0, { (burnM m).2 with wait := (burnM m).2.wait ++ [((i : Int), s)] }) else (11, (burnM m).2) := by
            have h1 : ¬ ((i : Int) < 0 ∨ (m.sure.length : Int) ≤ i ∨ s.size ≠ 64) := by omega
            unfold wrM; rw [hd, if_neg (by decide), if_neg h1]
          have hB := burnM_wait m
          have hb := burn_any h hf
          have HB := Lib.hid hb
          clear hb hd hneg hbig hz
          cases hbb : (burnM m).1
          · rw [hbb] at hsp HB
            have F := Lib.hid hsp
            clear hsp hB hbb
            go_enter Try.func32, Try.ntmps32
            go_wp2_with fail
            refine (down_at _ _ _ c4).mono ?_
            rintro e w1 ⟨rfl, rfl⟩
            go_wp2_with fail
            refine HB.out.mono ?_
            rintro e w1 ⟨rfl, hD1, ht1⟩
            go_wp2_with fail
            go_ret
            rw [F.out]
            exact ⟨rfl, Goes.of_at hD1 ht1 (by simp [diskB])⟩
          · rw [hbb] at hsp HB
            have F := Lib.hid hsp
            clear hsp hbb
            go_enter Try.func32, Try.ntmps32
            go_wp2_with fail
            refine (down_at _ _ _ c4).mono ?_
            rintro e w1 ⟨rfl, rfl⟩
            go_wp2_with fail
            refine HB.out.mono ?_
            rintro e w1 ⟨rfl, hD1, ht1⟩
            clear c0 c2 c3 c4
            have hl : (burnM m).2.wait.length ≤ 1000000000 := by rw [hB.1]; exact hw
            clear hB hw
            have H1 := Lib.hid hD1
            generalize (burnM m).2 = m1 at *
            obtain ⟨_, c1, c2, _, _⟩ := hD1.cell
            have f1 := hD1.frozen 1
            have hown := hD1.wait
            have hwf : (Lit.int .i64 (i : Int)).wf = true := WalkArith.wf_i64 (by omega)
            have hsz : s.size ≤ maxLen := by unfold maxLen; omega
            clear hD1
            go_wp2_with (first
              | (at_builtin; refine wpList_append_near _ rfl (.tmp 35) (.tmp 39) 72 rfl 0 83 i0 _ 2 24 Try.underlying72 hi hz0 hz1 hz2 rfl (by decide) _ _ _ rfl (hown.alloc _) ⟨w1.heap.size, 0, none⟩ 1 1 [.int .i64 i, .string s] rfl (by decide) rfl ?c1 ?c2 ?c3 ?c4 ?c5 ?_)
              | fail)
            case c1 => exact cell_pair _ _ _ _
            case c2 => intro u hu; simp at hu; rcases hu with rfl | rfl <;> rfl
            case c3 => unfold maxLen; omega
            case c4 => omega
            case c5 => exact Nat.zero_le _
            · intro g cap w2 hown' hgrow hnear
              have HN := Lib.hid hnear
              clear hnear
              have t1 : Touch wv.ownBlock.toList w1 w2 := ((Touch.refl _ _).alloc _).trans (Touch.of_grown hgrow) (fun b hb => .inl hb)
              have hdF : d ∉ wv.ownBlock.toList := by simp; exact fun e => (H1.out.ne4 d e).1 rfl
              have hdl : d < w1.heap.size := World.rowIs.lt H1.out.cells
              have k1 : w2.cell? ⟨d, 1, none⟩ = some wv := (t1.cell (p := ⟨d, 1, none⟩) hdl hdF).trans c1
              have k2 : w2.cell? ⟨d, 2, none⟩ = some (.map (some M)) := (t1.cell (p := ⟨d, 2, none⟩) hdl hdF).trans c2
              have kf : w2.frozen? ⟨d, 1, none⟩ = false := (t1.frozen (p := ⟨d, 1, none⟩) hdl hdF).trans f1
              have HM : (w2.setCell ⟨d, 1, none⟩ (.slice (some ⟨g, 0, none⟩) (m1.wait.length + 1) cap)).ownsMap Try.prog 3 (plainElem Try.prog 9) M m1.wait.length D :=
                ownsMap_touch (ownsMap_touch H1.out.map t1 (by simp; exact fun e => (H1.out.ne4 M e).2.2 rfl)) ((Touch.refl [d] _).setCell (.inl (by simp)) _) (by simp; exact fun e => H1.out.ne2 e.symm)
              have HO := Lib.hid hown'
              have HG := Lib.hid hgrow
              have HT := Lib.hid t1
              clear hown' hgrow t1 hdF hdl c1 c2 f1 hown
              go_wp2_with (at_mapUpdate; refine wpList_mapUpdate_own _ rfl (.tmp 46) (.tmp 47) (.tmp 48) 73 rfl 3 9 Try.keyInt Try.underlying73 _ M m1.wait.length D rfl HM (by unfold maxLen; omega) _ _ (.int .i64 i) rfl rfl (keyOf_int_mk Try.underlying3 hwf) _ [] (plainElem_string Try.underlying9 hsz) ?_; intro w3 hmap3 hgrow3)
              go_ret
              rw [F.out]
              obtain ⟨hA, hT⟩ := disk_written H1.out HO.out HG.out hmap3 hgrow3
              refine ⟨rfl, _, ⟨_, _, _, _, _, hA, rfl⟩, (ht1.mono (fun b hb => .inl ?_)).trans hT (fun b hb => .inl hb), ?_⟩
              · simp at hb; subst hb; simp [diskB]
              · intro b hb
                simp only [diskB, List.mem_cons, Option.mem_toList] at hb ⊢
                rcases hb with rfl | rfl | rfl | hb
                · exact .inl (.inl rfl)
                · exact .inl (.inr (.inl rfl))
                · exact .inl (.inr (.inr (.inl rfl)))
                · cases hb
                  rcases HN.out with hn | hn
                  · exact .inl (.inr (.inr (.inr hn)))
                  · exact .inr (Nat.le_trans ht1.size (by first | exact hn | exact Nat.le_trans (by simp) hn))
        · have hz' : ((s.size : Int) != 64) = true := by simp; omega
          have F := Lib.hid (show wrM m i s = (1, m) by simp [wrM, hd, hz])
          clear hd hneg hbig hz
          go_enter Try.func32, Try.ntmps32
          go_wp2_with fail
          refine (down_at _ _ _ c4).mono ?_
          rintro e w1 ⟨rfl, rfl⟩
          go_wp2_with fail
          go_ret
          rw [F.out]
          exact ⟨rfl, Goes.of_at h (Touch.refl [] _) (by simp)⟩

end Go.Proofs.Ytfnfapgmicmegaa
