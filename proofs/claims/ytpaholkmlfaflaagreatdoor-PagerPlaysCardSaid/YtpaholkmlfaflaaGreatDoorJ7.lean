/- Lemmas on the way to the statement: Pager7, LayPlain, Pager8, LayPlain2, Pager9, PagerA, Redo9, PagerB. -/
import Derived.Test.YtpaholkmlfaflaaGreatDoorJ5
import Derived.Test.YtpaholkmlfaflaaGreatDoorJ6
namespace Go.Proofs.YtpaholkmlfaflaaGreatDoor
open Go.RowKit Go.Maps Go.Joins
set_option linter.unusedVariables false
theorem wp_name {P : Program} {c : Code} {Q : Exit → Act → World → Prop} {a : Act} {w : World} (h : ∀ W, w = W → c.wp P Q a W) : c.wp P Q a w := h w rfl
theorem calls_name {P : Program} {f : FuncId} {args : Array Value} {w : World} {Q : Ending → World → Prop} (h : ∀ W, w = W → Calls P f args W Q) : Calls P f args w Q := h w rfl
/-- A chain lies at cb; it has the error e0. -/
structure ChOn (W : World) (d cb : Nat) (F : List Nat) (m : DM) (e0 : Int) : Prop where
  disk : IsDisk W d F m
  err : W.cell? ⟨cb, 0, none⟩ = some (.int .i64 e0)
  errf : W.frozen? ⟨cb, 0, none⟩ = false
  ne : cb ∉ F
section
variable {W w w1 w2 : World} {d cb k : Nat} {F F1 : List Nat} {m : DM} {e0 : Int} {x : Int × DM}
theorem ChOn.below (h : ChOn W d cb F m e0) (hb : Below W.heap.size W w) : ChOn w d cb F m e0 :=
  ⟨h.disk.below hb, (hb.cell (p := ⟨cb, 0, none⟩) (cell_lt h.err)).trans h.err, (hb.frozen (p := ⟨cb, 0, none⟩) (cell_lt h.err)).trans h.errf, h.ne⟩
theorem ApSt.on (h : ApSt w d cb F w1 x) : ∃ F', ChOn w1 d cb F' x.2 x.1 ∧ Touch (cb :: F) w w1 ∧ ∀ b ∈ F', b ∈ F ∨ w.heap.size ≤ b := by
  obtain ⟨F', h1, h2, h3, h4, h5, h6⟩ := h
  exact ⟨F', ⟨h1, h2, h3, h6⟩, h4, h5⟩
theorem ChOn.st (h : ChOn W d cb F m e0) : ApSt W d cb F W (e0, m) := ⟨F, h.disk, h.err, h.errf, Touch.refl _ _, fun b hb => .inl hb, h.ne⟩
theorem ApSt.first (h : Below w.heap.size w w1) (k : ApSt w1 d cb F w2 x) : ApSt w d cb F w2 x := ApSt.trans (Touch.of_below h) (fun b hb => .inl hb) k
/-- What a closure that has gone on leaves. -/
theorem ChOn.goes {W' W1 : World} (h : ChOn W d cb F m e0) (hg : Goes W W1 d F x.2) (hW : W' = W1.setCell ⟨cb, 0, none⟩ (.int .i64 x.1)) : ApSt W d cb F W' x := by
  obtain ⟨F', h1, h2, h3⟩ := hg
  have hlt := cell_lt h.err
  have hne : cb ∉ F' := fun hm => (h3 cb hm).elim h.ne (fun h' => by omega)
  have hc : W1.cell? ⟨cb, 0, none⟩ = some (.int .i64 e0) := (h2.cell (p := ⟨cb, 0, none⟩) hlt h.ne).trans h.err
  have hf : W1.frozen? ⟨cb, 0, none⟩ = false := (h2.frozen (p := ⟨cb, 0, none⟩) hlt h.ne).trans h.errf
  subst hW
  refine ⟨F', h1.touch (F := [cb]) ((Touch.refl _ _).setCell (.inl (by simp)) _) (fun b hb hm => ?_), World.cell?_setCell_same _ _ _ hc, by rw [World.frozen?_setCell]; exact hf, ?_, h3, hne⟩
  · simp at hm; subst hm; exact hne hb
  · exact (h2.mono (fun b hb => .inl (by simp [hb]))).setCell (.inl (by simp)) _
set_option maxRecDepth 100000 in
set_option maxHeartbeats 1000000 in
theorem then_off (h : ChOn W d cb F m e0) (he : e0 ≠ 0) (f : Value) :
    Calls Tryz.prog 43 #[.pointer (some ⟨cb, 0, none⟩), f] W fun e w' => e = .returned (.tuple #[]) ∧ W = w' := by
  have c := h.err
  have t : (e0 == 0) = false := by simpa using he
  clear he h
  go_enter Tryz.func43, Tryz.ntmps43
  go_wp2_with fail
  go_end0
  exact ⟨rfl, rfl⟩
set_option maxRecDepth 100000 in
set_option maxHeartbeats 1000000 in
theorem then_any (h : ChOn W d cb F m e0) (fid : Nat) (bnd caps : Array Value) (y : Int × DM) (hcf : (callFunc fid (bnd ++ caps)).run Tryz.prog W = .ok (.enter fid (bnd ++ caps)) W) (hf : Calls Tryz.prog fid (bnd ++ caps) W fun e w' => e = .returned (.int .i64 y.1) ∧ Goes W w' d F y.2) :
    Calls Tryz.prog 43 #[.pointer (some ⟨cb, 0, none⟩), .func (Fn.func fid) bnd caps] W fun e w' => e = .returned (.tuple #[]) ∧ ApSt W d cb F w' (if e0 = 0 then y else (e0, m)) := by
  by_cases he : e0 = 0
  · rw [if_pos he]
    have HW := Lib.hid hf
    subst he
    have c := h.err
    have cf := h.errf
    have hlt := cell_lt h.err
    clear hf
    go_enter Tryz.func43, Tryz.ntmps43
    go_wp2_with fail
    refine HW.out.mono ?_
    rintro e w7 ⟨rfl, hg⟩
    have HG := Lib.hid hg
    have c7 : w7.cell? ⟨cb, 0, none⟩ = some (.int .i64 0) := by
      obtain ⟨F', _, t, _⟩ := hg
      exact (t.cell (p := ⟨cb, 0, none⟩) hlt h.ne).trans c
    have f7 : w7.frozen? ⟨cb, 0, none⟩ = false := by
      obtain ⟨F', _, t, _⟩ := hg
      exact (t.frozen (p := ⟨cb, 0, none⟩) hlt h.ne).trans cf
    clear hg c cf
    go_wp2_with fail
    go_end0
    exact ⟨rfl, h.goes HG.out rfl⟩
  · rw [if_neg he]
    exact (then_off h he _).mono fun e w' ⟨h1, h2⟩ => ⟨h1, by rw [← h2]; exact h.st⟩
/-- A flush, if nothing has failed. -/
theorem pthen_flush (h : ChOn W d cb F m e0) (hk : DOk m k) (hkk : k ≤ 1000000000) :
    Calls Tryz.prog 43 #[.pointer (some ⟨cb, 0, none⟩), .func (Fn.func 49) #[.pointer (some ⟨d, 0, none⟩)] #[]] W fun e w' => e = .returned (.tuple #[]) ∧ ApSt W d cb F w' (stepF (e0, m)) :=
  then_any h _ _ _ (flM m) (by kernel_rfl) (is_flush h.disk hk hkk)
set_option maxRecDepth 100000 in
set_option maxHeartbeats 1000000 in
/-- A write's closure. -/
theorem put_fn (h : IsDisk W d F m) (hk : DOk m k) (hkk : k ≤ 1000000000) {b0 b1 b2 b3 : Nat} {a j : Nat} {s : ByteArray} (ha : a + j ≤ 1000000) (hs : s.size ≤ 1000)
    (c0 : W.cell? ⟨b0, 0, none⟩ = some (.pointer (some ⟨d, 0, none⟩))) (c1 : W.cell? ⟨b1, 0, none⟩ = some (.int .i64 a)) (c2 : W.cell? ⟨b2, 0, none⟩ = some (.int .i64 j)) (c3 : W.cell? ⟨b3, 0, none⟩ = some (.string s)) :
    Calls Tryz.prog 84 #[.pointer (some ⟨b0, 0, none⟩), .pointer (some ⟨b1, 0, none⟩), .pointer (some ⟨b2, 0, none⟩), .pointer (some ⟨b3, 0, none⟩)] W
      fun e w' => e = .returned (.int .i64 (wrM m ((a + j : Nat) : Int) s).1) ∧ Goes W w' d F (wrM m ((a + j : Nat) : Int) s).2 := by
  have q : IntKind.i64.wrap ((a : Int) + (j : Int)) = ((a + j : Nat) : Int) := by rw [IntWalk.i64_in _ (by omega)]; omega
  have HW := Lib.hid (is_write h hk hkk ((a + j : Nat) : Int) s (by omega) (by omega) (by omega))
  clear h
  go_enter Tryz.func84, Tryz.ntmps84
  go_wp2_with fail
  refine HW.out.mono ?_
  rintro e w7 ⟨rfl, hg⟩
  go_wp2_with fail
  go_ret
  exact ⟨rfl, hg⟩
/-- So many sectors of a page are written. -/
def putN (x : Int × DM) (a : Nat) (s : ByteArray) (n : Nat) : Int × DM := (List.range n).foldl (fun x k => stepW x ((a + k : Nat) : Int) (s.extract (k * 64) ((k + 1) * 64))) x
theorem putN_succ (x : Int × DM) (a : Nat) (s : ByteArray) (n : Nat) : putN x a s (n + 1) = stepW (putN x a s n) ((a + n : Nat) : Int) (s.extract (n * 64) ((n + 1) * 64)) := by
  unfold putN; rw [List.range_succ, List.foldl_append]; rfl
theorem putN_ok {x : Int × DM} (h : DOk x.2 k) (a : Nat) (s : ByteArray) : ∀ n, DOk (putN x a s n).2 (k + n)
  | 0 => h
  | n + 1 => by rw [putN_succ]; exact (putN_ok h a s n).stepW _ _
structure PutLoop (w2 : World) (d cb : Nat) (F : List Nat) (x : Int × DM) (a : Nat) (s : ByteArray) (v : Value) (wr : World) : Prop where
  ex : ∃ j : Nat, j ≤ 8 ∧ v = .int .i64 j ∧ ApSt w2 d cb F wr (putN x a s j)
set_option maxRecDepth 100000 in
set_option maxHeartbeats 2000000 in
theorem put_page (h : ChOn W d cb F m e0) (hk : DOk m k) (hkk : k ≤ 900000000) (a : Nat) (s : ByteArray) (ha : a ≤ 900000) (hs : s.size = 512) :
    Calls Tryz.prog 48 #[.pointer (some ⟨cb, 0, none⟩), .pointer (some ⟨d, 0, none⟩), .int .i64 a, .string s] W fun e w' => e = .returned (.tuple #[]) ∧ ApSt W d cb F w' (putX (e0, m) a s) := by
  have HCU := Lib.hid (fun W => cut_any s W hs)
  have H := Lib.hid h
  have hlt := cell_lt h.err
  clear h
  go_enter Tryz.func48, Tryz.ntmps48
  go_wp2_with fail
  first | refine wp_name (fun W0 hW0 => ?_) | refine calls_name (fun W0 hW0 => ?_)
  have hb0 : Below W.heap.size W W0 := by rw [← hW0]; exact below_alloc (below_alloc (Below.refl _ _))
  have hc0 : W0.cell? ⟨W.heap.size, 0, none⟩ = some (.pointer (some ⟨d, 0, none⟩)) ∧ W0.cell? ⟨W.heap.size + 1, 0, none⟩ = some (.int .i64 a) ∧ W0.heap.size = W.heap.size + 1 + 1 := by
    rw [← hW0]
    refine ⟨by clear hW0; go_simp, by clear hW0; go_simp, by simp⟩
  clear hW0
  have HB0 := Lib.hid hb0
  refine (HCU.out _).mono ?_
  rintro e w2 ⟨g, cap, rfl, hrow, hb2⟩
  have HROW := Lib.hid hrow
  have HB2 := Lib.hid (below_step hb2 hb0)
  have hk0 : w2.cell? ⟨W.heap.size, 0, none⟩ = some (.pointer (some ⟨d, 0, none⟩)) := (hb2.cell (p := ⟨_, _, none⟩) (by show W.heap.size < _; omega)).trans hc0.1
  have hk1 : w2.cell? ⟨W.heap.size + 1, 0, none⟩ = some (.int .i64 a) := (hb2.cell (p := ⟨_, _, none⟩) (by show W.heap.size + 1 < _; omega)).trans hc0.2.1
  have HK := Lib.hid (And.intro hk0 hk1)
  have HS := Lib.hid (show W.heap.size + 1 + 1 ≤ w2.heap.size by have := hb2.size; omega)
  clear hrow hb0 hb2 hc0 hk0 hk1
  go_wp2_with fail
  go_loopw [8, 9, 13] (fun v8 v9 v13 wr => PutLoop w2 d cb F (e0, m) a s v13 wr) (fun _ _ v13 _ => 8 - (intOf v13).toNat)
  case atStart => exact ⟨⟨0, by omega, rfl, (H.out.below HB2.out).st⟩⟩
  case round =>
    obtain ⟨⟨j, hj, rfl, hst⟩⟩ := hrel
    obtain ⟨F1, hon, ht, hF1⟩ := hst.on
    have HON := Lib.hid hon
    have HT := Lib.hid ht
    have HF := Lib.hid hF1
    clear hst hon ht hF1
    by_cases hlt8 : j < 8
    · have hFlt := H.out.disk.lt
      have hg := HROW.out.lt g rfl
      have hgc : w2.cell? ⟨g, j, none⟩ = some (.string (s.extract (j * 64) ((j + 1) * 64))) := by
        rw [HROW.out.cellAt j (by omega)]
        unfold cutCells
        rw [List.getElem?_map]
        simp [hlt8]
      have gc : wr.cell? ⟨g, j, none⟩ = some (.string (s.extract (j * 64) ((j + 1) * 64))) := (HT.out.cell (p := ⟨g, j, none⟩) hg.2 (by
        intro hm
        rcases List.mem_cons.1 hm with e | hm
        · have e : g = cb := e
          have := HS.out; have := HB0.out.size; omega
        · have := hFlt g hm; have := HB0.out.size; omega)).trans hgc
      have gl : g < wr.heap.size := Nat.lt_of_lt_of_le hg.2 HT.out.size
      have hq1 : (0 : Int) ≤ (j : Int) := by omega
      have hq2 : (j : Int) < 8 := by omega
      have hwr : w2.heap.size ≤ wr.heap.size := HT.out.size
      have hsz : (s.extract (j * 64) ((j + 1) * 64)).size ≤ 1000 := by rw [ByteArray.size_extract]; omega
      have hdk := putN_ok (x := (e0, m)) hk a s j
      have nb0 : W.heap.size ∉ cb :: F := by
        intro hm
        rcases List.mem_cons.1 hm with e | hm
        · omega
        · have := hFlt _ hm; omega
      have nb1 : W.heap.size + 1 ∉ cb :: F := by
        intro hm
        rcases List.mem_cons.1 hm with e | hm
        · omega
        · have := hFlt _ hm; omega
      have hs2 := HS.out
      have k0 : wr.cell? ⟨W.heap.size, 0, none⟩ = some (.pointer (some ⟨d, 0, none⟩)) := (HT.out.cell (p := ⟨W.heap.size, 0, none⟩) (by show W.heap.size < _; omega) nb0).trans HK.out.1
      have k1 : wr.cell? ⟨W.heap.size + 1, 0, none⟩ = some (.int .i64 a) := (HT.out.cell (p := ⟨W.heap.size + 1, 0, none⟩) (by show W.heap.size + 1 < _; omega) nb1).trans HK.out.2
      have hpos : ∀ (W1 : World) (hb : Below wr.heap.size wr W1) (h2 : W1.cell? ⟨wr.heap.size, 0, none⟩ = some (.int .i64 j)) (h3 : W1.cell? ⟨wr.heap.size + 1, 0, none⟩ = some (.string (s.extract (j * 64) ((j + 1) * 64)))), Hid (Calls Tryz.prog 43 #[.pointer (some ⟨cb, 0, none⟩), .func (Fn.func 84) #[] #[.pointer (some ⟨W.heap.size, 0, none⟩), .pointer (some ⟨W.heap.size + 1, 0, none⟩), .pointer (some ⟨wr.heap.size, 0, none⟩), .pointer (some ⟨wr.heap.size + 1, 0, none⟩)]] W1 fun e w' => e = .returned (.tuple #[]) ∧ ApSt W1 d cb F1 w' (if (putN (e0, m) a s j).1 = 0 then wrM (putN (e0, m) a s j).2 ((a + j : Nat) : Int) (s.extract (j * 64) ((j + 1) * 64)) else ((putN (e0, m) a s j).1, (putN (e0, m) a s j).2))) := fun W1 hb h2 h3 =>
        Lib.hid (then_any (HON.out.below hb) _ _ _ (wrM (putN (e0, m) a s j).2 ((a + j : Nat) : Int) (s.extract (j * 64) ((j + 1) * 64))) (by kernel_rfl) (put_fn (HON.out.below hb).disk hdk (by omega) (by omega) hsz ((hb.cell (p := ⟨W.heap.size, 0, none⟩) (by show W.heap.size < _; omega)).trans k0) ((hb.cell (p := ⟨W.heap.size + 1, 0, none⟩) (by show W.heap.size + 1 < _; omega)).trans k1) h2 h3))
      clear k0 k1 nb0 nb1 hdk hsz
      go_wp2_with fail
      first | refine wp_name (fun W3 hW3 => ?_) | refine calls_name (fun W3 hW3 => ?_)
      have hb3 : Below wr.heap.size wr W3 := by rw [← hW3]; exact below_alloc (below_alloc (Below.refl _ _))
      have h2 : W3.cell? ⟨wr.heap.size, 0, none⟩ = some (.int .i64 j) := by rw [← hW3]; clear hW3; go_simp
      have h3 : W3.cell? ⟨wr.heap.size + 1, 0, none⟩ = some (.string (s.extract (j * 64) ((j + 1) * 64))) := by rw [← hW3]; clear hW3; go_simp
      clear hW3 gc gl
      refine (hpos W3 hb3 h2 h3).out.mono ?_
      rintro e w5 ⟨rfl, hst5⟩
      have hst5' : ApSt w2 d cb F w5 (putN (e0, m) a s (j + 1)) := by
        rw [putN_succ]
        exact ApSt.trans (HT.out.trans (Touch.of_below (F := cb :: F) hb3) (fun x hx => .inl hx)) (fun x hx => HF.out x hx) hst5
      have HST := Lib.hid hst5'
      clear hst5 hst5' h2 h3 hb3 hpos
      go_wp2_with fail
      go_roundw
      case rel => exact ⟨⟨j + 1, by omega, by go_num, HST.out⟩⟩
      case measure => simp [intOf]; omega
    · obtain rfl : j = 8 := by omega
      go_wp2_with fail
      go_end0
      exact ⟨rfl, ApSt.first HB2.out ⟨F1, HON.out.disk, HON.out.err, HON.out.errf, HT.out, HF.out, HON.out.ne⟩⟩
end
end Go.Proofs.YtpaholkmlfaflaaGreatDoor

namespace Go.Proofs.YtpaholkmlfaflaaGreatDoor
open Go.RowKit
set_option linter.unusedVariables false
theorem lastW_acc (k : Int) : ∀ (l : List (Int × ByteArray)) (acc : Option ByteArray), l.foldl (fun acc x => if x.1 = k then some x.2 else acc) acc = (lastW l k).or acc
  | [], acc => rfl
  | x :: l, acc => by
    have e : lastW (x :: l) k = l.foldl (fun acc x => if x.1 = k then some x.2 else acc) (if x.1 = k then some x.2 else none) := rfl
    rw [e, List.foldl_cons, lastW_acc k l, lastW_acc k l]
    cases lastW l k with
    | some s => rfl
    | none =>
      by_cases h : x.1 = k
      · rw [if_pos h, if_pos h]; rfl
      · rw [if_neg h, if_neg h]; rfl
theorem lastW_cons (x : Int × ByteArray) (l : List (Int × ByteArray)) (k : Int) : lastW (x :: l) k = (lastW l k).or (if x.1 = k then some x.2 else none) := lastW_acc k l _
theorem getD_setL (su : List ByteArray) (j i : Nat) (s z : ByteArray) (hj : j < su.length) : (su.set j s).getD i z = if j = i then s else su.getD i z := by
  rw [List.getD_eq_getElem?_getD, List.getElem?_set, List.getD_eq_getElem?_getD]
  by_cases h : j = i
  · rw [if_pos h, if_pos h, if_pos hj]; rfl
  · rw [if_neg h, if_neg h]
/-- The last write to each place counts. -/
theorem flTo_get (i : Nat) : ∀ (l : List (Int × ByteArray)) (su : List ByteArray), (∀ x ∈ l, ∃ j : Nat, x.1 = j ∧ j < su.length) → (flTo su l).getD i ⟨#[]⟩ = (lastW l i).getD (su.getD i ⟨#[]⟩)
  | [], su, _ => rfl
  | x :: l, su, h => by
    obtain ⟨j, hj, hlt⟩ := h x (by simp)
    have e : flTo su (x :: l) = flTo (su.set x.1.toNat x.2) l := rfl
    rw [e, flTo_get i l _ (fun y hy => by rw [List.length_set]; exact h y (by simp [hy])), lastW_cons, hj, Int.toNat_natCast, getD_setL _ _ _ _ _ hlt]
    cases lastW l i with
    | some s => rfl
    | none =>
      by_cases hji : j = i
      · rw [if_pos hji, if_pos (by omega)]; rfl
      · rw [if_neg hji, if_neg (by omega)]; rfl
theorem secM_flush {m : DM} (hw : WaitOk m) (i : Nat) : secM (flM m).2 i = secM m i := by
  unfold flM
  obtain ⟨e1, e2⟩ := burnM_wait m
  split
  · rfl
  · split
    · unfold secM
      show (lastW [] i).getD ((flTo m.sure m.wait).getD i ⟨#[]⟩) = _
      rw [flTo_get i m.wait m.sure hw]
      rfl
    · unfold secM; rw [e1, e2]
theorem secM_write_other {m : DM} {i : Int} {j : Nat} (s : ByteArray) (h : i ≠ (j : Int)) : secM (wrM m i s).2 j = secM m j := by
  unfold wrM
  obtain ⟨e1, e2⟩ := burnM_wait m
  split
  · rfl
  · split
    · rfl
    · split
      · unfold secM
        show (lastW ((burnM m).2.wait ++ [(i, s)]) j).getD ((burnM m).2.sure.getD j ⟨#[]⟩) = _
        rw [lastW_snoc, if_neg h, e1, e2]
      · unfold secM; rw [e1, e2]
theorem secM_write_same {m : DM} {i : Nat} {s : ByteArray} (h : (wrM m i s).1 = 0) : secM (wrM m i s).2 i = s := by
  unfold wrM at h ⊢
  split at h
  · cases h
  · rename_i hd
    rw [if_neg hd]
    split at h
    · cases h
    · rename_i hb
      rw [if_neg hb]
      split at h
      · rename_i hu
        rw [if_pos hu]
        unfold secM
        show (lastW ((burnM m).2.wait ++ [((i : Int), s)]) i).getD _ = s
        rw [lastW_snoc, if_pos rfl]; rfl
      · cases h
theorem stepW_zero {x : Int × DM} {i : Int} {s : ByteArray} (h : (stepW x i s).1 = 0) : x.1 = 0 := by
  unfold stepW at h
  by_cases hx : x.1 = 0
  · exact hx
  · rw [if_neg hx] at h; exact h
theorem stepF_zero {x : Int × DM} (h : (stepF x).1 = 0) : x.1 = 0 := by
  unfold stepF at h
  by_cases hx : x.1 = 0
  · exact hx
  · rw [if_neg hx] at h; exact h
theorem stepW_other {x : Int × DM} {i : Int} {j : Nat} (s : ByteArray) (h : i ≠ (j : Int)) : secM (stepW x i s).2 j = secM x.2 j := by
  unfold stepW
  split
  · exact secM_write_other s h
  · rfl
theorem stepW_same {x : Int × DM} {i : Nat} {s : ByteArray} (h : (stepW x i s).1 = 0) : secM (stepW x i s).2 i = s := by
  have h0 := stepW_zero h
  unfold stepW at h ⊢
  rw [if_pos h0] at h ⊢
  exact secM_write_same h
theorem stepF_sec {x : Int × DM} (hw : WaitOk x.2) (i : Nat) : secM (stepF x).2 i = secM x.2 i := by
  unfold stepF
  split
  · exact secM_flush hw i
  · rfl
theorem putN_zero {x : Int × DM} {a : Nat} {s : ByteArray} : ∀ {n : Nat}, (putN x a s n).1 = 0 → x.1 = 0
  | 0, h => h
  | n + 1, h => by rw [putN_succ] at h; exact putN_zero (stepW_zero h)
theorem putN_other {x : Int × DM} {a : Nat} {s : ByteArray} {j : Nat} : ∀ {n : Nat}, (j < a ∨ a + n ≤ j) → secM (putN x a s n).2 j = secM x.2 j
  | 0, _ => rfl
  | n + 1, h => by rw [putN_succ, stepW_other _ (by omega), putN_other (n := n) (by omega)]
theorem putN_same {x : Int × DM} {a : Nat} {s : ByteArray} : ∀ {n : Nat}, (putN x a s n).1 = 0 → ∀ k, k < n → secM (putN x a s n).2 (a + k) = s.extract (k * 64) ((k + 1) * 64)
  | 0, _, k, hk => absurd hk (by omega)
  | n + 1, h, k, hk => by
    rw [putN_succ] at h ⊢
    by_cases e : k = n
    · subst e; exact stepW_same h
    · rw [stepW_other _ (by omega)]
      exact putN_same (stepW_zero h) k (by omega)
theorem pgOf_congr {m m' : DM} {a : Nat} (h : ∀ k, k < 8 → secM m (a + k) = secM m' (a + k)) : pgOf m a = pgOf m' a := by
  unfold pgOf
  congr 1
  exact List.map_congr_left (fun k hk => h k (List.mem_range.1 hk))
theorem extracts_flat (s : ByteArray) : ∀ n, n * 64 ≤ s.size → (((List.range n).map fun k => s.extract (k * 64) ((k + 1) * 64)).map (·.data.toList)).flatten = s.data.toList.take (n * 64)
  | 0, _ => by simp
  | n + 1, h => by
    rw [List.range_succ, List.map_append, List.map_append, List.flatten_append, extracts_flat s n (by omega), Nat.succ_mul, List.take_add]
    congr 1
    simp only [List.map_cons, List.map_nil, List.flatten_cons, List.flatten_nil, List.append_nil]
    rw [extract_cut, data_S, show (n + 1) * 64 - n * 64 = 64 by omega]
    rfl
theorem pgOf_put {x : Int × DM} {a : Nat} {s : ByteArray} (hs : s.size = 512) (h : (putX x a s).1 = 0) : pgOf (putX x a s).2 a = s := by
  have h' : (putN x a s 8).1 = 0 := h
  show pgOf (putN x a s 8).2 a = s
  unfold pgOf imgM
  rw [show ((List.range 8).map fun k => secM (putN x a s 8).2 (a + k)) = (List.range 8).map fun k => s.extract (k * 64) ((k + 1) * 64) from List.map_congr_left (fun k hk => putN_same h' k (List.mem_range.1 hk))]
  rw [extracts_flat s 8 (by omega), List.take_of_length_le (by rw [data_length]; omega), S_data]
/-- Pages are written to their places. -/
def layN (x : Int × DM) (hot : Int → Option ByteArray) (size : Nat) (L : List Int) : Int × DM := L.foldl (fun x no => putX x (2 + size + no.toNat * 8) ((hot no).getD ⟨#[]⟩)) x
theorem layN_snoc (x : Int × DM) (hot : Int → Option ByteArray) (size : Nat) (L : List Int) (no : Int) : layN x hot size (L ++ [no]) = putX (layN x hot size L) (2 + size + no.toNat * 8) ((hot no).getD ⟨#[]⟩) := by
  unfold layN; rw [List.foldl_append]; rfl
theorem layN_zero {hot : Int → Option ByteArray} {size : Nat} : ∀ {L : List Int} {x : Int × DM}, (layN x hot size L).1 = 0 → x.1 = 0
  | [], _, h => h
  | no :: L, x, h => putN_zero (n := 8) (layN_zero (L := L) (x := putX x (2 + size + no.toNat * 8) ((hot no).getD ⟨#[]⟩)) h)
theorem layN_other {hot : Int → Option ByteArray} {size j : Nat} : ∀ {L : List Int} {x : Int × DM}, (∀ no ∈ L, j < 2 + size + no.toNat * 8 ∨ 2 + size + no.toNat * 8 + 8 ≤ j) → secM (layN x hot size L).2 j = secM x.2 j
  | [], _, _ => rfl
  | no :: L, x, h => by
    show secM (layN (putX x (2 + size + no.toNat * 8) ((hot no).getD ⟨#[]⟩)) hot size L).2 j = _
    rw [layN_other (fun q hq => h q (by simp [hq]))]
    exact putN_other (n := 8) (h no (by simp))
theorem layN_page {hot : Int → Option ByteArray} {size : Nat} {L : List Int} {x : Int × DM} {i : Nat} (h : ∀ no ∈ L, 0 ≤ no) (hi : (i : Int) ∉ L) : pgOf (layN x hot size L).2 (2 + size + i * 8) = pgOf x.2 (2 + size + i * 8) :=
  pgOf_congr (fun k hk => layN_other (fun no hno => by
    have h0 := h no hno
    have hne : no.toNat ≠ i := fun e => hi (by rw [← e, show ((no.toNat : Nat) : Int) = no by omega]; exact hno)
    omega))
theorem layN_same {hot : Int → Option ByteArray} {size : Nat} : ∀ {L : List Int} {x : Int × DM}, (layN x hot size L).1 = 0 → L.Nodup → (∀ no ∈ L, 0 ≤ no ∧ ((hot no).getD ⟨#[]⟩).size = 512) → ∀ i : Nat, (i : Int) ∈ L → pgOf (layN x hot size L).2 (2 + size + i * 8) = (hot i).getD ⟨#[]⟩
  | [], _, _, _, _, i, hi => by cases hi
  | no :: L, x, h, hn, hs, i, hi => by
    have hn' := List.nodup_cons.1 hn
    by_cases e : (i : Int) ∈ L
    · exact layN_same (L := L) (x := putX x (2 + size + no.toNat * 8) ((hot no).getD ⟨#[]⟩)) h hn'.2 (fun q hq => hs q (by simp [hq])) i e
    · have e2 : (i : Int) = no := by
        rcases List.mem_cons.1 hi with e2 | e2
        · exact e2
        · exact absurd e2 e
      show pgOf (layN (putX x (2 + size + no.toNat * 8) ((hot no).getD ⟨#[]⟩)) hot size L).2 (2 + size + i * 8) = _
      rw [layN_page (fun q hq => (hs q (by simp [hq])).1) e, ← e2, Int.toNat_natCast]
      have hz := layN_zero (L := L) (x := putX x (2 + size + no.toNat * 8) ((hot no).getD ⟨#[]⟩)) h
      rw [← e2, Int.toNat_natCast] at hz
      have hss := (hs no (by simp)).2
      rw [← e2] at hss
      exact pgOf_put hss hz
theorem layN_ok {hot : Int → Option ByteArray} {size k : Nat} : ∀ {L : List Int} {x : Int × DM}, DOk x.2 k → DOk (layN x hot size L).2 (k + 8 * L.length)
  | [], _, h => h
  | no :: L, x, h => by
    have := layN_ok (hot := hot) (size := size) (L := L) (x := putX x (2 + size + no.toNat * 8) ((hot no).getD ⟨#[]⟩)) (putN_ok h _ _ 8)
    exact this.mono (by simp; omega)
end Go.Proofs.YtpaholkmlfaflaaGreatDoor

namespace Go.Proofs.YtpaholkmlfaflaaGreatDoor
open Go.RowKit Go.Maps Go.Joins
set_option linter.unusedVariables false
section
variable {W w w1 w2 : World} {b d lb pb hb pp k : Nat} {F F1 : List Nat} {m : DM} {l : LM} {e0 : Int} {x : Int × DM}
theorem superT_size (first : Int) (size : Nat) : (superT first size).size = 48 := by
  unfold superT
  rw [S_size, List.length_append, List.length_append, leB_length, leB_length, nul_length]
set_option maxRecDepth 100000 in
set_option maxHeartbeats 2000000 in
theorem lay_fn (hD : IsDisk W d F m) (hL : LogAt W lb d l) (hk : DOk m k) (hkk : k ≤ 1000000000) {gen : Int} {size : Nat} (g0 : 0 ≤ gen) (g1 : gen ≤ 18446744073709551615) (n0 : 0 ≤ l.next) (hs : size ≤ 65536)
    (cp : W.cell? ⟨pp, 0, none⟩ = some (.pointer (some ⟨b, 0, none⟩))) (c0 : W.cell? ⟨b, 0, none⟩ = some (.pointer (some ⟨d, 0, none⟩))) (c1 : W.cell? ⟨b, 1, none⟩ = some (.pointer (some ⟨lb, 0, none⟩))) (c2 : W.cell? ⟨b, 2, none⟩ = some (.int .i64 size)) (c3 : W.cell? ⟨b, 3, none⟩ = some (.int .u64 gen)) :
    Calls Tryz.prog 107 #[.pointer (some ⟨pp, 0, none⟩)] W
      fun e w' => e = .returned (.int .i64 (wrM m ((gen + 1) % 18446744073709551616 % 2) (mkStr ((gen + 1) % 18446744073709551616) (superT l.next size))).1) ∧ Goes W w' d F (wrM m ((gen + 1) % 18446744073709551616 % 2) (mkStr ((gen + 1) % 18446744073709551616) (superT l.next size))).2 := by
  obtain ⟨g, hg⟩ : ∃ g, g = (gen + 1) % 18446744073709551616 := ⟨_, rfl⟩
  rw [← hg]
  have q1 : IntKind.u64.wrap (gen + 1) = g := by rw [IntKind.wrap_u64, hg]
  have hgb : 0 ≤ g ∧ g ≤ 18446744073709551615 := by omega
  have ltp := cell_lt cp
  have ltb := cell_lt c0
  have xp : ∀ x : Later W, x.1.cell? ⟨pp, 0, none⟩ = some (.pointer (some ⟨b, 0, none⟩)) := fun x => (x.cell ltp).trans cp
  have x1 : ∀ x : Later W, x.1.cell? ⟨b, 1, none⟩ = some (.pointer (some ⟨lb, 0, none⟩)) := fun x => (x.cell ltb).trans c1
  have x2 : ∀ x : Later W, x.1.cell? ⟨b, 2, none⟩ = some (.int .i64 size) := fun x => (x.cell ltb).trans c2
  have x3 : ∀ x : Later W, x.1.cell? ⟨b, 3, none⟩ = some (.int .u64 gen) := fun x => (x.cell ltb).trans c3
  have HNX := Lib.hid (fun x : Later W => next_any (hL.below x.2))
  have HSU := Lib.hid (fun W => super_any l.next size W n0 hs)
  have HMK := Lib.hid (fun W => markPut_any g (superT l.next size) W hgb.1 (by rw [superT_size]; omega))
  have hms : (mkStr g (superT l.next size)).size = 64 := mkStr_size _ _ (by rw [superT_size]; omega)
  have HD := Lib.hid hD
  have HC := Lib.hid (And.intro cp (And.intro c0 c3))
  clear hD hL cp c0 c1 c2 c3 hg
  go_enter Tryz.func107, Tryz.ntmps107
  go_wp2_with fail
  refine wp_region_later (by kernel_rfl) (by kernel_rfl) ?_
  repeat (first | go_big_quiet_step ((first | (go_at_call 108; refine Later.call_same (HNX.out _)) | (go_at_call 52; refine Later.call (HSU.out _)) | (go_at_call 51; refine Later.call (HMK.out _)))) | quiet_step ((first | (go_at_call 108; refine Later.call_same (HNX.out _)) | (go_at_call 52; refine Later.call (HSU.out _)) | (go_at_call 51; refine Later.call (HMK.out _)))))
  refine wpQuiet_nil ?_
  rintro w3 ⟨y3, hw3⟩
  have hb3 : Below W.heap.size W w3 := by rw [hw3]; exact y3.2
  clear hw3 xp x1 x2 x3
  have cp := (hb3.cell (p := ⟨pp, 0, none⟩) ltp).trans HC.out.1
  have c0 := (hb3.cell (p := ⟨b, 0, none⟩) ltb).trans HC.out.2.1
  have c3 := (hb3.cell (p := ⟨b, 3, none⟩) ltb).trans HC.out.2.2
  have lp3 := Nat.lt_of_lt_of_le ltp hb3.size
  have lb3 := Nat.lt_of_lt_of_le ltb hb3.size
  have q2 : IntKind.u64.wrap (g.tmod 2) = g % 2 := by rw [Int.tmod_eq_emod_of_nonneg hgb.1, IntKind.wrap_u64]; omega
  have q3 : IntKind.i64.wrap (g % 2) = g % 2 := IntWalk.i64_in _ (by omega)
  have HW := fun q => Lib.hid (is_write (w := w3.drewN q) ((HD.out.below hb3).touch (F := []) ((Touch.refl _ _).drewN q) (fun _ _ h => by cases h)) hk hkk (g % 2) (mkStr g (superT l.next size)) (by omega) (by omega) (by omega))
  have HB3 := Lib.hid hb3
  clear hb3
  go_wp2_with fail
  refine wp_region_tail (C := fun w' => ∃ n, w' = w3.drewN n) 12 (by kernel_rfl) (by kernel_rfl) ⟨1, rfl⟩ ?_
  simp only [List.take_succ_cons, List.take_zero, List.drop_succ_cons, List.drop_zero]
  repeat (first | go_big_quiet_step (fail) | quiet_step (fail))
  refine wpQuiet_nil ?_
  rintro w6 ⟨nq, rfl⟩
  go_wp2_with fail
  refine (HW nq).out.mono ?_
  rintro e w7 ⟨rfl, hg7⟩
  go_wp2_with fail
  go_ret
  exact ⟨rfl, Goes.after ((Touch.of_below HB3.out).drewN nq) hg7⟩
end
end Go.Proofs.YtpaholkmlfaflaaGreatDoor

namespace Go.Proofs.YtpaholkmlfaflaaGreatDoor
open Go.RowKit Go.Maps Go.Joins
set_option linter.unusedVariables false
theorem wrM_len (m : DM) (i : Int) (s : ByteArray) : (wrM m i s).2.sure.length = m.sure.length := by
  unfold wrM
  obtain ⟨e1, e2⟩ := burnM_wait m
  split
  · rfl
  · split
    · rfl
    · split
      · show (burnM m).2.sure.length = _; rw [e2]
      · rw [e2]
theorem flM_len (m : DM) : (flM m).2.sure.length = m.sure.length := by
  unfold flM
  obtain ⟨e1, e2⟩ := burnM_wait m
  split
  · rfl
  · split
    · show (flTo m.sure m.wait).length = _; rw [flTo_length]
    · rw [e2]
theorem stepW_len (x : Int × DM) (i : Int) (s : ByteArray) : (stepW x i s).2.sure.length = x.2.sure.length := by
  unfold stepW
  split
  · exact wrM_len _ _ _
  · rfl
theorem stepF_len (x : Int × DM) : (stepF x).2.sure.length = x.2.sure.length := by
  unfold stepF
  split
  · exact flM_len _
  · rfl
theorem putN_len (x : Int × DM) (a : Nat) (s : ByteArray) : ∀ n, (putN x a s n).2.sure.length = x.2.sure.length
  | 0 => rfl
  | n + 1 => by rw [putN_succ, stepW_len, putN_len x a s n]
theorem layN_len {hot : Int → Option ByteArray} {size : Nat} : ∀ (L : List Int) (x : Int × DM), (layN x hot size L).2.sure.length = x.2.sure.length
  | [], x => rfl
  | no :: L, x => (layN_len L (putX x (2 + size + no.toNat * 8) ((hot no).getD ⟨#[]⟩))).trans (putN_len x _ _ 8)
section
variable {M : PM} {k : Nat}
theorem layX_eq (M : PM) : layX M = stepF (stepW (stepF (layN (0, M.m) M.hot M.size (hotL M))) ((M.gen + 1) % 18446744073709551616 % 2) (mkStr ((M.gen + 1) % 18446744073709551616) (superT M.l.next M.size))) := rfl
theorem layX_len (M : PM) : (layX M).2.sure.length = M.m.sure.length := by
  rw [layX_eq, stepF_len, stepW_len, stepF_len, layN_len]
theorem hotL_mem (x : Int) : x ∈ hotL M ↔ 0 ≤ x ∧ x < 100000 ∧ (M.hot x).isSome = true := by
  have := keysI_mem (fun i => (M.hot i).isSome) 100000 x
  exact this
theorem hotL_len (h : PgOk M k) : (hotL M).length ≤ M.most := by
  have hge := h.geo
  have hfe := h.disk.few
  have hn : (hotL M).Nodup := (keysI_sorted _ _).imp (fun h e => by omega)
  have h1 : (keysI (fun x => (M.hot x).isSome) M.most).Nodup := (keysI_sorted _ _).imp (fun h e => by omega)
  have hp : (hotL M).Perm (keysI (fun x => (M.hot x).isSome) M.most) := (List.perm_ext_iff_of_nodup hn h1).2 (fun x => by
    rw [hotL_mem, keysI_mem]
    constructor
    · rintro ⟨a, b, c⟩
      obtain ⟨s, hs⟩ := Option.isSome_iff_exists.1 c
      exact ⟨a, (h.hdom x s hs).2.1, c⟩
    · rintro ⟨a, b, c⟩
      exact ⟨a, by omega, c⟩)
  have hc : ∀ (p : Int → Bool) (N : Nat), cntI p N ≤ N := fun p N => by
    induction N with
    | zero => exact Nat.le_refl _
    | succ N ih => rw [cntI_succ]; split <;> omega
  rw [hp.length_eq, keysI_length]
  exact hc _ _
theorem layX_ok (h : PgOk M k) : DOk (layX M).2 (k + 8 * (hotL M).length + 1) := by
  rw [layX_eq]
  exact ((((layN_ok (hot := M.hot) (size := M.size) (L := hotL M) (x := (0, M.m)) h.disk).stepF).stepW _ _).stepF)
theorem layX_page (h : PgOk M k) (i : Nat) : pgOf (layX M).2 (2 + M.size + i * 8) = pgOf (layN (0, M.m) M.hot M.size (hotL M)).2 (2 + M.size + i * 8) := by
  have h1 := layN_ok (hot := M.hot) (size := M.size) (L := hotL M) (x := (0, M.m)) h.disk
  have h2 := h1.stepF
  refine pgOf_congr (fun k hk => ?_)
  rw [layX_eq, stepF_sec (h2.stepW _ _).wait, stepW_other _ (by omega), stepF_sec h1.wait]
theorem lay_base_ok (h : PgOk M k) (hz : (layX M).1 = 0) (i : Nat) : pgOf (layX M).2 (2 + M.size + i * 8) = baseP M i := by
  rw [layX_page h]
  unfold baseP
  rw [Int.toNat_natCast]
  cases hh : M.hot (i : Int) with
  | none =>
    rw [layN_page (fun no hno => ((hotL_mem no).1 hno).1) (fun hm => by have := ((hotL_mem (i : Int)).1 hm).2.2; rw [hh] at this; cases this)]
    rfl
  | some s =>
    have hz1 : (layN (0, M.m) M.hot M.size (hotL M)).1 = 0 := by
      rw [layX_eq] at hz
      exact stepF_zero (stepW_zero (stepF_zero hz))
    have hd := h.hdom _ _ hh
    have hge := h.geo
    have hfe := h.disk.few
    rw [layN_same hz1 ((keysI_sorted _ _).imp (fun h e => by omega)) (fun no hno => ?_) i ((hotL_mem (i : Int)).2 ⟨by omega, by omega, by rw [hh]; rfl⟩), hh]
    · rfl
    · obtain ⟨s', hs'⟩ := Option.isSome_iff_exists.1 ((hotL_mem no).1 hno).2.2
      rw [hs']
      exact ⟨((hotL_mem no).1 hno).1, (h.hdom no s' hs').2.2⟩
theorem lay_base_no (h : PgOk M k) (i : Nat) (hh : M.hot (i : Int) = none) : pgOf (layX M).2 (2 + M.size + i * 8) = pgOf M.m (2 + M.size + i * 8) := by
  rw [layX_page h, layN_page (fun no hno => ((hotL_mem no).1 hno).1) (fun hm => by have := ((hotL_mem (i : Int)).1 hm).2.2; rw [hh] at this; cases this)]
theorem layP_no (hz : (layX M).1 ≠ 0) : layP M = ((layX M).1, { M with m := (layX M).2, dead := true }) := by
  unfold layP
  simp only
  rw [if_pos hz]
theorem layP_yes (hz : (layX M).1 = 0) : layP M = (if M.l.dead then 17 else 0, { M with m := (layX M).2, gen := (M.gen + 1) % 18446744073709551616, hot := fun _ => none, l := if M.l.dead then M.l else { M.l with at_ := 0 } }) := by
  unfold layP
  simp only
  rw [if_neg (by rw [hz]; simp)]
theorem layP_m (M : PM) : (layP M).2.m = (layX M).2 ∧ (layP M).2.size = M.size ∧ (layP M).2.dirty = M.dirty := by
  by_cases hz : (layX M).1 = 0
  · rw [layP_yes hz]; refine ⟨?_, ?_, ?_⟩ <;> with_reducible rfl
  · rw [layP_no hz]; refine ⟨?_, ?_, ?_⟩ <;> with_reducible rfl
theorem layP_hot_ok (hz : (layX M).1 = 0) : (layP M).2.hot = fun _ => none := by rw [layP_yes hz]
/-- What counts stays, whatever becomes of the laying. -/
theorem lay_base (h : PgOk M k) (i : Int) (hi : 0 ≤ i) : baseP (layP M).2 i = baseP M i := by
  obtain ⟨n, rfl⟩ : ∃ n : Nat, i = n := ⟨i.toNat, by omega⟩
  have e := layP_m M
  by_cases hz : (layX M).1 = 0
  · rw [← lay_base_ok h hz n]
    unfold baseP
    rw [layP_hot_ok hz, e.1, e.2.1, Int.toNat_natCast]
    rfl
  · have e2 : (layP M).2.hot = M.hot := by rw [layP_no hz]
    unfold baseP
    rw [e2, e.1, e.2.1, Int.toNat_natCast]
    cases hh : M.hot (n : Int) with
    | none =>
      show (none : Option ByteArray).getD (pgOf (layX M).2 (2 + M.size + n * 8)) = (none : Option ByteArray).getD (pgOf M.m (2 + M.size + n * 8))
      rw [lay_base_no h n hh]
    | some s => rw [Option.getD_some, Option.getD_some]
end
theorem IsPool.dom {w : World} {pb room K : Nat} {F : List Nat} {fr : Hand} (h : IsPool w pb F room K fr) {i : Int} {x : ByteArray × Bool} (hx : fr i = some x) : 0 ≤ i ∧ i < 100000 := by
  obtain ⟨mb, n, clock, at_, us, h, -⟩ := h
  cases ha : at_ i with
  | none => rw [h.out i ha] at hx; cases hx
  | some b => exact h.dom i b ha
theorem Coh.rebase {w : World} {pb room K : Nat} {F : List Nat} {fr : Hand} {D : Int → Option ByteArray} {B B' : Int → ByteArray} (h : Coh fr D B) (hp : IsPool w pb F room K fr) (hB : ∀ i, 0 ≤ i → B' i = B i) : Coh fr D B' :=
  ⟨h.1, fun i s hs => (hB i (hp.dom hs).1).trans (h.2 i s hs)⟩
end Go.Proofs.YtpaholkmlfaflaaGreatDoor

namespace Go.Proofs.YtpaholkmlfaflaaGreatDoor
open Go.RowKit Go.Maps Go.Joins
set_option linter.unusedVariables false
theorem cntI_leN (p : Int → Bool) : ∀ N, cntI p N ≤ N
  | 0 => Nat.le_refl _
  | N + 1 => by rw [cntI_succ]; have := cntI_leN p N; split <;> omega
theorem cntI_none : ∀ N, cntI (fun i => ((fun _ => none : Int → Option ByteArray) i).isSome) N = 0
  | 0 => rfl
  | N + 1 => by rw [cntI_succ, cntI_none N]; rfl
/-- Sorting a row of the call's own. -/
theorem sort_row {w : World} {base : Nat} {v : Value} {l : List Int} (h : w.ownsRow base 3 1 v l.length (l.map (Value.int .i64))) (hl : l.length ≤ 1000000) :
    Calls Tryz.prog 99 #[v] w fun e w' => e = .returned (.tuple #[]) ∧ w'.ownsRow base 3 1 v l.length ((l.mergeSort fun x y => decide (x ≤ y)).map (Value.int .i64)) ∧ w.grownBy w' v.ownBlock := by
  rcases h.2 with ⟨hv, h0⟩ | ⟨g, cap, cur, hv, hg, hgb, h1, h2, h3, ht⟩
  · have hl0 : l = [] := List.eq_nil_of_length_eq_zero h0
    subst hv hl0
    refine (Tryz.slices_Sort_int_none none 0 w).mono ?_
    rintro e w' ⟨rfl, rfl⟩
    exact ⟨rfl, by rw [List.mergeSort_nil]; exact World.ownsRow_nil _ _ _ _, ⟨rfl, rfl, rfl, Nat.le_refl _, fun _ _ _ => rfl⟩⟩
  · subst hv
    rw [Nat.mul_one] at ht
    have hgl : g < w.heap.size := (Array.getElem?_eq_some_iff.1 hgb).1
    refine (Tryz.slices_Sort_int g 0 cap l w (holds_of_blockI hgb ht) hgl (by omega)).mono ?_
    rintro e w' ⟨rfl, n, os, rfl⟩
    exact ⟨rfl, ownsRow_sortedI (ts := l.mergeSort fun x y => decide (x ≤ y)) (List.length_mergeSort l) hg hgb h1 h2 h3, grownBy_sortedI _⟩
/-- The hot pages' numbers are collected. -/
structure CoLoop (w w5 : World) (hb nh : Nat) (hot : Int → Option ByteArray) (v : Value) (wr : World) : Prop where
  ex : ∃ (l : List Int) (left : Int → Bool) (cnt : Nat), l.Nodup ∧ (∀ x, x ∈ l ↔ ((hot x).isSome = true ∧ left x = false)) ∧ wr.ownsRow (w.heap.size + 1 + 1 + 1) 3 1 v l.length (l.map (Value.int .i64)) ∧
    RngT wr Tryz.prog 3 hb (w.heap.size + 1 + 1) nh (Value.int .i64) Value.string hot left cnt ∧ Below (w.heap.size + 1 + 1) w5 wr ∧ w.heap.size + 1 + 1 + 1 ≤ wr.heap.size
theorem CoLoop.bound {hot : Int → Option ByteArray} {most : Nat} (hd : ∀ i s, hot i = some s → 0 ≤ i ∧ i < most) {l : List Int} {left : Int → Bool} (hn : l.Nodup) (hm : ∀ x, x ∈ l ↔ ((hot x).isSome = true ∧ left x = false)) : l.length ≤ most := by
  have h1 : (keysI (fun x => (hot x).isSome && !left x) most).Nodup := (keysI_sorted _ _).imp (fun h e => by omega)
  have hp : l.Perm (keysI (fun x => (hot x).isSome && !left x) most) := (List.perm_ext_iff_of_nodup hn h1).2 (fun x => by
    rw [hm, keysI_mem]
    constructor
    · rintro ⟨a, b⟩
      obtain ⟨s, hs⟩ := Option.isSome_iff_exists.1 a
      have := hd x s hs
      exact ⟨this.1, this.2, by simp [a, b]⟩
    · rintro ⟨_, _, c⟩
      simp at c
      exact c)
  rw [hp.length_eq, keysI_length]
  exact cntI_leN _ _
/-- The pages are written to their places. -/
structure WrLoop (w8 : World) (d cb : Nat) (FD : List Nat) (M : PM) (L : List Int) (v : Value) (wr : World) : Prop where
  ex : ∃ j : Nat, j ≤ L.length ∧ v = .int .i64 j ∧ ApSt w8 d cb FD wr (layN (0, M.m) M.hot M.size (L.take j))
/-- What laying leaves. -/
def LayGo (w w' : World) (b d lb pb hb : Nat) (FD FP : List Nat) (K k : Nat) (M : PM) : Prop := ∃ FD', PgIn w' b d lb pb hb FD' FP K k M ∧ Touch (b :: lb :: hb :: FD) w w' ∧ ∀ x ∈ FD', x ∈ FD ∨ w.heap.size ≤ x
theorem pgF_congr {d lb pb hb : Nat} {M1 M2 : PM} (h1 : M1.size = M2.size) (h2 : M1.gen = M2.gen) (h3 : M1.most = M2.most) (h4 : M1.dead = M2.dead) (i : Nat) : pgF d lb pb hb M1 i = pgF d lb pb hb M2 i := by
  rcases i with _ | _ | _ | _ | _ | _ | _ | i
  · rfl
  · rfl
  · show Value.int .i64 M1.size = Value.int .i64 M2.size; rw [h1]
  · show Value.int .u64 M1.gen = Value.int .u64 M2.gen; rw [h2]
  · show Value.int .i64 M1.most = Value.int .i64 M2.most; rw [h3]
  · rfl
  · rfl
  · show Value.bool M1.dead = Value.bool M2.dead; rw [h4]
theorem pgF_gen {d lb pb hb : Nat} {M M2 : PM} {w : World} {b : Nat} (h : w.rowIs b 99 8 (pgF d lb pb hb M)) (h1 : M.size = M2.size) (h3 : M.most = M2.most) (h4 : M.dead = M2.dead) : (w.setCell ⟨b, 3, none⟩ (.int .u64 M2.gen)).rowIs b 99 8 (pgF d lb pb hb M2) :=
  World.rowIs.congr (World.rowIs.set h 3 (.int .u64 M2.gen)) (fun i hi => by
    rcases i with _ | _ | _ | _ | _ | _ | _ | _ | i
    · rfl
    · rfl
    · show Value.int .i64 M.size = Value.int .i64 M2.size; rw [h1]
    · rfl
    · show Value.int .i64 M.most = Value.int .i64 M2.most; rw [h3]
    · rfl
    · rfl
    · show Value.bool M.dead = Value.bool M2.dead; rw [h4]
    · omega)
theorem pgF_dead {d lb pb hb : Nat} {M M2 : PM} {w : World} {b : Nat} (h : w.rowIs b 99 8 (pgF d lb pb hb M)) (h1 : M.size = M2.size) (h2 : M.gen = M2.gen) (h3 : M.most = M2.most) : (w.setCell ⟨b, 7, none⟩ (.bool M2.dead)).rowIs b 99 8 (pgF d lb pb hb M2) :=
  World.rowIs.congr (World.rowIs.set h 7 (.bool M2.dead)) (fun i hi => by
    rcases i with _ | _ | _ | _ | _ | _ | _ | _ | i
    · rfl
    · rfl
    · show Value.int .i64 M.size = Value.int .i64 M2.size; rw [h1]
    · show Value.int .u64 M.gen = Value.int .u64 M2.gen; rw [h2]
    · show Value.int .i64 M.most = Value.int .i64 M2.most; rw [h3]
    · rfl
    · rfl
    · rfl
    · omega)
/-- A pager behind a laying, put together. -/
theorem PgIn.laid {w w8 w11 w12 : World} {b d lb pb hb cb K k k' : Nat} {FD FP F1 : List Nat} {M M' : PM} {m' : DM} (H : PgIn w b d lb pb hb FD FP K k M) (HB : Below w.heap.size w w8) (t : Touch (cb :: FD) w8 w11) (hcb : w.heap.size ≤ cb) (hd : IsDisk w11 d F1 m') (hF : ∀ x ∈ F1, x ∈ FD ∨ w8.heap.size ≤ x)
    (t2 : Touch [b, lb, hb] w11 w12) (hc : w12.rowIs b 99 8 (pgF d lb pb hb M')) (hl : LogAt w12 lb d M'.l) (hh : ∃ n, n = cntI (fun i => (M'.hot i).isSome) 100000 ∧ MapN w12 Tryz.prog 3 hb n (Value.int .i64) Value.string M'.hot)
    (hp : ∃ fr, IsPool w11 pb FP M.room K fr ∧ Coh fr M.dirty (baseP M)) (hB : ∀ i, 0 ≤ i → baseP M' i = baseP M i) (ok : PgOk M' k') (e1 : M'.m = m') (e2 : M'.dirty = M.dirty) (e3 : M'.room = M.room) : LayGo w w12 b d lb pb hb FD FP K k' M' := by
  have hlt := H.lt
  have hs := HB.size
  have out : ∀ x, x < w.heap.size → x ∉ FD → x ∉ F1 := fun x hx hf hm => (hF x hm).elim hf (by omega)
  obtain ⟨fr, hp1, hp2⟩ := hp
  refine ⟨F1, ⟨hc, ?_, hl, ⟨fr, ?_, ?_⟩, hh, ok, ?_, ?_, ?_, ?_⟩, ?_, ?_⟩
  · rw [e1]
    exact hd.touch t2 (fun x hx hm => by
      simp at hm
      rcases hm with rfl | rfl | rfl
      · exact out _ hlt.1 H.nb.1 hx
      · exact out _ hlt.2.1 H.nl.1 hx
      · exact out _ hlt.2.2.1 H.nh.1 hx)
  · rw [e3]
    exact hp1.touch t2 (fun x hx hm => by
      simp at hm
      rcases hm with rfl | rfl | rfl
      · exact H.nb.2.1 hx
      · exact H.nl.2.1 hx
      · exact H.nh.2 hx)
  · rw [e2]
    exact hp2.rebase hp1 hB
  · exact ⟨out _ hlt.1 H.nb.1, H.nb.2.1, H.nb.2.2⟩
  · exact ⟨out _ hlt.2.1 H.nl.1, H.nl.2.1, H.nl.2.2⟩
  · exact ⟨out _ hlt.2.2.1 H.nh.1, H.nh.2⟩
  · intro x hx hx'
    have := hlt.2.2.2.2 x hx'
    exact (hF x hx).elim (fun hf => H.nd x hf hx') (by omega)
  · refine ((Touch.of_below (F := b :: lb :: hb :: FD) HB).trans t (fun x hx => ?_)).trans t2 (fun x hx => ?_)
    · rcases List.mem_cons.1 hx with rfl | hx
      · exact .inr hcb
      · exact .inl (by simp [hx])
    · simp at hx
      rcases hx with rfl | rfl | rfl <;> simp
  · intro x hx
    exact (hF x hx).imp id (fun h => by omega)
section
variable {w w' w1 w2 : World} {b d lb pb hb K J k : Nat} {FD FP F1 : List Nat} {M M' : PM}
set_option maxRecDepth 100000 in
set_option maxHeartbeats 8000000 in
theorem lay_any (h : PgIn w b d lb pb hb FD FP K k M) (hk : k ≤ 100000000) :
    Calls Tryz.prog 78 #[.pointer (some ⟨b, 0, none⟩)] w fun e w' => e = .returned (.int .i64 (layP M).1) ∧ LayGo w w' b d lb pb hb FD FP K (k + 1000000) (layP M).2 := by
  obtain ⟨i0, hi, hz0, hz1, hz2⟩ := info_parts Tryz.infoIntP
  have H := Lib.hid h
  have hgeo := h.ok.geo
  have hfew := h.ok.disk.few
  have hlt := h.lt
  obtain ⟨nh, hnh, hm⟩ := h.hot
  have HNH := Lib.hid hnh
  have HMH := Lib.hid hm
  have HLT := Lib.hid hlt
  obtain ⟨c0, c1, c2, c3, c4, c5, c6, c7⟩ := h.cell
  have hltb := hlt.1
  clear h hm hlt hnh
  go_enter Tryz.func78, Tryz.ntmps78
  go_wp2_with (at_range; refine wpList_range_T _ rfl _ 88 rfl 3 9 Tryz.keyIntP Tryz.underlying88 hb nh (Value.int .i64) Value.string M.hot rfl ((HMH.out.toT.alloc _).alloc _) ?_; intro w5 cnt hrg hg5 hs5)
  have hsz2 : ((w.alloc (.cells #[.pointer (some ⟨b, 0, none⟩)] 29)).alloc (.cells #[.int .i64 0] 78)).heap.size = w.heap.size + 1 + 1 := by simp
  rw [hsz2] at hs5 hrg
  simp only [hsz2]
  have hb2 : Below w.heap.size w ((w.alloc (.cells #[.pointer (some ⟨b, 0, none⟩)] 29)).alloc (.cells #[.int .i64 0] 78)) := below_alloc (below_alloc (Below.refl _ _))
  have hg5' := (Touch.of_grown hg5).below (B := w.heap.size + 1 + 1) (by rw [hsz2]; omega) (by simp)
  have hb5 : Below w.heap.size w w5 := hb2.trans (hg5'.mono (by omega))
  have k0 : w5.cell? ⟨w.heap.size, 0, none⟩ = some (.pointer (some ⟨b, 0, none⟩)) := (hg5'.cell (p := ⟨w.heap.size, 0, none⟩) (by show w.heap.size < _; omega)).trans (by go_simp)
  have k1 : w5.cell? ⟨w.heap.size + 1, 0, none⟩ = some (.int .i64 0) := (hg5'.cell (p := ⟨w.heap.size + 1, 0, none⟩) (by show w.heap.size + 1 < _; omega)).trans (by go_simp)
  have kf : w5.frozen? ⟨w.heap.size + 1, 0, none⟩ = false := (hg5'.frozen (p := ⟨w.heap.size + 1, 0, none⟩) (by show w.heap.size + 1 < _; omega)).trans (by go_simp)
  have HR := Lib.hid hrg
  have HB5 := Lib.hid hb5
  have HK5 := Lib.hid (And.intro k0 (And.intro k1 kf))
  have HS5 := Lib.hid hs5
  clear hrg hg5 hs5 hb5 hb2 hg5' k0 k1 kf c0 c1 c2 c3 c4 c5 c6 c7 hsz2
  go_frame
  go_loopw [4, 5] (fun v4 v5 wr => CoLoop w w5 hb nh M.hot v4 wr) (fun _ _ wr => wr.rangeLeft hb (w.heap.size + 1 + 1))
  case atStart => exact ⟨⟨[], fun x => (M.hot x).isSome, _, List.nodup_nil, fun x => ⟨fun h => (by cases h), fun ⟨h1, h2⟩ => Bool.noConfusion (h1.symm.trans h2)⟩, World.ownsRow_nil _ _ _ _, HR.out, Below.refl _ _, by have := HS5.out; omega⟩⟩
  case round =>
    obtain ⟨⟨l, left, cnt, hn, hm, hrow, hrg, hbw, hsz⟩⟩ := hrel
    have HRG := Lib.hid hrg
    have HBW := Lib.hid hbw
    have HN := Lib.hid hn
    have HM := Lib.hid hm
    have HROW := Lib.hid hrow
    have HSZ := Lib.hid hsz
    have hbd := CoLoop.bound (most := M.most) (fun i s hs => ⟨(H.out.ok.hdom i s hs).1, (H.out.ok.hdom i s hs).2.1⟩) hn hm
    clear hrg hbw hn hm hrow hsz HR
    go_wp2_with (at_next; refine wpList_next_T _ rfl _ rfl 3 Tryz.keyIntP hb (w.heap.size + 1 + 1) nh (Value.int .i64) Value.string M.hot left cnt inv_keyI inj_I rfl HRG.out ?done ?more)
    case more =>
      intro x s kl w' cnt' hkey hlx hgx hrg' hlt' hgr hsz hen
      have hb' := below_of_grown HBW.out hgr (Nat.le_refl _) (by have := HSZ.out; omega)
      have HRG' := Lib.hid hrg'
      have HB' := Lib.hid hb'
      have HME := Lib.hid (show cnt' < wr.rangeLeft hb (w.heap.size + 1 + 1) by rw [HRG.out.left_eq]; exact hlt')
      have HROW' := Lib.hid (ownsRow_touch HROW.out (Touch.of_grown hgr) (fun q hq => by have := (HROW.out.lt q hq).1; simp; omega))
      have HSZ' := Lib.hid (show w.heap.size + 1 + 1 + 1 ≤ w'.heap.size by have := HSZ.out; omega)
      have hcap : l.length + 1 ≤ maxLen := by unfold maxLen; omega
      clear hrg' hb' hgr hkey hlt' hsz
      go_wp2_with (at_builtin; refine wpList_append_near _ rfl (.tmp 19) (.tmp 21) 32 rfl (w.heap.size + 1 + 1 + 1) 3 i0 (.int .i64 0) 1 8 Tryz.underlying32 hi hz0 hz1 hz2 rfl (by decide) _ l.length (l.map (Value.int .i64)) rfl (HROW'.out.alloc _) ⟨w'.heap.size, 0, none⟩ 1 1 [.int .i64 x] rfl (by decide) rfl (cell_one_new _ _ _) (by intro u hu; simp at hu; subst hu; rfl) hcap (by omega) (by have := HSZ'.out; simp; omega) ?_; intro g cap w7 hown hgr hat)
      have hb7 : Below (w.heap.size + 1 + 1) w5 w7 := (HB'.out.alloc (by have := HSZ'.out; omega) _).trans ((Touch.of_grown hgr).below (by have := HSZ'.out; simp; omega) (fun q hq => by have := (HROW'.out.lt q (Option.mem_toList.1 hq)).1; omega))
      have hr7 := (HRG'.out.touch (F := []) ((Touch.refl _ _).alloc (.cells #[.int .i64 x] 3)) (by simp) (by simp)).touch (Touch.of_grown hgr) (fun hq => by have := (HROW'.out.lt _ (Option.mem_toList.1 hq)).1; have := HLT.out.2.2.1; omega) (fun hq => by have := (HROW'.out.lt _ (Option.mem_toList.1 hq)).1; omega)
      have HO7 := Lib.hid hown
      have HB7 := Lib.hid hb7
      have HR7 := Lib.hid hr7
      have HS7 := Lib.hid (show w.heap.size + 1 + 1 + 1 ≤ w7.heap.size by have := HSZ'.out; have := hgr.size; simp at this; omega)
      clear hown hb7 hr7 hgr hat
      go_wp2_with fail
      go_roundw
      case rel =>
        refine ⟨⟨l ++ [x], _, cnt', ?_, fun y => ?_, ?_, HR7.out, HB7.out, HS7.out⟩⟩
        · rw [List.nodup_append]
          exact ⟨HN.out, by simp, fun a ha b hb => by simp at hb; subst hb; intro e; subst e; have := (HM.out a).1 ha; rw [hlx] at this; simp at this⟩
        · rw [List.mem_append, HM.out]
          by_cases e : y = x
          · subst e; rw [hgx]; simp
          · simp [e]
        · have := HO7.out
          rw [List.map_append, List.length_append]
          exact this
      case measure => exact HR7.out.left_eq.symm ▸ HME.out
    case done =>
      intro hall
      have hkeys : ∀ x, x ∈ l ↔ x ∈ hotL M := fun x => by
        rw [HM.out, hotL_mem]
        constructor
        · rintro ⟨a, b⟩
          obtain ⟨s, hs⟩ := Option.isSome_iff_exists.1 a
          have := H.out.ok.hdom x s hs
          exact ⟨this.1, by omega, a⟩
        · rintro ⟨a, b, c⟩
          exact ⟨c, hall x _ (keyP (by omega) (by omega))⟩
      have hsort := keysI_of_perm (p := fun i => (M.hot i).isSome) (N := 100000) HN.out hkeys
      have HSR := Lib.hid (sort_row HROW.out (by omega))
      rw [hsort] at HSR
      have hll : l.length = (hotL M).length := by
        have := congrArg List.length hsort
        rw [List.length_mergeSort] at this
        exact this
      have HLL := Lib.hid hll
      clear hkeys hsort hall hll
      go_wp2_with fail
      refine HSR.out.mono ?_
      rintro e w8 ⟨rfl, hrow8, hgr8⟩
      have hb8 : Below (w.heap.size + 1 + 1) w5 w8 := HBW.out.trans ((Touch.of_grown hgr8).below (by have := HSZ.out; omega) (fun q hq => by have := (HROW.out.lt q (Option.mem_toList.1 hq)).1; omega))
      rw [HLL.out] at hrow8
      obtain ⟨a, c, rfl, hcell⟩ := own_at hrow8
      obtain ⟨L, hL⟩ : ∃ L, L = hotL M := ⟨_, rfl⟩
      have hLm : L.length ≤ M.most := by rw [hL]; exact hotL_len H.out.ok
      have hcell' : ∀ (j : Nat) u, (L.map (Value.int .i64))[j]? = some u → ∃ g, a = some ⟨g, 0, none⟩ ∧ w.heap.size + 1 + 1 + 1 ≤ g ∧ g < w8.heap.size ∧ w8.cell? ⟨g, j, none⟩ = some u := by rw [hL]; exact hcell
      have hlenL : (hotL M).length = L.length := by rw [hL]
      rw [hlenL]
      have HCELL := Lib.hid hcell'
      have HL := Lib.hid hL
      have hb08 : Below w.heap.size w w8 := HB5.out.trans (hb8.mono (by omega))
      have HB08 := Lib.hid hb08
      have HP8 := Lib.hid (H.out.below hb08)
      have hs8 : w.heap.size + 1 + 1 + 1 ≤ w8.heap.size := by have := HSZ.out; have := hgr8.size; omega
      have HS8 := Lib.hid hs8
      have kb8 : w8.cell? ⟨w.heap.size, 0, none⟩ = some (.pointer (some ⟨b, 0, none⟩)) := (hb8.cell (p := ⟨w.heap.size, 0, none⟩) (by show w.heap.size < _; omega)).trans HK5.out.1
      have HON8 := Lib.hid (show ChOn w8 d (w.heap.size + 1) FD M.m 0 from ⟨HP8.out.disk, (hb8.cell (p := ⟨w.heap.size + 1, 0, none⟩) (by show w.heap.size + 1 < _; omega)).trans HK5.out.2.1, (hb8.frozen (p := ⟨w.heap.size + 1, 0, none⟩) (by show w.heap.size + 1 < _; omega)).trans HK5.out.2.2, fun hm => by have := HLT.out.2.2.2.1 _ hm; omega⟩)
      have HCX := fun (W1 : World) (t : Touch ((w.heap.size + 1) :: FD) w8 W1) => Lib.hid (show W1.cell? ⟨w.heap.size, 0, none⟩ = some (.pointer (some ⟨b, 0, none⟩)) ∧ W1.rowIs b 99 8 (pgF d lb pb hb M) ∧ LogAt W1 lb d M.l ∧ MapN W1 Tryz.prog 3 hb nh (Value.int .i64) Value.string M.hot ∧ (∃ fr, IsPool W1 pb FP M.room K fr ∧ Coh fr M.dirty (baseP M)) from by
        have nbx : w.heap.size ∉ (w.heap.size + 1) :: FD := by
          intro hm
          rcases List.mem_cons.1 hm with e | hm
          · omega
          · have := HLT.out.2.2.2.1 _ hm; omega
        have hbn : ∀ x, x < w.heap.size → x ∉ FD → x ∉ (w.heap.size + 1) :: FD := fun x hx hf hm => by
          rcases List.mem_cons.1 hm with e | hm
          · omega
          · exact hf hm
        obtain ⟨fr, hp, hc⟩ := HP8.out.pool
        refine ⟨(t.cell (p := ⟨w.heap.size, 0, none⟩) (by show w.heap.size < _; omega) nbx).trans kb8, rowIs_touch HP8.out.cells t (hbn _ HLT.out.1 H.out.nb.1), HP8.out.log.touch t (hbn _ HLT.out.2.1 H.out.nl.1), ?_, ⟨fr, hp.touch t (fun x hx => hbn x (HLT.out.2.2.2.2 x hx) (fun hf => H.out.nd x hf hx)), hc⟩⟩
        exact (HMH.out.below hb08).touch t (hbn _ HLT.out.2.2.1 H.out.nh.1))
      clear hrow8 hgr8 hb8 hcell hcell' hL hlenL hb08 kb8 HN HM HROW HBW HSZ HRG HSR HK5
      go_wp2_with fail
      go_loopw [7, 27] (fun v7 v27 wr => WrLoop w8 d (w.heap.size + 1) FD M L v27 wr) (fun _ v27 _ => L.length - (intOf v27).toNat)
      case atStart => exact ⟨⟨0, Nat.zero_le _, rfl, HON8.out.st⟩⟩
      case round =>
        obtain ⟨⟨j, hj, rfl, hst⟩⟩ := hrel
        obtain ⟨F1, hon, ht, hF1⟩ := hst.on
        have HON := Lib.hid hon
        have HT := Lib.hid ht
        have HF := Lib.hid hF1
        have CX := HCX _ ht
        clear hst hon ht hF1
        by_cases hltj : j < L.length
        · obtain ⟨x, hx⟩ : ∃ x, L[j]? = some x := ⟨L[j], List.getElem?_eq_getElem hltj⟩
          obtain ⟨g, rfl, hg, hgl, hgc⟩ := HCELL.out j (.int .i64 x) (by rw [List.getElem?_map, hx]; rfl)
          have hxm : x ∈ hotL M := by rw [← HL.out]; exact List.mem_of_getElem? hx
          obtain ⟨x0, x1, x2⟩ := (hotL_mem x).1 hxm
          obtain ⟨s, hs⟩ := Option.isSome_iff_exists.1 x2
          have hd := H.out.ok.hdom x s hs
          obtain ⟨X, rfl⟩ : ∃ X : Nat, x = X := ⟨x.toNat, by omega⟩
          have gnot : g ∉ (w.heap.size + 1) :: FD := by
            intro hm
            rcases List.mem_cons.1 hm with e | hm
            · omega
            · have := HLT.out.2.2.2.1 _ hm; omega
          have gc : wr.cell? ⟨g, j, none⟩ = some (.int .i64 X) := (HT.out.cell (p := ⟨g, j, none⟩) hgl gnot).trans hgc
          have gl : g < wr.heap.size := Nat.lt_of_lt_of_le hgl HT.out.size
          have kb := CX.out.1
          have kl : w.heap.size < wr.heap.size := by have := HT.out.size; have := HS8.out; omega
          have b0 : wr.cell? ⟨b, 0, none⟩ = some (.pointer (some ⟨d, 0, none⟩)) := World.rowIs.cell CX.out.2.1 (i := 0) (by decide)
          have b2 : wr.cell? ⟨b, 2, none⟩ = some (.int .i64 M.size) := World.rowIs.cell CX.out.2.1 (i := 2) (by decide)
          have b6 : wr.cell? ⟨b, 6, none⟩ = some (.map (some hb)) := World.rowIs.cell CX.out.2.1 (i := 6) (by decide)
          have bl := World.rowIs.lt CX.out.2.1
          have hlk := fun q => ((CX.out.2.2.2.1.touch (F := []) ((Touch.refl _ _).drewN q) (by simp)).toT).look Tryz.keyIntP Tryz.underlying88 (zeroStrP (wr.drewN q)) (x := (X : Int)) (keyP (by omega) (by omega))
          rw [hs] at hlk
          simp only [Option.map_some, Option.getD_some] at hlk
          have qj1 : (0 : Int) ≤ (j : Int) := by omega
          have qj2 : (j : Int) < (L.length : Int) := by omega
          have q1 : IntKind.i64.wrap (2 + (M.size : Int)) = 2 + (M.size : Int) := IntWalk.i64_in _ (by omega)
          have q2 : IntKind.i64.wrap ((X : Int) * 8) = (X : Int) * 8 := IntWalk.i64_in _ (by omega)
          have q3 : IntKind.i64.wrap (2 + (M.size : Int) + (X : Int) * 8) = ((2 + M.size + X * 8 : Nat) : Int) := by rw [IntWalk.i64_in _ (by omega)]; omega
          have htk : (L.take j).length ≤ 65536 := by rw [List.length_take]; omega
          have hok := layN_ok (hot := M.hot) (size := M.size) (L := L.take j) (x := (0, M.m)) H.out.ok.disk
          have HPU := fun q => Lib.hid (put_page (HON.out.below (below_drewN (Below.refl _ _) q)) hok (by omega) (2 + M.size + X * 8) s (by omega) hd.2.2)
          have hstep : L.take (j + 1) = L.take j ++ [(X : Int)] := by rw [List.take_add_one, hx]; rfl
          have HSTP := Lib.hid (And.intro hstep hs)
          clear hgc hstep hok htk
          go_wp2_with fail
          refine wp_region_tail (C := fun w' => ∃ n, w' = wr.drewN n) 19 (by kernel_rfl) (by kernel_rfl) ⟨1, rfl⟩ ?_
          simp only [List.take_succ_cons, List.take_zero, List.drop_succ_cons, List.drop_zero]
          repeat (first | go_big_quiet_step (fail) | quiet_step (fail))
          refine wpQuiet_nil ?_
          rintro w6 ⟨nq, rfl⟩
          clear kb b0 b2 b6 q1 q2 q3 hlk qj1 qj2 gc gl bl
          go_wp2_with fail
          refine (HPU nq).out.mono ?_
          rintro e w7 ⟨rfl, hst7⟩
          have HST := Lib.hid (show ApSt w8 d (w.heap.size + 1) FD w7 (layN (0, M.m) M.hot M.size (L.take (j + 1))) from by
            rw [HSTP.out.1, layN_snoc, HSTP.out.2, Option.getD_some, Int.toNat_natCast]
            exact ApSt.trans (HT.out.drewN nq) HF.out hst7)
          clear hst7 HPU
          go_wp2_with fail
          go_roundw
          case rel => exact ⟨⟨j + 1, by omega, by go_num, HST.out⟩⟩
          case measure => simp [intOf]; omega
        · obtain rfl : L.length = j := by omega
          have e1 : L.take L.length = hotL M := by rw [List.take_length, HL.out]
          rw [e1] at HON
          have hle := hotL_len H.out.ok
          have hok1 := layN_ok (hot := M.hot) (size := M.size) (L := hotL M) (x := (0, M.m)) H.out.ok.disk
          have hX := layX_eq M
          obtain ⟨y1, hy1⟩ : ∃ y1, y1 = layN (0, M.m) M.hot M.size (hotL M) := ⟨_, rfl⟩
          rw [← hy1] at HON hok1 hX
          obtain ⟨g, hgg⟩ : ∃ g, g = (M.gen + 1) % 18446744073709551616 := ⟨_, rfl⟩
          rw [← hgg] at hX
          have gb : 0 ≤ g ∧ g ≤ 18446744073709551615 := by omega
          have hok2 := hok1.stepF
          have hok3 := hok2.stepW (g % 2) (mkStr g (superT M.l.next M.size))
          have HOK := Lib.hid (And.intro hok1 (And.intro hok2 hok3))
          have HX := Lib.hid hX
          have HGG := Lib.hid hgg
          have HCE := Lib.hid hle
          clear e1 hy1 hok1 hok2 hok3 hX hgg hltj
          have kb := CX.out.1
          have kl : w.heap.size < wr.heap.size := by have := HT.out.size; have := HS8.out; omega
          have b0 : wr.cell? ⟨b, 0, none⟩ = some (.pointer (some ⟨d, 0, none⟩)) := World.rowIs.cell CX.out.2.1 (i := 0) (by decide)
          have b1 : wr.cell? ⟨b, 1, none⟩ = some (.pointer (some ⟨lb, 0, none⟩)) := World.rowIs.cell CX.out.2.1 (i := 1) (by decide)
          have b2 : wr.cell? ⟨b, 2, none⟩ = some (.int .i64 M.size) := World.rowIs.cell CX.out.2.1 (i := 2) (by decide)
          have b3 : wr.cell? ⟨b, 3, none⟩ = some (.int .u64 M.gen) := World.rowIs.cell CX.out.2.1 (i := 3) (by decide)
          have b6 : wr.cell? ⟨b, 6, none⟩ = some (.map (some hb)) := World.rowIs.cell CX.out.2.1 (i := 6) (by decide)
          have b7 : wr.cell? ⟨b, 7, none⟩ = some (.bool M.dead) := World.rowIs.cell CX.out.2.1 (i := 7) (by decide)
          have bl := World.rowIs.lt CX.out.2.1
          have ce := HON.out.err
          have cl := cell_lt HON.out.err
          have HFL := Lib.hid (pthen_flush HON.out HOK.out.1 (by have := HCE.out; omega))
          go_wp2_with fail
          refine HFL.out.mono ?_
          rintro e w9 ⟨rfl, hst⟩
          obtain ⟨F1, hon, t, f⟩ := hst.on
          have HON := Lib.hid hon
          have HF' := Lib.hid (show ∀ x ∈ F1, x ∈ FD ∨ w8.heap.size ≤ x from fun x hx => (f x hx).elim (HF.out x) (fun h => .inr (Nat.le_trans HT.out.size h)))
          have HT' := Lib.hid (HT.out.trans t (fun x hx => (List.mem_cons.1 hx).elim (fun e => .inl (by simp [e])) (fun hm => (HF.out x hm).imp (fun h => by simp [h]) id)))
          have HF := HF'
          have HT := HT'
          have CX := HCX _ HT.out
          clear hst hon t f HF' HT' kb kl b0 b1 b2 b3 b6 b7 bl ce cl
          have HLF := Lib.hid (lay_fn (pp := w.heap.size) (gen := M.gen) (size := M.size) HON.out.disk CX.out.2.2.1 HOK.out.2.1 (by have := HCE.out; omega) H.out.ok.gen0 H.out.ok.gen1 H.out.ok.next0 (by omega) CX.out.1 (World.rowIs.cell CX.out.2.1 (i := 0) (by decide)) (World.rowIs.cell CX.out.2.1 (i := 1) (by decide)) (World.rowIs.cell CX.out.2.1 (i := 2) (by decide)) (World.rowIs.cell CX.out.2.1 (i := 3) (by decide)))
          rw [← HGG.out] at HLF
          have HTH := Lib.hid (then_any HON.out 107 #[] #[.pointer (some ⟨w.heap.size, 0, none⟩)] (wrM (stepF (y1.1, y1.2)).2 (g % 2) (mkStr g (superT M.l.next M.size))) (by kernel_rfl) HLF.out)
          have kb := CX.out.1
          have kl : w.heap.size < w9.heap.size := by have := HT.out.size; have := HS8.out; omega
          have b0 : w9.cell? ⟨b, 0, none⟩ = some (.pointer (some ⟨d, 0, none⟩)) := World.rowIs.cell CX.out.2.1 (i := 0) (by decide)
          have b1 : w9.cell? ⟨b, 1, none⟩ = some (.pointer (some ⟨lb, 0, none⟩)) := World.rowIs.cell CX.out.2.1 (i := 1) (by decide)
          have b2 : w9.cell? ⟨b, 2, none⟩ = some (.int .i64 M.size) := World.rowIs.cell CX.out.2.1 (i := 2) (by decide)
          have b3 : w9.cell? ⟨b, 3, none⟩ = some (.int .u64 M.gen) := World.rowIs.cell CX.out.2.1 (i := 3) (by decide)
          have b6 : w9.cell? ⟨b, 6, none⟩ = some (.map (some hb)) := World.rowIs.cell CX.out.2.1 (i := 6) (by decide)
          have b7 : w9.cell? ⟨b, 7, none⟩ = some (.bool M.dead) := World.rowIs.cell CX.out.2.1 (i := 7) (by decide)
          have bl := World.rowIs.lt CX.out.2.1
          have ce := HON.out.err
          have cl := cell_lt HON.out.err
          go_wp2_with fail
          refine HTH.out.mono ?_
          rintro e w10 ⟨rfl, hst0⟩
          have hst : ApSt w9 d (w.heap.size + 1) F1 w10 (stepW (stepF y1) (g % 2) (mkStr g (superT M.l.next M.size))) := hst0
          clear hst0 HTH HLF HFL
          obtain ⟨F1, hon, t, f⟩ := hst.on
          have HON := Lib.hid hon
          have HF' := Lib.hid (show ∀ x ∈ F1, x ∈ FD ∨ w8.heap.size ≤ x from fun x hx => (f x hx).elim (HF.out x) (fun h => .inr (Nat.le_trans HT.out.size h)))
          have HT' := Lib.hid (HT.out.trans t (fun x hx => (List.mem_cons.1 hx).elim (fun e => .inl (by simp [e])) (fun hm => (HF.out x hm).imp (fun h => by simp [h]) id)))
          have HF := HF'
          have HT := HT'
          have CX := HCX _ HT.out
          clear hst hon t f HF' HT' kb kl b0 b1 b2 b3 b6 b7 bl ce cl
          have HFL := Lib.hid (pthen_flush HON.out HOK.out.2.2 (by have := HCE.out; omega))
          have kb := CX.out.1
          have kl : w.heap.size < w10.heap.size := by have := HT.out.size; have := HS8.out; omega
          have b0 : w10.cell? ⟨b, 0, none⟩ = some (.pointer (some ⟨d, 0, none⟩)) := World.rowIs.cell CX.out.2.1 (i := 0) (by decide)
          have b1 : w10.cell? ⟨b, 1, none⟩ = some (.pointer (some ⟨lb, 0, none⟩)) := World.rowIs.cell CX.out.2.1 (i := 1) (by decide)
          have b2 : w10.cell? ⟨b, 2, none⟩ = some (.int .i64 M.size) := World.rowIs.cell CX.out.2.1 (i := 2) (by decide)
          have b3 : w10.cell? ⟨b, 3, none⟩ = some (.int .u64 M.gen) := World.rowIs.cell CX.out.2.1 (i := 3) (by decide)
          have b6 : w10.cell? ⟨b, 6, none⟩ = some (.map (some hb)) := World.rowIs.cell CX.out.2.1 (i := 6) (by decide)
          have b7 : w10.cell? ⟨b, 7, none⟩ = some (.bool M.dead) := World.rowIs.cell CX.out.2.1 (i := 7) (by decide)
          have bl := World.rowIs.lt CX.out.2.1
          have ce := HON.out.err
          have cl := cell_lt HON.out.err
          go_wp2_with fail
          refine HFL.out.mono ?_
          rintro e w11 ⟨rfl, hst0⟩
          obtain ⟨X, hXE⟩ : ∃ X, X = layX M := ⟨_, rfl⟩
          have hst : ApSt w10 d (w.heap.size + 1) F1 w11 X := by rw [hXE, HX.out]; exact hst0
          have hXok : DOk X.2 (k + 8 * (hotL M).length + 1) := by rw [hXE]; exact layX_ok H.out.ok
          have hXlen : X.2.sure.length = M.m.sure.length := by rw [hXE]; exact layX_len M
          have HXE := Lib.hid hXE
          have HXO := Lib.hid (And.intro hXok hXlen)
          clear hXE hXok hXlen
          clear hst0 HFL
          obtain ⟨F1, hon, t, f⟩ := hst.on
          have HON := Lib.hid hon
          have HF' := Lib.hid (show ∀ x ∈ F1, x ∈ FD ∨ w8.heap.size ≤ x from fun x hx => (f x hx).elim (HF.out x) (fun h => .inr (Nat.le_trans HT.out.size h)))
          have HT' := Lib.hid (HT.out.trans t (fun x hx => (List.mem_cons.1 hx).elim (fun e => .inl (by simp [e])) (fun hm => (HF.out x hm).imp (fun h => by simp [h]) id)))
          have HF := HF'
          have HT := HT'
          have CX := HCX _ HT.out
          clear hst hon t f HF' HT' kb kl b0 b1 b2 b3 b6 b7 bl ce cl
          have kb := CX.out.1
          have kl : w.heap.size < w11.heap.size := by have := HT.out.size; have := HS8.out; omega
          have b0 : w11.cell? ⟨b, 0, none⟩ = some (.pointer (some ⟨d, 0, none⟩)) := World.rowIs.cell CX.out.2.1 (i := 0) (by decide)
          have b1 : w11.cell? ⟨b, 1, none⟩ = some (.pointer (some ⟨lb, 0, none⟩)) := World.rowIs.cell CX.out.2.1 (i := 1) (by decide)
          have b2 : w11.cell? ⟨b, 2, none⟩ = some (.int .i64 M.size) := World.rowIs.cell CX.out.2.1 (i := 2) (by decide)
          have b3 : w11.cell? ⟨b, 3, none⟩ = some (.int .u64 M.gen) := World.rowIs.cell CX.out.2.1 (i := 3) (by decide)
          have b6 : w11.cell? ⟨b, 6, none⟩ = some (.map (some hb)) := World.rowIs.cell CX.out.2.1 (i := 6) (by decide)
          have b7 : w11.cell? ⟨b, 7, none⟩ = some (.bool M.dead) := World.rowIs.cell CX.out.2.1 (i := 7) (by decide)
          have bl := World.rowIs.lt CX.out.2.1
          have ce := HON.out.err
          have cl := cell_lt HON.out.err
          have fz := fun i => World.rowIs.frozen CX.out.2.1 i
          by_cases hz : X.1 = 0
          · have qg : IntKind.u64.wrap (M.gen + 1) = g := by rw [IntKind.wrap_u64, HGG.out]
            have HZ := Lib.hid hz
            rw [hz] at ce
            have t12 : Touch [b] w11 (w11.setCell ⟨b, 3, none⟩ (.int .u64 g)) := (Touch.refl _ _).setCell (.inl (by simp)) _
            obtain ⟨w13, hrun, hm13, ht13⟩ := clear_N (CX.out.2.2.2.1.touch t12 (by simp; exact fun e => H.out.nb.2.2.2 e.symm)) Tryz.underlying88
            have r12 := pgF_gen (M2 := { M with gen := g }) CX.out.2.1 rfl rfl rfl
            have r13 := rowIs_touch r12 ht13 (by simp; exact H.out.nb.2.2.2)
            have l13 : LogAt w13 lb d M.l := (CX.out.2.2.1.touch t12 (by simp; exact fun e => H.out.nb.2.2.1 e.symm)).touch ht13 (by simp; exact H.out.nl.2.2)
            have kb13 : w13.cell? ⟨w.heap.size, 0, none⟩ = some (.pointer (some ⟨b, 0, none⟩)) := (ht13.cell (p := ⟨w.heap.size, 0, none⟩) (by simp; exact kl) (by simp; have := HLT.out.2.2.1; omega)).trans ((t12.cell (p := ⟨w.heap.size, 0, none⟩) kl (by simp; omega)).trans kb)
            have b13 : w13.cell? ⟨b, 1, none⟩ = some (.pointer (some ⟨lb, 0, none⟩)) := World.rowIs.cell r13 (i := 1) (by decide)
            have T13 := Lib.hid ((t12.mono (G := [b, lb, hb]) (by simp)).trans (ht13.mono (G := [b, lb, hb]) (by simp)) (fun x hx => .inl hx))
            have R13 := Lib.hid r13
            have L13 := Lib.hid l13
            have M13 := Lib.hid hm13
            clear t12 ht13 r12 r13 hm13 hz
            cases hdd : M.l.dead
            · have HRS := Lib.hid (restart_any l13 hdd)
              have hdy := layP_yes (M := M) (by rw [← HXE.out]; exact HZ.out)
              rw [← HXE.out] at hdy
              rw [hdd, if_neg (by simp), if_neg (by simp), ← HGG.out] at hdy
              have HY := Lib.hid hdy
              clear l13 hdy hdd
              go_wp2_with fail
              refine HRS.out.mono ?_
              rintro e w14 ⟨rfl, hl14, ht14⟩
              go_wp2_with fail
              go_ret
              rw [HY.out]
              refine ⟨rfl, H.out.laid HB08.out HT.out (by omega) HON.out.disk HF.out (T13.out.trans (ht14.mono (G := [b, lb, hb]) (by simp)) (fun x hx => .inl hx)) ?_ hl14 ⟨0, (cntI_none 100000).symm, M13.out.touch ht14 (by simp; exact fun e => H.out.nl.2.2 e.symm)⟩ CX.out.2.2.2.2 ?_ ?_ (by with_reducible rfl) (by with_reducible rfl) (by with_reducible rfl)⟩
              · exact World.rowIs.congr (rowIs_touch R13.out ht14 (by simp; exact H.out.nb.2.2.1)) (fun i hi => pgF_congr (by with_reducible rfl) (by with_reducible rfl) (by with_reducible rfl) (by with_reducible rfl) i)
              · intro i hi
                have := lay_base H.out.ok i hi
                rw [HY.out] at this
                exact this
              · have hok := H.out.ok
                exact ⟨HXO.out.1.mono (by have := HCE.out; omega), by show 2 + M.size + M.most * 8 ≤ X.2.sure.length; rw [HXO.out.2]; exact hok.geo, hok.size1, hok.most1, hok.room1, hok.room2, hok.frm, hok.lsize, Nat.zero_le _, hok.next0, hok.next1, gb.1, gb.2, hok.dom, fun i s hs => by cases hs⟩
            · have HRS := Lib.hid (restart_dead l13 hdd)
              have hdy := layP_yes (M := M) (by rw [← HXE.out]; exact HZ.out)
              rw [← HXE.out] at hdy
              rw [hdd, if_pos rfl, if_pos rfl, ← HGG.out] at hdy
              have HY := Lib.hid hdy
              clear l13 hdy hdd
              go_wp2_with fail
              refine HRS.out.mono ?_
              rintro e w14 ⟨rfl, rfl⟩
              go_wp2_with fail
              go_ret
              rw [HY.out]
              refine ⟨rfl, H.out.laid HB08.out HT.out (by omega) HON.out.disk HF.out T13.out ?_ L13.out ⟨0, (cntI_none 100000).symm, M13.out⟩ CX.out.2.2.2.2 ?_ ?_ (by with_reducible rfl) (by with_reducible rfl) (by with_reducible rfl)⟩
              · exact World.rowIs.congr R13.out (fun i hi => pgF_congr (by with_reducible rfl) (by with_reducible rfl) (by with_reducible rfl) (by with_reducible rfl) i)
              · intro i hi
                have := lay_base H.out.ok i hi
                rw [HY.out] at this
                exact this
              · have hok := H.out.ok
                exact ⟨HXO.out.1.mono (by have := HCE.out; omega), by show 2 + M.size + M.most * 8 ≤ X.2.sure.length; rw [HXO.out.2]; exact hok.geo, hok.size1, hok.most1, hok.room1, hok.room2, hok.frm, hok.lsize, hok.lat, hok.next0, hok.next1, gb.1, gb.2, hok.dom, fun i s hs => by cases hs⟩
          · have e9 : (X.1 != 0) = true := by simpa using hz
            have hdy := layP_no (M := M) (by rw [← HXE.out]; exact hz)
            rw [← HXE.out] at hdy
            have HY := Lib.hid hdy
            clear hz hdy
            go_wp2_with fail
            go_ret
            rw [HY.out]
            have ht2 : Touch [b, lb, hb] w11 (w11.setCell ⟨b, 7, none⟩ (.bool true)) := (Touch.refl _ _).setCell (.inl (by simp)) _
            refine ⟨rfl, H.out.laid HB08.out HT.out (by omega) HON.out.disk HF.out ht2 ?_ ?_ ⟨nh, HNH.out, ?_⟩ CX.out.2.2.2.2 ?_ ?_ (by with_reducible rfl) (by with_reducible rfl) (by with_reducible rfl)⟩
            · exact pgF_dead (M2 := { M with m := X.2, dead := true }) CX.out.2.1 rfl rfl rfl
            · exact CX.out.2.2.1.touch (F := [b]) ((Touch.refl _ _).setCell (.inl (by simp)) _) (by simp; exact fun e => H.out.nb.2.2.1 e.symm)
            · exact CX.out.2.2.2.1.touch (F := [b]) ((Touch.refl _ _).setCell (.inl (by simp)) _) (by simp; exact fun e => H.out.nb.2.2.2 e.symm)
            · intro i hi
              have := lay_base H.out.ok i hi
              rw [HY.out] at this
              exact this
            · have hok := H.out.ok
              exact ⟨HXO.out.1.mono (by have := HCE.out; omega), by show 2 + M.size + M.most * 8 ≤ X.2.sure.length; rw [HXO.out.2]; exact hok.geo, hok.size1, hok.most1, hok.room1, hok.room2, hok.frm, hok.lsize, hok.lat, hok.next0, hok.next1, hok.gen0, hok.gen1, hok.dom, hok.hdom⟩
end
end Go.Proofs.YtpaholkmlfaflaaGreatDoor

namespace Go.Proofs.YtpaholkmlfaflaaGreatDoor
open Go.RowKit Go.Maps Go.Joins
set_option linter.unusedVariables false
section
variable {w w' w1 w2 : World} {b d lb pb hb K J k : Nat} {FD FP F1 : List Nat} {M M' : PM}
theorem PgOk.rek (h : PgOk M k) {j : Nat} (hd : DOk M.m j) : PgOk M j :=
  ⟨hd, h.geo, h.size1, h.most1, h.room1, h.room2, h.frm, h.lsize, h.lat, h.next0, h.next1, h.gen0, h.gen1, h.dom, h.hdom⟩
theorem PgIn.rek (h : PgIn w b d lb pb hb FD FP K k M) {j : Nat} (hd : DOk M.m j) : PgIn w b d lb pb hb FD FP K j M :=
  ⟨h.cells, h.disk, h.log, h.pool, h.hot, h.ok.rek hd, h.nb, h.nl, h.nh, h.nd⟩
theorem LayGo.same (h : PgIn w b d lb pb hb FD FP K k M) (hb' : Below w.heap.size w w') {j : Nat} (hj : k ≤ j) : LayGo w w' b d lb pb hb FD FP K j M :=
  ⟨FD, (h.below hb').rek (h.ok.disk.mono hj), Touch.of_below hb', fun x hx => .inl hx⟩
set_option maxRecDepth 100000 in
set_option maxHeartbeats 1000000 in
theorem ck_any (h : PgIn w b d lb pb hb FD FP K k M) (hk : k ≤ 100000000) :
    Calls Tryz.prog 37 #[.pointer (some ⟨b, 0, none⟩)] w fun e w' => e = .returned (.int .i64 (ckP M).1) ∧ LayGo w w' b d lb pb hb FD FP K (k + 1000000) (ckP M).2 := by
  obtain ⟨c0, c1, c2, c3, c4, c5, c6, c7⟩ := h.cell
  have H := Lib.hid h
  have HD := Lib.hid (Dirty_any h)
  clear h
  cases hdd : M.dead
  rotate_left
  · have e : ckP M = (17, M) := by unfold ckP; rw [if_pos (.inl hdd)]
    rw [e]
    rw [hdd] at c7
    go_enter Tryz.func37, Tryz.ntmps37
    go_wp2_with fail
    go_ret
    exact ⟨rfl, LayGo.same H.out (Below.refl _ _) (by omega)⟩
  rw [hdd] at c7
  by_cases hn : 0 < cntD M
  · have e : ckP M = (17, M) := by unfold ckP; rw [if_pos (.inr hn)]
    have hn' : (0 : Int) < (cntD M : Int) := by omega
    rw [e]
    go_enter Tryz.func37, Tryz.ntmps37
    go_wp2_with fail
    refine HD.out.mono ?_
    rintro e w1 ⟨rfl, hb1⟩
    go_wp2_with fail
    go_ret
    exact ⟨rfl, LayGo.same H.out hb1 (by omega)⟩
  · have e : ckP M = layP M := by unfold ckP; rw [if_neg (by rw [hdd]; simp; omega)]
    have hn' : ¬ (0 : Int) < (cntD M : Int) := by omega
    rw [e]
    go_enter Tryz.func37, Tryz.ntmps37
    go_wp2_with fail
    refine HD.out.mono ?_
    rintro e w1 ⟨rfl, hb1⟩
    have HL := Lib.hid (lay_any (H.out.below hb1) hk)
    have HB := Lib.hid hb1
    clear hb1 c0 c1 c2 c3 c4 c5 c6 c7
    go_wp2_with fail
    refine HL.out.mono ?_
    rintro e w2 ⟨rfl, FD', h2, t2, f2⟩
    have H2 := Lib.hid h2
    have T2 := Lib.hid t2
    have F2 := Lib.hid f2
    clear h2 t2 f2
    go_wp2_with fail
    go_ret
    exact ⟨rfl, FD', H2.out, (Touch.of_below (F := b :: lb :: hb :: FD) HB.out).trans T2.out (fun x hx => .inl hx), fun x hx => (F2.out x hx).imp id (fun h => Nat.le_trans HB.out.size h)⟩
end
/-! Appending to the log changes no page's place. -/
theorem wrN_other {base : Nat} {pages : List ByteArray} {m : DM} {j : Nat} : ∀ t, (j < base ∨ base + t ≤ j) → secM (wrN base pages m t).2 j = secM m j
  | 0, _ => rfl
  | t + 1, h => by
    unfold wrN
    rw [stepW_other _ (by omega), wrN_other t (by omega)]
theorem wrN_len {base : Nat} {pages : List ByteArray} {m : DM} : ∀ t, (wrN base pages m t).2.sure.length = m.sure.length
  | 0 => rfl
  | t + 1 => by
    unfold wrN
    rw [stepW_len, wrN_len t]
theorem apX_other {l : LM} {m : DM} {k j : Nat} (h : DOk m k) (pages : List ByteArray) (hj : l.frm + l.at_ + 1 + 9 * pages.length ≤ j) : secM (apX l m pages).2 j = secM m j := by
  have h1 := h.wrN (l.frm + l.at_ + 1) pages (9 * pages.length)
  unfold apX
  rw [stepF_sec ((h1.stepF).stepW _ _).wait, stepW_other _ (by omega), stepF_sec h1.wait, wrN_other _ (by omega)]
theorem apX_len {l : LM} {m : DM} (pages : List ByteArray) : (apX l m pages).2.sure.length = m.sure.length := by
  unfold apX
  rw [stepF_len, stepW_len, stepF_len, wrN_len]
end Go.Proofs.YtpaholkmlfaflaaGreatDoor

namespace Go.Proofs.YtpaholkmlfaflaaGreatDoor
open Go.RowKit Go.Joins
set_option linter.unusedVariables false

/-- A disk that stays up. -/
structure UpM (m : DM) (N : Nat) : Prop where
  down : m.down = false
  fuse : m.fuse = -1
  len : m.sure.length = N
theorem UpM.burn {m : DM} {N : Nat} (h : UpM m N) : burnM m = (true, m) := by
  unfold burnM; rw [h.fuse, if_neg (by decide), if_neg (by decide)]
theorem UpM.write {m : DM} {N : Nat} (h : UpM m N) (i : Nat) (s : ByteArray) (hi : i < N) (hs : s.size = 64) : (wrM m i s).1 = 0 ∧ UpM (wrM m i s).2 N := by
  unfold wrM
  rw [h.down, if_neg (by decide), if_neg (by rw [h.len]; omega), h.burn, if_pos rfl]
  exact ⟨rfl, h.down, h.fuse, h.len⟩
theorem UpM.flush {m : DM} {N : Nat} (h : UpM m N) : (flM m).1 = 0 ∧ UpM (flM m).2 N := by
  unfold flM
  rw [h.down, if_neg (by decide), h.burn, if_pos rfl]
  exact ⟨rfl, h.down, h.fuse, by show (flTo m.sure m.wait).length = N; rw [flTo_length]; exact h.len⟩
theorem UpM.stepW {x : Int × DM} {N : Nat} (h0 : x.1 = 0) (h : UpM x.2 N) (i : Nat) (s : ByteArray) (hi : i < N) (hs : s.size = 64) : (stepW x i s).1 = 0 ∧ UpM (stepW x i s).2 N := by
  unfold Proofs.YtpaholkmlfaflaaGreatDoor.stepW; rw [if_pos h0]; exact h.write i s hi hs
theorem UpM.stepF {x : Int × DM} {N : Nat} (h0 : x.1 = 0) (h : UpM x.2 N) : (stepF x).1 = 0 ∧ UpM (stepF x).2 N := by
  unfold Proofs.YtpaholkmlfaflaaGreatDoor.stepF; rw [if_pos h0]; exact h.flush
theorem UpM.wrN {m : DM} {N : Nat} (h : UpM m N) (base : Nat) (pages : List ByteArray) (hp : ∀ p ∈ pages, p.size = 512) : ∀ t, t ≤ 9 * pages.length → base + t ≤ N → (wrN base pages m t).1 = 0 ∧ UpM (wrN base pages m t).2 N
  | 0, _, _ => ⟨rfl, h⟩
  | t + 1, ht, hN => by
    have ih := UpM.wrN h base pages hp t (by omega) (by omega)
    unfold Proofs.YtpaholkmlfaflaaGreatDoor.wrN
    refine UpM.stepW ih.1 ih.2 (base + t) _ (by omega) (secP_size _ ?_ _ (Nat.mod_lt _ (by decide)))
    have hlt : t / 9 < pages.length := by omega
    have : pages.getD (t / 9) ⟨#[]⟩ = pages[t / 9] := by simp [List.getD, hlt]
    rw [this, hp _ (List.getElem_mem hlt)]; omega
theorem up_apX {m : DM} {N : Nat} {l : LM} (h : UpM m N) (pages : List ByteArray) (hp : ∀ p ∈ pages, p.size = 512) (hl : l.frm + l.at_ + 1 + 9 * pages.length ≤ N) : (apX l m pages).1 = 0 ∧ UpM (apX l m pages).2 N := by
  unfold Proofs.YtpaholkmlfaflaaGreatDoor.apX
  have h1 := h.wrN (l.frm + l.at_ + 1) pages hp _ (Nat.le_refl _) (by omega)
  have h2 := h1.2.stepF h1.1
  have h3 := h2.2.stepW h2.1 (l.frm + l.at_) (mkStr l.next (textM pages.length)) (by omega) (mkStr_size _ _ (by rw [textM_size]; omega))
  exact h3.2.stepF h3.1
theorem up_apM {m : DM} {N : Nat} {l : LM} (h : UpM m N) (pages : List ByteArray) (hp : ∀ p ∈ pages, p.size = 512) (hl : l.frm + l.at_ + 1 + 9 * pages.length ≤ N) :
    apM l m pages = (0, { l with at_ := l.at_ + 1 + 9 * pages.length, next := (l.next + 1) % 18446744073709551616 }, (apX l m pages).2) := by
  unfold Proofs.YtpaholkmlfaflaaGreatDoor.apM; rw [if_neg (by rw [(up_apX h pages hp hl).1]; simp)]
theorem ok_apX {l : LM} {m : DM} {k : Nat} (h : DOk m k) (pages : List ByteArray) : DOk (apX l m pages).2 (k + 9 * pages.length + 1) :=
  (((h.wrN _ pages _).stepF).stepW _ _).stepF

/-- A fresh disk. -/
theorem UpM.new (n : Nat) : UpM (newM (newSu n)) n := ⟨rfl, rfl, by simp [newM, newSu]⟩
theorem secM_new (n i : Nat) (hi : i < n) : secM (newM (newSu n)) i = S (nul 64) := by
  unfold secM newM newSu
  simp [lastW, List.getD, hi]
theorem nul_cut : cut (mT (S (nul 64))) 0 2 = [0, 0] := by decide +kernel
theorem nul_N : mN (S (nul 64)) = 0 := by decide +kernel
/-- Nothing stands on a fresh disk. -/
theorem stM_new (n size : Nat) (q : Int) (hn : 0 < n) : stM (newM (newSu n)) 0 size q = ([], 0) := by
  unfold stM
  refine stF_end ?_
  rintro ⟨-, h⟩
  obtain ⟨t, ht, h1, -, -⟩ := txOk_facts h
  unfold txN at ht
  rw [secM_new n (0 + 0) (by omega), nul_cut] at ht
  simp [leN] at ht
  omega

end Go.Proofs.YtpaholkmlfaflaaGreatDoor

namespace Go.Proofs.YtpaholkmlfaflaaGreatDoor
open Go.RowKit Go.Maps Go.Joins
set_option linter.unusedVariables false
section
variable {w w' w1 w2 : World} {b d lb pb hb K J k : Nat} {FD FP F1 : List Nat} {M M' : PM}
/-- What the log and the disk become. -/
def apS (M : PM) (pages : List ByteArray) : Int × PM := ((apR M.l M.m pages pages.length).1, { M with l := (apR M.l M.m pages pages.length).2.1, m := (apR M.l M.m pages pages.length).2.2 })
theorem apE_fits {l : LM} {n : Nat} (h : apE l n = 0) : l.at_ + 1 + 9 * n ≤ l.size := by
  unfold apE at h
  split at h
  · cases h
  · split at h
    · cases h
    · split at h
      · cases h
      · omega
theorem apM_cases (l : LM) (m : DM) (pages : List ByteArray) : (apM l m pages).2.2 = (apX l m pages).2 ∧ (apM l m pages).2.1.frm = l.frm ∧ (apM l m pages).2.1.size = l.size ∧ ((apM l m pages).2.1.at_ = l.at_ ∨ (apM l m pages).2.1.at_ = l.at_ + 1 + 9 * pages.length) ∧ ((apM l m pages).2.1.next = l.next ∨ (apM l m pages).2.1.next = (l.next + 1) % 18446744073709551616) := by
  unfold apM
  split
  · exact ⟨rfl, rfl, rfl, .inl rfl, .inl rfl⟩
  · exact ⟨rfl, rfl, rfl, .inr rfl, .inr rfl⟩
theorem apR_facts (h : PgOk M k) (pages : List ByteArray) :
    DOk (apR M.l M.m pages pages.length).2.2 (k + 9 * pages.length + 1) ∧ (apR M.l M.m pages pages.length).2.2.sure.length = M.m.sure.length ∧ (∀ j, 2 + M.size ≤ j → secM (apR M.l M.m pages pages.length).2.2 j = secM M.m j) ∧
      (apR M.l M.m pages pages.length).2.1.frm = 2 ∧ (apR M.l M.m pages pages.length).2.1.size = M.size ∧ (apR M.l M.m pages pages.length).2.1.at_ ≤ M.size ∧ 0 ≤ (apR M.l M.m pages pages.length).2.1.next ∧ (apR M.l M.m pages pages.length).2.1.next ≤ 18446744073709551615 := by
  have n0 := h.next0
  have n1 := h.next1
  have hl := h.lat
  have hs := h.lsize
  have hf := h.frm
  by_cases he : apE M.l pages.length = 0
  · have hfit := apE_fits he
    rw [apR_yes he]
    obtain ⟨e1, e2, e3, e4, e5⟩ := apM_cases M.l M.m pages
    rw [e1, e2, e3]
    refine ⟨ok_apX h.disk pages, apX_len pages, fun j hj => apX_other h.disk pages (by omega), hf, hs, ?_, ?_, ?_⟩
    · rcases e4 with e | e <;> rw [e] <;> omega
    · rcases e5 with e | e <;> rw [e] <;> omega
    · rcases e5 with e | e <;> rw [e] <;> omega
  · rw [apR_no rfl he]
    exact ⟨h.disk.mono (by omega), rfl, fun j _ => rfl, hf, hs, hl, n0, n1⟩
theorem apS_base (h : PgOk M k) (pages : List ByteArray) (i : Int) : baseP (apS M pages).2 i = baseP M i := by
  unfold baseP
  show (M.hot i).getD (pgOf (apR M.l M.m pages pages.length).2.2 (2 + M.size + i.toNat * 8)) = (M.hot i).getD (pgOf M.m (2 + M.size + i.toNat * 8))
  rw [pgOf_congr (fun k hk => (apR_facts h pages).2.2.1 _ (by omega))]
theorem append_step (h : PgIn w b d lb pb hb FD FP K k M) (hk : k ≤ 100000) {a : Option Addr} {c : Nat} {pages : List ByteArray} (hne : 0 < pages.length) (hn : pages.length ≤ 1000000) (hpg : PgAt w a pages (lb :: FD)) (hall : ∀ p ∈ pages, p.size = 512) :
    Calls Tryz.prog 77 #[.pointer (some ⟨lb, 0, none⟩), .slice a pages.length c] w fun e w' => e = .returned (.int .i64 (apS M pages).1) ∧
      ∃ FD', PgIn w' b d lb pb hb FD' FP K (k + 9 * pages.length + 1) (apS M pages).2 ∧ Touch (lb :: FD) w w' ∧ ∀ x ∈ FD', x ∈ FD ∨ w.heap.size ≤ x := by
  have hlt := h.lt
  have hge := h.ok.geo
  have hfe := h.ok.disk.few
  refine (append_right h.log h.disk h.ok.disk hk h.nl.1 (by rw [h.ok.frm, h.ok.lsize]; omega) (by rw [h.ok.lsize]; exact h.ok.lat) h.ok.next0 h.ok.next1 hne (by omega) hpg hall).mono ?_
  rintro e w' ⟨rfl, hl, ⟨F', hd, hF, hln⟩, ht⟩
  obtain ⟨a1, a2, a3, a4, a5, a6, a7, a8⟩ := apR_facts h.ok pages
  obtain ⟨fr, hp, hc⟩ := h.pool
  obtain ⟨n, hnn, hm⟩ := h.hot
  have out : ∀ x, x < w.heap.size → x ∉ FD → x ∉ F' := fun x hx hf hm => (hF x hm).elim hf (by omega)
  have hnot : ∀ x, x ≠ lb → x ∉ FD → x ∉ lb :: FD := fun x h1 h2 hm => (List.mem_cons.1 hm).elim h1 h2
  refine ⟨rfl, F', ⟨?_, hd, hl, ⟨fr, hp.touch ht (fun x hx => hnot x (fun e => h.nl.2.1 (e ▸ hx)) (fun hf => h.nd x hf hx)), hc.rebase hp (fun i _ => apS_base h.ok pages i)⟩, ⟨n, hnn, hm.touch ht (hnot hb (fun e => h.nl.2.2 e.symm) h.nh.1)⟩, ?_, ?_, ?_, ?_, ?_⟩, ht, hF⟩
  · exact World.rowIs.congr (rowIs_touch h.cells ht (hnot b h.nb.2.2.1 h.nb.1)) (fun i hi => pgF_congr rfl rfl rfl rfl i)
  · exact ⟨a1, by show 2 + M.size + M.most * 8 ≤ (apR M.l M.m pages pages.length).2.2.sure.length; rw [a2]; exact hge, h.ok.size1, h.ok.most1, h.ok.room1, h.ok.room2, a4, a5, a6, a7, a8, h.ok.gen0, h.ok.gen1, h.ok.dom, h.ok.hdom⟩
  · exact ⟨out b hlt.1 h.nb.1, h.nb.2.1, h.nb.2.2⟩
  · exact ⟨hln, h.nl.2.1, h.nl.2.2⟩
  · exact ⟨out hb hlt.2.2.1 h.nh.1, h.nh.2⟩
  · intro x hx hx'
    have := hlt.2.2.2.2 x hx'
    exact (hF x hx).elim (fun hf => h.nd x hf hx') (by omega)
end
end Go.Proofs.YtpaholkmlfaflaaGreatDoor

