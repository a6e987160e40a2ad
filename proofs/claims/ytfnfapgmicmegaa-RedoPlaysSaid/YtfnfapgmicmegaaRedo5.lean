/- The closures of redo's Append. -/
import Derived.Test.YtfnfapgmicmegaaRedo4
namespace Go.Proofs.Ytfnfapgmicmegaa
open Go.RowKit Go.Joins
set_option linter.unusedVariables false

/-- A write, a flush, if nothing has failed so far. -/
def stepW (x : Int × DM) (i : Int) (s : ByteArray) : Int × DM := if x.1 = 0 then wrM x.2 i s else x
def stepF (x : Int × DM) : Int × DM := if x.1 = 0 then flM x.2 else x

/-- What has become of the disk and of the cell with the error since the world w0. -/
def ApSt (w0 : World) (d eb : Nat) (F0 : List Nat) (wr : World) (x : Int × DM) : Prop :=
  ∃ F', IsDisk wr d F' x.2 ∧ wr.cell? ⟨eb, 0, none⟩ = some (.int .i64 x.1) ∧ wr.frozen? ⟨eb, 0, none⟩ = false ∧ Touch (eb :: F0) w0 wr ∧ (∀ b ∈ F', b ∈ F0 ∨ w0.heap.size ≤ b) ∧ eb ∉ F'
theorem ApSt.trans {w0 w1 w2 : World} {d eb : Nat} {F0 F1 : List Nat} {x : Int × DM} (t : Touch (eb :: F0) w0 w1) (hF : ∀ b ∈ F1, b ∈ F0 ∨ w0.heap.size ≤ b) (h : ApSt w1 d eb F1 w2 x) : ApSt w0 d eb F0 w2 x := by
  obtain ⟨F', h1, h2, h3, h4, h5, h6⟩ := h
  refine ⟨F', h1, h2, h3, t.trans h4 (fun b hb => ?_), fun b hb => ?_, h6⟩
  · rcases List.mem_cons.1 hb with rfl | hb
    · exact .inl (by simp)
    · exact (hF b hb).imp (fun h => by simp [h]) id
  · rcases h5 b hb with h | h
    · exact hF b h
    · exact .inr (Nat.le_trans t.size h)

/-- What the closures stand on. -/
structure ApOn (W : World) (d lb eb b0 : Nat) (F : List Nat) (l : LM) (m : DM) (e0 : Int) : Prop where
  disk : IsDisk W d F m
  err : W.cell? ⟨eb, 0, none⟩ = some (.int .i64 e0)
  errf : W.frozen? ⟨eb, 0, none⟩ = false
  log : LogAt W lb d l
  box : W.cell? ⟨b0, 0, none⟩ = some (.pointer (some ⟨lb, 0, none⟩))
  ne : eb ∉ F
  nel : lb ∉ F
  neb : b0 ∉ F
  nel2 : lb ≠ eb
  neb2 : b0 ≠ eb

section
variable {W : World} {d lb eb b0 k : Nat} {F : List Nat} {l : LM} {m : DM} {e0 : Int}

set_option maxRecDepth 100000 in
set_option maxHeartbeats 1000000 in
theorem write_fn (h : ApOn W d lb eb b0 F l m e0) (hk : DOk m k) (hkk : k ≤ 1000000000) {tb sb : Nat} {tt : Int} {s : ByteArray} (h1 : -9223372036854775808 ≤ tt) (h2 : tt ≤ 9223372036854775807) (hs : s.size ≤ 9223372036854775807)
    (ct : W.cell? ⟨tb, 0, none⟩ = some (.int .i64 tt)) (cs : W.cell? ⟨sb, 0, none⟩ = some (.string s)) :
    Calls Try.prog 31 #[.pointer (some ⟨b0, 0, none⟩), .pointer (some ⟨tb, 0, none⟩), .pointer (some ⟨sb, 0, none⟩)] W fun e w' => e = .returned (.int .i64 (wrM m tt s).1) ∧ Goes W w' d F (wrM m tt s).2 := by
  have c0 := h.log.cell.1
  have cb := h.box
  have HW := fun q => Lib.hid (is_write (w := W.drewN q) (h.disk.touch (F := []) ((Touch.refl _ _).drewN q) (fun _ _ h => by cases h)) hk hkk tt s h1 h2 hs)
  clear h
  go_enter Try.func31, Try.ntmps31
  go_wp2_with fail
  refine wp_region_tail (C := fun w' => ∃ n, w' = W.drewN n) 6 (by kernel_rfl) (by kernel_rfl) ⟨1, rfl⟩ ?_
  simp only [List.take_succ_cons, List.take_zero, List.drop_succ_cons, List.drop_zero]
  repeat (first | go_big_quiet_step (fail) | quiet_step (fail))
  refine wpQuiet_nil ?_
  rintro w6 ⟨nq, rfl⟩
  go_wp2_with fail
  refine (HW nq).out.mono ?_
  rintro e w7 ⟨rfl, hg⟩
  go_wp2_with fail
  go_ret
  exact ⟨rfl, hg⟩

/-- What a closure that goes on leaves. -/
theorem ApSt.of_goes {W' W1 : World} {x : Int × DM} (h : ApOn W d lb eb b0 F l m e0) (hg : Goes W W1 d F x.2) (hW : W' = W1.setCell ⟨eb, 0, none⟩ (.int .i64 x.1)) : ApSt W d eb F W' x := by
  obtain ⟨F', h1, h2, h3⟩ := hg
  have hlt := cell_lt h.err
  have hne : eb ∉ F' := fun hm => (h3 eb hm).elim h.ne (fun h' => by omega)
  have hc : W1.cell? ⟨eb, 0, none⟩ = some (.int .i64 e0) := (h2.cell (p := ⟨eb, 0, none⟩) hlt h.ne).trans h.err
  have hf : W1.frozen? ⟨eb, 0, none⟩ = false := (h2.frozen (p := ⟨eb, 0, none⟩) hlt h.ne).trans h.errf
  subst hW
  refine ⟨F', h1.touch (F := [eb]) ((Touch.refl _ _).setCell (.inl (by simp)) _) (fun b hb hm => ?_), World.cell?_setCell_same _ _ _ hc, by rw [World.frozen?_setCell]; exact hf, ?_, h3, hne⟩
  · simp at hm; subst hm; exact hne hb
  · exact (h2.mono (fun b hb => .inl (by simp [hb]))).setCell (.inl (by simp)) _
theorem ApSt.skip (h : ApOn W d lb eb b0 F l m e0) : ApSt W d eb F W (e0, m) := ⟨F, h.disk, h.err, h.errf, Touch.refl _ _, fun b hb => .inl hb, h.ne⟩

set_option maxRecDepth 100000 in
set_option maxHeartbeats 1000000 in
/-- 'then' behind an error: nothing. -/
theorem then_skip (h : ApOn W d lb eb b0 F l m e0) (he : e0 ≠ 0) (f : Value) :
    Calls Try.prog 29 #[f, .pointer (some ⟨eb, 0, none⟩)] W fun e w' => e = .returned (.tuple #[]) ∧ W = w' := by
  have c := h.err
  have t : (e0 == 0) = false := by simpa using he
  clear he h
  go_enter Try.func29, Try.ntmps29
  go_wp2_with fail
  go_end0
  exact ⟨rfl, rfl⟩

set_option maxRecDepth 100000 in
set_option maxHeartbeats 1000000 in
theorem then_write (h : ApOn W d lb eb b0 F l m e0) (hk : DOk m k) (hkk : k ≤ 1000000000) {tb sb : Nat} {tt : Int} {s : ByteArray} (h1 : -9223372036854775808 ≤ tt) (h2 : tt ≤ 9223372036854775807) (hs : s.size ≤ 9223372036854775807)
    (ct : W.cell? ⟨tb, 0, none⟩ = some (.int .i64 tt)) (cs : W.cell? ⟨sb, 0, none⟩ = some (.string s)) :
    Calls Try.prog 29 #[.func (Fn.func 31) #[] #[.pointer (some ⟨b0, 0, none⟩), .pointer (some ⟨tb, 0, none⟩), .pointer (some ⟨sb, 0, none⟩)], .pointer (some ⟨eb, 0, none⟩)] W
      fun e w' => e = .returned (.tuple #[]) ∧ ApSt W d eb F w' (stepW (e0, m) tt s) := by
  by_cases he : e0 = 0
  · have HW := Lib.hid (write_fn h hk hkk h1 h2 hs ct cs)
    have hst : stepW (e0, m) tt s = wrM m tt s := by unfold stepW; rw [if_pos he]
    rw [hst]
    subst he
    have c := h.err
    have cf := h.errf
    have hlt := cell_lt h.err
    go_enter Try.func29, Try.ntmps29
    go_wp2_with fail
    refine HW.out.mono ?_
    rintro e w7 ⟨rfl, hg⟩
    have HG := Lib.hid hg
    have c7 : w7.cell? ⟨eb, 0, none⟩ = some (.int .i64 0) := by
      obtain ⟨F', _, t, _⟩ := hg
      exact (t.cell (p := ⟨eb, 0, none⟩) hlt h.ne).trans c
    have f7 : w7.frozen? ⟨eb, 0, none⟩ = false := by
      obtain ⟨F', _, t, _⟩ := hg
      exact (t.frozen (p := ⟨eb, 0, none⟩) hlt h.ne).trans cf
    clear hg c cf
    go_wp2_with fail
    go_end0
    exact ⟨rfl, ApSt.of_goes h HG.out rfl⟩
  · have hst : stepW (e0, m) tt s = (e0, m) := by unfold stepW; rw [if_neg he]
    rw [hst]
    exact (then_skip h he _).mono fun e w' ⟨h1, h2⟩ => ⟨h1, by rw [← h2]; exact ApSt.skip h⟩

set_option maxRecDepth 100000 in
set_option maxHeartbeats 1000000 in
theorem then_flush (h : ApOn W d lb eb b0 F l m e0) (hk : DOk m k) (hkk : k ≤ 1000000000) :
    Calls Try.prog 29 #[.func (Fn.func 33) #[.pointer (some ⟨d, 0, none⟩)] #[], .pointer (some ⟨eb, 0, none⟩)] W
      fun e w' => e = .returned (.tuple #[]) ∧ ApSt W d eb F w' (stepF (e0, m)) := by
  by_cases he : e0 = 0
  · have HW := Lib.hid (is_flush h.disk hk hkk)
    have hst : stepF (e0, m) = flM m := by unfold stepF; rw [if_pos he]
    rw [hst]
    subst he
    have c := h.err
    have cf := h.errf
    have hlt := cell_lt h.err
    go_enter Try.func29, Try.ntmps29
    go_wp2_with fail
    refine HW.out.mono ?_
    rintro e w7 ⟨rfl, hg⟩
    have HG := Lib.hid hg
    have c7 : w7.cell? ⟨eb, 0, none⟩ = some (.int .i64 0) := by
      obtain ⟨F', _, t, _⟩ := hg
      exact (t.cell (p := ⟨eb, 0, none⟩) hlt h.ne).trans c
    have f7 : w7.frozen? ⟨eb, 0, none⟩ = false := by
      obtain ⟨F', _, t, _⟩ := hg
      exact (t.frozen (p := ⟨eb, 0, none⟩) hlt h.ne).trans cf
    clear hg c cf
    go_wp2_with fail
    go_end0
    exact ⟨rfl, ApSt.of_goes h HG.out rfl⟩
  · have hst : stepF (e0, m) = (e0, m) := by unfold stepF; rw [if_neg he]
    rw [hst]
    exact (then_skip h he _).mono fun e w' ⟨h1, h2⟩ => ⟨h1, by rw [← h2]; exact ApSt.skip h⟩
set_option maxRecDepth 100000 in
set_option maxHeartbeats 2000000 in
theorem mark_fn (h : ApOn W d lb eb b0 F l m e0) (hk : DOk m k) (hkk : k ≤ 1000000000) {b1 n c : Nat} {a : Option Addr} (c1 : W.cell? ⟨b1, 0, none⟩ = some (.slice a n c)) (hn : n ≤ 64) (hfa : l.frm + l.at_ ≤ 1000000) (hn0 : 0 ≤ l.next) :
    Calls Try.prog 34 #[.pointer (some ⟨b0, 0, none⟩), .pointer (some ⟨b1, 0, none⟩)] W fun e w' => e = .returned (.int .i64 (wrM m ((l.frm + l.at_ : Nat) : Int) (mkStr l.next (textM n))).1) ∧ Goes W w' d F (wrM m ((l.frm + l.at_ : Nat) : Int) (mkStr l.next (textM n))).2 := by
  have hlt := h.log.lt
  have hltb := cell_lt h.box
  have hlt1 := cell_lt c1
  obtain ⟨d0, d1, d2, d3, d4, d5⟩ := h.log.cell
  have x4 : ∀ x : Later W, x.1.cell? ⟨lb, 4, none⟩ = some (.int .u64 l.next) := fun x => (x.cell hlt).trans d4
  have xb : ∀ x : Later W, x.1.cell? ⟨b0, 0, none⟩ = some (.pointer (some ⟨lb, 0, none⟩)) := fun x => (x.cell hltb).trans h.box
  have xc : ∀ x : Later W, x.1.cell? ⟨b1, 0, none⟩ = some (.slice a n c) := fun x => (x.cell hlt1).trans c1
  have HTX := Lib.hid (fun W => text_any (n : Int) W (by omega) (by omega))
  have HMK := Lib.hid (fun W => markPut_any l.next (textM n) W hn0 (by rw [textM_size]; omega))
  obtain ⟨p, hp⟩ : ∃ p : Nat, p = l.frm + l.at_ := ⟨_, rfl⟩
  have hwr : IntKind.i64.wrap ((l.frm : Int) + (l.at_ : Int)) = (p : Int) := by rw [IntKind.wrap_i64]; omega
  rw [← hp]
  have hms : (mkStr l.next (textM n)).size = 64 := mkStr_size _ _ (by rw [textM_size]; omega)
  have HH := Lib.hid h
  have hp2 : p ≤ 1000000 := by omega
  clear h d0 d1 d2 d3 d4 d5 c1 hp
  go_enter Try.func34, Try.ntmps34
  go_wp2_with fail
  refine wp_region_later (by kernel_rfl) (by kernel_rfl) ?_
  repeat (first | go_big_quiet_step ((first | (go_at_call 36; refine Later.call (HTX.out _)) | (go_at_call 35; refine Later.call (HMK.out _)))) | quiet_step ((first | (go_at_call 36; refine Later.call (HTX.out _)) | (go_at_call 35; refine Later.call (HMK.out _)))))
  refine wpQuiet_nil ?_
  rintro w3 ⟨y3, hw3⟩
  have hb3 : Below W.heap.size W w3 := by rw [hw3]; exact y3.2
  clear hw3 x4 xb xc
  have hD3 := HH.out.disk.below hb3
  obtain ⟨d0, d1, d2, d3, d4, d5⟩ := (HH.out.log.below hb3).cell
  have cb := (hb3.cell (p := ⟨b0, 0, none⟩) hltb).trans HH.out.box
  have HW := fun q => Lib.hid (is_write (w := w3.drewN q) (hD3.touch (F := []) ((Touch.refl _ _).drewN q) (fun _ _ h => by cases h)) hk hkk (p : Int) (mkStr l.next (textM n)) (by omega) (by omega) (by omega))
  have HB3 := Lib.hid hb3
  clear hb3 hD3 d2 d4 d5
  go_wp2_with fail
  refine wp_region_tail (C := fun w' => ∃ n, w' = w3.drewN n) 14 (by kernel_rfl) (by kernel_rfl) ⟨1, rfl⟩ ?_
  simp only [List.take_succ_cons, List.take_zero, List.drop_succ_cons, List.drop_zero]
  repeat (first | go_big_quiet_step (fail) | quiet_step (fail))
  refine wpQuiet_nil ?_
  rintro w6 ⟨nq, rfl⟩
  go_wp2_with fail
  refine (HW nq).out.mono ?_
  rintro e w7 ⟨rfl, hg⟩
  go_wp2_with fail
  go_ret
  exact ⟨rfl, Goes.after ((Touch.of_below HB3.out).drewN nq) hg⟩

set_option maxRecDepth 100000 in
set_option maxHeartbeats 1000000 in
theorem then_mark (h : ApOn W d lb eb b0 F l m e0) (hk : DOk m k) (hkk : k ≤ 1000000000) {b1 n c : Nat} {a : Option Addr} (c1 : W.cell? ⟨b1, 0, none⟩ = some (.slice a n c)) (hn : n ≤ 64) (hfa : l.frm + l.at_ ≤ 1000000) (hn0 : 0 ≤ l.next) :
    Calls Try.prog 29 #[.func (Fn.func 34) #[] #[.pointer (some ⟨b0, 0, none⟩), .pointer (some ⟨b1, 0, none⟩)], .pointer (some ⟨eb, 0, none⟩)] W
      fun e w' => e = .returned (.tuple #[]) ∧ ApSt W d eb F w' (stepW (e0, m) ((l.frm + l.at_ : Nat) : Int) (mkStr l.next (textM n))) := by
  by_cases he : e0 = 0
  · have HW := Lib.hid (mark_fn h hk hkk c1 hn hfa hn0)
    have hst : stepW (e0, m) ((l.frm + l.at_ : Nat) : Int) (mkStr l.next (textM n)) = wrM m ((l.frm + l.at_ : Nat) : Int) (mkStr l.next (textM n)) := by unfold stepW; rw [if_pos he]
    rw [hst]
    subst he
    have c := h.err
    have cf := h.errf
    have hlt := cell_lt h.err
    go_enter Try.func29, Try.ntmps29
    go_wp2_with fail
    refine HW.out.mono ?_
    rintro e w7 ⟨rfl, hg⟩
    have HG := Lib.hid hg
    have c7 : w7.cell? ⟨eb, 0, none⟩ = some (.int .i64 0) := by
      obtain ⟨F', _, t, _⟩ := hg
      exact (t.cell (p := ⟨eb, 0, none⟩) hlt h.ne).trans c
    have f7 : w7.frozen? ⟨eb, 0, none⟩ = false := by
      obtain ⟨F', _, t, _⟩ := hg
      exact (t.frozen (p := ⟨eb, 0, none⟩) hlt h.ne).trans cf
    clear hg c cf
    go_wp2_with fail
    go_end0
    exact ⟨rfl, ApSt.of_goes h HG.out rfl⟩
  · have hst : stepW (e0, m) ((l.frm + l.at_ : Nat) : Int) (mkStr l.next (textM n)) = (e0, m) := by unfold stepW; rw [if_neg he]
    rw [hst]
    exact (then_skip h he _).mono fun e w' ⟨h1, h2⟩ => ⟨h1, by rw [← h2]; exact ApSt.skip h⟩
end
end Go.Proofs.Ytfnfapgmicmegaa
