/- The contract of redo.Open. -/
import Derived.Test.YtfnfapgmicmegaaRedo3
import Derived.Deep.LoopGhost
namespace Go.Proofs.Ytfnfapgmicmegaa
open Go.RowKit Go.Joins
set_option linter.unusedVariables false

/-- A transaction as plain data. -/
abbrev TxD := Int × List ByteArray
/-- What stands from sector a of a stretch on, its first number q; and where it ends. -/
def stF (m : DM) (frm size : Nat) : Nat → Nat → Int → List TxD × Nat
  | 0, a, _ => ([], a)
  | f + 1, a, q =>
    if a < size ∧ txOk m (frm + a) q (size - a) = true then
      ((q, txPages m (frm + a) (txN m (frm + a)).toNat) :: (stF m frm size f (a + 1 + 9 * (txN m (frm + a)).toNat) ((q + 1) % 18446744073709551616)).1, (stF m frm size f (a + 1 + 9 * (txN m (frm + a)).toNat) ((q + 1) % 18446744073709551616)).2)
    else ([], a)
def stM (m : DM) (frm size : Nat) (q : Int) : List TxD × Nat := stF m frm size (size + 1) 0 q
theorem stF_end {m : DM} {frm size f a : Nat} {q : Int} (h : ¬ (a < size ∧ txOk m (frm + a) q (size - a) = true)) : stF m frm size f a q = ([], a) := by
  cases f with
  | zero => rfl
  | succ f => rw [stF, if_neg h]

/-- Two rows of different types never share a block. -/
theorem own_ne {w : World} {b1 b2 n1 n2 s1 s2 : Nat} {e1 e2 : TypeId} {v1 v2 : Value} {x1 x2 : List Value} (h1 : w.ownsRow b1 e1 s1 v1 n1 x1) (h2 : w.ownsRow b2 e2 s2 v2 n2 x2) (hne : e1 ≠ e2) {g : Nat} (h : v1.ownBlock = some g) : v2.ownBlock ≠ some g := by
  intro h'
  rcases h1.2 with ⟨rfl, _⟩ | ⟨g1, cap1, cur1, rfl, _, hh1, _⟩
  · simp [Value.ownBlock] at h
  · rcases h2.2 with ⟨rfl, _⟩ | ⟨g2, cap2, cur2, rfl, _, hh2, _⟩
    · simp [Value.ownBlock] at h'
    · simp [Value.ownBlock] at h h'
      subst h h'
      rw [hh1] at hh2
      injection hh2 with e
      injection e with _ e
      exact hne e

theorem Try.infoTxn : (Try.prog.info? 62).map (fun i => (i.zero, i.size, i.bytes)) = some (some (.agg #[.int .u64 0, .slice none 0 0]), 2, 32) := by kernel_rfl
def txCells (vs : List (Int × Value)) : List Value := vs.flatMap fun x => [.int .u64 x.1, x.2]
theorem txCells_snoc (vs : List (Int × Value)) (q : Int) (v : Value) : txCells vs ++ [.int .u64 q, v] = txCells (vs ++ [(q, v)]) := by simp [txCells]
/-- Each transaction's pages lie in a row of their own. -/
def TxEach (w : World) (base : Nat) (vs : List (Int × Value)) (ts : List TxD) : Prop :=
  vs.length = ts.length ∧ ∀ (j : Nat) x y, vs[j]? = some x → ts[j]? = some y → x.1 = y.1 ∧ w.ownsRow base 9 1 x.2 y.2.length (y.2.map Value.string)
def TxRow (w : World) (base : Nat) (v : Value) (ts : List TxD) : Prop := ∃ vs, w.ownsRow base 62 2 v ts.length (txCells vs) ∧ TxEach w base vs ts
theorem TxEach.touch {w w' : World} {base : Nat} {vs : List (Int × Value)} {ts : List TxD} {F : List Nat} (h : TxEach w base vs ts) (t : Touch F w w') (hF : ∀ g ∈ F, g < base ∨ ∃ b n s v xs, w.ownsRow b 62 s v n xs ∧ Value.ownBlock v = some g) : TxEach w' base vs ts := by
  refine ⟨h.1, fun j x y hx hy => ?_⟩
  obtain ⟨e, ho⟩ := h.2 j x y hx hy
  refine ⟨e, ownsRow_touch ho t (fun g hg hm => ?_)⟩
  rcases hF g hm with h' | ⟨b, n, s, v, xs, hv, hb⟩
  · have := (ho.lt g hg).1; omega
  · exact own_ne ho hv (by decide) hg hb
theorem TxRow.touch {w w' : World} {base : Nat} {v : Value} {ts : List TxD} {F : List Nat} (h : TxRow w base v ts) (t : Touch F w w') (hF : ∀ g ∈ F, g < base) : TxRow w' base v ts := by
  obtain ⟨vs, h1, h2⟩ := h
  refine ⟨vs, ownsRow_touch h1 t (fun g hg hm => ?_), h2.touch t (fun g hg => .inl (hF g hg))⟩
  have := (h1.lt g hg).1
  have := hF g hm
  omega
theorem TxRow.below {w w' : World} {base : Nat} {v : Value} {ts : List TxD} (h : TxRow w base v ts) (t : Below w.heap.size w w') : TxRow w' base v ts := h.touch (F := []) (Touch.of_below t) (fun _ h => by cases h)
theorem TxRow.nil (w : World) (base : Nat) : TxRow w base (.slice none 0 0) [] := ⟨[], World.ownsRow_nil _ _ _ _, rfl, fun j x y hx => by simp at hx⟩

/-- The five ways in which a stretch is refused. -/
theorem open_bad {w : World} {d : Nat} {F : List Nat} {m : DM} (hd : IsDisk w d F m) (hm : m.sure.length ≤ 65536) (frm size q : Int) (f1 : -9223372036854775808 ≤ frm) (f2 : frm ≤ 9223372036854775807) (s1 : -9223372036854775808 ≤ size) (s2 : size ≤ 9223372036854775807)
    (h : frm < 0 ∨ size < 1 ∨ (m.sure.length : Int) < frm ∨ (m.sure.length : Int) - frm < size) :
    Calls Try.prog 8 #[.pointer (some ⟨d, 0, none⟩), .int .i64 frm, .int .i64 size, .int .u64 q] w fun e w' => e = .returned (.tuple #[.pointer none, .slice none 0 0, .int .i64 1]) ∧ w = w' := by
  by_cases h1 : frm < 0
  · go_enter Try.func8, Try.ntmps8
    go_wp2_with fail
    go_ret3
    exact ⟨rfl, rfl⟩
  · by_cases h2 : size < 1
    · go_enter Try.func8, Try.ntmps8
      go_wp2_with fail
      go_ret3
      exact ⟨rfl, rfl⟩
    · by_cases h3 : (m.sure.length : Int) < frm
      · go_enter Try.func8, Try.ntmps8
        go_wp2_with fail
        refine (is_len hd).mono ?_
        rintro e w1 ⟨rfl, rfl⟩
        go_wp2_with fail
        go_ret3
        exact ⟨rfl, rfl⟩
      · have h4 : (m.sure.length : Int) - frm < size := by omega
        go_enter Try.func8, Try.ntmps8
        go_wp2_with fail
        refine (is_len hd).mono ?_
        rintro e w1 ⟨rfl, rfl⟩
        go_wp2_with fail
        refine (is_len hd).mono ?_
        rintro e w1 ⟨rfl, rfl⟩
        go_wp2_with fail
        go_ret3
        exact ⟨rfl, rfl⟩
theorem open_nil {w : World} (frm size q : Int) : Calls Try.prog 8 #[.pointer none, .int .i64 frm, .int .i64 size, .int .u64 q] w fun e w' => e = .returned (.tuple #[.pointer none, .slice none 0 0, .int .i64 1]) ∧ w = w' := by
  go_enter Try.func8, Try.ntmps8
  go_wp2_with fail
  go_ret3
  exact ⟨rfl, rfl⟩

def OpenPost (w : World) (d : Nat) (m : DM) (frm size : Nat) (q0 : Int) (e : Ending) (w' : World) : Prop :=
  ∃ v, e = .returned (.tuple #[.pointer (some ⟨w.heap.size, 0, none⟩), v, .int .i64 0]) ∧ LogAt w' w.heap.size d ⟨frm, size, (stM m frm size q0).2, (q0 + (stM m frm size q0).1.length) % 18446744073709551616, false⟩ ∧
    TxRow w' (w.heap.size + 1) v (stM m frm size q0).1 ∧ Below w.heap.size w w'
/-- What holds ahead of each round of Open. -/
structure OpenIn (w : World) (d : Nat) (m : DM) (frm size : Nat) (q0 : Int) (f : Nat) (u : Value) (wr : World) (a : Nat) (q : Int) (ts : List TxD) : Prop where
  le : a ≤ size
  log : LogAt wr w.heap.size d ⟨frm, size, a, q, false⟩
  row : TxRow wr (w.heap.size + 1) u ts
  done : ts ++ (stF m frm size f a q).1 = (stM m frm size q0).1
  ends : (stF m frm size f a q).2 = (stM m frm size q0).2
  fuel : size < a + f
  num : q = (q0 + ts.length) % 18446744073709551616
  len : ts.length ≤ a
  below : Below w.heap.size w wr
theorem stF_step {m : DM} {frm size f a n : Nat} {q : Int} (h : a < size) (h2 : txOk m (frm + a) q (size - a) = true) (hn : txN m (frm + a) = (n : Int)) :
    stF m frm size (f + 1) a q = ((q, txPages m (frm + a) n) :: (stF m frm size f (a + 1 + 9 * n) ((q + 1) % 18446744073709551616)).1, (stF m frm size f (a + 1 + 9 * n) ((q + 1) % 18446744073709551616)).2) := by
  rw [stF, if_pos ⟨h, h2⟩, hn, Int.toNat_natCast]
theorem TxEach.snoc {w : World} {base : Nat} {vs : List (Int × Value)} {ts : List TxD} {q : Int} {v : Value} {pg : List ByteArray} (h : TxEach w base vs ts) (hv : w.ownsRow base 9 1 v pg.length (pg.map Value.string)) :
    TxEach w base (vs ++ [(q, v)]) (ts ++ [(q, pg)]) := by
  refine ⟨by simp [h.1], fun j x y hx hy => ?_⟩
  rcases Nat.lt_trichotomy j vs.length with hj | hj | hj
  · rw [List.getElem?_append_left hj] at hx
    rw [List.getElem?_append_left (by rw [← h.1]; exact hj)] at hy
    exact h.2 j x y hx hy
  · subst hj
    rw [List.getElem?_append_right (Nat.le_refl _)] at hx
    rw [h.1, List.getElem?_append_right (Nat.le_refl _)] at hy
    simp at hx hy
    subst hx hy
    exact ⟨rfl, hv⟩
  · rw [List.getElem?_eq_none (by simp; omega)] at hx
    cases hx
theorem OpenIn.next {w w' : World} {d : Nat} {m : DM} {frm size f a n : Nat} {q0 q : Int} {u v : Value} {ts : List TxD} {wr : World} (h : OpenIn w d m frm size q0 (f + 1) u wr a q ts) (hlt : a < size) (hok : txOk m (frm + a) q (size - a) = true) (hn : txN m (frm + a) = (n : Int)) (h3 : 9 * n + 1 ≤ size - a)
    (hlog : LogAt w' w.heap.size d ⟨frm, size, a + 1 + 9 * n, (q + 1) % 18446744073709551616, false⟩) (hrow : TxRow w' (w.heap.size + 1) v (ts ++ [(q, txPages m (frm + a) n)])) (hb : Below w.heap.size w w') :
    OpenIn w d m frm size q0 f v w' (a + 1 + 9 * n) ((q + 1) % 18446744073709551616) (ts ++ [(q, txPages m (frm + a) n)]) := by
  have e := stF_step (f := f) hlt hok hn
  have h1 := h.done
  have h2 := h.ends
  rw [e] at h1 h2
  have h4 := h.fuel
  have h5 := h.num
  have h6 := h.len
  refine ⟨by omega, hlog, hrow, by rw [← h1]; simp, h2, by omega, ?_, by simp; omega, hb⟩
  rw [List.length_append, List.length_singleton, h5]
  push_cast
  omega
theorem txOk_facts {m : DM} {p left : Nat} {next : Int} (h : txOk m p next left = true) : ∃ n : Nat, txN m p = (n : Int) ∧ 1 ≤ n ∧ n ≤ 64 ∧ 9 * n + 1 ≤ left := by
  unfold txOk at h
  rw [Bool.and_eq_true] at h
  obtain ⟨-, -, h1, h2, -, h3⟩ := mark_facts h.1
  exact ⟨(txN m p).toNat, by omega, by omega, by omega, by omega⟩
theorem OpenIn.finish {w wr : World} {d : Nat} {m : DM} {frm size f a : Nat} {q0 q : Int} {u : Value} {ts : List TxD} (h : OpenIn w d m frm size q0 f u wr a q ts) (hend : ¬ (a < size ∧ txOk m (frm + a) q (size - a) = true)) :
    LogAt wr w.heap.size d ⟨frm, size, (stM m frm size q0).2, (q0 + (stM m frm size q0).1.length) % 18446744073709551616, false⟩ ∧ TxRow wr (w.heap.size + 1) u (stM m frm size q0).1 := by
  have e := stF_end (f := f) hend
  have h1 := h.done
  have h2 := h.ends
  rw [e] at h1 h2
  simp only [List.append_nil] at h1
  rw [← h1, ← h2, ← h.num]
  exact ⟨h.log, h.row⟩
theorem OpenIn.move {w wr w' : World} {d : Nat} {m : DM} {frm size f a : Nat} {q0 q : Int} {u : Value} {ts : List TxD} (h : OpenIn w d m frm size q0 f u wr a q ts) (hb : Below wr.heap.size wr w') : OpenIn w d m frm size q0 f u w' a q ts :=
  ⟨h.le, h.log.below hb, h.row.below hb, h.done, h.ends, h.fuel, h.num, h.len, below_step hb h.below⟩

set_option maxRecDepth 100000 in
set_option maxHeartbeats 4000000 in
theorem open_up {w : World} {d k : Nat} {F : List Nat} {m : DM} (hd : IsDisk w d F m) (hup : m.down = false) (hok : DOk m k) (frm size : Nat) (q0 : Int) (hs : 1 ≤ size) (hin : frm + size ≤ m.sure.length) (h0 : 0 ≤ q0) (h1 : q0 ≤ 18446744073709551615) :
    Calls Try.prog 8 #[.pointer (some ⟨d, 0, none⟩), .int .i64 frm, .int .i64 size, .int .u64 q0] w (OpenPost w d m frm size q0) := by
  have hfew := hok.few
  have hlen : (m.sure.length : Int) ≤ 65536 := by omega
  have g1 : decide ((frm : Int) < 0) = false := by simp
  have g2 : decide ((size : Int) < 1) = false := by simp; omega
  have g3 : decide (m.sure.length < frm) = false := by simp; omega
  have g4 : decide ((m.sure.length : Int) - (frm : Int) < (size : Int)) = false := by simp; omega
  have HUP := Lib.hid hup
  clear hup
  go_enter Try.func8, Try.ntmps8
  go_wp2_with fail
  refine (is_len hd).mono ?_
  rintro e w1 ⟨rfl, rfl⟩
  go_wp2_with fail
  refine (is_len hd).mono ?_
  rintro e w1 ⟨rfl, rfl⟩
  clear g1 g2 g3
  go_wp2_with fail
  clear g4
  have hlog : LogAt (w.alloc (.cells #[.pointer (some ⟨d, 0, none⟩), .int .i64 frm, .int .i64 size, .int .i64 0, .int .u64 q0, .bool false] 60)) w.heap.size d ⟨frm, size, 0, q0, false⟩ :=
    World.rowIs_alloc w _ 60 (logF d ⟨frm, size, 0, q0, false⟩) (fun i hi => by
      rcases i with _ | _ | _ | _ | _ | _ | i <;> first | rfl | (simp at hi; omega))
  have HLOG := Lib.hid hlog
  clear hlog
  go_loopg [12] (size + 1) (fun f u wr => ∃ a q ts, OpenIn w d m frm size q0 f u wr a q ts)
  case atStart => exact ⟨0, q0, [], Nat.zero_le _, HLOG.out, TxRow.nil _ _, rfl, rfl, by omega, by simp; omega, Nat.zero_le _, below_alloc (Below.refl _ _)⟩
  case round =>
    clear HLOG
    obtain ⟨a, q, ts, hI⟩ := hrel
    have HI := Lib.hid hI
    obtain ⟨c0, c1, c2, c3, c4, c5⟩ := hI.log.cell
    have hlt := hI.log.lt
    have hale := hI.le
    have hq : q = (q0 + ts.length) % 18446744073709551616 := hI.num
    have hq0 : 0 ≤ q := by omega
    have hq1 : q < 18446744073709551616 := by omega
    clear hI hq c0 c1 c2 c4 c5
    simp only at c3
    by_cases hlt2 : a < size
    · have HRD := Lib.hid (lread_up HI.out.log (hd.below HI.out.below) HUP.out hok (by exact hin) (by exact hlt2))
      go_wp2_with fail
      refine HRD.out.mono ?_
      rintro e w2 (⟨hyes, v, rfl, hrow, hb2⟩ | ⟨hno, rfl, hb2⟩)
      · obtain ⟨f, rfl⟩ : ∃ f, gk = f + 1 := ⟨gk - 1, by have := HI.out.fuel; omega⟩
        obtain ⟨n, hn, n1, n2, n3⟩ := txOk_facts hyes
        simp only at hn n3 hrow
        rw [hn, Int.toNat_natCast] at hrow
        obtain ⟨g, cap, rfl⟩ := ownsRow_form hrow (by omega)
        obtain ⟨vs, hrw, heach⟩ := (HI.out.move hb2).row
        have hlen := HI.out.len
        have hs2 : w.heap.size + 1 ≤ w2.heap.size := by have := hb2.size; omega
        have HY := Lib.hid hyes
        have HN := Lib.hid hn
        have HROW := Lib.hid hrow
        have HRW := Lib.hid hrw
        have HEACH := Lib.hid heach
        have HB2 := Lib.hid hb2
        have HW2 := Lib.hid (below_step hb2 HI.out.below)
        obtain ⟨i0, hi, hz0, hz1, hz2⟩ := info_parts Try.infoTxn
        clear hyes hn hrow hrw heach hb2 c3 hlt
        go_wp2_with (at_builtin; refine wpList_append_own _ rfl (.tmp 63) (.tmp 65) 29 rfl (w.heap.size + 1) 62 i0 (.agg #[.int .u64 0, .slice none 0 0]) 2 32 Try.underlying29 hi hz0 hz1 hz2 rfl (by decide) _ ts.length (txCells vs) rfl ((HRW.out.alloc _).alloc _) ⟨w2.heap.size + 1, 0, none⟩ 1 1 [.int .u64 q, .slice (some ⟨g, 0, none⟩) n cap] rfl rfl ?c1 ?c2 ?c3 ?c4 ?c5 ?_)
        case c1 =>
          intro j u hu
          have h := cell_pair (w2.alloc (.cells #[.int .u64 q, .slice (some ⟨g, 0, none⟩) n cap] 62)) (.int .u64 q) (.slice (some ⟨g, 0, none⟩) n cap) 62 j u hu
          have e : (w2.alloc (.cells #[.int .u64 q, .slice (some ⟨g, 0, none⟩) n cap] 62)).heap.size = w2.heap.size + 1 := by simp
          rw [e] at h
          exact h
        case c2 => intro u hu; simp at hu; rcases hu with rfl | rfl <;> rfl
        case c3 => unfold maxLen; omega
        case c4 => omega
        case c5 => simp; omega
        intro v' w5 hown' hgrow _
        have e1 : (w2.alloc (.cells #[.int .u64 q, .slice (some ⟨g, 0, none⟩) n cap] 62)).heap.size = w2.heap.size + 1 := by simp
        have HT5 := Lib.hid (Touch.of_grown hgrow)
        have hnot : w.heap.size ∉ (Value.ownBlock u12).toList := fun hm => by
          have := (HRW.out.lt _ (Option.mem_toList.1 hm)).1; omega
        have hnot2 : w2.heap.size ∉ (Value.ownBlock u12).toList := fun hm => by
          have := (HRW.out.lt _ (Option.mem_toList.1 hm)).2; omega
        have hl5 := LogAt.touch ((HI.out.move HB2.out).log.below (below_alloc (below_alloc (Below.refl _ _)))) HT5.out hnot
        have ht5 := rowIs_touch (rowIs_touch (txF_new w2 (.int .u64 q) (.slice (some ⟨g, 0, none⟩) n cap)) (F := []) ((Touch.refl _ _).alloc _) (by simp)) HT5.out hnot2
        have hrowL := ownsRow_le HROW.out (show w.heap.size + 1 ≤ wr.heap.size from HI.out.log.lt)
        have hea : TxEach ((w2.alloc (.cells #[.int .u64 q, .slice (some ⟨g, 0, none⟩) n cap] 62)).alloc (.cells #[.int .u64 q, .slice (some ⟨g, 0, none⟩) n cap] 62)) (w.heap.size + 1) (vs ++ [(q, .slice (some ⟨g, 0, none⟩) n cap)]) (ts ++ [(q, txPages m (frm + a) n)]) := (HEACH.out.snoc (q := q) (pg := txPages m (frm + a) n) (by simpa [txPages, pgRow] using hrowL)).touch (F := []) (Touch.of_below (below_alloc (below_alloc (Below.refl _ _)))) (fun _ h => by cases h)
        have hea5 := hea.touch HT5.out (fun q hq => .inr ⟨_, _, _, _, _, (HRW.out.alloc _).alloc _, Option.mem_toList.1 hq⟩)
        have hb5 : Below w.heap.size w w5 := ((HW2.out.alloc (by omega) _).alloc (by simp; omega) _).grown hgrow (by simp; omega) (fun q hq => by have := (HRW.out.lt q hq).1; omega)
        rw [txCells_snoc] at hown'
        have htx : TxRow w5 (w.heap.size + 1) v' (ts ++ [(q, txPages m (frm + a) n)]) := ⟨_, by rw [List.length_append]; exact hown', hea5⟩
        have HTX := Lib.hid htx
        have HL5 := Lib.hid hl5
        have HB5 := Lib.hid hb5
        obtain ⟨-, -, -, c3, c4, -⟩ := hl5.cell
        have f3 := hl5.frozen 3
        have f4 := hl5.frozen 4
        have k1 := World.rowIs.cell ht5 (i := 1) (by decide)
        simp only [txF] at k1
        simp only at c3 c4
        obtain ⟨n9, hn9⟩ : ∃ n9 : Nat, n9 = 9 * n := ⟨_, rfl⟩
        obtain ⟨n10, hn10⟩ : ∃ n10 : Nat, n10 = 1 + n9 := ⟨_, rfl⟩
        obtain ⟨a', ha'⟩ : ∃ a' : Nat, a' = a + n10 := ⟨_, rfl⟩
        have y1 : IntKind.i64.wrap (9 * (n : Int)) = (n9 : Int) := by rw [IntKind.wrap_i64]; omega
        have y2 : IntKind.i64.wrap (1 + (n9 : Int)) = (n10 : Int) := by rw [IntKind.wrap_i64]; omega
        have y3 : IntKind.i64.wrap ((a : Int) + (n10 : Int)) = (a' : Int) := by rw [IntKind.wrap_i64]; omega
        have ea : a' = a + 1 + 9 * n := by omega
        have EA := Lib.hid ea
        clear hown' hgrow e1 hnot hnot2 hl5 ht5 hrowL hea hea5 hb5 htx hn9 hn10 ha' ea HRW HEACH HROW HT5
        go_wp2_with fail
        refine wp_region_tail (C := fun w' => ∃ n, w' = w5.drewN n) 12 (by kernel_rfl) (by kernel_rfl) ⟨1, rfl⟩ ?_
        simp only [List.take_succ_cons, List.take_zero, List.drop_succ_cons, List.drop_zero]
        repeat (first | go_big_quiet_step (fail) | quiet_step (fail))
        refine wpQuiet_nil ?_
        rintro w6 ⟨nq, rfl⟩
        go_wp2_with fail
        go_roundg f
        case measure => omega
        case rel =>
          refine ⟨_, _, _, HI.out.next hlt2 HY.out HN.out n3 ?_ ?_ ?_⟩
          · refine World.rowIs.congr (World.rowIs.set (World.rowIs.set (show (w5.drewN nq).rowIs w.heap.size 60 6 _ from HL5.out) 3 (.int .i64 (a' : Nat))) 4 (.int .u64 (IntKind.u64.wrap (q + 1)))) (fun t ht => ?_)
            rcases t with _ | _ | _ | _ | _ | _ | t
            · rfl
            · rfl
            · rfl
            · rw [EA.out]; rfl
            · rw [IntKind.wrap_u64]; rfl
            · rfl
            · omega
          · exact HTX.out.touch (F := [w.heap.size]) ((((Touch.refl _ _).drewN nq).setCell (.inl (by simp)) _).setCell (.inl (by simp)) _) (fun g hg => by simp at hg; omega)
          · exact ((below_drewN HB5.out nq).setCell (by simp) _).setCell (by simp) _
      · have HNO := Lib.hid hno
        have HI2 := Lib.hid (HI.out.move hb2)
        have FIN := Lib.hid (HI2.out.finish (fun h => by rw [HNO.out] at h; cases h.2))
        clear hno c3
        go_wp2_with fail
        go_ret3
        exact ⟨_, rfl, FIN.out.1.below (below_alloc (Below.refl _ _)), FIN.out.2.below (below_alloc (Below.refl _ _)), below_alloc HI2.out.below⟩
    · have FIN := Lib.hid (HI.out.finish (fun h => hlt2 h.1))
      go_wp2_with fail
      go_ret3
      exact ⟨_, rfl, FIN.out.1, FIN.out.2, HI.out.below⟩

end Go.Proofs.Ytfnfapgmicmegaa
