/- Lemmas on the way to the statement: Redo4, Redo5, Redo6, Redo7, MapT, MapN, MapD. -/
import Derived.Test.YtpaholkmlfaflaaGreatDoorJ2
import Derived.Test.YtpaholkmlfaflaaGreatDoorJ3
import Derived.Deep.LoopGhost
import Derived.Deep.DeepCutAuto
import Derived.Maps.RangeWalk
import Derived.DeepKeys4
namespace Go.Proofs.YtpaholkmlfaflaaGreatDoor
open Go.RowKit Go.Joins
set_option linter.unusedVariables false

/-- A transaction as plain data. -/
abbrev TxD := Int × List ByteArray
/-- What stands from sector a of a stretch on, its first number q; and where it ends. -/
def stF (m : DM) (frm size : Nat) : Nat → Nat → Int → List TxD × Nat
  | 0, a, _ => ([], a)
  | f + 1, a, q =>
    if a < size ∧ txOk m (frm + a) q (size - a) = true then
      ((q, txPages m (frm + a) (txN m (frm + a)).toNat) :: (stF m frm size f (a + 1 + 9 * (txN m (frm + a)).toNat) ((q + 1) % 18446744073709551616)).1, (stF m frm size f (a + 1 + 9 * (txN m (frm + a)).toNat) ((q + 1) % 18446744073709551616)).2)
    else ([], a)
def stM (m : DM) (frm size : Nat) (q : Int) : List TxD × Nat := stF m frm size (size + 1) 0 q
theorem stF_end {m : DM} {frm size f a : Nat} {q : Int} (h : ¬ (a < size ∧ txOk m (frm + a) q (size - a) = true)) : stF m frm size f a q = ([], a) := by
  cases f with
  | zero => rfl
  | succ f => rw [stF, if_neg h]

/-- Two rows of different types never share a block. -/
theorem own_ne {w : World} {b1 b2 n1 n2 s1 s2 : Nat} {e1 e2 : TypeId} {v1 v2 : Value} {x1 x2 : List Value} (h1 : w.ownsRow b1 e1 s1 v1 n1 x1) (h2 : w.ownsRow b2 e2 s2 v2 n2 x2) (hne : e1 ≠ e2) {g : Nat} (h : v1.ownBlock = some g) : v2.ownBlock ≠ some g := by
  intro h'
  rcases h1.2 with ⟨rfl, _⟩ | ⟨g1, cap1, cur1, rfl, _, hh1, _⟩
  · simp [Value.ownBlock] at h
  · rcases h2.2 with ⟨rfl, _⟩ | ⟨g2, cap2, cur2, rfl, _, hh2, _⟩
    · simp [Value.ownBlock] at h'
    · simp [Value.ownBlock] at h h'
      subst h h'
      rw [hh1] at hh2
      injection hh2 with e
      injection e with _ e
      exact hne e

theorem Tryz.infoTxn : (Tryz.prog.info? 106).map (fun i => (i.zero, i.size, i.bytes)) = some (some (.agg #[.int .u64 0, .slice none 0 0]), 2, 32) := by kernel_rfl
def txCells (vs : List (Int × Value)) : List Value := vs.flatMap fun x => [.int .u64 x.1, x.2]
theorem txCells_snoc (vs : List (Int × Value)) (q : Int) (v : Value) : txCells vs ++ [.int .u64 q, v] = txCells (vs ++ [(q, v)]) := by simp [txCells]
/-- Each transaction's pages lie in a row of their own. -/
def TxEach (w : World) (base : Nat) (vs : List (Int × Value)) (ts : List TxD) : Prop :=
  vs.length = ts.length ∧ ∀ (j : Nat) x y, vs[j]? = some x → ts[j]? = some y → x.1 = y.1 ∧ w.ownsRow base 9 1 x.2 y.2.length (y.2.map Value.string)
def TxRow (w : World) (base : Nat) (v : Value) (ts : List TxD) : Prop := ∃ vs, w.ownsRow base 106 2 v ts.length (txCells vs) ∧ TxEach w base vs ts
theorem TxEach.touch {w w' : World} {base : Nat} {vs : List (Int × Value)} {ts : List TxD} {F : List Nat} (h : TxEach w base vs ts) (t : Touch F w w') (hF : ∀ g ∈ F, g < base ∨ ∃ b n s v xs, w.ownsRow b 106 s v n xs ∧ Value.ownBlock v = some g) : TxEach w' base vs ts := by
  refine ⟨h.1, fun j x y hx hy => ?_⟩
  obtain ⟨e, ho⟩ := h.2 j x y hx hy
  refine ⟨e, ownsRow_touch ho t (fun g hg hm => ?_)⟩
  rcases hF g hm with h' | ⟨b, n, s, v, xs, hv, hb⟩
  · have := (ho.lt g hg).1; omega
  · exact own_ne ho hv (by decide) hg hb
theorem TxRow.touch {w w' : World} {base : Nat} {v : Value} {ts : List TxD} {F : List Nat} (h : TxRow w base v ts) (t : Touch F w w') (hF : ∀ g ∈ F, g < base) : TxRow w' base v ts := by
  obtain ⟨vs, h1, h2⟩ := h
  refine ⟨vs, ownsRow_touch h1 t (fun g hg hm => ?_), h2.touch t (fun g hg => .inl (hF g hg))⟩
  have := (h1.lt g hg).1
  have := hF g hm
  omega
theorem TxRow.below {w w' : World} {base : Nat} {v : Value} {ts : List TxD} (h : TxRow w base v ts) (t : Below w.heap.size w w') : TxRow w' base v ts := h.touch (F := []) (Touch.of_below t) (fun _ h => by cases h)
theorem TxRow.nil (w : World) (base : Nat) : TxRow w base (.slice none 0 0) [] := ⟨[], World.ownsRow_nil _ _ _ _, rfl, fun j x y hx => by simp at hx⟩

/-- The five ways in which a stretch is refused. -/
theorem open_bad {w : World} {d : Nat} {F : List Nat} {m : DM} (hd : IsDisk w d F m) (hm : m.sure.length ≤ 65536) (frm size q : Int) (f1 : -9223372036854775808 ≤ frm) (f2 : frm ≤ 9223372036854775807) (s1 : -9223372036854775808 ≤ size) (s2 : size ≤ 9223372036854775807)
    (h : frm < 0 ∨ size < 1 ∨ (m.sure.length : Int) < frm ∨ (m.sure.length : Int) - frm < size) :
    Calls Tryz.prog 57 #[.pointer (some ⟨d, 0, none⟩), .int .i64 frm, .int .i64 size, .int .u64 q] w fun e w' => e = .returned (.tuple #[.pointer none, .slice none 0 0, .int .i64 1]) ∧ w = w' := by
  by_cases h1 : frm < 0
  · go_enter Tryz.func57, Tryz.ntmps57
    go_wp2_with fail
    go_ret3
    exact ⟨rfl, rfl⟩
  · by_cases h2 : size < 1
    · go_enter Tryz.func57, Tryz.ntmps57
      go_wp2_with fail
      go_ret3
      exact ⟨rfl, rfl⟩
    · by_cases h3 : (m.sure.length : Int) < frm
      · go_enter Tryz.func57, Tryz.ntmps57
        go_wp2_with fail
        refine (is_len hd).mono ?_
        rintro e w1 ⟨rfl, rfl⟩
        go_wp2_with fail
        go_ret3
        exact ⟨rfl, rfl⟩
      · have h4 : (m.sure.length : Int) - frm < size := by omega
        go_enter Tryz.func57, Tryz.ntmps57
        go_wp2_with fail
        refine (is_len hd).mono ?_
        rintro e w1 ⟨rfl, rfl⟩
        go_wp2_with fail
        refine (is_len hd).mono ?_
        rintro e w1 ⟨rfl, rfl⟩
        go_wp2_with fail
        go_ret3
        exact ⟨rfl, rfl⟩
theorem open_nil {w : World} (frm size q : Int) : Calls Tryz.prog 57 #[.pointer none, .int .i64 frm, .int .i64 size, .int .u64 q] w fun e w' => e = .returned (.tuple #[.pointer none, .slice none 0 0, .int .i64 1]) ∧ w = w' := by
  go_enter Tryz.func57, Tryz.ntmps57
  go_wp2_with fail
  go_ret3
  exact ⟨rfl, rfl⟩

def OpenPost (w : World) (d : Nat) (m : DM) (frm size : Nat) (q0 : Int) (e : Ending) (w' : World) : Prop :=
  ∃ v, e = .returned (.tuple #[.pointer (some ⟨w.heap.size, 0, none⟩), v, .int .i64 0]) ∧ LogAt w' w.heap.size d ⟨frm, size, (stM m frm size q0).2, (q0 + (stM m frm size q0).1.length) % 18446744073709551616, false⟩ ∧
    TxRow w' (w.heap.size + 1) v (stM m frm size q0).1 ∧ Below w.heap.size w w'
/-- What holds ahead of each round of Open. -/
structure OpenIn (w : World) (d : Nat) (m : DM) (frm size : Nat) (q0 : Int) (f : Nat) (u : Value) (wr : World) (a : Nat) (q : Int) (ts : List TxD) : Prop where
  le : a ≤ size
  log : LogAt wr w.heap.size d ⟨frm, size, a, q, false⟩
  row : TxRow wr (w.heap.size + 1) u ts
  done : ts ++ (stF m frm size f a q).1 = (stM m frm size q0).1
  ends : (stF m frm size f a q).2 = (stM m frm size q0).2
  fuel : size < a + f
  num : q = (q0 + ts.length) % 18446744073709551616
  len : ts.length ≤ a
  below : Below w.heap.size w wr
theorem stF_step {m : DM} {frm size f a n : Nat} {q : Int} (h : a < size) (h2 : txOk m (frm + a) q (size - a) = true) (hn : txN m (frm + a) = (n : Int)) :
    stF m frm size (f + 1) a q = ((q, txPages m (frm + a) n) :: (stF m frm size f (a + 1 + 9 * n) ((q + 1) % 18446744073709551616)).1, (stF m frm size f (a + 1 + 9 * n) ((q + 1) % 18446744073709551616)).2) := by
  rw [stF, if_pos ⟨h, h2⟩, hn, Int.toNat_natCast]
theorem TxEach.snoc {w : World} {base : Nat} {vs : List (Int × Value)} {ts : List TxD} {q : Int} {v : Value} {pg : List ByteArray} (h : TxEach w base vs ts) (hv : w.ownsRow base 9 1 v pg.length (pg.map Value.string)) :
    TxEach w base (vs ++ [(q, v)]) (ts ++ [(q, pg)]) := by
  refine ⟨by simp [h.1], fun j x y hx hy => ?_⟩
  rcases Nat.lt_trichotomy j vs.length with hj | hj | hj
  · rw [List.getElem?_append_left hj] at hx
    rw [List.getElem?_append_left (by rw [← h.1]; exact hj)] at hy
    exact h.2 j x y hx hy
  · subst hj
    rw [List.getElem?_append_right (Nat.le_refl _)] at hx
    rw [h.1, List.getElem?_append_right (Nat.le_refl _)] at hy
    simp at hx hy
    subst hx hy
    exact ⟨rfl, hv⟩
  · rw [List.getElem?_eq_none (by simp; omega)] at hx
    cases hx
theorem OpenIn.next {w w' : World} {d : Nat} {m : DM} {frm size f a n : Nat} {q0 q : Int} {u v : Value} {ts : List TxD} {wr : World} (h : OpenIn w d m frm size q0 (f + 1) u wr a q ts) (hlt : a < size) (hok : txOk m (frm + a) q (size - a) = true) (hn : txN m (frm + a) = (n : Int)) (h3 : 9 * n + 1 ≤ size - a)
    (hlog : LogAt w' w.heap.size d ⟨frm, size, a + 1 + 9 * n, (q + 1) % 18446744073709551616, false⟩) (hrow : TxRow w' (w.heap.size + 1) v (ts ++ [(q, txPages m (frm + a) n)])) (hb : Below w.heap.size w w') :
    OpenIn w d m frm size q0 f v w' (a + 1 + 9 * n) ((q + 1) % 18446744073709551616) (ts ++ [(q, txPages m (frm + a) n)]) := by
  have e := stF_step (f := f) hlt hok hn
  have h1 := h.done
  have h2 := h.ends
  rw [e] at h1 h2
  have h4 := h.fuel
  have h5 := h.num
  have h6 := h.len
  refine ⟨by omega, hlog, hrow, by rw [← h1]; simp, h2, by omega, ?_, by simp; omega, hb⟩
  rw [List.length_append, List.length_singleton, h5]
  push_cast
  omega
theorem txOk_facts {m : DM} {p left : Nat} {next : Int} (h : txOk m p next left = true) : ∃ n : Nat, txN m p = (n : Int) ∧ 1 ≤ n ∧ n ≤ 64 ∧ 9 * n + 1 ≤ left := by
  unfold txOk at h
  rw [Bool.and_eq_true] at h
  obtain ⟨-, -, h1, h2, -, h3⟩ := mark_facts h.1
  exact ⟨(txN m p).toNat, by omega, by omega, by omega, by omega⟩
theorem OpenIn.finish {w wr : World} {d : Nat} {m : DM} {frm size f a : Nat} {q0 q : Int} {u : Value} {ts : List TxD} (h : OpenIn w d m frm size q0 f u wr a q ts) (hend : ¬ (a < size ∧ txOk m (frm + a) q (size - a) = true)) :
    LogAt wr w.heap.size d ⟨frm, size, (stM m frm size q0).2, (q0 + (stM m frm size q0).1.length) % 18446744073709551616, false⟩ ∧ TxRow wr (w.heap.size + 1) u (stM m frm size q0).1 := by
  have e := stF_end (f := f) hend
  have h1 := h.done
  have h2 := h.ends
  rw [e] at h1 h2
  simp only [List.append_nil] at h1
  rw [← h1, ← h2, ← h.num]
  exact ⟨h.log, h.row⟩
theorem OpenIn.move {w wr w' : World} {d : Nat} {m : DM} {frm size f a : Nat} {q0 q : Int} {u : Value} {ts : List TxD} (h : OpenIn w d m frm size q0 f u wr a q ts) (hb : Below wr.heap.size wr w') : OpenIn w d m frm size q0 f u w' a q ts :=
  ⟨h.le, h.log.below hb, h.row.below hb, h.done, h.ends, h.fuel, h.num, h.len, below_step hb h.below⟩

set_option maxRecDepth 100000 in
set_option maxHeartbeats 4000000 in
theorem open_up {w : World} {d k : Nat} {F : List Nat} {m : DM} (hd : IsDisk w d F m) (hup : m.down = false) (hok : DOk m k) (frm size : Nat) (q0 : Int) (hs : 1 ≤ size) (hin : frm + size ≤ m.sure.length) (h0 : 0 ≤ q0) (h1 : q0 ≤ 18446744073709551615) :
    Calls Tryz.prog 57 #[.pointer (some ⟨d, 0, none⟩), .int .i64 frm, .int .i64 size, .int .u64 q0] w (OpenPost w d m frm size q0) := by
  have hfew := hok.few
  have hlen : (m.sure.length : Int) ≤ 65536 := by omega
  have g1 : decide ((frm : Int) < 0) = false := by simp
  have g2 : decide ((size : Int) < 1) = false := by simp; omega
  have g3 : decide (m.sure.length < frm) = false := by simp; omega
  have g4 : decide ((m.sure.length : Int) - (frm : Int) < (size : Int)) = false := by simp; omega
  have HUP := Lib.hid hup
  clear hup
  go_enter Tryz.func57, Tryz.ntmps57
  go_wp2_with fail
  refine (is_len hd).mono ?_
  rintro e w1 ⟨rfl, rfl⟩
  go_wp2_with fail
  refine (is_len hd).mono ?_
  rintro e w1 ⟨rfl, rfl⟩
  clear g1 g2 g3
  go_wp2_with fail
  clear g4
  have hlog : LogAt (w.alloc (.cells #[.pointer (some ⟨d, 0, none⟩), .int .i64 frm, .int .i64 size, .int .i64 0, .int .u64 q0, .bool false] 134)) w.heap.size d ⟨frm, size, 0, q0, false⟩ :=
    World.rowIs_alloc w _ 134 (logF d ⟨frm, size, 0, q0, false⟩) (fun i hi => by
      rcases i with _ | _ | _ | _ | _ | _ | i <;> first | rfl | (simp at hi; omega))
  have HLOG := Lib.hid hlog
  clear hlog
  go_loopg [12] (size + 1) (fun f u wr => ∃ a q ts, OpenIn w d m frm size q0 f u wr a q ts)
  case atStart => exact ⟨0, q0, [], Nat.zero_le _, HLOG.out, TxRow.nil _ _, rfl, rfl, by omega, by simp; omega, Nat.zero_le _, below_alloc (Below.refl _ _)⟩
  case round =>
    clear HLOG
    obtain ⟨a, q, ts, hI⟩ := hrel
    have HI := Lib.hid hI
    obtain ⟨c0, c1, c2, c3, c4, c5⟩ := hI.log.cell
    have hlt := hI.log.lt
    have hale := hI.le
    have hq : q = (q0 + ts.length) % 18446744073709551616 := hI.num
    have hq0 : 0 ≤ q := by omega
    have hq1 : q < 18446744073709551616 := by omega
    clear hI hq c0 c1 c2 c4 c5
    simp only at c3
    by_cases hlt2 : a < size
    · have HRD := Lib.hid (lread_up HI.out.log (hd.below HI.out.below) HUP.out hok (by exact hin) (by exact hlt2))
      go_wp2_with fail
      refine HRD.out.mono ?_
      rintro e w2 (⟨hyes, v, rfl, hrow, hb2⟩ | ⟨hno, rfl, hb2⟩)
      · obtain ⟨f, rfl⟩ : ∃ f, gk = f + 1 := ⟨gk - 1, by have := HI.out.fuel; omega⟩
        obtain ⟨n, hn, n1, n2, n3⟩ := txOk_facts hyes
        simp only at hn n3 hrow
        rw [hn, Int.toNat_natCast] at hrow
        obtain ⟨g, cap, rfl⟩ := ownsRow_form hrow (by omega)
        obtain ⟨vs, hrw, heach⟩ := (HI.out.move hb2).row
        have hlen := HI.out.len
        have hs2 : w.heap.size + 1 ≤ w2.heap.size := by have := hb2.size; omega
        have HY := Lib.hid hyes
        have HN := Lib.hid hn
        have HROW := Lib.hid hrow
        have HRW := Lib.hid hrw
        have HEACH := Lib.hid heach
        have HB2 := Lib.hid hb2
        have HW2 := Lib.hid (below_step hb2 HI.out.below)
        obtain ⟨i0, hi, hz0, hz1, hz2⟩ := info_parts Tryz.infoTxn
        clear hyes hn hrow hrw heach hb2 c3 hlt
        go_wp2_with (at_builtin; refine wpList_append_own _ rfl (.tmp 63) (.tmp 65) 102 rfl (w.heap.size + 1) 106 i0 (.agg #[.int .u64 0, .slice none 0 0]) 2 32 Tryz.underlying102 hi hz0 hz1 hz2 rfl (by decide) _ ts.length (txCells vs) rfl ((HRW.out.alloc _).alloc _) ⟨w2.heap.size + 1, 0, none⟩ 1 1 [.int .u64 q, .slice (some ⟨g, 0, none⟩) n cap] rfl rfl ?c1 ?c2 ?c3 ?c4 ?c5 ?_)
        case c1 =>
          intro j u hu
          have h := cell_pair (w2.alloc (.cells #[.int .u64 q, .slice (some ⟨g, 0, none⟩) n cap] 106)) (.int .u64 q) (.slice (some ⟨g, 0, none⟩) n cap) 106 j u hu
          have e : (w2.alloc (.cells #[.int .u64 q, .slice (some ⟨g, 0, none⟩) n cap] 106)).heap.size = w2.heap.size + 1 := by simp
          rw [e] at h
          exact h
        case c2 => intro u hu; simp at hu; rcases hu with rfl | rfl <;> rfl
        case c3 => unfold maxLen; omega
        case c4 => omega
        case c5 => simp; omega
        intro v' w5 hown' hgrow _
        have e1 : (w2.alloc (.cells #[.int .u64 q, .slice (some ⟨g, 0, none⟩) n cap] 106)).heap.size = w2.heap.size + 1 := by simp
        have HT5 := Lib.hid (Touch.of_grown hgrow)
        have hnot : w.heap.size ∉ (Value.ownBlock u12).toList := fun hm => by
          have := (HRW.out.lt _ (Option.mem_toList.1 hm)).1; omega
        have hnot2 : w2.heap.size ∉ (Value.ownBlock u12).toList := fun hm => by
          have := (HRW.out.lt _ (Option.mem_toList.1 hm)).2; omega
        have hl5 := LogAt.touch ((HI.out.move HB2.out).log.below (below_alloc (below_alloc (Below.refl _ _)))) HT5.out hnot
        have ht5 := rowIs_touch (rowIs_touch (txF_new w2 (.int .u64 q) (.slice (some ⟨g, 0, none⟩) n cap)) (F := []) ((Touch.refl _ _).alloc _) (by simp)) HT5.out hnot2
        have hrowL := ownsRow_le HROW.out (show w.heap.size + 1 ≤ wr.heap.size from HI.out.log.lt)
        have hea : TxEach ((w2.alloc (.cells #[.int .u64 q, .slice (some ⟨g, 0, none⟩) n cap] 106)).alloc (.cells #[.int .u64 q, .slice (some ⟨g, 0, none⟩) n cap] 106)) (w.heap.size + 1) (vs ++ [(q, .slice (some ⟨g, 0, none⟩) n cap)]) (ts ++ [(q, txPages m (frm + a) n)]) := (HEACH.out.snoc (q := q) (pg := txPages m (frm + a) n) (by simpa [txPages, pgRow] using hrowL)).touch (F := []) (Touch.of_below (below_alloc (below_alloc (Below.refl _ _)))) (fun _ h => by cases h)
        have hea5 := hea.touch HT5.out (fun q hq => .inr ⟨_, _, _, _, _, (HRW.out.alloc _).alloc _, Option.mem_toList.1 hq⟩)
        have hb5 : Below w.heap.size w w5 := ((HW2.out.alloc (by omega) _).alloc (by simp; omega) _).grown hgrow (by simp; omega) (fun q hq => by have := (HRW.out.lt q hq).1; omega)
        rw [txCells_snoc] at hown'
        have htx : TxRow w5 (w.heap.size + 1) v' (ts ++ [(q, txPages m (frm + a) n)]) := ⟨_, by rw [List.length_append]; exact hown', hea5⟩
        have HTX := Lib.hid htx
        have HL5 := Lib.hid hl5
        have HB5 := Lib.hid hb5
        obtain ⟨-, -, -, c3, c4, -⟩ := hl5.cell
        have f3 := hl5.frozen 3
        have f4 := hl5.frozen 4
        have k1 := World.rowIs.cell ht5 (i := 1) (by decide)
        simp only [txF] at k1
        simp only at c3 c4
        obtain ⟨n9, hn9⟩ : ∃ n9 : Nat, n9 = 9 * n := ⟨_, rfl⟩
        obtain ⟨n10, hn10⟩ : ∃ n10 : Nat, n10 = 1 + n9 := ⟨_, rfl⟩
        obtain ⟨a', ha'⟩ : ∃ a' : Nat, a' = a + n10 := ⟨_, rfl⟩
        have y1 : IntKind.i64.wrap (9 * (n : Int)) = (n9 : Int) := by rw [IntKind.wrap_i64]; omega
        have y2 : IntKind.i64.wrap (1 + (n9 : Int)) = (n10 : Int) := by rw [IntKind.wrap_i64]; omega
        have y3 : IntKind.i64.wrap ((a : Int) + (n10 : Int)) = (a' : Int) := by rw [IntKind.wrap_i64]; omega
        have ea : a' = a + 1 + 9 * n := by omega
        have EA := Lib.hid ea
        clear hown' hgrow e1 hnot hnot2 hl5 ht5 hrowL hea hea5 hb5 htx hn9 hn10 ha' ea HRW HEACH HROW HT5
        go_wp2_with fail
        refine wp_region_tail (C := fun w' => ∃ n, w' = w5.drewN n) 12 (by kernel_rfl) (by kernel_rfl) ⟨1, rfl⟩ ?_
        simp only [List.take_succ_cons, List.take_zero, List.drop_succ_cons, List.drop_zero]
        repeat (first | go_big_quiet_step (fail) | quiet_step (fail))
        refine wpQuiet_nil ?_
        rintro w6 ⟨nq, rfl⟩
        go_wp2_with fail
        go_roundg f
        case measure => omega
        case rel =>
          refine ⟨_, _, _, HI.out.next hlt2 HY.out HN.out n3 ?_ ?_ ?_⟩
          · refine World.rowIs.congr (World.rowIs.set (World.rowIs.set (show (w5.drewN nq).rowIs w.heap.size 134 6 _ from HL5.out) 3 (.int .i64 (a' : Nat))) 4 (.int .u64 (IntKind.u64.wrap (q + 1)))) (fun t ht => ?_)
            rcases t with _ | _ | _ | _ | _ | _ | t
            · rfl
            · rfl
            · rfl
            · rw [EA.out]; rfl
            · rw [IntKind.wrap_u64]; rfl
            · rfl
            · omega
          · exact HTX.out.touch (F := [w.heap.size]) ((((Touch.refl _ _).drewN nq).setCell (.inl (by simp)) _).setCell (.inl (by simp)) _) (fun g hg => by simp at hg; omega)
          · exact ((below_drewN HB5.out nq).setCell (by simp) _).setCell (by simp) _
      · have HNO := Lib.hid hno
        have HI2 := Lib.hid (HI.out.move hb2)
        have FIN := Lib.hid (HI2.out.finish (fun h => by rw [HNO.out] at h; cases h.2))
        clear hno c3
        go_wp2_with fail
        go_ret3
        exact ⟨_, rfl, FIN.out.1.below (below_alloc (Below.refl _ _)), FIN.out.2.below (below_alloc (Below.refl _ _)), below_alloc HI2.out.below⟩
    · have FIN := Lib.hid (HI.out.finish (fun h => hlt2 h.1))
      go_wp2_with fail
      go_ret3
      exact ⟨_, rfl, FIN.out.1, FIN.out.2, HI.out.below⟩

end Go.Proofs.YtpaholkmlfaflaaGreatDoor

namespace Go.Proofs.YtpaholkmlfaflaaGreatDoor
open Go.RowKit Go.Joins
set_option linter.unusedVariables false

/-- A write, a flush, if nothing has failed so far. -/
def stepW (x : Int × DM) (i : Int) (s : ByteArray) : Int × DM := if x.1 = 0 then wrM x.2 i s else x
def stepF (x : Int × DM) : Int × DM := if x.1 = 0 then flM x.2 else x

/-- What has become of the disk and of the cell with the error since the world w0. -/
def ApSt (w0 : World) (d eb : Nat) (F0 : List Nat) (wr : World) (x : Int × DM) : Prop :=
  ∃ F', IsDisk wr d F' x.2 ∧ wr.cell? ⟨eb, 0, none⟩ = some (.int .i64 x.1) ∧ wr.frozen? ⟨eb, 0, none⟩ = false ∧ Touch (eb :: F0) w0 wr ∧ (∀ b ∈ F', b ∈ F0 ∨ w0.heap.size ≤ b) ∧ eb ∉ F'
theorem ApSt.trans {w0 w1 w2 : World} {d eb : Nat} {F0 F1 : List Nat} {x : Int × DM} (t : Touch (eb :: F0) w0 w1) (hF : ∀ b ∈ F1, b ∈ F0 ∨ w0.heap.size ≤ b) (h : ApSt w1 d eb F1 w2 x) : ApSt w0 d eb F0 w2 x := by
  obtain ⟨F', h1, h2, h3, h4, h5, h6⟩ := h
  refine ⟨F', h1, h2, h3, t.trans h4 (fun b hb => ?_), fun b hb => ?_, h6⟩
  · rcases List.mem_cons.1 hb with rfl | hb
    · exact .inl (by simp)
    · exact (hF b hb).imp (fun h => by simp [h]) id
  · rcases h5 b hb with h | h
    · exact hF b h
    · exact .inr (Nat.le_trans t.size h)

/-- What the closures stand on. -/
structure ApOn (W : World) (d lb eb b0 : Nat) (F : List Nat) (l : LM) (m : DM) (e0 : Int) : Prop where
  disk : IsDisk W d F m
  err : W.cell? ⟨eb, 0, none⟩ = some (.int .i64 e0)
  errf : W.frozen? ⟨eb, 0, none⟩ = false
  log : LogAt W lb d l
  box : W.cell? ⟨b0, 0, none⟩ = some (.pointer (some ⟨lb, 0, none⟩))
  ne : eb ∉ F
  nel : lb ∉ F
  neb : b0 ∉ F
  nel2 : lb ≠ eb
  neb2 : b0 ≠ eb

section
variable {W : World} {d lb eb b0 k : Nat} {F : List Nat} {l : LM} {m : DM} {e0 : Int}

set_option maxRecDepth 100000 in
set_option maxHeartbeats 1000000 in
theorem write_fn (h : ApOn W d lb eb b0 F l m e0) (hk : DOk m k) (hkk : k ≤ 1000000000) {tb sb : Nat} {tt : Int} {s : ByteArray} (h1 : -9223372036854775808 ≤ tt) (h2 : tt ≤ 9223372036854775807) (hs : s.size ≤ 9223372036854775807)
    (ct : W.cell? ⟨tb, 0, none⟩ = some (.int .i64 tt)) (cs : W.cell? ⟨sb, 0, none⟩ = some (.string s)) :
    Calls Tryz.prog 104 #[.pointer (some ⟨b0, 0, none⟩), .pointer (some ⟨tb, 0, none⟩), .pointer (some ⟨sb, 0, none⟩)] W fun e w' => e = .returned (.int .i64 (wrM m tt s).1) ∧ Goes W w' d F (wrM m tt s).2 := by
  have c0 := h.log.cell.1
  have cb := h.box
  have HW := fun q => Lib.hid (is_write (w := W.drewN q) (h.disk.touch (F := []) ((Touch.refl _ _).drewN q) (fun _ _ h => by cases h)) hk hkk tt s h1 h2 hs)
  clear h
  go_enter Tryz.func104, Tryz.ntmps104
  go_wp2_with fail
  refine wp_region_tail (C := fun w' => ∃ n, w' = W.drewN n) 6 (by kernel_rfl) (by kernel_rfl) ⟨1, rfl⟩ ?_
  simp only [List.take_succ_cons, List.take_zero, List.drop_succ_cons, List.drop_zero]
  repeat (first | go_big_quiet_step (fail) | quiet_step (fail))
  refine wpQuiet_nil ?_
  rintro w6 ⟨nq, rfl⟩
  go_wp2_with fail
  refine (HW nq).out.mono ?_
  rintro e w7 ⟨rfl, hg⟩
  go_wp2_with fail
  go_ret
  exact ⟨rfl, hg⟩

/-- What a closure that goes on leaves. -/
theorem ApSt.of_goes {W' W1 : World} {x : Int × DM} (h : ApOn W d lb eb b0 F l m e0) (hg : Goes W W1 d F x.2) (hW : W' = W1.setCell ⟨eb, 0, none⟩ (.int .i64 x.1)) : ApSt W d eb F W' x := by
  obtain ⟨F', h1, h2, h3⟩ := hg
  have hlt := cell_lt h.err
  have hne : eb ∉ F' := fun hm => (h3 eb hm).elim h.ne (fun h' => by omega)
  have hc : W1.cell? ⟨eb, 0, none⟩ = some (.int .i64 e0) := (h2.cell (p := ⟨eb, 0, none⟩) hlt h.ne).trans h.err
  have hf : W1.frozen? ⟨eb, 0, none⟩ = false := (h2.frozen (p := ⟨eb, 0, none⟩) hlt h.ne).trans h.errf
  subst hW
  refine ⟨F', h1.touch (F := [eb]) ((Touch.refl _ _).setCell (.inl (by simp)) _) (fun b hb hm => ?_), World.cell?_setCell_same _ _ _ hc, by rw [World.frozen?_setCell]; exact hf, ?_, h3, hne⟩
  · simp at hm; subst hm; exact hne hb
  · exact (h2.mono (fun b hb => .inl (by simp [hb]))).setCell (.inl (by simp)) _
theorem ApSt.skip (h : ApOn W d lb eb b0 F l m e0) : ApSt W d eb F W (e0, m) := ⟨F, h.disk, h.err, h.errf, Touch.refl _ _, fun b hb => .inl hb, h.ne⟩

set_option maxRecDepth 100000 in
set_option maxHeartbeats 1000000 in
/-- 'then' behind an error: nothing. -/
theorem then_skip (h : ApOn W d lb eb b0 F l m e0) (he : e0 ≠ 0) (f : Value) :
    Calls Tryz.prog 102 #[f, .pointer (some ⟨eb, 0, none⟩)] W fun e w' => e = .returned (.tuple #[]) ∧ W = w' := by
  have c := h.err
  have t : (e0 == 0) = false := by simpa using he
  clear he h
  go_enter Tryz.func102, Tryz.ntmps102
  go_wp2_with fail
  go_end0
  exact ⟨rfl, rfl⟩

set_option maxRecDepth 100000 in
set_option maxHeartbeats 1000000 in
theorem then_write (h : ApOn W d lb eb b0 F l m e0) (hk : DOk m k) (hkk : k ≤ 1000000000) {tb sb : Nat} {tt : Int} {s : ByteArray} (h1 : -9223372036854775808 ≤ tt) (h2 : tt ≤ 9223372036854775807) (hs : s.size ≤ 9223372036854775807)
    (ct : W.cell? ⟨tb, 0, none⟩ = some (.int .i64 tt)) (cs : W.cell? ⟨sb, 0, none⟩ = some (.string s)) :
    Calls Tryz.prog 102 #[.func (Fn.func 104) #[] #[.pointer (some ⟨b0, 0, none⟩), .pointer (some ⟨tb, 0, none⟩), .pointer (some ⟨sb, 0, none⟩)], .pointer (some ⟨eb, 0, none⟩)] W
      fun e w' => e = .returned (.tuple #[]) ∧ ApSt W d eb F w' (stepW (e0, m) tt s) := by
  by_cases he : e0 = 0
  · have HW := Lib.hid (write_fn h hk hkk h1 h2 hs ct cs)
    have hst : stepW (e0, m) tt s = wrM m tt s := by unfold stepW; rw [if_pos he]
    rw [hst]
    subst he
    have c := h.err
    have cf := h.errf
    have hlt := cell_lt h.err
    go_enter Tryz.func102, Tryz.ntmps102
    go_wp2_with fail
    refine HW.out.mono ?_
    rintro e w7 ⟨rfl, hg⟩
    have HG := Lib.hid hg
    have c7 : w7.cell? ⟨eb, 0, none⟩ = some (.int .i64 0) := by
      obtain ⟨F', _, t, _⟩ := hg
      exact (t.cell (p := ⟨eb, 0, none⟩) hlt h.ne).trans c
    have f7 : w7.frozen? ⟨eb, 0, none⟩ = false := by
      obtain ⟨F', _, t, _⟩ := hg
      exact (t.frozen (p := ⟨eb, 0, none⟩) hlt h.ne).trans cf
    clear hg c cf
    go_wp2_with fail
    go_end0
    exact ⟨rfl, ApSt.of_goes h HG.out rfl⟩
  · have hst : stepW (e0, m) tt s = (e0, m) := by unfold stepW; rw [if_neg he]
    rw [hst]
    exact (then_skip h he _).mono fun e w' ⟨h1, h2⟩ => ⟨h1, by rw [← h2]; exact ApSt.skip h⟩

set_option maxRecDepth 100000 in
set_option maxHeartbeats 1000000 in
theorem then_flush (h : ApOn W d lb eb b0 F l m e0) (hk : DOk m k) (hkk : k ≤ 1000000000) :
    Calls Tryz.prog 102 #[.func (Fn.func 49) #[.pointer (some ⟨d, 0, none⟩)] #[], .pointer (some ⟨eb, 0, none⟩)] W
      fun e w' => e = .returned (.tuple #[]) ∧ ApSt W d eb F w' (stepF (e0, m)) := by
  by_cases he : e0 = 0
  · have HW := Lib.hid (is_flush h.disk hk hkk)
    have hst : stepF (e0, m) = flM m := by unfold stepF; rw [if_pos he]
    rw [hst]
    subst he
    have c := h.err
    have cf := h.errf
    have hlt := cell_lt h.err
    go_enter Tryz.func102, Tryz.ntmps102
    go_wp2_with fail
    refine HW.out.mono ?_
    rintro e w7 ⟨rfl, hg⟩
    have HG := Lib.hid hg
    have c7 : w7.cell? ⟨eb, 0, none⟩ = some (.int .i64 0) := by
      obtain ⟨F', _, t, _⟩ := hg
      exact (t.cell (p := ⟨eb, 0, none⟩) hlt h.ne).trans c
    have f7 : w7.frozen? ⟨eb, 0, none⟩ = false := by
      obtain ⟨F', _, t, _⟩ := hg
      exact (t.frozen (p := ⟨eb, 0, none⟩) hlt h.ne).trans cf
    clear hg c cf
    go_wp2_with fail
    go_end0
    exact ⟨rfl, ApSt.of_goes h HG.out rfl⟩
  · have hst : stepF (e0, m) = (e0, m) := by unfold stepF; rw [if_neg he]
    rw [hst]
    exact (then_skip h he _).mono fun e w' ⟨h1, h2⟩ => ⟨h1, by rw [← h2]; exact ApSt.skip h⟩
set_option maxRecDepth 100000 in
set_option maxHeartbeats 2000000 in
theorem mark_fn (h : ApOn W d lb eb b0 F l m e0) (hk : DOk m k) (hkk : k ≤ 1000000000) {b1 n c : Nat} {a : Option Addr} (c1 : W.cell? ⟨b1, 0, none⟩ = some (.slice a n c)) (hn : n ≤ 64) (hfa : l.frm + l.at_ ≤ 1000000) (hn0 : 0 ≤ l.next) :
    Calls Tryz.prog 105 #[.pointer (some ⟨b0, 0, none⟩), .pointer (some ⟨b1, 0, none⟩)] W fun e w' => e = .returned (.int .i64 (wrM m ((l.frm + l.at_ : Nat) : Int) (mkStr l.next (textM n))).1) ∧ Goes W w' d F (wrM m ((l.frm + l.at_ : Nat) : Int) (mkStr l.next (textM n))).2 := by
  have hlt := h.log.lt
  have hltb := cell_lt h.box
  have hlt1 := cell_lt c1
  obtain ⟨d0, d1, d2, d3, d4, d5⟩ := h.log.cell
  have x4 : ∀ x : Later W, x.1.cell? ⟨lb, 4, none⟩ = some (.int .u64 l.next) := fun x => (x.cell hlt).trans d4
  have xb : ∀ x : Later W, x.1.cell? ⟨b0, 0, none⟩ = some (.pointer (some ⟨lb, 0, none⟩)) := fun x => (x.cell hltb).trans h.box
  have xc : ∀ x : Later W, x.1.cell? ⟨b1, 0, none⟩ = some (.slice a n c) := fun x => (x.cell hlt1).trans c1
  have HTX := Lib.hid (fun W => text_any (n : Int) W (by omega) (by omega))
  have HMK := Lib.hid (fun W => markPut_any l.next (textM n) W hn0 (by rw [textM_size]; omega))
  obtain ⟨p, hp⟩ : ∃ p : Nat, p = l.frm + l.at_ := ⟨_, rfl⟩
  have hwr : IntKind.i64.wrap ((l.frm : Int) + (l.at_ : Int)) = (p : Int) := by rw [IntKind.wrap_i64]; omega
  rw [← hp]
  have hms : (mkStr l.next (textM n)).size = 64 := mkStr_size _ _ (by rw [textM_size]; omega)
  have HH := Lib.hid h
  have hp2 : p ≤ 1000000 := by omega
  clear h d0 d1 d2 d3 d4 d5 c1 hp
  go_enter Tryz.func105, Tryz.ntmps105
  go_wp2_with fail
  refine wp_region_later (by kernel_rfl) (by kernel_rfl) ?_
  repeat (first | go_big_quiet_step ((first | (go_at_call 106; refine Later.call (HTX.out _)) | (go_at_call 51; refine Later.call (HMK.out _)))) | quiet_step ((first | (go_at_call 106; refine Later.call (HTX.out _)) | (go_at_call 51; refine Later.call (HMK.out _)))))
  refine wpQuiet_nil ?_
  rintro w3 ⟨y3, hw3⟩
  have hb3 : Below W.heap.size W w3 := by rw [hw3]; exact y3.2
  clear hw3 x4 xb xc
  have hD3 := HH.out.disk.below hb3
  obtain ⟨d0, d1, d2, d3, d4, d5⟩ := (HH.out.log.below hb3).cell
  have cb := (hb3.cell (p := ⟨b0, 0, none⟩) hltb).trans HH.out.box
  have HW := fun q => Lib.hid (is_write (w := w3.drewN q) (hD3.touch (F := []) ((Touch.refl _ _).drewN q) (fun _ _ h => by cases h)) hk hkk (p : Int) (mkStr l.next (textM n)) (by omega) (by omega) (by omega))
  have HB3 := Lib.hid hb3
  clear hb3 hD3 d2 d4 d5
  go_wp2_with fail
  refine wp_region_tail (C := fun w' => ∃ n, w' = w3.drewN n) 14 (by kernel_rfl) (by kernel_rfl) ⟨1, rfl⟩ ?_
  simp only [List.take_succ_cons, List.take_zero, List.drop_succ_cons, List.drop_zero]
  repeat (first | go_big_quiet_step (fail) | quiet_step (fail))
  refine wpQuiet_nil ?_
  rintro w6 ⟨nq, rfl⟩
  go_wp2_with fail
  refine (HW nq).out.mono ?_
  rintro e w7 ⟨rfl, hg⟩
  go_wp2_with fail
  go_ret
  exact ⟨rfl, Goes.after ((Touch.of_below HB3.out).drewN nq) hg⟩

set_option maxRecDepth 100000 in
set_option maxHeartbeats 1000000 in
theorem then_mark (h : ApOn W d lb eb b0 F l m e0) (hk : DOk m k) (hkk : k ≤ 1000000000) {b1 n c : Nat} {a : Option Addr} (c1 : W.cell? ⟨b1, 0, none⟩ = some (.slice a n c)) (hn : n ≤ 64) (hfa : l.frm + l.at_ ≤ 1000000) (hn0 : 0 ≤ l.next) :
    Calls Tryz.prog 102 #[.func (Fn.func 105) #[] #[.pointer (some ⟨b0, 0, none⟩), .pointer (some ⟨b1, 0, none⟩)], .pointer (some ⟨eb, 0, none⟩)] W
      fun e w' => e = .returned (.tuple #[]) ∧ ApSt W d eb F w' (stepW (e0, m) ((l.frm + l.at_ : Nat) : Int) (mkStr l.next (textM n))) := by
  by_cases he : e0 = 0
  · have HW := Lib.hid (mark_fn h hk hkk c1 hn hfa hn0)
    have hst : stepW (e0, m) ((l.frm + l.at_ : Nat) : Int) (mkStr l.next (textM n)) = wrM m ((l.frm + l.at_ : Nat) : Int) (mkStr l.next (textM n)) := by unfold stepW; rw [if_pos he]
    rw [hst]
    subst he
    have c := h.err
    have cf := h.errf
    have hlt := cell_lt h.err
    go_enter Tryz.func102, Tryz.ntmps102
    go_wp2_with fail
    refine HW.out.mono ?_
    rintro e w7 ⟨rfl, hg⟩
    have HG := Lib.hid hg
    have c7 : w7.cell? ⟨eb, 0, none⟩ = some (.int .i64 0) := by
      obtain ⟨F', _, t, _⟩ := hg
      exact (t.cell (p := ⟨eb, 0, none⟩) hlt h.ne).trans c
    have f7 : w7.frozen? ⟨eb, 0, none⟩ = false := by
      obtain ⟨F', _, t, _⟩ := hg
      exact (t.frozen (p := ⟨eb, 0, none⟩) hlt h.ne).trans cf
    clear hg c cf
    go_wp2_with fail
    go_end0
    exact ⟨rfl, ApSt.of_goes h HG.out rfl⟩
  · have hst : stepW (e0, m) ((l.frm + l.at_ : Nat) : Int) (mkStr l.next (textM n)) = (e0, m) := by unfold stepW; rw [if_neg he]
    rw [hst]
    exact (then_skip h he _).mono fun e w' ⟨h1, h2⟩ => ⟨h1, by rw [← h2]; exact ApSt.skip h⟩
end
end Go.Proofs.YtpaholkmlfaflaaGreatDoor

namespace Go.Proofs.YtpaholkmlfaflaaGreatDoor
open Go.RowKit Go.Joins
set_option linter.unusedVariables false

/-- The disk behind t sectors of pages. -/
def wrN (base : Nat) (pages : List ByteArray) (m : DM) : Nat → Int × DM
  | 0 => (0, m)
  | t + 1 => stepW (wrN base pages m t) ((base + t : Nat) : Int) (secP (pages.getD (t / 9) ⟨#[]⟩) (t % 9))
theorem wrN_step (base : Nat) (pages : List ByteArray) (m : DM) (i k : Nat) (p : ByteArray) (hp : pages[i]? = some p) (hk : k < 9) :
    wrN base pages m (9 * i + (k + 1)) = stepW (wrN base pages m (9 * i + k)) ((base + (9 * i + k) : Nat) : Int) (secP p k) := by
  rw [show 9 * i + (k + 1) = (9 * i + k) + 1 by omega, wrN, show (9 * i + k) / 9 = i by omega, show (9 * i + k) % 9 = k by omega]
  simp [List.getD, hp]
theorem DOk.stepW {x : Int × DM} {k : Nat} (h : DOk x.2 k) (i : Int) (s : ByteArray) : DOk (stepW x i s).2 (k + 1) := by
  unfold Proofs.YtpaholkmlfaflaaGreatDoor.stepW
  split
  · exact h.write i s
  · exact h.mono (by omega)
theorem DOk.stepF {x : Int × DM} {k : Nat} (h : DOk x.2 k) : DOk (stepF x).2 k := by
  unfold Proofs.YtpaholkmlfaflaaGreatDoor.stepF
  split
  · exact h.flush
  · exact h
theorem DOk.wrN {m : DM} {k : Nat} (h : DOk m k) (base : Nat) (pages : List ByteArray) : ∀ t, DOk (wrN base pages m t).2 (k + t)
  | 0 => h
  | t + 1 => (DOk.wrN h base pages t).stepW _ _

/-- What Append answers and leaves. -/
def apX (l : LM) (m : DM) (pages : List ByteArray) : Int × DM :=
  stepF (stepW (stepF (wrN (l.frm + l.at_ + 1) pages m (9 * pages.length))) ((l.frm + l.at_ : Nat) : Int) (mkStr l.next (textM pages.length)))
def apM (l : LM) (m : DM) (pages : List ByteArray) : Int × LM × DM :=
  if (apX l m pages).1 ≠ 0 then ((apX l m pages).1, { l with dead := true }, (apX l m pages).2)
  else (0, { l with at_ := l.at_ + 1 + 9 * pages.length, next := (l.next + 1) % 18446744073709551616 }, (apX l m pages).2)

/-- What the call stands on, ahead of its writes. -/
structure ApB (w1 : World) (d lb eb b0 b1 : Nat) (F : List Nat) (l : LM) (a : Option Addr) (n c : Nat) (pages : List ByteArray) : Prop where
  log : LogAt w1 lb d l
  box : w1.cell? ⟨b0, 0, none⟩ = some (.pointer (some ⟨lb, 0, none⟩))
  sl : w1.cell? ⟨b1, 0, none⟩ = some (.slice a n c)
  pg : ∃ b off, a = some ⟨b, off, none⟩ ∧ (∀ (j : Nat) x, pages[j]? = some x → w1.cell? ⟨b, off + j, none⟩ = some (.string x)) ∧ b ∉ eb :: F
  e1 : lb ∉ eb :: F
  e2 : b0 ∉ eb :: F
  e3 : b1 ∉ eb :: F
  e4 : eb ∉ F
  lt : eb < w1.heap.size
variable {w1 w2 wr : World} {d lb eb b0 b1 n c k : Nat} {F F2 : List Nat} {l : LM} {a : Option Addr} {pages : List ByteArray} {x : Int × DM}
theorem ApB.move (B : ApB w1 d lb eb b0 b1 F l a n c pages) (hpos : 0 < pages.length) (t : Touch (eb :: F) w1 w2) (hF : ∀ b ∈ F2, b ∈ F ∨ w1.heap.size ≤ b) (he : eb ∉ F2) : ApB w2 d lb eb b0 b1 F2 l a n c pages := by
  obtain ⟨b, off, ha, hc, hb⟩ := B.pg
  have l1 := B.log.lt
  have l2 := cell_lt B.box
  have l3 := cell_lt B.sl
  have l4 : b < w1.heap.size := cell_lt (hc 0 _ (List.getElem?_eq_getElem hpos))
  have no : ∀ q, q < w1.heap.size → q ∉ eb :: F → q ∉ eb :: F2 := fun q hq h1 h2 => by
    rcases List.mem_cons.1 h2 with rfl | h2
    · exact h1 (by simp)
    · rcases hF q h2 with h | h
      · exact h1 (by simp [h])
      · omega
  exact ⟨B.log.touch t B.e1, (t.cell (p := ⟨b0, 0, none⟩) l2 B.e2).trans B.box, (t.cell (p := ⟨b1, 0, none⟩) l3 B.e3).trans B.sl,
    ⟨b, off, ha, fun j x hx => (t.cell (p := ⟨b, off + j, none⟩) l4 hb).trans (hc j x hx), no b l4 hb⟩, no _ l1 B.e1, no _ l2 B.e2, no _ l3 B.e3, he, Nat.lt_of_lt_of_le B.lt t.size⟩
/-- At any time since. -/
theorem ApB.on (B : ApB w1 d lb eb b0 b1 F l a n c pages) (hpos : 0 < pages.length) (h : ApSt w1 d eb F wr x) : ∃ F', ApOn wr d lb eb b0 F' l x.2 x.1 ∧ ApB wr d lb eb b0 b1 F' l a n c pages ∧ Touch (eb :: F) w1 wr ∧ ∀ b ∈ F', b ∈ F ∨ w1.heap.size ≤ b := by
  obtain ⟨F', h1, h2, h3, h4, h5, h6⟩ := h
  have B' := B.move hpos h4 h5 h6
  have n1 : lb ∉ F' ∧ lb ≠ eb := ⟨fun h => B'.e1 (by simp [h]), fun h => B'.e1 (by simp [h])⟩
  have n2 : b0 ∉ F' ∧ b0 ≠ eb := ⟨fun h => B'.e2 (by simp [h]), fun h => B'.e2 (by simp [h])⟩
  exact ⟨F', ⟨h1, h2, h3, B'.log, B'.box, h6, n1.1, n2.1, n1.2, n2.2⟩, B', h4, h5⟩
theorem ApOn.below {e0 : Int} {m : DM} (h : ApOn w1 d lb eb b0 F l m e0) (hb : Below w1.heap.size w1 w2) : ApOn w2 d lb eb b0 F l m e0 :=
  ⟨h.disk.below hb, (hb.cell (p := ⟨eb, 0, none⟩) (cell_lt h.err)).trans h.err, (hb.frozen (p := ⟨eb, 0, none⟩) (cell_lt h.err)).trans h.errf, h.log.below hb, (hb.cell (p := ⟨b0, 0, none⟩) (cell_lt h.box)).trans h.box, h.ne, h.nel, h.neb, h.nel2, h.neb2⟩

set_option maxRecDepth 100000 in
/-- Refused without a look. -/
theorem append_nil (w : World) (v : Value) (hv : ∃ a n c, v = .slice a n c) : Calls Tryz.prog 77 #[.pointer none, v] w fun e w' => e = .returned (.int .i64 1) ∧ Below w.heap.size w w' := by
  obtain ⟨a, n, c, rfl⟩ := hv
  go_enter Tryz.func77, Tryz.ntmps77
  go_wp2_with fail
  go_ret
  exact ⟨rfl, below_alloc (below_alloc (Below.refl _ _))⟩
set_option maxRecDepth 100000 in
theorem append_none (w : World) (lb : Nat) (a : Option Addr) (c : Nat) : Calls Tryz.prog 77 #[.pointer (some ⟨lb, 0, none⟩), .slice a 0 c] w fun e w' => e = .returned (.int .i64 1) ∧ Below w.heap.size w w' := by
  go_enter Tryz.func77, Tryz.ntmps77
  go_wp2_with fail
  go_ret
  exact ⟨rfl, below_alloc (below_alloc (Below.refl _ _))⟩

/-- Where the strings lie. -/
def PgAt (w : World) (a : Option Addr) (pages : List ByteArray) (B : List Nat) : Prop := ∃ b off, a = some ⟨b, off, none⟩ ∧ (∀ (j : Nat) x, pages[j]? = some x → w.cell? ⟨b, off + j, none⟩ = some (.string x)) ∧ b ∉ B

set_option maxRecDepth 100000 in
set_option maxHeartbeats 2000000 in
/-- A page of another length. -/
theorem append_len {w : World} {m : DM} (hne : 0 < pages.length) (hn : pages.length ≤ 1000000000) (hpg : PgAt w a pages []) (hbad : ∃ p ∈ pages, p.size ≠ 512) :
    Calls Tryz.prog 77 #[.pointer (some ⟨lb, 0, none⟩), .slice a pages.length c] w fun e w' => e = .returned (.int .i64 1) ∧ Below w.heap.size w w' := by
  obtain ⟨b, off, rfl, hc, -⟩ := hpg
  have hlt0 : b < w.heap.size := cell_lt (hc 0 _ (List.getElem?_eq_getElem hne))
  have hz : ((pages.length : Int) == 0) = false := by rw [beq_eq_false_iff_ne]; omega
  have hz2 : (pages.length == 0) = false := by rw [beq_eq_false_iff_ne]; omega
  obtain ⟨n, hnn⟩ : ∃ n, n = pages.length := ⟨_, rfl⟩
  rw [← hnn] at hn hz hz2 hne ⊢
  have HN := Lib.hid hnn
  have HC := Lib.hid hc
  have HBAD := Lib.hid hbad
  clear hnn hc hbad
  go_enter Tryz.func77, Tryz.ntmps77
  go_wp2_with fail
  go_loop [24] (fun v => ∃ j : Nat, j ≤ n ∧ v = .int .i64 j ∧ ∀ i x, i < j → pages[i]? = some x → x.size = 512) (fun v => n - (intOf v).toNat)
  case atStart => exact ⟨0, Nat.zero_le _, rfl, fun i x h => absurd h (by omega)⟩
  case round =>
    obtain ⟨j, hj, rfl, hall⟩ := hrel
    have HA := Lib.hid hall
    clear hall
    by_cases hlt : j < n
    · obtain ⟨p, hp⟩ : ∃ p, pages[j]? = some p := ⟨pages[j]'(by rw [← HN.out]; exact hlt), List.getElem?_eq_getElem _⟩
      have hcell : w.cell? ⟨b, off + j, none⟩ = some (.string p) := HC.out j p hp
      have HP := Lib.hid hp
      clear hp
      by_cases hs : p.size = 512
      · have t : ((p.size : Int) != 512) = false := by rw [hs]; rfl
        have HS := Lib.hid hs
        clear hs
        go_wp2
        go_round
        case rel =>
          refine ⟨j + 1, by omega, by go_num, fun i x hi hx => ?_⟩
          rcases Nat.lt_or_ge i j with h | h
          · exact HA.out i x h hx
          · obtain rfl : i = j := by omega
            rw [HP.out] at hx; cases hx; exact HS.out
        case measure => simp [intOf]; omega
      · have t : ((p.size : Int) != 512) = true := by simp; omega
        clear hs
        go_wp2
        go_ret
        exact ⟨rfl, below_alloc (below_alloc (Below.refl _ _))⟩
    · exfalso
      obtain ⟨p, hp, hs⟩ := HBAD.out
      obtain ⟨i, hi⟩ := List.getElem?_of_mem hp
      have : i < pages.length := (List.getElem?_eq_some_iff.1 hi).1
      exact hs (HA.out i p (by rw [← HN.out] at this; omega) hi)

end Go.Proofs.YtpaholkmlfaflaaGreatDoor

namespace Go.Proofs.YtpaholkmlfaflaaGreatDoor
open Go.RowKit Go.Joins
set_option linter.unusedVariables false

/-- What Append answers, and leaves. -/
def ApPost (w : World) (d lb : Nat) (F : List Nat) (r : Int × LM × DM) (e : Ending) (w' : World) : Prop :=
  e = .returned (.int .i64 r.1) ∧ LogAt w' lb d r.2.1 ∧ (∃ F', IsDisk w' d F' r.2.2 ∧ (∀ b ∈ F', b ∈ F ∨ w.heap.size ≤ b) ∧ lb ∉ F') ∧ Touch (lb :: F) w w'
theorem ApPost.same {w w' : World} {d lb : Nat} {F : List Nat} {l : LM} {m : DM} {e : Int} (hl : LogAt w lb d l) (hd : IsDisk w d F m) (hn : lb ∉ F) (hb : Below w.heap.size w w') : ApPost w d lb F (e, l, m) (.returned (.int .i64 e)) w' :=
  ⟨rfl, hl.below hb, ⟨F, hd.below hb, fun b h => .inl h, hn⟩, Touch.of_below hb⟩

/-- The refusals of a call whose pages are right. -/
def apE (l : LM) (n : Nat) : Int := if l.dead then 17 else if 64 < n then 10 else if l.size < l.at_ + 1 + 9 * n then 9 else 0

def apR (l : LM) (m : DM) (pages : List ByteArray) (n : Nat) : Int × LM × DM := if apE l n = 0 then apM l m pages else (apE l n, l, m)
theorem apR_no {l : LM} {m : DM} {pages : List ByteArray} {n : Nat} {e : Int} (h : apE l n = e) (he : e ≠ 0) : apR l m pages n = (e, l, m) := by unfold apR; rw [if_neg (by rw [h]; exact he), h]
theorem apR_yes {l : LM} {m : DM} {pages : List ByteArray} {n : Nat} (h : apE l n = 0) : apR l m pages n = apM l m pages := by unfold apR; rw [if_pos h]
variable {w : World} {d lb c k : Nat} {F : List Nat} {l : LM} {m : DM} {a : Option Addr} {pages : List ByteArray}

set_option maxRecDepth 100000 in
set_option maxHeartbeats 8000000 in
theorem append_right (hl : LogAt w lb d l) (hd : IsDisk w d F m) (hk : DOk m k) (hkk : k ≤ 100000) (hF : lb ∉ F) (hin : l.frm + l.size ≤ 100000) (hat : l.at_ ≤ l.size) (h0 : 0 ≤ l.next) (h1 : l.next ≤ 18446744073709551615)
    (hne : 0 < pages.length) (hn : pages.length ≤ 1000000000) (hpg : PgAt w a pages (lb :: F)) (hall : ∀ p ∈ pages, p.size = 512) :
    Calls Tryz.prog 77 #[.pointer (some ⟨lb, 0, none⟩), .slice a pages.length c] w (ApPost w d lb F (apR l m pages pages.length)) := by
  obtain ⟨b, off, rfl, hc, hbn⟩ := hpg
  have hlt0 : b < w.heap.size := cell_lt (hc 0 _ (List.getElem?_eq_getElem hne))
  have hz : ((pages.length : Int) == 0) = false := by rw [beq_eq_false_iff_ne]; omega
  have hz2 : (pages.length == 0) = false := by rw [beq_eq_false_iff_ne]; omega
  have hpos := hne
  obtain ⟨n, hnn⟩ : ∃ n, n = pages.length := ⟨_, rfl⟩
  have hne' : 0 < n := by omega
  have hn' : n ≤ 1000000000 := by omega
  rw [← hnn] at hz hz2 ⊢
  clear hne hn
  have HN := Lib.hid hnn
  have HC := Lib.hid hc
  have HALL := Lib.hid hall
  obtain ⟨c0, c1, c2, c3, c4, c5⟩ := hl.cell
  have hlt := hl.lt
  have SAME := fun (e : Int) (W : World) (hb : Below w.heap.size w W) => Lib.hid (ApPost.same (e := e) hl hd hF hb)
  have HL := Lib.hid hl
  have HPOS := Lib.hid hpos
  clear hnn hc hall hl hpos
  go_enter Tryz.func77, Tryz.ntmps77
  go_wp2_with fail
  go_loop [24] (fun v => ∃ j : Nat, j ≤ n ∧ v = .int .i64 j) (fun v => n - (intOf v).toNat)
  case atStart => exact ⟨0, Nat.zero_le _, rfl⟩
  case round =>
    obtain ⟨j, hj, rfl⟩ := hrel
    by_cases hltj : j < n
    · obtain ⟨p, hp⟩ : ∃ p, pages[j]? = some p := ⟨pages[j]'(by rw [← HN.out]; exact hltj), List.getElem?_eq_getElem _⟩
      have hcell : w.cell? ⟨b, off + j, none⟩ = some (.string p) := HC.out j p hp
      have t : ((p.size : Int) != 512) = false := by rw [HALL.out p (List.mem_of_getElem? hp)]; rfl
      clear hp
      go_wp2
      go_round
      case rel => exact ⟨j + 1, by omega, by go_num⟩
      case measure => simp [intOf]; omega
    · obtain rfl : j = n := by omega
      have hbx : Below w.heap.size w ((w.alloc (.cells #[.pointer (some ⟨lb, 0, none⟩)] 96)).alloc (.cells #[.slice (some ⟨b, off, none⟩) j c] 33)) := below_alloc (below_alloc (Below.refl _ _))
      have HBX := Lib.hid hbx
      clear hbx
      cases hdead : l.dead
      · have DE := Lib.hid hdead
        rw [hdead] at c5
        clear hdead
        by_cases h64 : 64 < j
        · have e0 : apE l j = 10 := by unfold apE; rw [DE.out]; simp; omega
          have E0 := Lib.hid e0
          clear e0
          go_wp2
          go_ret
          rw [apR_no E0.out (by decide)]
          exact (SAME 10 _ HBX.out).out
        · obtain ⟨j9, hj9⟩ : ∃ j9 : Nat, j9 = 9 * j := ⟨_, rfl⟩
          obtain ⟨j10, hj10⟩ : ∃ j10 : Nat, j10 = 1 + j9 := ⟨_, rfl⟩
          obtain ⟨left, hleft⟩ : ∃ left : Nat, left = l.size - l.at_ := ⟨_, rfl⟩
          have y1 : IntKind.i64.wrap (9 * (j : Int)) = (j9 : Int) := by rw [IntKind.wrap_i64]; omega
          have y2 : IntKind.i64.wrap (1 + (j9 : Int)) = (j10 : Int) := by rw [IntKind.wrap_i64]; omega
          have y3 : IntKind.i64.wrap ((l.size : Int) - (l.at_ : Int)) = (left : Int) := by rw [IntKind.wrap_i64]; omega
          by_cases hroom : left < j10
          · have e0 : apE l j = 9 := by unfold apE; rw [DE.out]; simp; omega
            have E0 := Lib.hid e0
            clear e0 hj9 hj10 hleft
            go_wp2
            go_quiet (fail)
            go_wp2
            go_ret
            rw [apR_no E0.out (by decide)]
            exact (SAME 9 _ (below_drewN HBX.out _)).out
          · have e0 : apE l j = 0 := by unfold apE; rw [DE.out]; simp; omega
            have E0 := Lib.hid e0
            have hr2 : l.at_ + 1 + 9 * j ≤ l.size := by omega
            have hfl : decide ((left : Int) < (j10 : Int)) = false := by simp; omega
            have hfl2 : decide (left < j10) = false := by simp; omega
            have HFL2 := Lib.hid hfl2
            clear hfl2
            have hFlt := hd.lt
            have hnew : ∀ q, w.heap.size ≤ q → q ∉ F := fun q hq hm => by have := hFlt q hm; omega
            have HNEW := Lib.hid hnew
            clear e0 hj9 hj10 hleft hFlt hnew hroom
            go_upto_region 13 with (fail)
            go_cut [41] (fun s wx => s = .bool false ∧ Below w.heap.size w wx ∧ wx.cell? ⟨w.heap.size, 0, none⟩ = some (.pointer (some ⟨lb, 0, none⟩)) ∧ wx.cell? ⟨w.heap.size + 1, 0, none⟩ = some (.slice (some ⟨b, off, none⟩) j c))
            case first =>
              go_quiet (fail)
              go_wp2_with fail
              go_meet
              refine ⟨by rw [HFL2.out], below_drewN HBX.out _, ?_, ?_⟩
              · simp
              · simp
            case rest =>
            obtain ⟨rfl, hbw, k0, k1⟩ := hcut
            have HBW := Lib.hid hbw
            have hl' := HL.out.below hbw
            obtain ⟨c0, c1, c2, c3, c4, c5⟩ := hl'.cell
            have hltx := hl'.lt
            have hk0 := cell_lt k0
            have hk1 := cell_lt k1
            obtain ⟨p, hp⟩ : ∃ p : Nat, p = l.frm + l.at_ := ⟨_, rfl⟩
            obtain ⟨p1, hp1⟩ : ∃ p1 : Nat, p1 = p + 1 := ⟨_, rfl⟩
            have z1 : IntKind.i64.wrap ((l.frm : Int) + (l.at_ : Int)) = (p : Int) := by rw [IntKind.wrap_i64]; omega
            have z2 : IntKind.i64.wrap ((p : Int) + 1) = (p1 : Int) := by rw [IntKind.wrap_i64]; omega
            have HP := Lib.hid hp
            have HP1 := Lib.hid hp1
            clear hp hp1 y1 y2 y3 hfl hbw hl'
            have hwz : w.heap.size + 1 < wc.heap.size := hk1
            go_upto_region 17 with (fail)
            go_quiet (fail)
            obtain ⟨w1, hw1⟩ : ∃ w1, w1 = (wc.alloc (.cells #[.int .i64 0] 24)).drewN nq := ⟨_, rfl⟩
            have hb1 : Below wc.heap.size wc w1 := by rw [hw1]; exact below_drewN (below_alloc (Below.refl _ _)) _
            have he1 : w1.cell? ⟨wc.heap.size, 0, none⟩ = some (.int .i64 0) := by rw [hw1]; exact cell_new _ _ _
            have hf1 : w1.frozen? ⟨wc.heap.size, 0, none⟩ = false := by rw [hw1]; simp
            have hne1 : ∀ q, q < wc.heap.size → q ∉ F → q ∉ wc.heap.size :: F := fun q hq hm h => by
              rcases List.mem_cons.1 h with h | h
              · omega
              · exact hm h
            have hB : ApB w1 d lb wc.heap.size w.heap.size (w.heap.size + 1) F l (some ⟨b, off, none⟩) j c pages :=
              ⟨(HL.out.below HBW.out).below hb1, (hb1.cell (p := ⟨w.heap.size, 0, none⟩) hk0).trans k0, (hb1.cell (p := ⟨w.heap.size + 1, 0, none⟩) hk1).trans k1,
                ⟨b, off, rfl, fun i x hx => ((below_step hb1 HBW.out).cell (p := ⟨b, off + i, none⟩) hlt0).trans (HC.out i x hx), hne1 b (by omega) (fun h => hbn (by simp [h]))⟩,
                hne1 lb hltx hF, hne1 _ hk0 (HNEW.out _ (Nat.le_refl _)), hne1 _ hk1 (HNEW.out _ (by omega)), HNEW.out _ (by omega), by rw [hw1]; simp⟩
            have hS : ApSt w1 d wc.heap.size F w1 (0, m) := ⟨F, (hd.below HBW.out).below hb1, he1, hf1, Touch.refl _ _, fun b h => .inl h, HNEW.out _ (by omega)⟩
            have HB := Lib.hid hB
            have HS := Lib.hid hS
            have HW1 := Lib.hid hw1
            have HBW1 := Lib.hid (below_step hb1 HBW.out)
            clear hw1 hb1 he1 hf1 hne1 hB hS c0 c1 c2 c3 c4 c5 k0 z1 z2 hbn
            go_wp2_with fail
            rw [← HW1.out]
            clear k1
            go_loopw [9, 69] (fun v c wr => ∃ i q : Nat, i ≤ j ∧ c = .int .i64 i ∧ v = .int .i64 q ∧ q = p1 + 9 * i ∧ ApSt w1 d wc.heap.size F wr (wrN p1 pages m (9 * i))) (fun _ c _ => j - (intOf c).toNat)
            case atStart => exact ⟨0, p1, Nat.zero_le _, rfl, rfl, rfl, HS.out⟩
            case round =>
              clear HS
              obtain ⟨i, q, hij, rfl, rfl, hq, hst⟩ := hrel
              have HQ := Lib.hid hq
              clear hq
              obtain ⟨wo, rfl⟩ : ∃ wo : World, wo = wr := ⟨_, rfl⟩
              obtain ⟨F1, hon1, hB1, ht1, hF1⟩ := HB.out.on HPOS.out hst
              have HON1 := Lib.hid hon1
              have HB1 := Lib.hid hB1
              have HT1 := Lib.hid ht1
              have HF1 := Lib.hid hF1
              have HST := Lib.hid hst
              clear hst hon1 hB1 ht1 hF1
              by_cases hlti : i < j
              · obtain ⟨pg, hpg⟩ : ∃ pg, pages[i]? = some pg := ⟨pages[i]'(by rw [← HN.out]; exact hlti), List.getElem?_eq_getElem _⟩
                have hpz := HALL.out pg (List.mem_of_getElem? hpg)
                obtain ⟨b', off', e', hc', hb'⟩ := HB1.out.pg
                injection e' with e'
                injection e' with e1 e2
                subst e1 e2
                have hcell := hc' i pg hpg
                have HPG := Lib.hid hpg
                have hpz1 : pg.size ≤ 567 := by omega
                have HCUT := fun W => Lib.hid (rcut_any pg W hpz1)
                clear hpz hpg hc' hb'
                go_wp2_with fail
                refine (HCUT _).out.mono ?_
                rintro e w2 ⟨g, cap, rfl, hrow, hb2⟩
                have HROW := Lib.hid hrow
                have HB2 := Lib.hid hb2
                have hg1 := (hrow.lt g rfl).1
                have hg2 := (hrow.lt g rfl).2
                have hgn : g ∉ wc.heap.size :: F1 := fun h => by
                  rcases List.mem_cons.1 h with h | h
                  · have := HB1.out.lt; omega
                  · have := HON1.out.disk.lt g h; omega
                have hB2 := HB1.out.move HPOS.out (Touch.of_below (F := wc.heap.size :: F1) HB2.out) (fun b h => .inl h) HB1.out.e4
                have hS2 := ApSt.skip (HON1.out.below HB2.out)
                have HBB := Lib.hid hB2
                have HSS := Lib.hid hS2
                have HGN := Lib.hid hgn
                clear hcell hrow hb2 hB2 hS2 hgn
                have hqb : q ≤ 200000 := by have := HQ.out; have := HP1.out; have := HP.out; omega
                go_wp2_with fail
                go_loopw [9, 76] (fun v c wr => ∃ t q2 : Nat, t ≤ 9 ∧ c = .int .i64 t ∧ v = .int .i64 q2 ∧ q2 = p1 + (9 * i + t) ∧ ApSt w2 d wc.heap.size F1 wr (wrN p1 pages m (9 * i + t))) (fun _ c _ => 9 - (intOf c).toNat)
                case atStart => exact ⟨0, q, Nat.zero_le _, rfl, rfl, HQ.out, HSS.out⟩
                case round =>
                  clear HSS
                  obtain ⟨t, q2, ht9, rfl, rfl, hq2, hst⟩ := hrel
                  obtain ⟨F2, hon2, hB2, ht2, hF2⟩ := HBB.out.on HPOS.out hst
                  have HQ2 := Lib.hid hq2
                  have HON2 := Lib.hid hon2
                  have HT2 := Lib.hid ht2
                  have HF2 := Lib.hid hF2
                  have HST2 := Lib.hid hst
                  have hq2b : q2 ≤ 200000 := by have := HP1.out; have := HP.out; omega
                  clear hst hon2 hB2 ht2 hF2 hq2
                  by_cases htl : t < 9
                  · have hcell : wr.cell? ⟨g, t, none⟩ = some (.string (secP pg t)) := by
                      refine (HT2.out.cell (p := ⟨g, t, none⟩) hg2 HGN.out).trans ?_
                      have := HROW.out.cells rfl (j := t) (u := .string (secP pg t)) (by simp [secCells, htl])
                      have e : (⟨g, 0, none⟩ : Addr).add t = ⟨g, t, none⟩ := by unfold Addr.add; split <;> simp_all
                      rw [e] at this; exact this
                    have hb3 : Below wr.heap.size wr ((wr.alloc (.cells #[.string (secP pg t)] 9)).alloc (.cells #[.int .i64 q2] 3)) := below_alloc (below_alloc (Below.refl _ _))
                    have hct : ((wr.alloc (.cells #[.string (secP pg t)] 9)).alloc (.cells #[.int .i64 q2] 3)).cell? ⟨wr.heap.size + 1, 0, none⟩ = some (.int .i64 q2) := by
                      simp
                    have hcs : ((wr.alloc (.cells #[.string (secP pg t)] 9)).alloc (.cells #[.int .i64 q2] 3)).cell? ⟨wr.heap.size, 0, none⟩ = some (.string (secP pg t)) := by simp
                    have hsz := secP_size pg hpz1 t htl
                    have HTH := Lib.hid (then_write (HON2.out.below hb3) (hk.wrN p1 pages (9 * i + t)) (by omega) (tt := (q2 : Int)) (by omega) (by omega) (by omega) hct hcs)
                    clear hct hcs hsz hb3
                    go_wp2_with fail
                    refine HTH.out.mono ?_
                    rintro e w3 ⟨rfl, hst3⟩
                    have hst4 := ApSt.trans ((HT2.out.alloc _).alloc _) HF2.out hst3
                    have HST4 := Lib.hid hst4
                    clear hst3 hst4 hcell
                    go_wp2_with fail
                    go_roundw
                    case rel =>
                      refine ⟨t + 1, q2 + 1, by omega, by go_num, by go_num, by have := HQ2.out; omega, ?_⟩
                      rw [wrN_step p1 pages m i t pg HPG.out htl, ← HQ2.out]
                      exact HST4.out
                    case measure => simp [intOf]; omega
                  · obtain rfl : t = 9 := by omega
                    have hst5 := ApSt.trans (HT1.out.trans (Touch.of_below HB2.out) (fun b h => .inl h)) HF1.out HST2.out
                    have HST5 := Lib.hid hst5
                    clear hst5
                    go_wp2_with fail
                    go_roundw
                    case rel => exact ⟨i + 1, q2, by omega, by go_num, rfl, by have := HQ2.out; omega, HST5.out⟩
                    case measure => simp [intOf]; omega
              · obtain rfl : i = j := by omega
                have k0 := HON1.out.box
                have c0 := HON1.out.log.cell.1
                have HTF := Lib.hid (then_flush HON1.out (hk.wrN p1 pages (9 * i)) (by omega))
                go_wp2_with fail
                refine HTF.out.mono ?_
                rintro e w3 ⟨rfl, hst3⟩
                obtain ⟨F3, hon3, hB3, ht3, hF3⟩ := HB1.out.on HPOS.out hst3
                have HON3 := Lib.hid hon3
                have HB3 := Lib.hid hB3
                have HT3 := Lib.hid (HT1.out.trans ht3 (fun b hb => (List.mem_cons.1 hb).elim (fun h => .inl (by simp [h])) (fun h => (HF1.out b h).imp (fun h => by simp [h]) id)))
                have HF3 : Hid (∀ b ∈ F3, b ∈ F ∨ w1.heap.size ≤ b) := Lib.hid (fun b hb => (hF3 b hb).elim (HF1.out b) (fun h => .inr (Nat.le_trans HT1.out.size h)))
                have HTM := Lib.hid (then_mark HON3.out ((hk.wrN p1 pages (9 * i)).stepF (x := (_, _))) (by omega) HB3.out.sl (by omega) (by have := HP.out; omega) h0)
                clear k0 c0 hst3 hon3 hB3 ht3 hF3
                go_wp2_with fail
                refine HTM.out.mono ?_
                rintro e w4 ⟨rfl, hst4⟩
                obtain ⟨F4, hon4, hB4, ht4, hF4⟩ := HB3.out.on HPOS.out hst4
                have HON4 := Lib.hid hon4
                have HB4 := Lib.hid hB4
                have HT4 := Lib.hid (HT3.out.trans ht4 (fun b hb => (List.mem_cons.1 hb).elim (fun h => .inl (by simp [h])) (fun h => (HF3.out b h).imp (fun h => by simp [h]) id)))
                have HF4 : Hid (∀ b ∈ F4, b ∈ F ∨ w1.heap.size ≤ b) := Lib.hid (fun b hb => (hF4 b hb).elim (HF3.out b) (fun h => .inr (Nat.le_trans HT3.out.size h)))
                have k0 := HON4.out.box
                have c0 := HON4.out.log.cell.1
                have HTG := Lib.hid (then_flush HON4.out (((hk.wrN p1 pages (9 * i)).stepF (x := (_, _))).stepW (x := (_, _)) _ _) (by omega))
                clear hst4 hon4 hB4 ht4 hF4
                go_wp2_with fail
                refine HTG.out.mono ?_
                rintro e w5 ⟨rfl, hst5⟩
                obtain ⟨F5, hon5, hB5, ht5, hF5⟩ := HB4.out.on HPOS.out hst5
                have HT5 := Lib.hid (HT4.out.trans ht5 (fun b hb => (List.mem_cons.1 hb).elim (fun h => .inl (by simp [h])) (fun h => (HF4.out b h).imp (fun h => by simp [h]) id)))
                have HF5 : Hid (∀ b ∈ F5, b ∈ F ∨ w1.heap.size ≤ b) := Lib.hid (fun b hb => (hF5 b hb).elim (HF4.out b) (fun h => .inr (Nat.le_trans HT4.out.size h)))
                have hX : stepF (stepW (stepF (wrN p1 pages m (9 * i))) ((l.frm + l.at_ : Nat) : Int) (mkStr l.next (textM (i : Int)))) = apX l m pages := by
                  unfold apX; rw [← HN.out, HP1.out, HP.out]
                have hon6 : ApOn w5 d lb wc.heap.size w.heap.size F5 l (apX l m pages).2 (apX l m pages).1 := by rw [← hX]; exact hon5
                have HON5 := Lib.hid hon6
                have KSL := Lib.hid hB5.sl
                have HT6 : Hid (Touch (lb :: F) w w5) := Lib.hid ((Touch.of_below HBW1.out).trans HT5.out (fun b hb => (List.mem_cons.1 hb).elim (fun h => .inr (by omega)) (fun h => .inl (by simp [h]))))
                have hF6 : ∀ b ∈ F5, b ∈ F ∨ w.heap.size ≤ b := fun b hb => (HF5.out b hb).imp id (fun h => Nat.le_trans HBW1.out.size h)
                have HF6 := Lib.hid hF6
                have k0 := hon6.box
                have ke := hon6.err
                obtain ⟨c0, c1, c2, c3, c4, c5⟩ := hon6.log.cell
                have f3 := hon6.log.frozen 3
                have f4 := hon6.log.frozen 4
                have f5 := hon6.log.frozen 5
                have hlx := hon6.nel2
                clear hst5 hon5 hB5 ht5 hF5 hX hon6 hF6
                by_cases hxe : (apX l m pages).1 = 0
                · have hap : apM l m pages = (0, { l with at_ := l.at_ + 1 + 9 * i, next := (l.next + 1) % 18446744073709551616 }, (apX l m pages).2) := by
                    unfold apM; rw [if_neg (by simp [hxe]), HN.out]
                  have HAP := Lib.hid hap
                  rw [hxe] at ke
                  obtain ⟨i9, hi9⟩ : ∃ i9 : Nat, i9 = 9 * i := ⟨_, rfl⟩
                  obtain ⟨i10, hi10⟩ : ∃ i10 : Nat, i10 = 1 + i9 := ⟨_, rfl⟩
                  obtain ⟨a', ha'⟩ : ∃ a' : Nat, a' = l.at_ + i10 := ⟨_, rfl⟩
                  have y1 : IntKind.i64.wrap (9 * (i : Int)) = (i9 : Int) := by rw [IntKind.wrap_i64]; omega
                  have y2 : IntKind.i64.wrap (1 + (i9 : Int)) = (i10 : Int) := by rw [IntKind.wrap_i64]; omega
                  have y3 : IntKind.i64.wrap ((l.at_ : Int) + (i10 : Int)) = (a' : Int) := by rw [IntKind.wrap_i64]; omega
                  have ea : a' = l.at_ + 1 + 9 * i := by omega
                  have EA := Lib.hid ea
                  have k3 : w5.cell? ⟨w.heap.size + 1, 0, none⟩ = some (.slice (some ⟨b, off, none⟩) i c) := KSL.out
                  clear hap hxe hi9 hi10 ha' ea
                  go_wp2_with fail
                  refine wp_region_tail (C := fun w' => ∃ n, w' = w5.drewN n) 11 (by kernel_rfl) (by kernel_rfl) ⟨1, rfl⟩ ?_
                  simp only [List.take_succ_cons, List.take_zero, List.drop_succ_cons, List.drop_zero]
                  repeat (first | go_big_quiet_step (fail) | quiet_step (fail))
                  refine wpQuiet_nil ?_
                  rintro w6 ⟨nq, rfl⟩
                  go_wp2_with fail
                  go_ret
                  rw [apR_yes E0.out, HAP.out]
                  refine ⟨rfl, ?_, ⟨F5, HON5.out.disk.touch (F := [lb]) ((((Touch.refl _ _).drewN nq).setCell (.inl (by simp)) _).setCell (.inl (by simp)) _) (fun b hb hm => by simp at hm; subst hm; exact HON5.out.nel hb), HF6.out, HON5.out.nel⟩, ((HT6.out.drewN nq).setCell (.inl (by simp)) _).setCell (.inl (by simp)) _⟩
                  refine World.rowIs.congr (World.rowIs.set (World.rowIs.set (show (w5.drewN nq).rowIs lb 134 6 _ from HON5.out.log) 3 (.int .i64 (a' : Nat))) 4 (.int .u64 (IntKind.u64.wrap (l.next + 1)))) (fun t ht => ?_)
                  rcases t with _ | _ | _ | _ | _ | _ | t
                  · rfl
                  · rfl
                  · rfl
                  · rw [EA.out]; rfl
                  · rw [IntKind.wrap_u64]; rfl
                  · rfl
                  · omega
                · have hap : apM l m pages = ((apX l m pages).1, { l with dead := true }, (apX l m pages).2) := by
                    unfold apM; rw [if_pos hxe]
                  have HAP := Lib.hid hap
                  have t : ((apX l m pages).1 != 0) = true := by simpa using hxe
                  clear hap hxe
                  go_wp2_with fail
                  go_ret
                  rw [apR_yes E0.out, HAP.out]
                  refine ⟨rfl, ?_, ⟨F5, HON5.out.disk.touch (F := [lb]) ((Touch.refl _ _).setCell (.inl (by simp)) _) (fun b hb hm => by simp at hm; subst hm; exact HON5.out.nel hb), HF6.out, HON5.out.nel⟩, HT6.out.setCell (.inl (by simp)) _⟩
                  refine World.rowIs.congr (World.rowIs.set HON5.out.log 5 (.bool true)) (fun t ht => ?_)
                  rcases t with _ | _ | _ | _ | _ | _ | t
                  · rfl
                  · rfl
                  · rfl
                  · rfl
                  · rfl
                  · rfl
                  · omega
      · have e0 : apE l j = 17 := by unfold apE; rw [hdead]; rfl
        have E0 := Lib.hid e0
        rw [hdead] at c5
        clear hdead e0
        go_wp2
        go_ret
        rw [apR_no E0.out (by decide)]
        exact (SAME 17 _ HBX.out).out

end Go.Proofs.YtpaholkmlfaflaaGreatDoor

namespace Go.Proofs.YtpaholkmlfaflaaGreatDoor
open Go.RowKit
open Go.Maps (Keyed)
set_option linter.unusedVariables false

/-- Every value reads as itself. -/
def heldR (v : Value) : Option (DataW Value × List MemPlace) := some (.held v, [])

/-- Block b is a map of at most n entries: at key x it holds g x. -/
def MapT {α β : Type} (w : World) (P : Program) (k : TypeId) (b n : Nat) (ek : α → Value) (ev : β → Value) (g : α → Option β) : Prop :=
  ∃ D : DataW Value, w.ownsMap P k heldR b n D ∧ ∀ x l, keyOf P k (ek x) = some l → Maps.has D l = (g x).isSome ∧ ∀ z, D.atKey l z = match g x with
    | some u => .held (ev u)
    | none => z
variable {α β : Type} {w w' : World} {P : Program} {k e t : TypeId} {b n : Nat} {ek : α → Value} {ev : β → Value} {g : α → Option β}

theorem MapT.lt (h : MapT w P k b n ek ev g) : b < w.heap.size := h.elim fun D h => h.1.lt
theorem MapT.mono (h : MapT w P k b n ek ev g) {m : Nat} (hm : n ≤ m) : MapT w P k b m ek ev g := h.elim fun D h => ⟨D, h.1.mono hm, h.2⟩
theorem MapT.touch {F : List Nat} (h : MapT w P k b n ek ev g) (ht : Touch F w w') (hb : b ∉ F) : MapT w' P k b n ek ev g := h.elim fun D h => ⟨D, ownsMap_touch h.1 ht hb, h.2⟩
theorem MapT.alloc (h : MapT w P k b n ek ev g) (o : Obj) : MapT (w.alloc o) P k b n ek ev g := h.elim fun D h => ⟨D, h.1.alloc o, h.2⟩
theorem MapT.below (h : MapT w P k b n ek ev g) (hb : Below w.heap.size w w') : MapT w' P k b n ek ev g := h.touch (F := []) (Touch.of_below hb) (by simp)
theorem MapT.made (w : World) (P : Program) (k : TypeId) (ek : α → Value) (ev : β → Value) : MapT (w.alloc (.map #[] 0)) P k w.heap.size 0 ek ev (fun _ => none) :=
  ⟨_, World.ownsMap_made _ _ _ _, fun _ _ _ => ⟨rfl, fun _ => rfl⟩⟩
theorem MapT.congr (h : MapT w P k b n ek ev g) {g' : α → Option β} (hg : ∀ x l, keyOf P k (ek x) = some l → g x = g' x) : MapT w P k b n ek ev g' :=
  h.elim fun D ⟨h1, h2⟩ => ⟨D, h1, fun x l hx => hg x l hx ▸ h2 x l hx⟩

/-- What is found. -/
theorem MapT.look (h : MapT w P k b n ek ev g) (K : Keyed P k) (ht : P.underlying t = some (.map k e)) {z : Value} (hz : (zeroValue e).run P w = .ok z w) {x : α} {l : Lit} (hk : keyOf P k (ek x) = some l) :
    (Instr.lookup t (.map (some b)) (ek x) false).run P w = .ok (((g x).map ev).getD z) w := by
  obtain ⟨D, hD, hg⟩ := h
  obtain ⟨v, ps, hrun, hv⟩ := hD.lookup K ht hz (zd := .held z) (zp := []) rfl hk
  rw [hrun]
  unfold heldR at hv
  injection hv with hv
  injection hv with hv1 hv2
  rw [(hg x l hk).2] at hv1
  cases hgx : g x with
  | none => rw [hgx] at hv1; injection hv1 with h1; rw [h1]; rfl
  | some u => rw [hgx] at hv1; injection hv1 with h1; rw [h1]; rfl
theorem MapT.look_ok (h : MapT w P k b n ek ev g) (K : Keyed P k) (ht : P.underlying t = some (.map k e)) {z : Value} (hz : (zeroValue e).run P w = .ok z w) {x : α} {l : Lit} (hk : keyOf P k (ek x) = some l) :
    (Instr.lookup t (.map (some b)) (ek x) true).run P w = .ok (.tuple #[((g x).map ev).getD z, .bool (g x).isSome]) w := by
  obtain ⟨D, hD, hg⟩ := h
  obtain ⟨v, ps, hrun, hv⟩ := hD.look_ok K ht hz (zd := .held z) (zp := []) rfl hk
  rw [hrun, (hg x l hk).1]
  unfold heldR at hv
  injection hv with hv
  injection hv with hv1 hv2
  rw [(hg x l hk).2] at hv1
  cases hgx : g x with
  | none => rw [hgx] at hv1; injection hv1 with h1; rw [h1]; rfl
  | some u => rw [hgx] at hv1; injection hv1 with h1; rw [h1]; rfl

/-- One more entry. -/
def updT {α β : Type} [DecidableEq α] (g : α → Option β) (x : α) (v : β) : α → Option β := fun y => if y = x then some v else g y
theorem put_T [DecidableEq α] {D : DataW Value} (hm : Maps.IsMap D) (K : Keyed P k) {x : α} {l : Lit} (hk : keyOf P k (ek x) = some l) (hinj : ∀ y, ek y = ek x → y = x) (v : β)
    (hg : ∀ x l, keyOf P k (ek x) = some l → Maps.has D l = (g x).isSome ∧ ∀ z, D.atKey l z = match g x with
    | some u => .held (ev u)
    | none => z) : ∀ y l', keyOf P k (ek y) = some l' → Maps.has (D.put l (.held (ev v))) l' = (updT g x v y).isSome ∧ ∀ z, (D.put l (.held (ev v))).atKey l' z = match updT g x v y with
    | some u => .held (ev u)
    | none => z := by
  intro y l' hy
  by_cases e : y = x
  · subst e
    rw [hk] at hy
    injection hy with hy
    subst hy
    unfold updT
    rw [if_pos rfl]
    exact ⟨Maps.has_put_same hm (K.key hk) _, fun z => Maps.atKey_put_same hm (K.key hk) _ _⟩
  · have hne : l' ≠ l := fun e' => by
      subst e'
      exact e (hinj y (K.inj hy hk))
    unfold updT
    rw [if_neg e]
    exact ⟨(Maps.has_put_other hne _).trans (hg y l' hy).1, fun z => (Maps.atKey_put_other hne _ _).trans ((hg y l' hy).2 z)⟩
theorem wpList_update_T [DecidableEq α] (w : World) {ops : Array Oper} {rest : List Oper} {o : Oper} {a : Act} {Q : Exit → Act → World → Prop}
    (hg : o.guard = none) (m x v : Operand) (t : TypeId) (hop : o.op = Op.mapUpdate t m x v) (k e : TypeId) (K : Keyed P k) (ht : P.underlying t = some (.map k e)) (b n : Nat) (ek : α → Value) (ev : β → Value) (g : α → Option β)
    (hown : MapT w P k b n ek ev g) (hm : a.eval m = .map (some b)) (hn : n < maxLen) (y : α) (l : Lit) (hx : a.eval x = ek y) (hkey : keyOf P k (ek y) = some l) (hinj : ∀ z, ek z = ek y → z = y) (u : β) (hv : a.eval v = ev u)
    (hK : ∀ w', MapT w' P k b (n + 1) ek ev (updT g y u) → w.grownBy w' (some b) → wpList P ops Q rest (a.put o.dst undef) w') :
    wpList P ops Q (o :: rest) a w := by
  obtain ⟨D, hD, hgx⟩ := hown
  exact wpList_mapUpdate_own w hg m x v t hop k e K ht heldR b n D hm hD hn (ek y) (ev u) l hx hv hkey (.held (ev u)) [] rfl fun w' h1 h2 =>
    hK w' ⟨_, h1, put_T hD.isMap K hkey hinj u hgx⟩ h2

/-! Going through a map. -/
/-- The loop is under way: left says what is still to come. -/
def RngT {α β : Type} (w : World) (P : Program) (k : TypeId) (b r n : Nat) (ek : α → Value) (ev : β → Value) (g : α → Option β) (left : α → Bool) (cnt : Nat) : Prop :=
  ∃ (D : DataW Value) (lf : Lit → Bool), w.ranges P k heldR b r n D lf cnt ∧ (∀ x l, keyOf P k (ek x) = some l → Maps.has D l = (g x).isSome ∧ ∀ z, D.atKey l z = match g x with
    | some u => .held (ev u)
    | none => z) ∧ ∀ x l, keyOf P k (ek x) = some l → lf l = left x
theorem RngT.map {r cnt : Nat} {left : α → Bool} (h : RngT w P k b r n ek ev g left cnt) : MapT w P k b n ek ev g := h.elim fun D h => h.elim fun lf h => ⟨D, h.1.owns, h.2.1⟩
theorem RngT.lt {r cnt : Nat} {left : α → Bool} (h : RngT w P k b r n ek ev g left cnt) : r < w.heap.size := h.elim fun D h => h.elim fun lf h => h.1.lt
theorem RngT.ne {r cnt : Nat} {left : α → Bool} (h : RngT w P k b r n ek ev g left cnt) : r ≠ b := h.elim fun D h => h.elim fun lf h => h.1.ne
theorem RngT.left_eq {r cnt : Nat} {left : α → Bool} (h : RngT w P k b r n ek ev g left cnt) : w.rangeLeft b r = cnt := h.elim fun D h => h.elim fun lf h => h.1.left_eq
theorem ranges_touch {H : Type} {F : List Nat} {R : Value → Option (DataW H × List MemPlace)} {r cnt : Nat} {D : DataW H} {left : Lit → Bool} (h : w.ranges P k R b r n D left cnt) (ht : Touch F w w') (hb : b ∉ F) (hr : r ∉ F) : w'.ranges P k R b r n D left cnt := by
  have h1 := h.owns.lt
  have h2 := h.lt
  obtain ⟨es, clock, since, seen, c0, hb', Fi, hs, hD, hr', rest⟩ := h
  exact ⟨es, clock, since, seen, c0, (ht.block h1 hb).trans hb', Fi, hs, hD, (ht.block h2 hr).trans hr', rest⟩
theorem RngT.touch {F : List Nat} {r cnt : Nat} {left : α → Bool} (h : RngT w P k b r n ek ev g left cnt) (ht : Touch F w w') (hb : b ∉ F) (hr : r ∉ F) : RngT w' P k b r n ek ev g left cnt :=
  h.elim fun D h => h.elim fun lf h => ⟨D, lf, ranges_touch h.1 ht hb hr, h.2⟩
theorem wpList_range_T (w : World) {ops : Array Oper} {rest : List Oper} {o : Oper} {a : Act} {Q : Exit → Act → World → Prop}
    (hg : o.guard = none) (m : Operand) (t : TypeId) (hop : o.op = Op.range t m) (k e : TypeId) (K : Keyed P k) (ht : P.underlying t = some (.map k e)) (b n : Nat) (ek : α → Value) (ev : β → Value) (g : α → Option β)
    (hm : a.eval m = .map (some b)) (hown : MapT w P k b n ek ev g)
    (hK : ∀ w' cnt, RngT w' P k b w.heap.size n ek ev g (fun x => (g x).isSome) cnt → w.grownBy w' none → w'.heap.size = w.heap.size + 1 → wpList P ops Q rest (a.put o.dst (.pointer (some ⟨w.heap.size, 0, none⟩))) w') :
    wpList P ops Q (o :: rest) a w := by
  obtain ⟨D, hD, hgx⟩ := hown
  exact wpList_range_own w hg m t hop k e K ht heldR b n D hm hD fun w' h1 h2 h3 => hK w' _ ⟨D, _, h1, hgx, fun x l hx => (hgx x l hx).1⟩ h2 h3
theorem wpList_next_T [DecidableEq α] (w : World) {ops : Array Oper} {rest : List Oper} {o : Oper} {a : Act} {Q : Exit → Act → World → Prop}
    (hg : o.guard = none) (it : Operand) (hop : o.op = Op.next it false) (k : TypeId) (K : Keyed P k) (b r n : Nat) (ek : α → Value) (ev : β → Value) (g : α → Option β) (left : α → Bool) (cnt : Nat)
    (invK : ∀ key kl, keyOf P k key = some kl → ∃ x, key = ek x) (hinj : ∀ y z, ek z = ek y → z = y)
    (hit : a.eval it = .pointer (some ⟨r, 0, none⟩)) (h : RngT w P k b r n ek ev g left cnt)
    (hDone : (∀ x l, keyOf P k (ek x) = some l → left x = false) → wpList P ops Q rest (a.put o.dst (.tuple #[.bool false])) w)
    (hMore : ∀ (x : α) (u : β) (l : Lit) (w' : World) (cnt' : Nat), keyOf P k (ek x) = some l → left x = true → g x = some u → RngT w' P k b r n ek ev g (fun z => left z && !decide (z = x)) cnt' → cnt' < cnt →
      w.grownBy w' (some r) → w'.heap.size = w.heap.size → (Instr.entry (.pointer (some ⟨r, 0, none⟩))).run P w' = .ok (.tuple #[ek x, ev u]) w' → wpList P ops Q rest (a.put o.dst (.tuple #[.bool true, ek x, ev u])) w') :
    wpList P ops Q (o :: rest) a w := by
  obtain ⟨D, lf, hR, hgx, hlf⟩ := h
  refine wpList_next_ranges w hg it hop k K heldR ek (fun v : Value => v) invK (fun v y hv => ⟨v, rfl⟩) b r n D lf cnt hit hR (fun h0 hl => hDone fun x l hx => by rw [← hlf x l hx]; exact hl l) ?_
  intro x c kl y w' cnt' hkey hlx hRc hat hrg hlt hgr hsz hen
  unfold heldR at hRc
  injection hRc with hRc
  subst hRc
  have hg1 := (hgx x kl hkey).2 (.held (.bool true))
  have hg2 := (hgx x kl hkey).2 (.held (.bool false))
  rw [hat] at hg1 hg2
  cases hgx' : g x with
  | none =>
    rw [hgx'] at hg1 hg2
    injection hg1 with e1
    injection hg2 with e2
    rw [e1] at e2
    cases e2
  | some u =>
    rw [hgx'] at hg1
    injection hg1 with e1
    have e2 : c = ev u := e1
    subst e2
    refine hMore x u kl w' cnt' hkey (by rw [← hlf x kl hkey]; exact hlx) hgx' ⟨D, _, hrg, hgx, fun z l hz => ?_⟩ hlt hgr hsz hen
    rw [hlf z l hz]
    by_cases e : z = x
    · subst e
      rw [hkey] at hz
      injection hz with hz
      subst hz
      rw [WideAt.sameKey_self (K.key hkey)]
      simp
    · have hne : l ≠ kl := fun e' => by
        subst e'
        exact e (hinj x z (K.inj hz hkey))
      rw [Maps.sameKey_ne hne]
      simp [e]
end Go.Proofs.YtpaholkmlfaflaaGreatDoor

namespace Go.Proofs.YtpaholkmlfaflaaGreatDoor
open Go.RowKit
open Go.Maps (Keyed)
set_option linter.unusedVariables false
/-- Block b is a map of just n entries. -/
def MapN {α β : Type} (w : World) (P : Program) (k : TypeId) (b n : Nat) (ek : α → Value) (ev : β → Value) (g : α → Option β) : Prop :=
  ∃ D : DataW Value, w.ownsMap P k heldR b n D ∧ Maps.size D = n ∧ ∀ x l, keyOf P k (ek x) = some l → Maps.has D l = (g x).isSome ∧ ∀ z, D.atKey l z = match g x with
    | some u => .held (ev u)
    | none => z
variable {α β : Type} {w w' : World} {P : Program} {k e t : TypeId} {b n : Nat} {ek : α → Value} {ev : β → Value} {g : α → Option β}
theorem MapN.toT (h : MapN w P k b n ek ev g) : MapT w P k b n ek ev g := h.elim fun D h => ⟨D, h.1, h.2.2⟩
theorem MapN.touch {F : List Nat} (h : MapN w P k b n ek ev g) (ht : Touch F w w') (hb : b ∉ F) : MapN w' P k b n ek ev g := h.elim fun D h => ⟨D, ownsMap_touch h.1 ht hb, h.2⟩
theorem MapN.alloc (h : MapN w P k b n ek ev g) (o : Obj) : MapN (w.alloc o) P k b n ek ev g := h.elim fun D h => ⟨D, h.1.alloc o, h.2⟩
theorem MapN.below (h : MapN w P k b n ek ev g) (hb : Below w.heap.size w w') : MapN w' P k b n ek ev g := h.touch (F := []) (Touch.of_below hb) (by simp)
theorem MapN.made (w : World) (P : Program) (k : TypeId) (ek : α → Value) (ev : β → Value) : MapN (w.alloc (.map #[] 0)) P k w.heap.size 0 ek ev (fun _ => none) :=
  ⟨_, World.ownsMap_made _ _ _ _, rfl, fun _ _ _ => ⟨rfl, fun _ => rfl⟩⟩
/-- A new key. -/
theorem wpList_update_N [DecidableEq α] (w : World) {ops : Array Oper} {rest : List Oper} {o : Oper} {a : Act} {Q : Exit → Act → World → Prop}
    (hg : o.guard = none) (m x v : Operand) (t : TypeId) (hop : o.op = Op.mapUpdate t m x v) (k e : TypeId) (K : Keyed P k) (ht : P.underlying t = some (.map k e)) (b n : Nat) (ek : α → Value) (ev : β → Value) (g : α → Option β)
    (hown : MapN w P k b n ek ev g) (hm : a.eval m = .map (some b)) (hn : n < maxLen) (y : α) (l : Lit) (hx : a.eval x = ek y) (hkey : keyOf P k (ek y) = some l) (hinj : ∀ z, ek z = ek y → z = y) (hnew : g y = none) (u : β) (hv : a.eval v = ev u)
    (hK : ∀ w', MapN w' P k b (n + 1) ek ev (updT g y u) → w.grownBy w' (some b) → wpList P ops Q rest (a.put o.dst undef) w') :
    wpList P ops Q (o :: rest) a w := by
  obtain ⟨D, hD, hs, hgx⟩ := hown
  refine wpList_mapUpdate_own w hg m x v t hop k e K ht heldR b n D hm hD hn (ek y) (ev u) l hx hv hkey (.held (ev u)) [] rfl fun w' h1 h2 => hK w' ⟨_, h1, ?_, put_T hD.isMap K hkey hinj u hgx⟩ h2
  have hno : Maps.has D l = false := by rw [(hgx y l hkey).1, hnew]; rfl
  rw [Maps.size_put (hD.tidy K), hno, hs]
  rfl
theorem MapN.len (h : MapN w P k b n ek ev g) (ht : P.underlying t = some (.map k e)) (ty : TypeId) : (Builtin.len_ #[t] ty #[.map (some b)]).run P w = .ok (.int .i64 n) w := by
  obtain ⟨D, hD, hs, _⟩ := h
  rw [hD.len ht ty, hs]
end Go.Proofs.YtpaholkmlfaflaaGreatDoor

namespace Go.Proofs.YtpaholkmlfaflaaGreatDoor
open Go.RowKit
open Go.Maps (Keyed)
set_option linter.unusedVariables false
variable {α β : Type} {w w' : World} {P : Program} {k e t : TypeId} {b n : Nat} {ek : α → Value} {ev : β → Value} {g : α → Option β}

theorem Touch.of_turned {w w' : World} {b : Nat} (h : w.mapTurned w' b) : Touch [b] w w' := by
  obtain ⟨es, clock, es', clock', hb, rfl⟩ := h
  exact ⟨rfl, rfl, rfl, by simp [Go.ChangeMaps.setBlock], fun i _ hi => Go.ChangeMaps.heap_setBlock_other hb _ (fun e => hi (by simp [e]))⟩
theorem owns_tight {H : Type} {R : Value → Option (DataW H × List MemPlace)} {D : DataW H} (h : w.ownsMap P k R b n D) : w.ownsMap P k R b (Maps.size D) D := by
  obtain ⟨es, clock, hb, F, hs, rfl⟩ := h
  exact ⟨es, clock, hb, F, by simp [Maps.size, length_sorted], rfl⟩
theorem MapT.tight (h : MapT w P k b n ek ev g) : ∃ m, m ≤ n ∧ MapN w P k b m ek ev g := by
  obtain ⟨D, hD, hg⟩ := h
  exact ⟨_, hD.size_le, D, owns_tight hD, rfl, hg⟩

/-- One entry fewer. -/
def delT {α β : Type} [DecidableEq α] (g : α → Option β) (x : α) : α → Option β := fun y => if y = x then none else g y
theorem del_T [DecidableEq α] {D : DataW Value} (hm : Maps.IsMap D) (K : Keyed P k) {x : α} {l : Lit} (hk : keyOf P k (ek x) = some l) (hinj : ∀ y, ek y = ek x → y = x)
    (hg : ∀ x l, keyOf P k (ek x) = some l → Maps.has D l = (g x).isSome ∧ ∀ z, D.atKey l z = match g x with
    | some u => .held (ev u)
    | none => z) : ∀ y l', keyOf P k (ek y) = some l' → Maps.has (D.del l) l' = (delT g x y).isSome ∧ ∀ z, (D.del l).atKey l' z = match delT g x y with
    | some u => .held (ev u)
    | none => z := by
  intro y l' hy
  by_cases e : y = x
  · subst e
    rw [hk] at hy
    injection hy with hy
    subst hy
    unfold delT
    rw [if_pos rfl]
    exact ⟨Maps.has_del_same, fun z => Maps.atKey_del_same z⟩
  · have hne : l' ≠ l := fun e' => by
      subst e'
      exact e (hinj y (K.inj hy hk))
    unfold delT
    rw [if_neg e]
    exact ⟨(Maps.has_del_other hne).trans (hg y l' hy).1, fun z => (Maps.atKey_del_other hne z).trans ((hg y l' hy).2 z)⟩
theorem wpList_delete_N [DecidableEq α] (w : World) {ops : Array Oper} {rest : List Oper} {o : Oper} {a : Act} {Q : Exit → Act → World → Prop}
    (hg : o.guard = none) (m x : Operand) (t k e : TypeId) (hop : o.op = Op.call { callee := Callee.builtin Builtin.delete, args := #[m, x], argTypes := #[t, k] }) (K : Keyed P k) (ht : P.underlying t = some (.map k e)) (b n : Nat) (ek : α → Value) (ev : β → Value) (g : α → Option β)
    (hown : MapN w P k b n ek ev g) (hm : a.eval m = .map (some b)) (y : α) (l : Lit) (hx : a.eval x = ek y) (hkey : keyOf P k (ek y) = some l) (hinj : ∀ z, ek z = ek y → z = y)
    (hK : ∀ w' n', MapN w' P k b n' ek ev (delT g y) → n' + (if (g y).isSome then 1 else 0) = n → Touch [b] w w' → wpList P ops Q rest (a.put o.dst (.tuple #[])) w') :
    wpList P ops Q (o :: rest) a w := by
  obtain ⟨D, hD, hs, hgx⟩ := hown
  refine wpList_delete_own w hg m x t k hop e K ht heldR b n D hm hD (ek y) l hx hkey fun w' h1 h2 => hK w' (Maps.size (D.del l)) ⟨_, owns_tight h1, rfl, del_T hD.isMap K hkey hinj hgx⟩ ?_ (Touch.of_turned h2)
  have := Maps.size_del (k := l) (hD.tidy K)
  rw [(hgx y l hkey).1, hs] at this
  exact this
/-- A key that is new, or not. -/
theorem wpList_update_M [DecidableEq α] (w : World) {ops : Array Oper} {rest : List Oper} {o : Oper} {a : Act} {Q : Exit → Act → World → Prop}
    (hg : o.guard = none) (m x v : Operand) (t : TypeId) (hop : o.op = Op.mapUpdate t m x v) (k e : TypeId) (K : Keyed P k) (ht : P.underlying t = some (.map k e)) (b n : Nat) (ek : α → Value) (ev : β → Value) (g : α → Option β)
    (hown : MapN w P k b n ek ev g) (hm : a.eval m = .map (some b)) (hn : n < maxLen) (y : α) (l : Lit) (hx : a.eval x = ek y) (hkey : keyOf P k (ek y) = some l) (hinj : ∀ z, ek z = ek y → z = y) (u : β) (hv : a.eval v = ev u)
    (hK : ∀ w' n', MapN w' P k b n' ek ev (updT g y u) → n' + (if (g y).isSome then 1 else 0) = n + 1 → Touch [b] w w' → wpList P ops Q rest (a.put o.dst undef) w') :
    wpList P ops Q (o :: rest) a w := by
  obtain ⟨D, hD, hs, hgx⟩ := hown
  refine wpList_mapUpdate_own w hg m x v t hop k e K ht heldR b n D hm hD hn (ek y) (ev u) l hx hv hkey (.held (ev u)) [] rfl fun w' h1 h2 => hK w' _ ⟨_, owns_tight h1, rfl, put_T hD.isMap K hkey hinj u hgx⟩ ?_ (Touch.of_grown h2)
  rw [Maps.size_put (hD.tidy K), (hgx y l hkey).1, hs]
  split <;> rfl
/-- 'clear(m)'. -/
theorem clear_N (h : MapN w P k b n ek ev g) (ht : P.underlying t = some (.map k e)) :
    ∃ w', (∀ ty, (Builtin.clear_ #[t] ty #[.map (some b)]).run P w = .ok (.tuple #[]) w') ∧ MapN w' P k b 0 ek ev (fun _ => none) ∧ Touch [b] w w' := by
  obtain ⟨D, hD, hs, hgx⟩ := h
  obtain ⟨w', h1, h2, h3⟩ := clear_run hD ht
  exact ⟨w', h1, ⟨_, h2, rfl, fun x l hx => ⟨rfl, fun z => rfl⟩⟩, Touch.of_grown h3⟩
end Go.Proofs.YtpaholkmlfaflaaGreatDoor

