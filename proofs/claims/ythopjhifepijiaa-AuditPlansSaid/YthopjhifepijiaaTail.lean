/- A region that draws its order, of which all operations but a forced tail only read, make draws or make memory: one walk in the order of the text serves every order. -/
import Derived.Deep.Quiet
import Derived.StillTail
import Derived.Below
namespace Go.Proofs.Ythopjhifepijiaa
open Go.RowKit
set_option linter.unusedVariables false

section
variable {P : Program} {md : Region.Mode} {ops : Array Oper} {C : World → Prop}

/-- Till f operations more have come up, all of them before place n; then L. -/
def wpHead (P : Program) (md : Region.Mode) (ops : Array Oper) (C : World → Prop) (n : Nat) (L : Array Bool → Act → Prop) : Nat → Array Bool → Act → Prop
  | 0, listed, a => L listed a
  | f + 1, listed, a => Region.ready md ops listed ≠ [] ∧ ∀ i ∈ Region.ready md ops listed, i < n ∧ qOp P ops C i (wpHead P md ops C n L f (listed.setIfInBounds i true)) a

theorem wpHead_any {n g : Nat} {L : Array Bool → Act → Prop} {Q' : Exit → Act → World → Prop} (hL : ∀ listed a w, C w → L listed a → wpAny P md ops Q' g listed a w) (f : Nat) :
    ∀ (listed : Array Bool) (a : Act) (w : World), C w → wpHead P md ops C n L f listed a → wpAny P md ops Q' (g + f) listed a w := by
  induction f with
  | zero => exact fun listed a w hw h => hL listed a w hw h
  | succ f ih => exact fun listed a w hw h => ⟨fun h0 => absurd h0 h.1, fun i hi => wpOp_of_qOp hw (fun a' w' hw' h' => ih _ a' w' hw' h') (h.2 i hi).2⟩

/-- What is asked of the tail: it comes up behind the head alone, and one by one. -/
structure TailOk (md : Region.Mode) (ops : Array Oper) (n : Nat) : Prop where
  sel : ∀ (j : Nat) (o : Oper) cs b, ops[j]? = some o → o.op ≠ .select cs b
  sink : Region.sinkB md ops n = true
  chain : Region.chainB md ops n = true
  lt : n < ops.size
theorem TailOk.head {n i : Nat} {listed : Array Bool} (T : TailOk md ops n) (inv : HeadInv md ops n listed) (hi : i < n) (hr : i ∈ Region.ready md ops listed) {j : Nat} (hj : j ∈ Region.ready md ops listed) : j < n :=
  Nat.lt_of_not_le fun h => tail_waits T.sink T.chain T.lt inv _ i rfl hi (mem_ready.1 hr).1 j h hj

/-- Operation i is apart from all that may come up ahead of it. -/
def Apart (md : Region.Mode) (ops : Array Oper) (i : Nat) (oi : Oper) (listed : Array Bool) : Prop :=
  ∀ j oj, ops[j]? = some oj → j ≠ i → listed.getD j true = false → (∀ e ∈ oj.after, Region.binds md e = true → e.on ≠ i) → oi.apart ops oj = true
theorem Apart.set {i j : Nat} {oi : Oper} {listed : Array Bool} (h : Apart md ops i oi listed) (hj : listed.getD j true = false) : Apart md ops i oi (listed.setIfInBounds j true) := by
  intro k ok hk hki hun hno
  refine h k ok hk hki ?_ hno
  by_cases e : k = j
  · rw [e]; exact hj
  · rwa [getD_set_ne true (Ne.symm e)] at hun

theorem wpHead_first {n i : Nat} {oi : Oper} {v : Value} {L : Array Bool → Act → Prop} (T : TailOk md ops n) (hi : ops[i]? = some oi) (hin : i < n)
    (hL : ∀ listed a, L listed a → ∀ j ∈ Region.ready md ops listed, n ≤ j) (f : Nat) :
    ∀ (listed : Array Bool) (a : Act), HeadInv md ops n listed → Apart md ops i oi listed → i ∈ Region.ready md ops listed → YieldsIn P ops C oi v a →
      wpHead P md ops C n L f (listed.setIfInBounds i true) (a.put oi.dst v) → wpHead P md ops C n L (f + 1) listed a := by
  induction f with
  | zero =>
    intro listed a inv hap hr hy H
    refine ⟨List.ne_nil_of_mem hr, fun j hj => ?_⟩
    have hjn := T.head inv hin hr hj
    refine ⟨hjn, ?_⟩
    rcases Decidable.em (j = i) with rfl | hne
    · exact hy.qOp hi H
    · exact absurd (hL _ _ H j (ready_mono hj hne)) (by omega)
  | succ f ih =>
    intro listed a inv hap hr hy H
    refine ⟨List.ne_nil_of_mem hr, fun j hj => ?_⟩
    have hjn := T.head inv hin hr hj
    refine ⟨hjn, ?_⟩
    rcases Decidable.em (j = i) with rfl | hne
    · exact hy.qOp hi H
    · obtain ⟨hjun, oj, hoj, hall⟩ := mem_ready.1 hj
      have hw : ∀ e ∈ oj.after, Region.binds md e = true → e.on ≠ i := by
        intro e he hb h
        have := hall e he hb
        rw [h, getD_both (mem_ready.1 hr).1] at this
        cases this
      have step := qOp_put hoj (hap j oj hoj hne hjun hw) (fun cs b => T.sel i oi cs b hi) (fun cs b => T.sel j oj cs b hoj) hy (H.2 j (ready_mono hj hne)).2
      refine qOp_mono (fun a' ha' => ih _ a' (inv.set hj hjn) (hap.set hjun) (ready_mono hr (Ne.symm hne)) ha'.1 ?_) step
      rw [Array.setIfInBounds_comm _ _ hne]
      exact ha'.2

theorem wpHead_lex {n g : Nat} {Lq : Act → Prop} (T : TailOk md ops n) (l : List Oper) :
    ∀ (k : Nat) (listed : Array Bool) (a : Act), (∀ j, j < l.length → l[j]? = ops[k + j]?) → k + l.length = n → HeadInv md ops n listed →
      Region.lexHead md ops g l.length k listed = true → wpQuiet P ops C Lq l a → wpHead P md ops C n (fun listed' a' => Region.seqB md ops g n listed' = true ∧ Lq a') l.length listed a := by
  induction l with
  | nil =>
    intro k listed a _ hk _ hB h
    obtain rfl : k = n := by simpa using hk
    exact ⟨by simpa [Region.lexHead] using hB, h⟩
  | cons o l ih =>
    intro k listed a hl hk inv hB h
    have h0 : ops[k]? = some o := by simpa using (hl 0 (by simp)).symm
    rw [List.length_cons] at hk
    simp only [List.length_cons, Region.lexHead, Bool.and_eq_true] at hB
    have hr : k ∈ Region.ready md ops listed := by simpa using hB.1.1
    have hkn : k < n := by omega
    have hq : qOp P ops C k (wpQuiet P ops C Lq l) a := by unfold qOp; rw [h0]; exact h
    obtain ⟨v, hy, hK⟩ := yieldsIn_of_qOp h0 hq
    refine wpHead_first T h0 hkn (fun _ _ hh => seqB_ready hh.1) l.length listed a inv (Region.free_spec h0 hB.1.2) hr hy (ih (k + 1) _ _ ?_ (by omega) (inv.set hr hkn) hB.2 hK)
    intro j hj
    have := hl (j + 1) (by simp; omega)
    rw [List.getElem?_cons_succ] at this
    rw [this]; congr 1; omega

/-- The head in the order of the text, each operation quiet in the class C; then the tail, from any world of the class. -/
theorem wp_region_tail {id : Nat} {Q : Exit → Act → World → Prop} {a : Act} {w : World} {l : List Oper} (n : Nat) (hm : P.follows .mixedOrders = true) (hB : Region.lexTailB .any l.toArray n = true) (hC : C { w with drawn := w.drawn + 1 })
    (h : wpQuiet P l.toArray C (fun a' => ∀ w', C w' → wpList P l.toArray Q (l.drop n) a' w') (l.take n) a) : (Code.region id l.toArray true).wp P Q a w := by
  simp only [Region.lexTailB, Bool.and_eq_true, decide_eq_true_eq] at hB
  obtain ⟨⟨⟨⟨hsel, hn⟩, hs⟩, hc⟩, hlex⟩ := hB
  have T : TailOk .any l.toArray n := ⟨Region.noSelect_spec hsel, hs, hc, hn⟩
  have hnl : n < l.length := by simpa using hn
  have htk : (l.take n).length = n := by simp; omega
  have inv0 : HeadInv .any l.toArray n (Array.replicate l.toArray.size false) :=
    ⟨by simp, fun j oj _ hj => (by rw [getD_replicate_false] at hj; cases hj), fun t _ ht => getD_in (by simpa using ht) (getD_replicate_false _ _)⟩
  have H := wpHead_lex (C := C) (md := .any) (g := l.toArray.size - n) T (l.take n) 0 _ a (fun j hj => by
    rw [htk] at hj
    simp [hj]) (by simpa using htk) inv0 (by rw [htk]; exact hlex) h
  refine wp_region_any hm ?_
  have hg : (l.drop n).length = l.toArray.size - n := by simp
  have K := wpHead_any (Q' := Q) (g := l.toArray.size - n) (fun listed a' w' hw' hL => by
    have := wpAny_of_seq (md := .any) (Q' := Q) (ops := l.toArray) (l.drop n) n listed a' w' (fun j => by simp [List.getElem?_drop]) (by rw [hg]; exact hL.1) (hL.2 w' hw')
    rwa [hg] at this) _ _ _ _ hC H
  rw [htk, show l.toArray.size - n + n = l.toArray.size by omega] at K
  exact K

/-- A later world: all that lay in w lies there as it lay. -/
def Later (w : World) := { w' : World // Below w.heap.size w w' }
instance laterSome (w : World) : Nonempty (Later w) := ⟨⟨w, Below.refl _ _⟩⟩
theorem Later.cell {w : World} (x : Later w) {b o : Nat} (h : b < w.heap.size) : x.1.cell? ⟨b, o, none⟩ = w.cell? ⟨b, o, none⟩ := x.2.cell (p := ⟨b, o, none⟩) h
theorem Later.frozen {w : World} (x : Later w) {b o : Nat} (h : b < w.heap.size) : x.1.frozen? ⟨b, o, none⟩ = w.frozen? ⟨b, o, none⟩ := x.2.frozen (p := ⟨b, o, none⟩) h
theorem Later.self (w : World) : ∃ x : Later w, { w with drawn := w.drawn + 1 } = x.1 := ⟨⟨w.drew, (Below.refl _ _).drew⟩, rfl⟩
/-- A callee's contract, met in a later world. -/
theorem Later.call {f : FuncId} {args : Array Value} {w : World} {x : Later w} {v : Value} (h : Calls P f args x.1 fun e w' => e = .returned v ∧ Below x.1.heap.size x.1 w') :
    Calls P f args x.1 fun e w' => e = .returned v ∧ ∃ y : Later w, w' = y.1 := h.mono fun e w' ⟨he, hb⟩ => ⟨he, ⟨w', x.2.trans (hb.mono x.2.size)⟩, rfl⟩
theorem Later.call_same {f : FuncId} {args : Array Value} {w : World} {x : Later w} {v : Value} (h : Calls P f args x.1 fun e w' => e = .returned v ∧ x.1 = w') :
    Calls P f args x.1 fun e w' => e = .returned v ∧ ∃ y : Later w, w' = y.1 := h.mono fun e w' ⟨he, hb⟩ => ⟨he, x, hb.symm⟩
theorem Later.call_drew {f : FuncId} {args : Array Value} {w : World} {x : Later w} {v : Value} (h : Calls P f args x.1 fun e w' => e = .returned v ∧ ∃ q, w' = x.1.drewN q) :
    Calls P f args x.1 fun e w' => e = .returned v ∧ ∃ y : Later w, w' = y.1 := h.mono fun e w' ⟨he, q, hb⟩ => ⟨he, ⟨w', by rw [hb]; exact ⟨x.2.os, x.2.tape, x.2.output, x.2.size, x.2.block⟩⟩, rfl⟩
/-- A region of which every operation yields one value in every later world. -/
theorem wp_region_later {id : Nat} {Q : Exit → Act → World → Prop} {a : Act} {w : World} {l : List Oper} (hm : P.follows .mixedOrders = true) (hB : Region.lexB .any l.toArray = true)
    (h : wpQuiet P l.toArray (fun w' => ∃ x : Later w, w' = x.1) (fun a' => ∀ w', (∃ x : Later w, w' = x.1) → Q .normal a' w') l a) : (Code.region id l.toArray true).wp P Q a w :=
  wp_region_quiet (C := fun w' => ∃ x : Later w, w' = x.1) hm hB (Later.self w) (by simpa using h)
/-- The same, a forced tail behind it. -/
theorem wp_region_later_tail {id : Nat} {Q : Exit → Act → World → Prop} {a : Act} {w : World} {l : List Oper} (n : Nat) (hm : P.follows .mixedOrders = true) (hB : Region.lexTailB .any l.toArray n = true)
    (h : wpQuiet P l.toArray (fun w' => ∃ x : Later w, w' = x.1) (fun a' => ∀ w', (∃ x : Later w, w' = x.1) → wpList P l.toArray Q (l.drop n) a' w') (l.take n) a) : (Code.region id l.toArray true).wp P Q a w :=
  wp_region_tail n hm hB (Later.self w) h
end
end Go.Proofs.Ythopjhifepijiaa
