/- A region that draws its order: a head that only reads, one operation that makes memory (or turns what the head does not read), and a forced tail that may turn anything. -/
import Derived.Test.YthopjhifepijiaaTail
import Derived.Deep.RegionHeld3
namespace Go.Proofs.Ythopjhifepijiaa
open Go.RowKit
set_option linter.unusedVariables false

section
variable {P : Program} {md : Region.Mode} {ops : Array Oper} {Q : Exit → Act → World → Prop} {S : World → Prop}

/-- Whatever order is picked; behind an operation ahead of place m the condition S holds. -/
def wpAny2 (P : Program) (md : Region.Mode) (ops : Array Oper) (Q : Exit → Act → World → Prop) (S : World → Prop) (m : Nat) : Nat → Array Bool → Act → World → Prop
  | 0, listed, a, w => Region.ready md ops listed = [] ∧ Q .normal a w
  | f + 1, listed, a, w => (Region.ready md ops listed = [] → Q .normal a w) ∧
    ∀ i ∈ Region.ready md ops listed, wpOp P ops Q i (fun a' w' => (i < m → S w') ∧ wpAny2 P md ops Q S m f (listed.setIfInBounds i true) a' w') a w
theorem wpAny_of_2 {m : Nat} : ∀ (f : Nat) (listed : Array Bool) (a : Act) (w : World), wpAny2 P md ops Q S m f listed a w → wpAny P md ops Q f listed a w
  | 0, _, _, _, h => h
  | f + 1, _, _, _, h => ⟨h.1, fun i hi => wpOp_mono (fun a' w' h' => wpAny_of_2 f _ a' w' h'.2) (h.2 i hi)⟩

theorem wpAny2_first {m i : Nat} {oi : Oper} {v : Value} (T : TailOk md ops m) (hi : ops[i]? = some oi) (him : i < m) (hQ : ∀ c a w, Q (.panic c) (a.put oi.dst v) w → Q (.panic c) a w) (f : Nat) :
    ∀ (listed : Array Bool) (a : Act) (w : World), HeadInv md ops m listed → Apart md ops i oi listed → i ∈ Region.ready md ops listed → YieldsIf P ops S oi v a → S w →
      wpAny2 P md ops Q S m f (listed.setIfInBounds i true) (a.put oi.dst v) w → wpAny2 P md ops Q S m (f + 1) listed a w := by
  induction f with
  | zero =>
    intro listed a w inv hap hr hy hS H
    refine ⟨fun h => absurd hr (by rw [h]; simp), fun j hj => ?_⟩
    rcases Decidable.em (j = i) with rfl | hne
    · exact hy.wpOp hi hS ⟨fun _ => hS, H⟩
    · have := ready_mono hj hne
      rw [H.1] at this
      cases this
  | succ f ih =>
    intro listed a w inv hap hr hy hS H
    refine ⟨fun h => absurd hr (by rw [h]; simp), fun j hj => ?_⟩
    have hjm := T.head inv him hr hj
    rcases Decidable.em (j = i) with rfl | hne
    · exact hy.wpOp hi hS ⟨fun _ => hS, H⟩
    · have h1 := H.2 j (ready_mono hj hne)
      obtain ⟨hjun, oj, hoj, hall⟩ := mem_ready.1 hj
      have hw : ∀ e ∈ oj.after, Region.binds md e = true → e.on ≠ i := by
        intro e he hb h
        have := hall e he hb
        rw [h, getD_both (mem_ready.1 hr).1] at this
        cases this
      have h2 := wpOp_putIf hoj (hap j oj hoj hne hjun hw) (fun cs b => T.sel i oi cs b hi) (fun cs b => T.sel j oj cs b hoj) hQ hy h1
      refine wpOp_mono (fun a' w' h3 => ⟨h3.2.1, ih _ a' w' (inv.set hj hjm) (hap.set hjun) (ready_mono hr (Ne.symm hne)) h3.1 (h3.2.1 hjm) ?_⟩) h2
      rw [Array.setIfInBounds_comm _ _ hne]
      exact h3.2.2

/-- The forced tail. -/
theorem wpAny2_of_seq {m : Nat} : ∀ (l : List Oper) (k : Nat) (listed : Array Bool) (a : Act) (w : World), m ≤ k → (∀ j, l[j]? = ops[k + j]?) → Region.seqB md ops l.length k listed = true → wpList P ops Q l a w → wpAny2 P md ops Q S m l.length listed a w
  | [], _, _, _, _, _, _, hB, h => ⟨by simpa [Region.seqB] using hB, h⟩
  | o :: l, k, listed, a, w, hm, hl, hB, h => by
    have h0 : ops[k]? = some o := by simpa using (hl 0).symm
    simp only [List.length_cons, Region.seqB, Bool.and_eq_true, decide_eq_true_eq] at hB
    refine ⟨fun h1 => (by rw [hB.1] at h1; cases h1), fun i hi => ?_⟩
    rw [hB.1] at hi
    have hik : i = k := by simpa using hi
    subst hik
    have hw : wpOp P ops Q i (wpList P ops Q l) a w := by unfold wpOp; simp only [h0]; exact h
    exact wpOp_mono (fun a' w' h' => ⟨fun hlt => absurd hlt (by omega), wpAny2_of_seq l (i + 1) _ a' w' (by omega) (fun j => by have := hl (j + 1); simpa [Nat.add_assoc, Nat.add_comm 1 j] using this) hB.2 h'⟩) hw

/-- Each of these yields, in every world that meets S, and does nothing else; then L. -/
def wpYield (P : Program) (ops : Array Oper) (S : World → Prop) (L : Act → Prop) : List Oper → Act → Prop
  | [], a => L a
  | o :: l, a => ∃ v, YieldsIf P ops S o v a ∧ wpYield P ops S L l (a.put o.dst v)
theorem wpYield_cons {L : Act → Prop} {o : Oper} {l : List Oper} {a : Act} {v : Value} (h : YieldsIf P ops S o v a) (k : wpYield P ops S L l (a.put o.dst v)) : wpYield P ops S L (o :: l) a := ⟨v, h, k⟩

theorem wpYield_nil {L : Act → Prop} {a : Act} (h : L a) : wpYield P ops S L [] a := h

theorem wpAny2_lex {m n g : Nat} {L : Act → Prop} (T : TailOk md ops m) (hnm : n ≤ m) (hQ : ∀ d v c a w, Q (.panic c) (Act.put a d v) w → Q (.panic c) a w)
    {w : World} (hS : S w) (hL : ∀ listed a, Region.seqB md ops g n listed = true → L a → wpAny2 P md ops Q S m g listed a w) (l : List Oper) :
    ∀ (k : Nat) (listed : Array Bool) (a : Act), (∀ j, j < l.length → l[j]? = ops[k + j]?) → k + l.length = n → HeadInv md ops m listed →
      Region.lexHead md ops g l.length k listed = true → wpYield P ops S L l a → wpAny2 P md ops Q S m (g + l.length) listed a w := by
  induction l with
  | nil =>
    intro k listed a _ hk _ hB h
    obtain rfl : k = n := by simpa using hk
    exact hL listed a (by simpa [Region.lexHead] using hB) h
  | cons o l ih =>
    intro k listed a hl hk inv hB h
    have h0 : ops[k]? = some o := by simpa using (hl 0 (by simp)).symm
    rw [List.length_cons] at hk
    simp only [List.length_cons, Region.lexHead, Bool.and_eq_true] at hB
    have hr : k ∈ Region.ready md ops listed := by simpa using hB.1.1
    obtain ⟨v, hy, hK⟩ := h
    refine wpAny2_first T h0 (by omega) (fun c a w => hQ _ _ c a w) (g + l.length) listed a w inv (Region.free_spec h0 hB.1.2) hr hy hS (ih (k + 1) _ _ ?_ (by omega) (inv.set hr (by omega)) hB.2 hK)
    intro j hj
    have := hl (j + 1) (by simp; omega)
    rw [List.getElem?_cons_succ] at this
    rw [this]; congr 1; omega

/-- What the one operation between head and tail does: it runs to its end, S holds behind it, and the tail goes on. -/
def wpMid (P : Program) (ops : Array Oper) (Q : Exit → Act → World → Prop) (S : World → Prop) (o : Oper) (l : List Oper) (a : Act) (w : World) : Prop :=
  ∃ v w1, Region.wanted o (yielded ops a.tmps) = true ∧ (execOp a.eval o).run P w = .ok (.value v) w1 ∧ S w1 ∧ wpList P ops Q l (a.put o.dst v) w1
theorem wpMid_intro {o : Oper} {l : List Oper} {a : Act} {w w1 : World} {v : Value} (h1 : Region.wanted o (yielded ops a.tmps) = true) (h2 : (execOp a.eval o).run P w = .ok (.value v) w1) (h3 : S w1) (h4 : wpList P ops Q l (a.put o.dst v) w1) :
    wpMid P ops Q S o l a w := ⟨v, w1, h1, h2, h3, h4⟩
theorem wp_region_mid {id : Nat} {a : Act} {w : World} {l : List Oper} {o : Oper} (n : Nat) (hm : P.follows .mixedOrders = true) (hsel : Region.noSelect l.toArray = true) (hn : n + 1 < l.length) (hs : Region.sinkB .any l.toArray (n + 1) = true) (hc : Region.chainB .any l.toArray (n + 1) = true)
    (hlex : Region.lexHead .any l.toArray (l.length - n) n 0 (Array.replicate l.toArray.size false) = true) (ho : l[n]? = some o) (hQ : ∀ d v c a w, Q (.panic c) (Act.put a d v) w → Q (.panic c) a w) (S : World → Prop) (hS : S w.drew)
    (h : wpYield P l.toArray S (fun a' => wpMid P l.toArray Q S o (l.drop (n + 1)) a' w.drew) (l.take n) a) : (Code.region id l.toArray true).wp P Q a w := by
  have T : TailOk .any l.toArray (n + 1) := ⟨Region.noSelect_spec hsel, hs, hc, by simpa using hn⟩
  have htk : (l.take n).length = n := by simp; omega
  have inv0 : HeadInv .any l.toArray (n + 1) (Array.replicate l.toArray.size false) :=
    ⟨by simp, fun j oj _ hj => (by rw [getD_replicate_false] at hj; cases hj), fun t _ ht => getD_in (by simpa using ht) (getD_replicate_false _ _)⟩
  refine wp_region_any hm (wpAny_of_2 (S := S) (m := n + 1) _ _ _ _ ?_)
  have hno : l.toArray[n]? = some o := by simpa using ho
  have hgl : l.length - n = (l.drop (n + 1)).length + 1 := by simp; omega
  have K := wpAny2_lex (md := .any) (g := l.length - n) (L := fun a' => wpMid P l.toArray Q S o (l.drop (n + 1)) a' w.drew) (w := w.drew) (n := n) T (by omega) hQ hS (fun listed a' hB hM => by
    obtain ⟨v, w1, h1, h2, h3, h4⟩ := hM
    rw [hgl] at hB ⊢
    simp only [Region.seqB, Bool.and_eq_true, decide_eq_true_eq] at hB
    refine ⟨fun h0 => (by rw [hB.1] at h0; cases h0), fun i hi => ?_⟩
    rw [hB.1] at hi
    have hin : i = n := by simpa using hi
    subst hin
    unfold wpOp
    simp only [hno]
    simp only [h1, if_true, Oper.wp, h2, Oper.upon]
    exact .inl ⟨fun _ => h3, wpAny2_of_seq (l.drop (i + 1)) (i + 1) _ _ _ (Nat.le_refl _) (fun j => by simp [List.getElem?_drop]) hB.2 h4⟩) (l.take n) 0 _ a (fun j hj => by
    rw [htk] at hj
    simp [hj]) (by simpa using htk) inv0 (by rw [htk]; exact hlex) h
  rw [htk, show l.length - n + n = l.toArray.size by simp; omega] at K
  exact K
end
end Go.Proofs.Ythopjhifepijiaa
