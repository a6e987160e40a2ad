/- Frames: which blocks have turned. No program in sight. -/
import Derived.Test.YthopjhifepijiaaKit
import Derived.Deep.OwnRows
import Derived.Deep.Draws
import Derived.Maps.Own
import Derived.Maps.OwnSet
import Derived.Lib.SmallJoins
import Derived.ArgAppend
namespace Go.Proofs.Ythopjhifepijiaa
open Go.RowKit
open Go.ChangeMaps (setBlock heap_setBlock_same heap_setBlock_other)
set_option linter.unusedVariables false

/-- Of the blocks that were there, those of F alone may have turned. -/
def Touch (F : List Nat) (w w' : World) : Prop :=
  w'.os = w.os ∧ w'.tape = w.tape ∧ w'.output = w.output ∧ w.heap.size ≤ w'.heap.size ∧ ∀ b, b < w.heap.size → b ∉ F → w'.heap[b]? = w.heap[b]?
theorem Touch.refl (F : List Nat) (w : World) : Touch F w w := ⟨rfl, rfl, rfl, Nat.le_refl _, fun _ _ _ => rfl⟩
theorem Touch.size {F : List Nat} {w w' : World} (h : Touch F w w') : w.heap.size ≤ w'.heap.size := h.2.2.2.1
theorem Touch.block {F : List Nat} {w w' : World} (h : Touch F w w') {b : Nat} (hb : b < w.heap.size) (hF : b ∉ F) : w'.heap[b]? = w.heap[b]? := h.2.2.2.2 b hb hF
theorem Touch.trans {F G : List Nat} {w w1 w2 : World} (h : Touch F w w1) (k : Touch G w1 w2) (hG : ∀ b ∈ G, b ∈ F ∨ w.heap.size ≤ b) : Touch F w w2 :=
  ⟨k.1.trans h.1, k.2.1.trans h.2.1, k.2.2.1.trans h.2.2.1, Nat.le_trans h.size k.size, fun b hb hF =>
    (k.block (Nat.lt_of_lt_of_le hb h.size) (fun hm => (hG b hm).elim hF (fun h' => absurd hb (by omega)))).trans (h.block hb hF)⟩
theorem Touch.mono {F G : List Nat} {w w' : World} (h : Touch F w w') (hG : ∀ b ∈ F, b ∈ G ∨ w.heap.size ≤ b) : Touch G w w' :=
  ⟨h.1, h.2.1, h.2.2.1, h.size, fun b hb hF => h.block hb (fun hm => (hG b hm).elim hF (fun h' => absurd hb (by omega)))⟩
theorem Touch.drewN {F : List Nat} {w w' : World} (h : Touch F w w') (q : Nat) : Touch F w (w'.drewN q) := h
theorem Touch.drew {F : List Nat} {w w' : World} (h : Touch F w w') : Touch F w w'.drew := h
theorem Touch.alloc {F : List Nat} {w w' : World} (h : Touch F w w') (o : Obj) : Touch F w (w'.alloc o) :=
  ⟨h.1, h.2.1, h.2.2.1, Nat.le_trans h.size (by simp), fun b hb hF => (Below.heap_alloc w' o b (Nat.lt_of_lt_of_le hb h.size)).trans (h.block hb hF)⟩
theorem Touch.setCell {F : List Nat} {w w' : World} (h : Touch F w w') {p : Addr} (hp : p.block ∈ F ∨ w.heap.size ≤ p.block) (u : Value) : Touch F w (w'.setCell p u) :=
  ⟨h.1, h.2.1, h.2.2.1, by simpa [World.setCell] using h.size, fun b hb hF => (Below.heap_setCell w' p u b (by
    rintro rfl
    rcases hp with hp | hp
    · exact hF hp
    · omega)).trans (h.block hb hF)⟩
theorem Touch.of_grown {w w' : World} {row : Option Nat} (h : w.grownBy w' row) : Touch row.toList w w' :=
  ⟨h.os, h.tape, h.output, h.size, fun b hb hF => h.block b hb (fun e => hF (by rw [← e]; simp))⟩
theorem Touch.of_below {F : List Nat} {w w' : World} (h : Below w.heap.size w w') : Touch F w w' := ⟨h.os, h.tape, h.output, h.size, fun b hb _ => h.block b hb⟩
theorem Touch.below {F : List Nat} {w w' : World} {B : Nat} (h : Touch F w w') (hB : B ≤ w.heap.size) (hF : ∀ b ∈ F, B ≤ b) : Below B w w' :=
  ⟨h.1, h.2.1, h.2.2.1, h.size, fun b hb => h.block (Nat.lt_of_lt_of_le hb hB) (fun hm => by have := hF b hm; omega)⟩
theorem Touch.cell {F : List Nat} {w w' : World} (h : Touch F w w') {p : Addr} (hp : p.block < w.heap.size) (hF : p.block ∉ F) : w'.cell? p = w.cell? p := World.cell?_of_block (h.block hp hF)
theorem Touch.frozen {F : List Nat} {w w' : World} (h : Touch F w w') {p : Addr} (hp : p.block < w.heap.size) (hF : p.block ∉ F) : w'.frozen? p = w.frozen? p := World.frozen?_of_block (h.block hp hF)
/-- What lies elsewhere stays. -/
theorem rowIs_touch {F : List Nat} {w w' : World} {b n : Nat} {t : TypeId} {f : Nat → Value} (h : w.rowIs b t n f) (k : Touch F w w') (hF : b ∉ F) : w'.rowIs b t n f := World.rowIs.of_block h (k.block (World.rowIs.lt h) hF)
theorem grown_of_touch {F : List Nat} {w w' : World} (k : Touch F w w') {g : Nat} (hF : g ∉ F) (hg : g < w.heap.size) : w'.heap[g]? = w.heap[g]? := k.block hg hF
theorem ownsRow_touch {F : List Nat} {w w' : World} {base n size : Nat} {e : TypeId} {v : Value} {xs : List Value} (h : w.ownsRow base e size v n xs) (k : Touch F w w') (hF : ∀ g, v.ownBlock = some g → g ∉ F) : w'.ownsRow base e size v n xs := by
  refine ⟨h.1, ?_⟩
  rcases h.2 with h0 | ⟨g, cap, cur, hv, hb, hg, hnc, hcm, hcs, htake⟩
  · exact .inl h0
  · refine .inr ⟨g, cap, cur, hv, hb, ?_, hnc, hcm, hcs, htake⟩
    have hlt : g < w.heap.size := (Array.getElem?_eq_some_iff.1 hg).1
    rw [k.block hlt (hF g (by rw [hv]; rfl)), hg]
theorem ownsMap_touch {H : Type} {P : Program} {F : List Nat} {w w' : World} {k : TypeId} {R : Value → Option (DataW H × List MemPlace)} {b n : Nat} {D : DataW H} (h : w.ownsMap P k R b n D) (t : Touch F w w') (hF : b ∉ F) : w'.ownsMap P k R b n D := by
  have hlt := h.lt
  obtain ⟨es, clock, hb, r⟩ := h
  exact ⟨es, clock, by rw [t.block hlt hF, hb], r⟩

/-- 'clear(m)'. -/
theorem clear_run {H : Type} {P : Program} {w : World} {k e t : TypeId} {R : Value → Option (DataW H × List MemPlace)} {b n : Nat} {D : DataW H} (h : w.ownsMap P k R b n D) (ht : P.underlying t = some (.map k e)) :
    ∃ w', (∀ ty, (Builtin.clear_ #[t] ty #[.map (some b)]).run P w = .ok (.tuple #[]) w') ∧ w'.ownsMap P k R b 0 (.map []) ∧ w.grownBy w' (some b) := by
  obtain ⟨es, clock, hb, F, hs, rfl⟩ := h
  refine ⟨setBlock w b (.map #[] clock), fun ty => ?_, ?_, ?_⟩
  · simp [Builtin.clear_, run_underlying ht, MapKept.run_getObj_map hb, MapKept.run_setObj_map _ hb, Result.andThen, setBlock]
  · exact ⟨#[], clock, heap_setBlock_same hb _, ⟨by simp, MapKept.stamped_empty clock, by simp⟩, by simp, rfl⟩
  · exact ⟨rfl, rfl, rfl, by simp [setBlock], fun i _ hi => heap_setBlock_other hb _ (fun e => hi (by rw [e]))⟩

/-- 'append' onto a row of the call's own: the row stays where it was, or is new. -/
theorem wpList_append_near {P : Program} (w : World) {ops : Array Oper} {rest : List Oper} {o : Oper} {a : Act} {Q : Exit → Act → World → Prop}
    (hg : o.guard = none) (s x : Operand) (t : TypeId) (hop : o.op = Op.call { callee := Callee.builtin Builtin.append, args := #[s, x], argTypes := #[t, t] })
    (base : Nat) (e : TypeId) (i : TypeInfo) (z : Value) (size bytes : Nat) (h1 : P.underlying t = some (.slice e)) (h2 : P.info? e = some i) (h3 : i.zero = some z) (h4 : i.size = size) (h5 : i.bytes = bytes) (h6 : z.cells.size = size) (h7 : 0 < size)
    (v : Value) (n : Nat) (xs : List Value) (hs : a.eval s = v) (hown : w.ownsRow base e size v n xs)
    (ad : Addr) (m c : Nat) (news : List Value) (hx : a.eval x = .slice (some ad) m c) (hm : 0 < m) (hn : news.length = m * size) (hc : ∀ j u, news[j]? = some u → w.cell? (ad.add j) = some u) (h1c : ∀ u ∈ news, u.oneCell' = true)
    (b1 : n + m ≤ maxLen) (b2 : (n + m) * bytes ≤ 140737488355328) (hbase : base ≤ w.heap.size)
    (hK : ∀ g cap w', w'.ownsRow base e size (.slice (some ⟨g, 0, none⟩) (n + m) cap) (n + m) (xs ++ news) → w.grownBy w' v.ownBlock → (v.ownBlock = some g ∨ w.heap.size ≤ g) → wpList P ops Q rest (a.put o.dst (.slice (some ⟨g, 0, none⟩) (n + m) cap)) w') :
    wpList P ops Q (o :: rest) a w := by
  have wide : ∀ {w' : World} {row : Option Nat}, w.grownBy w' none → w.grownBy w' row := fun h => ⟨h.os, h.tape, h.output, h.size, fun b hb _ => h.block b hb (by simp)⟩
  rcases Go.Joins.ownsRow_forms hown with ⟨rfl, rfl⟩ | ⟨g, cap, rfl⟩
  · have hx0 : xs = [] := List.eq_nil_of_length_eq_zero (by simpa using hown.1)
    subst hx0
    refine wpList_append_grows w hg s x t hop e i z size bytes h1 h2 h3 h4 h5 h6 h7 none 0 0 [] hs (fun _ => ⟨rfl, rfl⟩) (by simp) (fun b h => by cases h) ad m c news hx hn hc h1c (by omega) b1 b2 ?_
    intro v' w' ho hgr
    obtain ⟨g', cap', rfl⟩ := Go.Joins.ownsRow_form ho (by omega)
    exact hK g' cap' w' (Go.Joins.ownsRow_le ho hbase) hgr (.inr (ho.lt g' rfl).1)
  · by_cases hcap : n + m ≤ cap
    · refine wpList_append_fits w hg s x t hop base e i size h1 h2 h4 g n cap xs hs hown ad m c news hx hn hc h1c hcap ?_
      intro w' ho hgr
      exact hK g cap w' ho hgr (.inl rfl)
    · refine wpList_append_grows w hg s x t hop e i z size bytes h1 h2 h3 h4 h5 h6 h7 (some ⟨g, 0, none⟩) n cap xs hs (fun h => by cases h) hown.1 (fun b hb => by cases hb; exact hown.cells rfl) ad m c news hx hn hc h1c (by omega) b1 b2 ?_
      intro v' w' ho hgr
      obtain ⟨g', cap', rfl⟩ := Go.Joins.ownsRow_form ho (by omega)
      exact hK g' cap' w' (Go.Joins.ownsRow_le ho hbase) (wide hgr) (.inr (ho.lt g' rfl).1)

end Go.Proofs.Ythopjhifepijiaa
