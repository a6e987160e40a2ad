/- Maps of typed keys of which the number of entries is known. No program in sight. -/
import Derived.Test.YthopjhifepijiaaMapT
namespace Go.Proofs.Ythopjhifepijiaa
open Go.RowKit
open Go.Maps (Keyed)
set_option linter.unusedVariables false
/-- Block b is a map of just n entries. -/
def MapN {α β : Type} (w : World) (P : Program) (k : TypeId) (b n : Nat) (ek : α → Value) (ev : β → Value) (g : α → Option β) : Prop :=
  ∃ D : DataW Value, w.ownsMap P k heldR b n D ∧ Maps.size D = n ∧ ∀ x l, keyOf P k (ek x) = some l → Maps.has D l = (g x).isSome ∧ ∀ z, D.atKey l z = match g x with
    | some u => .held (ev u)
    | none => z
variable {α β : Type} {w w' : World} {P : Program} {k e t : TypeId} {b n : Nat} {ek : α → Value} {ev : β → Value} {g : α → Option β}
theorem MapN.toT (h : MapN w P k b n ek ev g) : MapT w P k b n ek ev g := h.elim fun D h => ⟨D, h.1, h.2.2⟩
theorem MapN.touch {F : List Nat} (h : MapN w P k b n ek ev g) (ht : Touch F w w') (hb : b ∉ F) : MapN w' P k b n ek ev g := h.elim fun D h => ⟨D, ownsMap_touch h.1 ht hb, h.2⟩
theorem MapN.alloc (h : MapN w P k b n ek ev g) (o : Obj) : MapN (w.alloc o) P k b n ek ev g := h.elim fun D h => ⟨D, h.1.alloc o, h.2⟩
theorem MapN.below (h : MapN w P k b n ek ev g) (hb : Below w.heap.size w w') : MapN w' P k b n ek ev g := h.touch (F := []) (Touch.of_below hb) (by simp)
theorem MapN.made (w : World) (P : Program) (k : TypeId) (ek : α → Value) (ev : β → Value) : MapN (w.alloc (.map #[] 0)) P k w.heap.size 0 ek ev (fun _ => none) :=
  ⟨_, World.ownsMap_made _ _ _ _, rfl, fun _ _ _ => ⟨rfl, fun _ => rfl⟩⟩
/-- A new key. -/
theorem wpList_update_N [DecidableEq α] (w : World) {ops : Array Oper} {rest : List Oper} {o : Oper} {a : Act} {Q : Exit → Act → World → Prop}
    (hg : o.guard = none) (m x v : Operand) (t : TypeId) (hop : o.op = Op.mapUpdate t m x v) (k e : TypeId) (K : Keyed P k) (ht : P.underlying t = some (.map k e)) (b n : Nat) (ek : α → Value) (ev : β → Value) (g : α → Option β)
    (hown : MapN w P k b n ek ev g) (hm : a.eval m = .map (some b)) (hn : n < maxLen) (y : α) (l : Lit) (hx : a.eval x = ek y) (hkey : keyOf P k (ek y) = some l) (hinj : ∀ z, ek z = ek y → z = y) (hnew : g y = none) (u : β) (hv : a.eval v = ev u)
    (hK : ∀ w', MapN w' P k b (n + 1) ek ev (updT g y u) → w.grownBy w' (some b) → wpList P ops Q rest (a.put o.dst undef) w') :
    wpList P ops Q (o :: rest) a w := by
  obtain ⟨D, hD, hs, hgx⟩ := hown
  refine wpList_mapUpdate_own w hg m x v t hop k e K ht heldR b n D hm hD hn (ek y) (ev u) l hx hv hkey (.held (ev u)) [] rfl fun w' h1 h2 => hK w' ⟨_, h1, ?_, put_T hD.isMap K hkey hinj u hgx⟩ h2
  have hno : Maps.has D l = false := by rw [(hgx y l hkey).1, hnew]; rfl
  rw [Maps.size_put (hD.tidy K), hno, hs]
  rfl
theorem MapN.len (h : MapN w P k b n ek ev g) (ht : P.underlying t = some (.map k e)) (ty : TypeId) : (Builtin.len_ #[t] ty #[.map (some b)]).run P w = .ok (.int .i64 n) w := by
  obtain ⟨D, hD, hs, _⟩ := h
  rw [hD.len ht ty, hs]
end Go.Proofs.Ythopjhifepijiaa
