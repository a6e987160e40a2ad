/- Maps of typed keys and elements: what a map holds is a function. No program in sight. -/
import Derived.Test.YthopjhifepijiaaFrame
import Derived.Maps.RangeWalk
import Derived.DeepKeys4
namespace Go.Proofs.Ythopjhifepijiaa
open Go.RowKit
open Go.Maps (Keyed)
set_option linter.unusedVariables false

/-- Every value reads as itself. -/
def heldR (v : Value) : Option (DataW Value × List MemPlace) := some (.held v, [])

/-- Block b is a map of at most n entries: at key x it holds g x. -/
def MapT {α β : Type} (w : World) (P : Program) (k : TypeId) (b n : Nat) (ek : α → Value) (ev : β → Value) (g : α → Option β) : Prop :=
  ∃ D : DataW Value, w.ownsMap P k heldR b n D ∧ ∀ x l, keyOf P k (ek x) = some l → Maps.has D l = (g x).isSome ∧ ∀ z, D.atKey l z = match g x with
    | some u => .held (ev u)
    | none => z
variable {α β : Type} {w w' : World} {P : Program} {k e t : TypeId} {b n : Nat} {ek : α → Value} {ev : β → Value} {g : α → Option β}

theorem MapT.lt (h : MapT w P k b n ek ev g) : b < w.heap.size := h.elim fun D h => h.1.lt
theorem MapT.mono (h : MapT w P k b n ek ev g) {m : Nat} (hm : n ≤ m) : MapT w P k b m ek ev g := h.elim fun D h => ⟨D, h.1.mono hm, h.2⟩
theorem MapT.touch {F : List Nat} (h : MapT w P k b n ek ev g) (ht : Touch F w w') (hb : b ∉ F) : MapT w' P k b n ek ev g := h.elim fun D h => ⟨D, ownsMap_touch h.1 ht hb, h.2⟩
theorem MapT.alloc (h : MapT w P k b n ek ev g) (o : Obj) : MapT (w.alloc o) P k b n ek ev g := h.elim fun D h => ⟨D, h.1.alloc o, h.2⟩
theorem MapT.below (h : MapT w P k b n ek ev g) (hb : Below w.heap.size w w') : MapT w' P k b n ek ev g := h.touch (F := []) (Touch.of_below hb) (by simp)
theorem MapT.made (w : World) (P : Program) (k : TypeId) (ek : α → Value) (ev : β → Value) : MapT (w.alloc (.map #[] 0)) P k w.heap.size 0 ek ev (fun _ => none) :=
  ⟨_, World.ownsMap_made _ _ _ _, fun _ _ _ => ⟨rfl, fun _ => rfl⟩⟩
theorem MapT.congr (h : MapT w P k b n ek ev g) {g' : α → Option β} (hg : ∀ x l, keyOf P k (ek x) = some l → g x = g' x) : MapT w P k b n ek ev g' :=
  h.elim fun D ⟨h1, h2⟩ => ⟨D, h1, fun x l hx => hg x l hx ▸ h2 x l hx⟩

/-- What is found. -/
theorem MapT.look (h : MapT w P k b n ek ev g) (K : Keyed P k) (ht : P.underlying t = some (.map k e)) {z : Value} (hz : (zeroValue e).run P w = .ok z w) {x : α} {l : Lit} (hk : keyOf P k (ek x) = some l) :
    (Instr.lookup t (.map (some b)) (ek x) false).run P w = .ok (((g x).map ev).getD z) w := by
  obtain ⟨D, hD, hg⟩ := h
  obtain ⟨v, ps, hrun, hv⟩ := hD.lookup K ht hz (zd := .held z) (zp := []) rfl hk
  rw [hrun]
  unfold heldR at hv
  injection hv with hv
  injection hv with hv1 hv2
  rw [(hg x l hk).2] at hv1
  cases hgx : g x with
  | none => rw [hgx] at hv1; injection hv1 with h1; rw [h1]; rfl
  | some u => rw [hgx] at hv1; injection hv1 with h1; rw [h1]; rfl
theorem MapT.look_ok (h : MapT w P k b n ek ev g) (K : Keyed P k) (ht : P.underlying t = some (.map k e)) {z : Value} (hz : (zeroValue e).run P w = .ok z w) {x : α} {l : Lit} (hk : keyOf P k (ek x) = some l) :
    (Instr.lookup t (.map (some b)) (ek x) true).run P w = .ok (.tuple #[((g x).map ev).getD z, .bool (g x).isSome]) w := by
  obtain ⟨D, hD, hg⟩ := h
  obtain ⟨v, ps, hrun, hv⟩ := hD.look_ok K ht hz (zd := .held z) (zp := []) rfl hk
  rw [hrun, (hg x l hk).1]
  unfold heldR at hv
  injection hv with hv
  injection hv with hv1 hv2
  rw [(hg x l hk).2] at hv1
  cases hgx : g x with
  | none => rw [hgx] at hv1; injection hv1 with h1; rw [h1]; rfl
  | some u => rw [hgx] at hv1; injection hv1 with h1; rw [h1]; rfl

/-- One more entry. -/
def updT {α β : Type} [DecidableEq α] (g : α → Option β) (x : α) (v : β) : α → Option β := fun y => if y = x then some v else g y
theorem put_T [DecidableEq α] {D : DataW Value} (hm : Maps.IsMap D) (K : Keyed P k) {x : α} {l : Lit} (hk : keyOf P k (ek x) = some l) (hinj : ∀ y, ek y = ek x → y = x) (v : β)
    (hg : ∀ x l, keyOf P k (ek x) = some l → Maps.has D l = (g x).isSome ∧ ∀ z, D.atKey l z = match g x with
    | some u => .held (ev u)
    | none => z) : ∀ y l', keyOf P k (ek y) = some l' → Maps.has (D.put l (.held (ev v))) l' = (updT g x v y).isSome ∧ ∀ z, (D.put l (.held (ev v))).atKey l' z = match updT g x v y with
    | some u => .held (ev u)
    | none => z := by
  intro y l' hy
  by_cases e : y = x
  · subst e
    rw [hk] at hy
    injection hy with hy
    subst hy
    unfold updT
    rw [if_pos rfl]
    exact ⟨Maps.has_put_same hm (K.key hk) _, fun z => Maps.atKey_put_same hm (K.key hk) _ _⟩
  · have hne : l' ≠ l := fun e' => by
      subst e'
      exact e (hinj y (K.inj hy hk))
    unfold updT
    rw [if_neg e]
    exact ⟨(Maps.has_put_other hne _).trans (hg y l' hy).1, fun z => (Maps.atKey_put_other hne _ _).trans ((hg y l' hy).2 z)⟩
theorem wpList_update_T [DecidableEq α] (w : World) {ops : Array Oper} {rest : List Oper} {o : Oper} {a : Act} {Q : Exit → Act → World → Prop}
    (hg : o.guard = none) (m x v : Operand) (t : TypeId) (hop : o.op = Op.mapUpdate t m x v) (k e : TypeId) (K : Keyed P k) (ht : P.underlying t = some (.map k e)) (b n : Nat) (ek : α → Value) (ev : β → Value) (g : α → Option β)
    (hown : MapT w P k b n ek ev g) (hm : a.eval m = .map (some b)) (hn : n < maxLen) (y : α) (l : Lit) (hx : a.eval x = ek y) (hkey : keyOf P k (ek y) = some l) (hinj : ∀ z, ek z = ek y → z = y) (u : β) (hv : a.eval v = ev u)
    (hK : ∀ w', MapT w' P k b (n + 1) ek ev (updT g y u) → w.grownBy w' (some b) → wpList P ops Q rest (a.put o.dst undef) w') :
    wpList P ops Q (o :: rest) a w := by
  obtain ⟨D, hD, hgx⟩ := hown
  exact wpList_mapUpdate_own w hg m x v t hop k e K ht heldR b n D hm hD hn (ek y) (ev u) l hx hv hkey (.held (ev u)) [] rfl fun w' h1 h2 =>
    hK w' ⟨_, h1, put_T hD.isMap K hkey hinj u hgx⟩ h2

/-! Going through a map. -/
/-- The loop is under way: left says what is still to come. -/
def RngT {α β : Type} (w : World) (P : Program) (k : TypeId) (b r n : Nat) (ek : α → Value) (ev : β → Value) (g : α → Option β) (left : α → Bool) (cnt : Nat) : Prop :=
  ∃ (D : DataW Value) (lf : Lit → Bool), w.ranges P k heldR b r n D lf cnt ∧ (∀ x l, keyOf P k (ek x) = some l → Maps.has D l = (g x).isSome ∧ ∀ z, D.atKey l z = match g x with
    | some u => .held (ev u)
    | none => z) ∧ ∀ x l, keyOf P k (ek x) = some l → lf l = left x
theorem RngT.map {r cnt : Nat} {left : α → Bool} (h : RngT w P k b r n ek ev g left cnt) : MapT w P k b n ek ev g := h.elim fun D h => h.elim fun lf h => ⟨D, h.1.owns, h.2.1⟩
theorem RngT.lt {r cnt : Nat} {left : α → Bool} (h : RngT w P k b r n ek ev g left cnt) : r < w.heap.size := h.elim fun D h => h.elim fun lf h => h.1.lt
theorem RngT.ne {r cnt : Nat} {left : α → Bool} (h : RngT w P k b r n ek ev g left cnt) : r ≠ b := h.elim fun D h => h.elim fun lf h => h.1.ne
theorem RngT.left_eq {r cnt : Nat} {left : α → Bool} (h : RngT w P k b r n ek ev g left cnt) : w.rangeLeft b r = cnt := h.elim fun D h => h.elim fun lf h => h.1.left_eq
theorem ranges_touch {H : Type} {F : List Nat} {R : Value → Option (DataW H × List MemPlace)} {r cnt : Nat} {D : DataW H} {left : Lit → Bool} (h : w.ranges P k R b r n D left cnt) (ht : Touch F w w') (hb : b ∉ F) (hr : r ∉ F) : w'.ranges P k R b r n D left cnt := by
  have h1 := h.owns.lt
  have h2 := h.lt
  obtain ⟨es, clock, since, seen, c0, hb', Fi, hs, hD, hr', rest⟩ := h
  exact ⟨es, clock, since, seen, c0, (ht.block h1 hb).trans hb', Fi, hs, hD, (ht.block h2 hr).trans hr', rest⟩
theorem RngT.touch {F : List Nat} {r cnt : Nat} {left : α → Bool} (h : RngT w P k b r n ek ev g left cnt) (ht : Touch F w w') (hb : b ∉ F) (hr : r ∉ F) : RngT w' P k b r n ek ev g left cnt :=
  h.elim fun D h => h.elim fun lf h => ⟨D, lf, ranges_touch h.1 ht hb hr, h.2⟩
theorem wpList_range_T (w : World) {ops : Array Oper} {rest : List Oper} {o : Oper} {a : Act} {Q : Exit → Act → World → Prop}
    (hg : o.guard = none) (m : Operand) (t : TypeId) (hop : o.op = Op.range t m) (k e : TypeId) (K : Keyed P k) (ht : P.underlying t = some (.map k e)) (b n : Nat) (ek : α → Value) (ev : β → Value) (g : α → Option β)
    (hm : a.eval m = .map (some b)) (hown : MapT w P k b n ek ev g)
    (hK : ∀ w' cnt, RngT w' P k b w.heap.size n ek ev g (fun x => (g x).isSome) cnt → w.grownBy w' none → w'.heap.size = w.heap.size + 1 → wpList P ops Q rest (a.put o.dst (.pointer (some ⟨w.heap.size, 0, none⟩))) w') :
    wpList P ops Q (o :: rest) a w := by
  obtain ⟨D, hD, hgx⟩ := hown
  exact wpList_range_own w hg m t hop k e K ht heldR b n D hm hD fun w' h1 h2 h3 => hK w' _ ⟨D, _, h1, hgx, fun x l hx => (hgx x l hx).1⟩ h2 h3
theorem wpList_next_T [DecidableEq α] (w : World) {ops : Array Oper} {rest : List Oper} {o : Oper} {a : Act} {Q : Exit → Act → World → Prop}
    (hg : o.guard = none) (it : Operand) (hop : o.op = Op.next it false) (k : TypeId) (K : Keyed P k) (b r n : Nat) (ek : α → Value) (ev : β → Value) (g : α → Option β) (left : α → Bool) (cnt : Nat)
    (invK : ∀ key kl, keyOf P k key = some kl → ∃ x, key = ek x) (hinj : ∀ y z, ek z = ek y → z = y)
    (hit : a.eval it = .pointer (some ⟨r, 0, none⟩)) (h : RngT w P k b r n ek ev g left cnt)
    (hDone : (∀ x l, keyOf P k (ek x) = some l → left x = false) → wpList P ops Q rest (a.put o.dst (.tuple #[.bool false])) w)
    (hMore : ∀ (x : α) (u : β) (l : Lit) (w' : World) (cnt' : Nat), keyOf P k (ek x) = some l → left x = true → g x = some u → RngT w' P k b r n ek ev g (fun z => left z && !decide (z = x)) cnt' → cnt' < cnt →
      w.grownBy w' (some r) → w'.heap.size = w.heap.size → (Instr.entry (.pointer (some ⟨r, 0, none⟩))).run P w' = .ok (.tuple #[ek x, ev u]) w' → wpList P ops Q rest (a.put o.dst (.tuple #[.bool true, ek x, ev u])) w') :
    wpList P ops Q (o :: rest) a w := by
  obtain ⟨D, lf, hR, hgx, hlf⟩ := h
  refine wpList_next_ranges w hg it hop k K heldR ek (fun v : Value => v) invK (fun v y hv => ⟨v, rfl⟩) b r n D lf cnt hit hR (fun h0 hl => hDone fun x l hx => by rw [← hlf x l hx]; exact hl l) ?_
  intro x c kl y w' cnt' hkey hlx hRc hat hrg hlt hgr hsz hen
  unfold heldR at hRc
  injection hRc with hRc
  subst hRc
  have hg1 := (hgx x kl hkey).2 (.held (.bool true))
  have hg2 := (hgx x kl hkey).2 (.held (.bool false))
  rw [hat] at hg1 hg2
  cases hgx' : g x with
  | none =>
    rw [hgx'] at hg1 hg2
    injection hg1 with e1
    injection hg2 with e2
    rw [e1] at e2
    cases e2
  | some u =>
    rw [hgx'] at hg1
    injection hg1 with e1
    have e2 : c = ev u := e1
    subst e2
    refine hMore x u kl w' cnt' hkey (by rw [← hlf x kl hkey]; exact hlx) hgx' ⟨D, _, hrg, hgx, fun z l hz => ?_⟩ hlt hgr hsz hen
    rw [hlf z l hz]
    by_cases e : z = x
    · subst e
      rw [hkey] at hz
      injection hz with hz
      subst hz
      rw [WideAt.sameKey_self (K.key hkey)]
      simp
    · have hne : l ≠ kl := fun e' => by
        subst e'
        exact e (hinj x z (K.inj hz hkey))
      rw [Maps.sameKey_ne hne]
      simp [e]
end Go.Proofs.Ythopjhifepijiaa
