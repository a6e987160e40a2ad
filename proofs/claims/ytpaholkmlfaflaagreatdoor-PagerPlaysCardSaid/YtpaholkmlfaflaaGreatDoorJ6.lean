/- Lemmas on the way to the statement: Cut, Pager1, Pager2, Pager3, Pager4, Pager5, Pager6. -/
import Derived.Test.YtpaholkmlfaflaaGreatDoorJ2
import Derived.Test.YtpaholkmlfaflaaGreatDoorJ5
import Derived.Lib.SmallJoins
import Derived.IntWalk
namespace Go.Proofs.YtpaholkmlfaflaaGreatDoor
open Go.RowKit Go.Joins
set_option linter.unusedVariables false

theorem Tryz.infoStrC : (Tryz.prog.info? 9).map (fun i => (i.zero, i.size, i.bytes)) = some (some (.string ⟨#[]⟩), 1, 16) := by kernel_rfl

/-- The sectors that have been cut behind j rounds. -/
def cutCells (s : ByteArray) (j : Nat) : List Value := (List.range j).map fun i => .string (s.extract (i * 64) ((i + 1) * 64))
theorem cutCells_snoc (s : ByteArray) (j : Nat) : cutCells s j ++ [.string (s.extract (j * 64) ((j + 1) * 64))] = cutCells s (j + 1) := by
  simp [cutCells, List.range_succ]

set_option maxRecDepth 100000 in
set_option maxHeartbeats 1000000 in
theorem cut_any (s : ByteArray) (w : World) (hz : s.size = 512) :
    Calls Tryz.prog 83 #[.string s] w fun e w' => ∃ g cap, e = .returned (.slice (some ⟨g, 0, none⟩) 8 cap) ∧ w'.ownsRow w.heap.size 9 1 (.slice (some ⟨g, 0, none⟩) 8 cap) 8 (cutCells s 8) ∧ Below w.heap.size w w' := by
  obtain ⟨i0, hi, hz0, hz1, hz2⟩ := info_parts Tryz.infoStrC
  have z1 : s.size ≤ 512 := by omega
  have z2 : 512 ≤ s.size := by omega
  have z3 : ((s.size : Int) != 512) = false := by simp [hz]
  clear hz
  go_enter Tryz.func83, Tryz.ntmps83
  go_wp2
  go_loopw [3, 8] (fun v c wr => ∃ j : Nat, j ≤ 8 ∧ c = .int .i64 j ∧ wr.ownsRow w.heap.size 9 1 v j (cutCells s j) ∧ Below w.heap.size w wr) (fun _ c _ => 8 - (intOf c).toNat)
  case atStart => exact ⟨0, Nat.zero_le _, rfl, World.ownsRow_nil _ _ _ _, Below.refl _ _⟩
  case round =>
    obtain ⟨j, hj, rfl, hown, hb⟩ := hrel
    have hsz := hb.size
    by_cases hlt : j < 8
    · have HC := Lib.hid (cutCells_snoc s j)
      go_wp2_with (at_builtin; refine wpList_append_own _ rfl (.tmp 11) (.tmp 19) 33 rfl w.heap.size 9 i0 (.string ⟨#[]⟩) 1 16 Tryz.underlying33 hi hz0 hz1 hz2 rfl (by decide) _ _ _ rfl (hown.alloc _) ⟨wr.heap.size, 0, none⟩ 1 1 [.string (s.extract (j * 64) ((j + 1) * 64))] rfl rfl ?c1 ?c2 ?c3 ?c4 ?c5 ?_)
      case c1 => exact cell_one_new _ _ _
      case c2 => intro u hu; simp at hu; subst hu; rfl
      case c3 => unfold maxLen; omega
      case c4 => omega
      case c5 => simp; omega
      · intro v' w1 hown' hgrow _
        rw [HC.out] at hown'
        have hb' := (hb.alloc hsz (.cells #[.string (s.extract (j * 64) ((j + 1) * 64))] 9)).grown hgrow (by simp; omega) (fun k hk => (hown.lt k hk).1)
        clear hgrow hown
        go_wp2
        go_roundw
        case rel => exact ⟨j + 1, by omega, by go_num, hown', hb'⟩
        case measure => simp [intOf]; omega
    · obtain rfl : j = 8 := by omega
      obtain ⟨g, cap, hv⟩ := ownsRow_form hown (by omega)
      rw [hv] at hown
      have HO := Lib.hid hown
      clear hown
      rw [hv]
      go_wp2
      go_ret
      exact ⟨g, cap, rfl, HO.out, hb⟩

set_option maxHeartbeats 400000 in
theorem cut_none (s : ByteArray) (w : World) (hz : ((s.size : Int) != 512) = true) :
    Calls Tryz.prog 83 #[.string s] w fun e w' => e = .returned (.slice none 0 0) ∧ w = w' := by
  go_enter Tryz.func83, Tryz.ntmps83
  go_wp2_with fail
  go_ret
  exact ⟨rfl, rfl⟩

end Go.Proofs.YtpaholkmlfaflaaGreatDoor

namespace Go.Proofs.YtpaholkmlfaflaaGreatDoor
open Go.RowKit Go.Maps Go.Joins
set_option linter.unusedVariables false
/-- The dirty ones at hand are D; the clean ones are as B says. -/
def Coh (fr : Hand) (D : Int → Option ByteArray) (B : Int → ByteArray) : Prop := (∀ i s, fr i = some (s, true) ↔ D i = some s) ∧ ∀ i s, fr i = some (s, false) → B i = s
theorem Coh.dirty {fr : Hand} {D : Int → Option ByteArray} {B : Int → ByteArray} (h : Coh fr D B) (i : Int) : isDirty fr i = (D i).isSome := by
  unfold isDirty
  cases hf : fr i with
  | none =>
    cases hd : D i with
    | none => rfl
    | some s => have := (h.1 i s).2 hd; rw [hf] at this; cases this
  | some x =>
    obtain ⟨s, d⟩ := x
    cases d
    · cases hd : D i with
      | none => rfl
      | some t => have := (h.1 i t).2 hd; rw [hf] at this; cases this
    · rw [(h.1 i s).1 hf]; rfl
theorem Coh.cnt {fr : Hand} {D : Int → Option ByteArray} {B : Int → ByteArray} (h : Coh fr D B) : cntDirty fr = cntI (fun i => (D i).isSome) 100000 := cntI_congr _ (fun i _ => h.dirty i)
theorem Coh.keys {fr : Hand} {D : Int → Option ByteArray} {B : Int → ByteArray} (h : Coh fr D B) : keysI (isDirty fr) 100000 = keysI (fun i => (D i).isSome) 100000 := by
  rw [show isDirty fr = fun i => (D i).isSome from funext h.dirty]
theorem Coh.text {fr : Hand} {D : Int → Option ByteArray} {B : Int → ByteArray} (h : Coh fr D B) {i : Int} {s : ByteArray} {d : Bool} (hf : fr i = some (s, d)) : s = (D i).getD (B i) := by
  cases d
  · cases hd : D i with
    | none => exact (h.2 i s hf).symm
    | some t => have := (h.1 i t).2 hd; rw [hf] at this; cases this
  · rw [(h.1 i s).1 hf]; rfl
theorem Coh.fewer {fr fr' : Hand} {D : Int → Option ByteArray} {B : Int → ByteArray} (h : Coh fr D B) (hf : Fewer fr fr') : Coh fr' D B := by
  refine ⟨fun i s => ?_, fun i s hs => ?_⟩
  · rcases hf i with e | ⟨e, t, ht⟩
    · rw [e]; exact h.1 i s
    · rw [e]
      refine ⟨fun h => (by cases h), fun hd => ?_⟩
      have := (h.1 i s).2 hd
      rw [ht] at this; cases this
  · rcases hf i with e | ⟨e, t, ht⟩
    · rw [e] at hs; exact h.2 i s hs
    · rw [e] at hs; cases hs
theorem Coh.put {fr : Hand} {D : Int → Option ByteArray} {B : Int → ByteArray} (h : Coh fr D B) {no : Int} {s : ByteArray} (hd : D no = none) (hs : B no = s) : Coh (updI fr no (some (s, false))) D B := by
  refine ⟨fun i t => ?_, fun i t ht => ?_⟩
  · by_cases e : i = no
    · subst e
      rw [updI_same, hd]
      exact ⟨fun h => (by cases h), fun h => (by cases h)⟩
    · rw [updI_other _ _ e]; exact h.1 i t
  · by_cases e : i = no
    · subst e
      rw [updI_same] at ht
      injection ht with ht
      injection ht with ht
      rw [hs, ht]
    · rw [updI_other _ _ e] at ht; exact h.2 i t ht
theorem Coh.set {fr : Hand} {D : Int → Option ByteArray} {B : Int → ByteArray} (h : Coh fr D B) (no : Int) (s : ByteArray) : Coh (updI fr no (some (s, true))) (updI D no (some s)) B := by
  refine ⟨fun i t => ?_, fun i t ht => ?_⟩
  · by_cases e : i = no
    · subst e
      rw [updI_same, updI_same]
      exact ⟨fun h => (by injection h with h; injection h with h; rw [h]), fun h => (by injection h with h; rw [h])⟩
    · rw [updI_other _ _ e, updI_other _ _ e]; exact h.1 i t
  · by_cases e : i = no
    · subst e
      rw [updI_same] at ht
      injection ht with ht
      injection ht with _ ht
      cases ht
    · rw [updI_other _ _ e] at ht; exact h.2 i t ht
theorem Coh.clean {fr : Hand} {D : Int → Option ByteArray} {B : Int → ByteArray} (h : Coh fr D B) : Coh (cleanAll fr) (fun _ => none) (fun i => (D i).getD (B i)) := by
  refine ⟨fun i t => ⟨fun ht => ?_, fun ht => by cases ht⟩, fun i t ht => ?_⟩
  · unfold cleanAll at ht
    cases hf : fr i with
    | none => rw [hf] at ht; cases ht
    | some x => rw [hf] at ht; simp at ht
  · unfold cleanAll at ht
    cases hf : fr i with
    | none => rw [hf] at ht; cases ht
    | some x =>
      rw [hf] at ht
      simp at ht
      show (D i).getD (B i) = t
      rw [← h.text (s := x.1) (d := x.2) hf, ht]
theorem Coh.drop {fr : Hand} {D : Int → Option ByteArray} {B : Int → ByteArray} (h : Coh fr D B) : Coh (dropAll fr) (fun _ => none) B := by
  refine ⟨fun i t => ⟨fun ht => ?_, fun ht => by cases ht⟩, fun i t ht => ?_⟩
  · unfold dropAll at ht
    split at ht
    · cases ht
    · rename_i hd
      exact absurd (show isDirty fr i = true by unfold isDirty; rw [ht]) hd
  · unfold dropAll at ht
    split at ht
    · cases ht
    · exact h.2 i t ht

/-- The cells of a pager. -/
def pgF (d lb pb hb : Nat) (M : PM) : Nat → Value
  | 0 => .pointer (some ⟨d, 0, none⟩)
  | 1 => .pointer (some ⟨lb, 0, none⟩)
  | 2 => .int .i64 M.size
  | 3 => .int .u64 M.gen
  | 4 => .int .i64 M.most
  | 5 => .pointer (some ⟨pb, 0, none⟩)
  | 6 => .map (some hb)
  | _ => .bool M.dead
/-- What holds of the numbers. -/
structure PgOk (M : PM) (k : Nat) : Prop where
  disk : DOk M.m k
  geo : 2 + M.size + M.most * 8 ≤ M.m.sure.length
  size1 : 1 ≤ M.size
  most1 : 1 ≤ M.most
  room1 : 2 ≤ M.room
  room2 : M.room ≤ 65536
  frm : M.l.frm = 2
  lsize : M.l.size = M.size
  lat : M.l.at_ ≤ M.size
  next0 : 0 ≤ M.l.next
  next1 : M.l.next ≤ 18446744073709551615
  gen0 : 0 ≤ M.gen
  gen1 : M.gen ≤ 18446744073709551615
  dom : ∀ i s, M.dirty i = some s → 0 ≤ i ∧ i < M.most ∧ s.size = 512
  hdom : ∀ i s, M.hot i = some s → 0 ≤ i ∧ i < M.most ∧ s.size = 512
/-- A pager lies at b; its disk, log, pool and map of hot pages at d, lb, pb, hb. -/
structure PgIn (w : World) (b d lb pb hb : Nat) (FD FP : List Nat) (K k : Nat) (M : PM) : Prop where
  cells : w.rowIs b 99 8 (pgF d lb pb hb M)
  disk : IsDisk w d FD M.m
  log : LogAt w lb d M.l
  pool : ∃ fr, IsPool w pb FP M.room K fr ∧ Coh fr M.dirty (baseP M)
  hot : ∃ n, n = cntI (fun i => (M.hot i).isSome) 100000 ∧ MapN w Tryz.prog 3 hb n (Value.int .i64) Value.string M.hot
  ok : PgOk M k
  nb : b ∉ FD ∧ b ∉ FP ∧ b ≠ lb ∧ b ≠ hb
  nl : lb ∉ FD ∧ lb ∉ FP ∧ lb ≠ hb
  nh : hb ∉ FD ∧ hb ∉ FP
  nd : ∀ x ∈ FD, x ∉ FP
/-- What becomes of a pager if only its pool turns. -/
def PgStep (w w' : World) (b d lb pb hb : Nat) (FD FP : List Nat) (K k : Nat) (M : PM) : Prop := ∃ FP', PgIn w' b d lb pb hb FD FP' K k M ∧ Touch FP w w' ∧ ∀ x ∈ FP', x ∈ FP ∨ w.heap.size ≤ x
section
variable {w w' w1 w2 : World} {b d lb pb hb K J k : Nat} {FD FP F1 : List Nat} {M M' : PM}
theorem PgIn.cell (h : PgIn w b d lb pb hb FD FP K k M) : w.cell? ⟨b, 0, none⟩ = some (.pointer (some ⟨d, 0, none⟩)) ∧ w.cell? ⟨b, 1, none⟩ = some (.pointer (some ⟨lb, 0, none⟩)) ∧ w.cell? ⟨b, 2, none⟩ = some (.int .i64 M.size) ∧ w.cell? ⟨b, 3, none⟩ = some (.int .u64 M.gen) ∧
    w.cell? ⟨b, 4, none⟩ = some (.int .i64 M.most) ∧ w.cell? ⟨b, 5, none⟩ = some (.pointer (some ⟨pb, 0, none⟩)) ∧ w.cell? ⟨b, 6, none⟩ = some (.map (some hb)) ∧ w.cell? ⟨b, 7, none⟩ = some (.bool M.dead) :=
  ⟨World.rowIs.cell h.cells (i := 0) (by decide), World.rowIs.cell h.cells (i := 1) (by decide), World.rowIs.cell h.cells (i := 2) (by decide), World.rowIs.cell h.cells (i := 3) (by decide), World.rowIs.cell h.cells (i := 4) (by decide), World.rowIs.cell h.cells (i := 5) (by decide), World.rowIs.cell h.cells (i := 6) (by decide), World.rowIs.cell h.cells (i := 7) (by decide)⟩
theorem PgIn.lt (h : PgIn w b d lb pb hb FD FP K k M) : b < w.heap.size ∧ lb < w.heap.size ∧ hb < w.heap.size ∧ (∀ x ∈ FD, x < w.heap.size) ∧ ∀ x ∈ FP, x < w.heap.size := by
  obtain ⟨fr, hp, -⟩ := h.pool
  obtain ⟨n, -, hm⟩ := h.hot
  exact ⟨World.rowIs.lt h.cells, h.log.lt, hm.toT.lt, h.disk.lt, hp.lt⟩
/-- What is touched lies elsewhere. -/
theorem PgIn.touch {G : List Nat} (h : PgIn w b d lb pb hb FD FP K k M) (t : Touch G w w') (g1 : b ∉ G) (g2 : lb ∉ G) (g3 : hb ∉ G) (g4 : ∀ x ∈ FD, x ∉ G) (g5 : ∀ x ∈ FP, x ∉ G) : PgIn w' b d lb pb hb FD FP K k M := by
  obtain ⟨fr, hp, hc⟩ := h.pool
  obtain ⟨n, hn, hm⟩ := h.hot
  exact ⟨rowIs_touch h.cells t g1, h.disk.touch t g4, h.log.touch t g2, ⟨fr, hp.touch t g5, hc⟩, ⟨n, hn, hm.touch t g3⟩, h.ok, h.nb, h.nl, h.nh, h.nd⟩
theorem PgIn.below (h : PgIn w b d lb pb hb FD FP K k M) (hb' : Below w.heap.size w w') : PgIn w' b d lb pb hb FD FP K k M :=
  h.touch (G := []) (Touch.of_below hb') (by simp) (by simp) (by simp) (by simp) (by simp)
theorem PgIn.mono (h : PgIn w b d lb pb hb FD FP K k M) (hJ : K ≤ J) : PgIn w b d lb pb hb FD FP J k M := by
  obtain ⟨fr, hp, hc⟩ := h.pool
  exact { h with pool := ⟨fr, hp.mono hJ, hc⟩ }
/-- The pool has turned, and holds what counts of M'. -/
theorem PgIn.step {fr' : Hand} {D' : Int → Option ByteArray} (h : PgIn w b d lb pb hb FD FP K k M) (g : PoolGo w w' pb FP M.room J fr') (hc : Coh fr' D' (baseP M)) (hD : ∀ i s, D' i = some s → 0 ≤ i ∧ i < M.most ∧ s.size = 512) :
    PgStep w w' b d lb pb hb FD FP J k { M with dirty := D' } := by
  obtain ⟨FP', hp, ht, hF⟩ := g
  obtain ⟨n, hn, hm⟩ := h.hot
  have hl := h.lt
  refine ⟨FP', ⟨rowIs_touch h.cells ht h.nb.2.1, h.disk.touch ht (fun x hx => h.nd x hx), h.log.touch ht h.nl.2.1, ⟨fr', hp, hc⟩, ⟨n, hn, hm.touch ht h.nh.2⟩, { h.ok with dom := hD }, ?_, ?_, ?_, ?_⟩, ht, hF⟩
  · exact ⟨h.nb.1, fun hx => (hF _ hx).elim h.nb.2.1 (by omega), h.nb.2.2⟩
  · exact ⟨h.nl.1, fun hx => (hF _ hx).elim h.nl.2.1 (by omega), h.nl.2.2⟩
  · exact ⟨h.nh.1, fun hx => (hF _ hx).elim h.nh.2 (by omega)⟩
  · intro x hx hx'
    have := hl.2.2.2.1 x hx
    exact (hF _ hx').elim (h.nd x hx) (by omega)
theorem PgIn.step_same {fr' : Hand} (h : PgIn w b d lb pb hb FD FP K k M) (g : PoolGo w w' pb FP M.room J fr') (hc : Coh fr' M.dirty (baseP M)) : PgStep w w' b d lb pb hb FD FP J k M := h.step g hc h.ok.dom
theorem PgStep.refl (h : PgIn w b d lb pb hb FD FP K k M) : PgStep w w b d lb pb hb FD FP K k M := ⟨FP, h, Touch.refl _ _, fun x hx => .inl hx⟩
theorem PgStep.trans (t : Touch FP w w1) (hF : ∀ x ∈ F1, x ∈ FP ∨ w.heap.size ≤ x) (h : PgStep w1 w2 b d lb pb hb FD F1 K k M) : PgStep w w2 b d lb pb hb FD FP K k M := by
  obtain ⟨F2, h1, h2, h3⟩ := h
  exact ⟨F2, h1, t.trans h2 hF, fun x hx => (h3 x hx).elim (hF x) (fun h => .inr (Nat.le_trans t.size h))⟩
theorem PgStep.below {w0 : World} (hb' : Below w0.heap.size w0 w) (h : PgStep w w1 b d lb pb hb FD FP K k M) : PgStep w0 w1 b d lb pb hb FD FP K k M := by
  obtain ⟨F2, h1, h2, h3⟩ := h
  exact ⟨F2, h1, (Touch.of_below hb').trans h2 (fun x h => .inl h), fun x hx => (h3 x hx).imp id (fun h => Nat.le_trans hb'.size h)⟩
theorem PgStep.after (h : PgStep w w1 b d lb pb hb FD FP K k M) (hb' : Below w1.heap.size w1 w2) : PgStep w w2 b d lb pb hb FD FP K k M := by
  obtain ⟨F2, h1, h2, h3⟩ := h
  exact ⟨F2, h1.below hb', h2.trans (Touch.of_below (F := FP) hb') (fun x h => .inl h), h3⟩
theorem PgStep.mono (h : PgStep w w1 b d lb pb hb FD FP K k M) (hJ : K ≤ J) : PgStep w w1 b d lb pb hb FD FP J k M := by
  obtain ⟨F2, h1, h2, h3⟩ := h
  exact ⟨F2, h1.mono hJ, h2, h3⟩
end
end Go.Proofs.YtpaholkmlfaflaaGreatDoor

namespace Go.Proofs.YtpaholkmlfaflaaGreatDoor
open Go.RowKit Go.Maps Go.Joins
set_option linter.unusedVariables false
theorem secs_length (m : DM) (a n : Nat) : ((List.range n).map fun k => secM m (a + k)).length = n := by simp
theorem secs_snoc (m : DM) (a k : Nat) : (((List.range k).map fun j => secM m (a + j)).map Value.string) ++ [.string (secM m (a + k))] = ((List.range (k + 1)).map fun j => secM m (a + j)).map Value.string := by simp [List.range_succ]
theorem secs_flat {m : DM} {k : Nat} (h : DOk m k) (a n : Nat) (ha : a + n ≤ m.sure.length) : ((((List.range n).map fun j => secM m (a + j))).map (·.data.toList)).flatten.length = n * 64 := by
  have := flatten_length ((List.range n).map fun j => secM m (a + j)) (fun t ht => by
    obtain ⟨j, hj, rfl⟩ := List.mem_map.1 ht
    have := List.mem_range.1 hj
    exact secM_size h (a + j) (by omega))
  rw [this, secs_length]
theorem pgOf_size {m : DM} {k : Nat} (h : DOk m k) (a : Nat) (ha : a + 8 ≤ m.sure.length) : (pgOf m a).size = 512 := by
  unfold pgOf imgM
  rw [S_size]
  exact secs_flat h a 8 ha
/-- Sectors are being read. -/
structure RdLoop (w1 : World) (m : DM) (A : Nat) (v9 v43 : Value) (wr : World) : Prop where
  ex : ∃ j : Nat, j ≤ 8 ∧ v43 = .int .i64 j ∧ wr.ownsRow w1.heap.size 9 1 v9 j (((List.range j).map fun i => secM m (A + i)).map Value.string) ∧ Below w1.heap.size w1 wr
section
variable {w w' w1 w2 : World} {b d lb pb hb K J k : Nat} {FD FP F1 : List Nat} {M M' : PM}
theorem PgOk.base_size (h : PgOk M k) {no : Int} (h0 : 0 ≤ no) (h1 : no < M.most) : (baseP M no).size = 512 := by
  unfold baseP
  cases hh : M.hot no with
  | some s => exact (h.hdom no s hh).2.2
  | none => exact pgOf_size h.disk _ (by have := h.geo; omega)
theorem PgOk.view_size (h : PgOk M k) {no : Int} (h0 : 0 ≤ no) (h1 : no < M.most) : (viewP M no).size = 512 := by
  unfold viewP
  cases hh : M.dirty no with
  | some s => exact (h.dom no s hh).2.2
  | none => exact h.base_size h0 h1
theorem rdP_up (h : M.m.down = false) (no : Int) : rdP M no = (unK (viewP M no) no, unR (viewP M no) no, unE (viewP M no) no) := by unfold rdP; rw [h]; rfl
theorem rdP_down (h : M.m.down = true) (no : Int) : rdP M no = (0, ⟨#[]⟩, 11) := by unfold rdP; rw [h]; rfl
theorem zeroStrP (w : World) : (zeroValue 9).run Tryz.prog w = .ok (.string ⟨#[]⟩) w := by kernel_rfl

set_option maxRecDepth 100000 in
set_option maxHeartbeats 4000000 in
theorem pread_any (h : PgIn w b d lb pb hb FD FP K k M) (hK : K ≤ 3000000000000000000) (N : Nat) (hN : N < M.most) :
    Calls Tryz.prog 63 #[.pointer (some ⟨b, 0, none⟩), .int .i64 N] w fun e w' => e = .returned (.tuple #[.int .i64 (rdP M N).1, .string (rdP M N).2.1, .int .i64 (rdP M N).2.2]) ∧ PgStep w w' b d lb pb hb FD FP (K + 2) k M := by
  have hDN := is_down h.disk
  have H := Lib.hid h
  have hgeo := h.ok.geo
  have hfew := h.ok.disk.few
  obtain ⟨c0, c1, c2, c3, c4, c5, c6, c7⟩ := h.cell
  have hlt := h.lt.1
  cases hd : M.m.down
  rotate_left
  · rw [rdP_down hd]
    rw [hd] at hDN
    clear h
    go_enter Tryz.func63, Tryz.ntmps63
    go_wp2_with fail
    refine hDN.mono ?_
    rintro e w1 ⟨rfl, rfl⟩
    go_wp2_with fail
    go_ret3
    exact ⟨rfl, (PgStep.refl H.out).mono (by omega)⟩
  rw [rdP_up hd]
  rw [hd] at hDN
  obtain ⟨fr, hp, hc⟩ := h.pool
  have hn63 : (N : Int) ≤ 9223372036854775807 := by omega
  have HG := Lib.hid (pget_any (no := (N : Int)) hp (by omega) (by omega) hn63)
  have HV := Lib.hid hc
  clear h hp hc
  go_enter Tryz.func63, Tryz.ntmps63
  go_wp2_with fail
  refine hDN.mono ?_
  rintro e w1 ⟨rfl, rfl⟩
  go_wp2_with fail
  refine HG.out.mono ?_
  rintro e w1 ⟨rfl, hgo⟩
  obtain ⟨F1, h1, t1, f1⟩ := H.out.step_same hgo HV.out
  have HP1 := Lib.hid h1
  have HT1 := Lib.hid t1
  have HF1 := Lib.hid f1
  clear hgo h1 t1 f1 hDN HG
  cases hf : fr (N : Int) with
  | some x =>
    obtain ⟨s, dd⟩ := x
    have HVS := Lib.hid (show viewP M (N : Int) = s from (HV.out.text hf).symm)
    simp only [Option.map_some, Option.getD_some, Option.isSome_some]
    clear c0 c1 c2 c3 c4 c5 c6 c7
    have HU := Lib.hid (unpack_any s (N : Int) w1)
    go_wp2_with fail
    refine HU.out.mono ?_
    rintro e w8 ⟨rfl, hb8⟩
    have HP8 := Lib.hid (HP1.out.below hb8)
    have HT8 := Lib.hid (HT1.out.trans (Touch.of_below (F := FP) hb8) (fun x hx => .inl hx))
    clear hb8
    by_cases he : unE s (N : Int) = 0
    · obtain ⟨c0, c1, c2, c3, c4, c5, c6, c7⟩ := HP8.out.cell
      obtain ⟨fr8, hp8, hc8⟩ := HP8.out.pool
      have HPU := Lib.hid (pput_any (no := (N : Int)) hp8 (by omega) (by omega) (by have := H.out.ok.geo; have := H.out.ok.disk.few; omega) s)
      have HC8 := Lib.hid hc8
      have e1 : (unE s (N : Int) == 0) = true := by simp [he]
      clear hp8 hc8
      go_wp2_with fail
      refine HPU.out.mono ?_
      rintro e w9 ⟨r, fr9, rfl, hgo, hor⟩
      have hst := HP8.out.step_same hgo (by
        rcases hor with rfl | ⟨hn, fr1, hf1, rfl⟩
        · exact HC8.out
        · have hdn : M.dirty (N : Int) = none := by
            cases hdd : M.dirty (N : Int) with
            | none => rfl
            | some t => have := (HC8.out.1 _ t).2 hdd; rw [hn] at this; cases this
          refine (HC8.out.fewer hf1).put hdn ?_
          rw [← HVS.out]
          unfold viewP
          rw [hdn]; rfl)
      have HST := Lib.hid hst
      clear hgo hor hst c0 c1 c2 c3 c4 c5 c6 c7
      go_wp2_with fail
      go_ret3
      exact ⟨by rw [HVS.out, he]; rfl, (PgStep.trans HT8.out HF1.out HST.out)⟩
    · have e1 : (unE s (N : Int) == 0) = false := by simp [he]
      go_wp2_with fail
      go_ret3
      exact ⟨by rw [HVS.out]; rfl, (PgStep.mono ⟨_, HP8.out, HT8.out, HF1.out⟩ (by omega))⟩
  | none =>
    have hdn : M.dirty (N : Int) = none := by
      cases hdd : M.dirty (N : Int) with
      | none => rfl
      | some t => have := (HV.out.1 _ t).2 hdd; rw [hf] at this; cases this
    simp only [Option.map_none, Option.getD_none, Option.isSome_none]
    obtain ⟨c0, c1, c2, c3, c4, c5, c6, c7⟩ := HP1.out.cell
    obtain ⟨nh, hnh, hm⟩ := HP1.out.hot
    have hlk := hm.toT.look_ok Tryz.keyIntP Tryz.underlying88 (zeroStrP w1) (x := (N : Int)) (keyP (by omega) hn63)
    have hlt1 := HP1.out.lt.1
    cases hh : M.hot (N : Int) with
    | some s =>
      rw [hh] at hlk
      simp only [Option.map_some, Option.getD_some, Option.isSome_some] at hlk
      have HVS := Lib.hid (show viewP M (N : Int) = s by unfold viewP baseP; rw [hdn, hh]; rfl)
      go_wp2_with fail
      clear c0 c1 c2 c3 c4 c5 c6 c7 hlk hm
      have HU := Lib.hid (unpack_any s (N : Int) w1)
      go_wp2_with fail
      refine HU.out.mono ?_
      rintro e w8 ⟨rfl, hb8⟩
      have HP8 := Lib.hid (HP1.out.below hb8)
      have HT8 := Lib.hid (HT1.out.trans (Touch.of_below (F := FP) hb8) (fun x hx => .inl hx))
      clear hb8
      by_cases he : unE s (N : Int) = 0
      · obtain ⟨c0, c1, c2, c3, c4, c5, c6, c7⟩ := HP8.out.cell
        obtain ⟨fr8, hp8, hc8⟩ := HP8.out.pool
        have HPU := Lib.hid (pput_any (no := (N : Int)) hp8 (by omega) (by omega) (by have := H.out.ok.geo; have := H.out.ok.disk.few; omega) s)
        have HC8 := Lib.hid hc8
        have e1 : (unE s (N : Int) == 0) = true := by simp [he]
        clear hp8 hc8
        go_wp2_with fail
        refine HPU.out.mono ?_
        rintro e w9 ⟨r, fr9, rfl, hgo, hor⟩
        have hst := HP8.out.step_same hgo (by
          rcases hor with rfl | ⟨hn, fr1, hf1, rfl⟩
          · exact HC8.out
          · have hdn : M.dirty (N : Int) = none := by
              cases hdd : M.dirty (N : Int) with
              | none => rfl
              | some t => have := (HC8.out.1 _ t).2 hdd; rw [hn] at this; cases this
            refine (HC8.out.fewer hf1).put hdn ?_
            rw [← HVS.out]
            unfold viewP
            rw [hdn]; rfl)
        have HST := Lib.hid hst
        clear hgo hor hst c0 c1 c2 c3 c4 c5 c6 c7
        go_wp2_with fail
        go_ret3
        exact ⟨by rw [HVS.out, he]; rfl, (PgStep.trans HT8.out HF1.out HST.out)⟩
      · have e1 : (unE s (N : Int) == 0) = false := by simp [he]
        go_wp2_with fail
        go_ret3
        exact ⟨by rw [HVS.out]; rfl, (PgStep.mono ⟨_, HP8.out, HT8.out, HF1.out⟩ (by omega))⟩
    | none =>
      rw [hh] at hlk
      simp only [Option.map_none, Option.getD_none, Option.isSome_none] at hlk
      have HVS := Lib.hid (show viewP M (N : Int) = pgOf M.m (2 + M.size + N * 8) by unfold viewP baseP; rw [hdn, hh]; rfl)
      obtain ⟨A, hA⟩ : ∃ A : Nat, A = 2 + M.size + N * 8 := ⟨_, rfl⟩
      rw [← hA] at HVS
      obtain ⟨P, hP⟩ : ∃ P, P = pgOf M.m A := ⟨_, rfl⟩
      rw [← hP] at HVS
      have HPP := Lib.hid hP
      have HA := Lib.hid hA
      obtain ⟨i0, hi, hz0, hz1, hz2⟩ := info_parts Tryz.infoStr
      go_wp2_with fail
      clear c0 c1 c2 c3 c4 c5 c6 c7 hlk hm hA hP
      go_loopw [9, 10, 11, 12, 43] (fun v9 v10 v11 v12 v43 wr => RdLoop w1 M.m A v9 v43 wr) (fun _ _ _ _ v43 _ => 8 - (intOf v43).toNat)
      case atStart => exact ⟨⟨0, by omega, rfl, World.ownsRow_nil _ _ _ _, Below.refl _ _⟩⟩
      case round =>
        obtain ⟨⟨j, hj, rfl, hrow, hbw⟩⟩ := hrel
        have HROW := Lib.hid hrow
        have HBW := Lib.hid hbw
        have HPW := Lib.hid (HP1.out.below hbw)
        clear hrow hbw
        by_cases hlt8 : j < 8
        · obtain ⟨c0, c1, c2, c3, c4, c5, c6, c7⟩ := HPW.out.cell
          have hltw := HPW.out.lt.1
          have q1 : IntKind.i64.wrap (2 + (M.size : Int)) = 2 + (M.size : Int) := IntWalk.i64_in _ (by omega)
          have q2 : IntKind.i64.wrap ((N : Int) * 8) = (N : Int) * 8 := IntWalk.i64_in _ (by omega)
          have q3 : IntKind.i64.wrap (2 + (M.size : Int) + (N : Int) * 8) = 2 + (M.size : Int) + (N : Int) * 8 := IntWalk.i64_in _ (by omega)
          have q4 : IntKind.i64.wrap (2 + (M.size : Int) + (N : Int) * 8 + (j : Int)) = ((A + j : Nat) : Int) := by rw [IntWalk.i64_in _ (by omega)]; have := HA.out; omega
          have HRD := fun q => Lib.hid (read_up (w := wr.drewN q) (HPW.out.disk.touch (F := []) ((Touch.refl _ _).drewN q) (fun _ _ h => by cases h)) hd (A + j) (by have := HA.out; omega) (by have := HA.out; omega))
          have HSN := Lib.hid (secs_snoc M.m A j)
          go_wp2_with fail
          go_quiet ((go_at_call 53; exact quiet_left (HRD _).out))
          generalize hq : wr.drewN _ = w7
          have HRW7 := Lib.hid (hq ▸ ownsRow_touch HROW.out (F := []) ((Touch.refl _ _).drewN _) (fun _ _ => by simp))
          have HB7 := Lib.hid (hq ▸ below_drewN HBW.out _)
          clear hq HRD c0 c1 c2 c3 c4 c5 c6 c7 q1 q2 q3 q4
          have hcap : j + 1 ≤ maxLen := by unfold maxLen; omega
          go_wp2_with (at_builtin; refine wpList_append_near _ rfl (.tmp 67) (.tmp 69) 33 rfl w1.heap.size 9 i0 (.string ⟨#[]⟩) 1 16 Tryz.underlying33 hi hz0 hz1 hz2 rfl (by decide) _ j (((List.range j).map fun i => secM M.m (A + i)).map Value.string) rfl (HRW7.out.alloc _) ⟨w7.heap.size, 0, none⟩ 1 1 [.string (secM M.m (A + j))] rfl (by decide) rfl (cell_one_new _ _ _) (by intro u hu; simp at hu; subst hu; rfl) hcap (by omega) (by have := HB7.out.size; simp; omega) ?_; intro g cap w5 hown hgr hat)
          rw [HSN.out] at hown
          have HO5 := Lib.hid hown
          have HB5 := Lib.hid ((HB7.out.alloc HB7.out.size _).trans ((Touch.of_grown hgr).below (by have := HB7.out.size; simp; omega) (fun q hq => (HRW7.out.lt q (Option.mem_toList.1 hq)).1)))
          clear hown hgr hat
          go_wp2_with fail
          go_roundw
          case rel => exact ⟨⟨j + 1, by omega, by go_num, HO5.out, HB5.out⟩⟩
          case measure => simp [intOf]; omega
        · obtain rfl : j = 8 := by omega
          obtain ⟨g, cap, hv⟩ := ownsRow_form HROW.out (by omega)
          subst hv
          have hfl := secs_flat H.out.ok.disk A 8 (by have := HA.out; omega)
          have J := Tryz.strings_Join g 0 cap ((List.range 8).map fun i => secM M.m (A + i)) ⟨#[]⟩ wr (fun i x hx => by
              rw [Nat.zero_add, HROW.out.cellAt i (by have := (List.getElem?_eq_some_iff.1 hx).1; simp at this; omega)]
              rw [List.getElem?_map, hx]; rfl) (HROW.out.lt g rfl).2 (by simp) (by rw [secs_length]; exact ownsRow_cap (a := none) HROW.out) (by
              rw [show (ByteArray.mk #[]).data.toList = [] from rfl, join_nil_sep, hfl]; omega)
          rw [show (ByteArray.mk #[]).data.toList = [] from rfl, join_nil_sep, secs_length] at J
          have HJ := Lib.hid J
          clear J hfl
          go_wp2_with fail
          refine HJ.out.mono ?_
          rintro e w4 ⟨rfl, hb4⟩
          have HP1 := Lib.hid (HPW.out.below hb4)
          have HT1 := Lib.hid (((HT1.out.trans (Touch.of_below (F := FP) HBW.out) (fun x hx => .inl hx))).trans (Touch.of_below (F := FP) hb4) (fun x hx => .inl hx))
          rw [show (⟨((((List.range 8).map fun i => secM M.m (A + i))).map (·.data.toList)).flatten.toArray⟩ : ByteArray) = P from by rw [HPP.out]; rfl]
          clear hb4 HJ HROW
          have HU := Lib.hid (unpack_any P (N : Int) w4)
          go_wp2_with fail
          refine HU.out.mono ?_
          rintro e w8 ⟨rfl, hb8⟩
          have HP8 := Lib.hid (HP1.out.below hb8)
          have HT8 := Lib.hid (HT1.out.trans (Touch.of_below (F := FP) hb8) (fun x hx => .inl hx))
          clear hb8
          by_cases he : unE P (N : Int) = 0
          · obtain ⟨c0, c1, c2, c3, c4, c5, c6, c7⟩ := HP8.out.cell
            obtain ⟨fr8, hp8, hc8⟩ := HP8.out.pool
            have HPU := Lib.hid (pput_any (no := (N : Int)) hp8 (by omega) (by omega) (by have := H.out.ok.geo; have := H.out.ok.disk.few; omega) P)
            have HC8 := Lib.hid hc8
            have e1 : (unE P (N : Int) == 0) = true := by simp [he]
            clear hp8 hc8
            go_wp2_with fail
            refine HPU.out.mono ?_
            rintro e w9 ⟨r, fr9, rfl, hgo, hor⟩
            have hst := HP8.out.step_same hgo (by
              rcases hor with rfl | ⟨hn, fr1, hf1, rfl⟩
              · exact HC8.out
              · have hdn : M.dirty (N : Int) = none := by
                  cases hdd : M.dirty (N : Int) with
                  | none => rfl
                  | some t => have := (HC8.out.1 _ t).2 hdd; rw [hn] at this; cases this
                refine (HC8.out.fewer hf1).put hdn ?_
                rw [← HVS.out]
                unfold viewP
                rw [hdn]; rfl)
            have HST := Lib.hid hst
            clear hgo hor hst c0 c1 c2 c3 c4 c5 c6 c7
            go_wp2_with fail
            go_ret3
            exact ⟨by rw [HVS.out, he]; rfl, (PgStep.trans HT8.out HF1.out HST.out)⟩
          · have e1 : (unE P (N : Int) == 0) = false := by simp [he]
            go_wp2_with fail
            go_ret3
            exact ⟨by rw [HVS.out]; rfl, (PgStep.mono ⟨_, HP8.out, HT8.out, HF1.out⟩ (by omega))⟩
end
end Go.Proofs.YtpaholkmlfaflaaGreatDoor

namespace Go.Proofs.YtpaholkmlfaflaaGreatDoor
open Go.RowKit Go.Maps Go.Joins
set_option linter.unusedVariables false
/-- The page 0 tells numbers that can be. -/
def Snd (M : PM) : Prop := (rdP M 0).2.2 = 0 → 1 ≤ usedR (rdP M 0).2.1 ∧ usedR (rdP M 0).2.1 ≤ M.most ∧ freeR (rdP M 0).2.1 < usedR (rdP M 0).2.1
theorem unE_inv {s : ByteArray} {no : Int} (h : unE s no = 0) : pgE s = 0 ∧ pgN s = no := by
  unfold unE at h
  by_cases e : pgE s = 0
  · rw [if_pos e] at h
    by_cases e2 : pgN s = no
    · exact ⟨e, e2⟩
    · rw [if_neg e2] at h; cases h
  · rw [if_neg e] at h; exact absurd h e
theorem unR_size {s : ByteArray} {no : Int} (h : unE s no = 0) : (unR s no).size = 496 := by
  unfold unR
  rw [if_pos h, ByteArray.size_extract, (pgE_inv (unE_inv h).1).1]
  rfl
theorem rdP_size {M : PM} {no : Int} (h : (rdP M no).2.2 = 0) : (rdP M no).2.1.size = 496 := by
  unfold rdP at h ⊢
  cases hd : M.m.down
  · rw [hd] at h; exact unR_size h
  · rw [hd] at h; cases h
theorem usedR_bd (r : ByteArray) : 0 ≤ usedR r ∧ usedR r < 4294967296 := cut_bd4 r 0
theorem freeR_bd (r : ByteArray) : 0 ≤ freeR r ∧ freeR r < 4294967296 := cut_bd4 r 4
section
variable {w w' w1 w2 : World} {b d lb pb hb K J k : Nat} {FD FP F1 : List Nat} {M M' : PM}
theorem pread_int (h : PgIn w b d lb pb hb FD FP K k M) (hK : K ≤ 3000000000000000000) (no : Int) (h0 : 0 ≤ no) (h1 : no < M.most) :
    Calls Tryz.prog 63 #[.pointer (some ⟨b, 0, none⟩), .int .i64 no] w fun e w' => e = .returned (.tuple #[.int .i64 (rdP M no).1, .string (rdP M no).2.1, .int .i64 (rdP M no).2.2]) ∧ PgStep w w' b d lb pb hb FD FP (K + 2) k M := by
  have := pread_any h hK no.toNat (by omega)
  rwa [show ((no.toNat : Nat) : Int) = no by omega] at this
set_option maxRecDepth 100000 in
set_option maxHeartbeats 1000000 in
theorem head_any (w : World) (p : Value) (r : ByteArray) (hr : 8 ≤ r.size) (hr2 : r.size ≤ 1000000) :
    Calls Tryz.prog 64 #[p, .string r] w fun e w' => e = .returned (.tuple #[.int .i64 (usedR r), .int .i64 (freeR r)]) ∧ w = w' := by
  have h1 := fun W => get_any r 0 4 W (by omega) (by omega) (by omega)
  have h2 := fun W => get_any r 4 4 W (by omega) (by omega) (by omega)
  have b1 := usedR_bd r
  have b2 := freeR_bd r
  have e1 : IntKind.i64.wrap (leN (cut r 0 4)) = leN (cut r 0 4) := IntWalk.i64_in _ (by unfold usedR at b1; omega)
  have e2 : IntKind.i64.wrap (leN (cut r 4 4)) = leN (cut r 4 4) := IntWalk.i64_in _ (by unfold freeR at b2; omega)
  clear b1 b2
  go_enter Tryz.func64, Tryz.ntmps64
  go_wp2_with fail
  refine (h1 _).mono ?_
  rintro e w1 ⟨rfl, rfl⟩
  go_wp2_with fail
  refine (h2 _).mono ?_
  rintro e w1 ⟨rfl, rfl⟩
  go_wp2_with fail
  go_ret2
  exact ⟨rfl, rfl⟩
theorem most_any (h : PgIn w b d lb pb hb FD FP K k M) : Calls Tryz.prog 15 #[.pointer (some ⟨b, 0, none⟩)] w fun e w' => e = .returned (.int .i64 M.most) ∧ w = w' := by
  obtain ⟨c0, c1, c2, c3, c4, c5, c6, c7⟩ := h.cell
  clear h
  go_enter Tryz.func15, Tryz.ntmps15
  go_wp2_with fail
  go_ret
  exact ⟨rfl, rfl⟩
set_option maxRecDepth 100000 in
set_option maxHeartbeats 2000000 in
theorem pages_any (h : PgIn w b d lb pb hb FD FP K k M) (hK : K ≤ 3000000000000000000) :
    Calls Tryz.prog 20 #[.pointer (some ⟨b, 0, none⟩)] w fun e w' => e = .returned (.int .i64 (pagesP M)) ∧ PgStep w w' b d lb pb hb FD FP (K + 2) k M := by
  have hm := h.ok.most1
  have HR := Lib.hid (pread_int h hK 0 (by omega) (by omega))
  have hsz := rdP_size (M := M) (no := 0)
  unfold pagesP
  clear h
  generalize rdP M 0 = x at HR hsz ⊢
  obtain ⟨kd, r, er⟩ := x
  by_cases he : er = 0
  · subst he
    have HD := Lib.hid (fun W p => head_any W p r (by have := hsz rfl; simp at this; omega) (by have := hsz rfl; simp at this; omega))
    clear hsz
    go_enter Tryz.func20, Tryz.ntmps20
    go_wp2_with fail
    refine HR.out.mono ?_
    rintro e w1 ⟨rfl, hst⟩
    have HST := Lib.hid hst
    clear hst
    go_wp2_with fail
    refine (HD.out _ _).mono ?_
    rintro e w2 ⟨rfl, rfl⟩
    go_wp2_with fail
    go_ret
    exact ⟨rfl, HST.out⟩
  · have e1 : (er != 0) = true := by simpa using he
    clear hsz
    go_enter Tryz.func20, Tryz.ntmps20
    go_wp2_with fail
    refine HR.out.mono ?_
    rintro e w1 ⟨rfl, hst⟩
    have HST := Lib.hid hst
    clear hst
    go_wp2_with fail
    go_ret
    exact ⟨rfl, HST.out⟩
set_option maxRecDepth 100000 in
set_option maxHeartbeats 2000000 in
theorem Read_any (h : PgIn w b d lb pb hb FD FP K k M) (hs : Snd M) (hK : K ≤ 2000000000000000000) (no : Int) :
    Calls Tryz.prog 18 #[.pointer (some ⟨b, 0, none⟩), .int .i64 no] w fun e w' => e = .returned (.tuple #[.int .i64 (readP M no).1, .string (readP M no).2.1, .int .i64 (readP M no).2.2]) ∧ PgStep w w' b d lb pb hb FD FP (K + 4) k M := by
  have hm := h.ok.most1
  have HR := Lib.hid (pread_int h (by omega) 0 (by omega) (by omega))
  have hsz := rdP_size (M := M) (no := 0)
  unfold Snd at hs
  unfold readP
  by_cases hn : no < 0
  · have H := Lib.hid h
    clear h hsz hs
    go_enter Tryz.func18, Tryz.ntmps18
    go_wp2_with fail
    go_ret3
    exact ⟨rfl, (PgStep.refl H.out).mono (by omega)⟩
  rw [if_neg hn]
  clear h
  generalize rdP M 0 = x at HR hsz hs ⊢
  obtain ⟨kd, r, er⟩ := x
  by_cases he : er = 0
  · subst he
    have hs1 := hs rfl
    rw [if_neg (by simp)]
    simp only at hs1 ⊢
    have HD := Lib.hid (fun W p => head_any W p r (by have := hsz rfl; simp at this; omega) (by have := hsz rfl; simp at this; omega))
    clear hsz hs
    by_cases hu : usedR r ≤ no
    · rw [if_pos hu]
      go_enter Tryz.func18, Tryz.ntmps18
      go_wp2_with fail
      refine HR.out.mono ?_
      rintro e w1 ⟨rfl, hst⟩
      have HST := Lib.hid hst
      clear hst
      go_wp2_with fail
      refine (HD.out _ _).mono ?_
      rintro e w2 ⟨rfl, rfl⟩
      go_wp2_with fail
      go_ret3
      exact ⟨rfl, HST.out.mono (by omega)⟩
    · rw [if_neg hu]
      go_enter Tryz.func18, Tryz.ntmps18
      go_wp2_with fail
      refine HR.out.mono ?_
      rintro e w1 ⟨rfl, F1, h1, t1, f1⟩
      have HR2 := Lib.hid (pread_int h1 (by omega) no (by omega) (by omega))
      have HT := Lib.hid t1
      have HF := Lib.hid f1
      clear h1 t1 f1
      go_wp2_with fail
      refine (HD.out _ _).mono ?_
      rintro e w2 ⟨rfl, rfl⟩
      go_wp2_with fail
      refine HR2.out.mono ?_
      rintro e w2 ⟨rfl, hst⟩
      have HST := Lib.hid hst
      clear hst
      go_wp2_with fail
      go_ret3
      exact ⟨rfl, PgStep.trans HT.out HF.out HST.out⟩
  · have e1 : (er != 0) = true := by simpa using he
    rw [if_pos he]
    clear hsz hs
    go_enter Tryz.func18, Tryz.ntmps18
    go_wp2_with fail
    refine HR.out.mono ?_
    rintro e w1 ⟨rfl, hst⟩
    have HST := Lib.hid hst
    clear hst
    go_wp2_with fail
    go_ret3
    exact ⟨rfl, HST.out.mono (by omega)⟩
set_option maxRecDepth 100000 in
set_option maxHeartbeats 2000000 in
theorem Root_any (h : PgIn w b d lb pb hb FD FP K k M) (hK : K ≤ 2000000000000000000) (i : Int) :
    Calls Tryz.prog 19 #[.pointer (some ⟨b, 0, none⟩), .int .i64 i] w fun e w' => e = .returned (.tuple #[.int .u64 (rootP M i).1, .int .i64 (rootP M i).2]) ∧ PgStep w w' b d lb pb hb FD FP (K + 2) k M := by
  have hm := h.ok.most1
  have HR := Lib.hid (pread_int h (by omega) 0 (by omega) (by omega))
  have hsz := rdP_size (M := M) (no := 0)
  unfold rootP
  by_cases hn : i < 0 ∨ 8 ≤ i
  · have H := Lib.hid h
    rw [if_pos hn]
    clear h hsz
    rcases hn with hn | hn
    · go_enter Tryz.func19, Tryz.ntmps19
      go_wp2_with fail
      go_ret2
      exact ⟨rfl, (PgStep.refl H.out).mono (by omega)⟩
    · have hn2 : ¬ i < 0 := by omega
      go_enter Tryz.func19, Tryz.ntmps19
      go_wp2_with fail
      go_ret2
      exact ⟨rfl, (PgStep.refl H.out).mono (by omega)⟩
  rw [if_neg hn]
  clear h
  obtain ⟨N, rfl⟩ : ∃ N : Nat, i = N := ⟨i.toNat, by omega⟩
  have hn1 : ¬ (N : Int) < 0 := by omega
  have hn2 : ¬ (8 : Int) ≤ N := by omega
  rw [Int.toNat_natCast]
  clear hn
  generalize rdP M 0 = x at HR hsz ⊢
  obtain ⟨kd, r, er⟩ := x
  by_cases he : er = 0
  · subst he
    rw [if_neg (by simp)]
    have hz : r.size = 496 := hsz rfl
    have HG := Lib.hid (fun W => get_any r (8 + 8 * N) 8 W (by omega) (by omega) (by omega))
    have q1 : IntKind.i64.wrap (8 * (N : Int)) = 8 * (N : Int) := IntWalk.i64_in _ (by omega)
    have q2 : IntKind.i64.wrap (8 + 8 * (N : Int)) = ((8 + 8 * N : Nat) : Int) := by rw [IntWalk.i64_in _ (by omega)]; omega
    clear hsz hz
    go_enter Tryz.func19, Tryz.ntmps19
    go_wp2_with fail
    refine HR.out.mono ?_
    rintro e w1 ⟨rfl, hst⟩
    have HST := Lib.hid hst
    clear hst
    go_wp2_with fail
    refine (HG.out _).mono ?_
    rintro e w2 ⟨rfl, rfl⟩
    go_wp2_with fail
    go_ret2
    exact ⟨rfl, HST.out⟩
  · have e1 : (er != 0) = true := by simpa using he
    rw [if_pos he]
    clear hsz
    go_enter Tryz.func19, Tryz.ntmps19
    go_wp2_with fail
    refine HR.out.mono ?_
    rintro e w1 ⟨rfl, hst⟩
    have HST := Lib.hid hst
    clear hst
    go_wp2_with fail
    go_ret2
    exact ⟨rfl, HST.out⟩
end
end Go.Proofs.YtpaholkmlfaflaaGreatDoor

namespace Go.Proofs.YtpaholkmlfaflaaGreatDoor
open Go.RowKit Go.Maps Go.Joins
set_option linter.unusedVariables false
section
variable {w w' w1 w2 : World} {b d lb pb hb K J k room : Nat} {FD FP F1 F : List Nat} {M M' : PM} {fr : Hand}
theorem IsPool.clean_lt (h : IsPool w pb F room K fr) {no : Int} {s : ByteArray} (hs : fr no = some (s, false)) : cntDirty fr < room := by
  obtain ⟨mb, n, clock, at_, us, h, -⟩ := h
  cases ha : at_ no with
  | none => rw [h.out no ha] at hs; cases hs
  | some b => have := h.dirty_lt ha hs; have := h.le; omega
theorem ours_any (w : World) (kind : Int) : Calls Tryz.prog 66 #[.int .i64 kind] w fun e w' => e = .returned (.bool (oursK kind)) ∧ w = w' := by
  unfold oursK
  by_cases h1 : 2 ≤ kind
  · by_cases h2 : kind ≤ 254
    · rw [decide_eq_true ⟨h1, h2⟩]
      go_enter Tryz.func66, Tryz.ntmps66
      go_wp2_with fail
      go_ret
      exact ⟨rfl, rfl⟩
    · rw [decide_eq_false (fun h => h2 h.2)]
      go_enter Tryz.func66, Tryz.ntmps66
      go_wp2_with fail
      go_ret
      exact ⟨rfl, rfl⟩
  · rw [decide_eq_false (fun h => h1 h.1)]
    go_enter Tryz.func66, Tryz.ntmps66
    go_wp2_with fail
    go_ret
    exact ⟨rfl, rfl⟩
/-- What setting makes of a pager. -/
theorem setP_no (no kind : Int) (r : ByteArray) (h : pgArg kind no = false) : setP M no kind r = (1, M) := by unfold setP; rw [if_pos h]
theorem setP_large (no kind : Int) (r : ByteArray) (h : pgArg kind no = true) (h2 : 496 < r.size) : setP M no kind r = (3, M) := by unfold setP; rw [if_neg (by rw [h]; decide), if_pos h2]
theorem setP_yes (no kind : Int) (r : ByteArray) (h : pgArg kind no = true) (h2 : ¬ 496 < r.size) (h3 : (M.dirty no).isSome = true ∨ cntD M < M.room) : setP M no kind r = (0, { M with dirty := updI M.dirty no (some (pgStr kind no r)) }) := by unfold setP; rw [if_neg (by rw [h]; decide), if_neg h2, if_pos h3]
theorem setP_big (no kind : Int) (r : ByteArray) (h : pgArg kind no = true) (h2 : ¬ 496 < r.size) (h3 : ¬ ((M.dirty no).isSome = true ∨ cntD M < M.room)) : setP M no kind r = (10, M) := by unfold setP; rw [if_neg (by rw [h]; decide), if_neg h2, if_neg h3]
set_option maxRecDepth 100000 in
set_option maxHeartbeats 2000000 in
theorem pgset_any (h : PgIn w b d lb pb hb FD FP K k M) (hK : K ≤ 3000000000000000000) (no kind : Int) (r : ByteArray) (h0 : 0 ≤ no) (h1 : no < M.most) :
    Calls Tryz.prog 67 #[.pointer (some ⟨b, 0, none⟩), .int .i64 no, .int .i64 kind, .string r] w fun e w' => e = .returned (.int .i64 (setP M no kind r).1) ∧ PgStep w w' b d lb pb hb FD FP (K + 2) k (setP M no kind r).2 := by
  have H := Lib.hid h
  have hgeo := h.ok.geo
  have hfew := h.ok.disk.few
  clear h
  cases ha : pgArg kind no
  · rw [setP_no no kind r ha]
    have HPK := Lib.hid (fun W => pack_arg kind no r W ha)
    clear ha
    go_enter Tryz.func67, Tryz.ntmps67
    go_wp2_with fail
    refine (HPK.out _).mono ?_
    rintro e w1 ⟨rfl, rfl⟩
    go_wp2_with fail
    go_ret
    exact ⟨rfl, (PgStep.refl H.out).mono (by omega)⟩
  by_cases hr : 496 < r.size
  · rw [setP_large no kind r ha hr]
    have HPK := Lib.hid (fun W => pack_large kind no r W ha hr)
    clear ha
    go_enter Tryz.func67, Tryz.ntmps67
    go_wp2_with fail
    refine (HPK.out _).mono ?_
    rintro e w1 ⟨rfl, rfl⟩
    go_wp2_with fail
    go_ret
    exact ⟨rfl, (PgStep.refl H.out).mono (by omega)⟩
  have HPK := Lib.hid (fun W => pack_any kind no r W ha (by omega))
  have hsz := pgStr_size kind no r (by omega)
  go_enter Tryz.func67, Tryz.ntmps67
  go_wp2_with fail
  refine (HPK.out _).mono ?_
  rintro e w1 ⟨rfl, hb1⟩
  have HP := Lib.hid (H.out.below hb1)
  have HB := Lib.hid hb1
  obtain ⟨c0, c1, c2, c3, c4, c5, c6, c7⟩ := HP.out.cell
  obtain ⟨fr, hp, hc⟩ := HP.out.pool
  have HST := Lib.hid (pset_any hp (by omega) h0 (by omega) (pgStr kind no r))
  have HCO := Lib.hid hc
  have HPO := Lib.hid hp
  clear hb1 hp hc
  go_wp2_with fail
  refine HST.out.mono ?_
  rintro e w2 ⟨fr', hgo, ⟨rfl, hor, fr1, hf1, rfl⟩ | ⟨rfl, hn, hnl, rfl⟩⟩
  · have hyes : (M.dirty no).isSome = true ∨ cntD M < M.room := by
      rcases hor with hs | hlt
      · cases hf : fr no with
        | none => rw [hf] at hs; cases hs
        | some x =>
          obtain ⟨s, dd⟩ := x
          cases dd
          · have := HPO.out.clean_lt hf
            rw [HCO.out.cnt] at this
            exact .inr this
          · rw [(HCO.out.1 no s).1 hf]; exact .inl rfl
      · rw [HCO.out.cnt] at hlt
        exact .inr hlt
    have hst := HP.out.step hgo ((HCO.out.fewer hf1).set no (pgStr kind no r)) (fun i s hs => by
      by_cases e : i = no
      · subst e
        rw [updI_same] at hs
        injection hs with hs
        exact ⟨h0, h1, by rw [← hs]; exact hsz⟩
      · rw [updI_other _ _ e] at hs
        exact H.out.ok.dom i s hs)
    have HS := Lib.hid hst
    have HY := Lib.hid (setP_yes (M := M) no kind r ha hr hyes)
    clear hgo hst hor hyes c0 c1 c2 c3 c4 c5 c6 c7 ha
    go_wp2_with fail
    go_ret
    rw [HY.out]
    exact ⟨rfl, PgStep.below HB.out HS.out⟩
  · have hbig : ¬ ((M.dirty no).isSome = true ∨ cntD M < M.room) := by
      rintro (hs | hlt)
      · have := HCO.out.dirty no
        unfold isDirty at this
        rw [hn, hs] at this; cases this
      · rw [HCO.out.cnt] at hnl
        exact hnl hlt
    have hst := HP.out.step_same hgo HCO.out
    have HS := Lib.hid hst
    have HY := Lib.hid (setP_big (M := M) no kind r ha hr hbig)
    clear hgo hst hbig hn hnl c0 c1 c2 c3 c4 c5 c6 c7 ha
    go_wp2_with fail
    go_ret
    rw [HY.out]
    exact ⟨rfl, PgStep.below HB.out HS.out⟩
set_option maxRecDepth 100000 in
set_option maxHeartbeats 2000000 in
theorem setHead_any (h : PgIn w b d lb pb hb FD FP K k M) (hK : K ≤ 3000000000000000000) (used free : Int) (r : ByteArray) (u0 : 0 ≤ used) (u1 : used ≤ 4294967296) (f0 : 0 ≤ free) (f1 : free ≤ 4294967296) (hr : r.size = 496) :
    Calls Tryz.prog 68 #[.pointer (some ⟨b, 0, none⟩), .int .i64 used, .int .i64 free, .string r] w fun e w' => e = .returned (.int .i64 (setHeadP M used free r).1) ∧ PgStep w w' b d lb pb hb FD FP (K + 2) k (setHeadP M used free r).2 := by
  have H := Lib.hid h
  have hm := h.ok.most1
  have e1 := u64_int used u0 (by omega)
  have e2 := u64_int free f0 (by omega)
  have HP1 := Lib.hid (fun W => put_any used 4 W (by omega) u0)
  have HP2 := Lib.hid (fun W => put_any free 4 W (by omega) f0)
  have z1 : (S (leB used 4)).size ≤ 4 := by rw [S_size, leB_length]; omega
  have z2 : (S (leB free 4)).size ≤ 4 := by rw [S_size, leB_length]; omega
  have z3 : 8 ≤ r.size := by omega
  have z4 : r.size ≤ 496 := by omega
  have z5 : (8 : Int) ≤ r.size := by omega
  clear h
  go_enter Tryz.func68, Tryz.ntmps68
  go_wp2_with fail
  refine wp_region_later_tail 11 (by kernel_rfl) (by kernel_rfl) ?_
  simp only [List.take_succ_cons, List.take_zero, List.drop_succ_cons, List.drop_zero]
  repeat (first | go_big_quiet_step ((first | (go_at_call 47; first | with_reducible refine Later.call (HP1.out _) | with_reducible refine Later.call (HP2.out _)))) | quiet_step ((first | (go_at_call 47; first | with_reducible refine Later.call (HP1.out _) | with_reducible refine Later.call (HP2.out _)))))
  refine wpQuiet_nil ?_
  rintro w3 ⟨y3, hw3⟩
  have hb3 : Below w.heap.size w w3 := by rw [hw3]; exact y3.2
  have HB3 := Lib.hid hb3
  have HS := Lib.hid (pgset_any (H.out.below hb3) (by omega) 0 1 (headR used free r) (by omega) (by omega))
  clear hw3 hb3
  have hcat : (S (leB used 4) ++ S (leB free 4)) ++ r.extract 8 496 = headR used free r := by
    unfold headR
    rw [S_append, S_append_s, List.append_assoc, hr]
  rw [hcat]
  go_wp2_with fail
  refine HS.out.mono ?_
  rintro e w5 ⟨rfl, hst⟩
  have HST := Lib.hid hst
  clear hst
  go_wp2_with fail
  go_ret
  exact ⟨rfl, PgStep.below HB3.out HST.out⟩
set_option maxRecDepth 100000 in
set_option maxHeartbeats 1000000 in
theorem within_any (h : PgIn w b d lb pb hb FD FP K k M) (hK : K ≤ 3000000000000000000) (no : Int) :
    Calls Tryz.prog 73 #[.pointer (some ⟨b, 0, none⟩), .int .i64 no] w fun e w' => e = .returned (.bool (withinP M no)) ∧ PgStep w w' b d lb pb hb FD FP (K + 2) k M := by
  have H := Lib.hid h
  have HP := Lib.hid (pages_any h hK)
  clear h
  unfold withinP
  by_cases h1 : 1 ≤ no
  · by_cases h2 : no < pagesP M
    · rw [decide_eq_true ⟨h1, h2⟩]
      go_enter Tryz.func73, Tryz.ntmps73
      go_wp2_with fail
      refine HP.out.mono ?_
      rintro e w1 ⟨rfl, hst⟩
      have HST := Lib.hid hst
      clear hst
      go_wp2_with fail
      go_ret
      exact ⟨rfl, HST.out⟩
    · rw [decide_eq_false (fun h => h2 h.2)]
      go_enter Tryz.func73, Tryz.ntmps73
      go_wp2_with fail
      refine HP.out.mono ?_
      rintro e w1 ⟨rfl, hst⟩
      have HST := Lib.hid hst
      clear hst
      go_wp2_with fail
      go_ret
      exact ⟨by show Ending.returned (.bool (decide (no < pagesP M))) = _; rw [decide_eq_false (by omega)], HST.out⟩
  · rw [decide_eq_false (fun h => h1 h.1)]
    go_enter Tryz.func73, Tryz.ntmps73
    go_wp2_with fail
    go_ret
    exact ⟨rfl, (PgStep.refl H.out).mono (by omega)⟩
theorem within_facts (hs : Snd M) {no : Int} (h : withinP M no = true) : 1 ≤ no ∧ no < M.most ∧ (rdP M 0).2.2 = 0 ∧ no < usedR (rdP M 0).2.1 := by
  unfold withinP at h
  obtain ⟨h1, h2⟩ := of_decide_eq_true h
  unfold pagesP at h2
  by_cases he : (rdP M 0).2.2 = 0
  · rw [if_pos he] at h2
    have := hs he
    exact ⟨h1, by omega, he, h2⟩
  · rw [if_neg he] at h2; omega
set_option maxRecDepth 100000 in
set_option maxHeartbeats 1000000 in
theorem Write_any (h : PgIn w b d lb pb hb FD FP K k M) (hs : Snd M) (hK : K ≤ 2000000000000000000) (no kind : Int) (r : ByteArray) :
    Calls Tryz.prog 27 #[.pointer (some ⟨b, 0, none⟩), .int .i64 no, .int .i64 kind, .string r] w fun e w' => e = .returned (.int .i64 (writeP M no kind r).1) ∧ PgStep w w' b d lb pb hb FD FP (K + 4) k (writeP M no kind r).2 := by
  have HW := Lib.hid (within_any h (by omega) no)
  have HO := Lib.hid (fun W => ours_any W kind)
  have HF := fun hw => Lib.hid (within_facts (no := no) hs hw)
  clear h hs
  unfold writeP
  cases hw : withinP M no
  · rw [if_neg (by simp)]
    rw [hw] at HW
    go_enter Tryz.func27, Tryz.ntmps27
    go_wp2_with fail
    refine HW.out.mono ?_
    rintro e w1 ⟨rfl, hst⟩
    have HST := Lib.hid hst
    clear hst
    go_wp2_with fail
    go_ret
    exact ⟨rfl, HST.out.mono (by omega)⟩
  have hf := (HF hw).out
  rw [hw] at HW
  cases hk : oursK kind
  · rw [if_neg (by simp)]
    rw [hk] at HO
    go_enter Tryz.func27, Tryz.ntmps27
    go_wp2_with fail
    refine HW.out.mono ?_
    rintro e w1 ⟨rfl, hst⟩
    have HST := Lib.hid hst
    clear hst
    go_wp2_with fail
    refine (HO.out _).mono ?_
    rintro e w2 ⟨rfl, rfl⟩
    go_wp2_with fail
    go_ret
    exact ⟨rfl, HST.out.mono (by omega)⟩
  · rw [if_pos ⟨rfl, rfl⟩]
    rw [hk] at HO
    go_enter Tryz.func27, Tryz.ntmps27
    go_wp2_with fail
    refine HW.out.mono ?_
    rintro e w1 ⟨rfl, F1, h1, t1, f1⟩
    have HS := Lib.hid (pgset_any h1 (by omega) no kind r (by omega) (by omega))
    have HT := Lib.hid t1
    have HF1 := Lib.hid f1
    clear h1 t1 f1 hf
    go_wp2_with fail
    refine (HO.out _).mono ?_
    rintro e w2 ⟨rfl, rfl⟩
    go_wp2_with fail
    refine HS.out.mono ?_
    rintro e w2 ⟨rfl, hst⟩
    have HST := Lib.hid hst
    clear hst
    go_wp2_with fail
    go_ret
    exact ⟨rfl, PgStep.trans HT.out HF1.out HST.out⟩
set_option maxRecDepth 100000 in
set_option maxHeartbeats 1000000 in
theorem Dirty_any (h : PgIn w b d lb pb hb FD FP K k M) :
    Calls Tryz.prog 38 #[.pointer (some ⟨b, 0, none⟩)] w fun e w' => e = .returned (.int .i64 (cntD M)) ∧ Below w.heap.size w w' := by
  obtain ⟨c0, c1, c2, c3, c4, c5, c6, c7⟩ := h.cell
  obtain ⟨fr, hp, hc⟩ := h.pool
  have HD := Lib.hid (pdirty_any hp)
  have hcn : cntDirty fr = cntD M := hc.cnt
  rw [hcn] at HD
  clear h hp hc hcn
  go_enter Tryz.func38, Tryz.ntmps38
  go_wp2_with fail
  refine HD.out.mono ?_
  rintro e w1 ⟨v, rfl, hrow, hb1⟩
  obtain ⟨a, c, rfl, -⟩ := own_at hrow
  clear hrow
  go_wp2_with fail
  go_ret
  exact ⟨rfl, hb1⟩
set_option maxRecDepth 100000 in
set_option maxHeartbeats 1000000 in
theorem Abort_any (h : PgIn w b d lb pb hb FD FP K k M) :
    Calls Tryz.prog 25 #[.pointer (some ⟨b, 0, none⟩)] w fun e w' => e = .returned (.tuple #[]) ∧ PgStep w w' b d lb pb hb FD FP K k (abortP M) := by
  obtain ⟨c0, c1, c2, c3, c4, c5, c6, c7⟩ := h.cell
  obtain ⟨fr, hp, hc⟩ := h.pool
  have H := Lib.hid h
  have HC := Lib.hid hc
  have HD := Lib.hid (pdrop_any hp)
  clear h hp hc
  go_enter Tryz.func25, Tryz.ntmps25
  go_wp2_with fail
  refine HD.out.mono ?_
  rintro e w1 ⟨rfl, hgo⟩
  have hst := H.out.step hgo HC.out.drop (fun i s hs => by cases hs)
  have HST := Lib.hid hst
  clear hgo hst c0 c1 c2 c3 c4 c5 c6 c7
  go_wp2_with fail
  go_end0
  exact ⟨rfl, HST.out⟩
end
end Go.Proofs.YtpaholkmlfaflaaGreatDoor

namespace Go.Proofs.YtpaholkmlfaflaaGreatDoor
open Go.RowKit Go.Maps Go.Joins
set_option linter.unusedVariables false
section
variable {w w' w1 w2 : World} {b d lb pb hb K J k room : Nat} {FD FP F1 F : List Nat} {M M' : PM} {fr : Hand}
set_option maxRecDepth 100000 in
set_option maxHeartbeats 1000000 in
theorem pfill_any (s : ByteArray) (n : Nat) (w : World) (h : s.size ≤ n) (hn : n ≤ 1000) :
    Calls Tryz.prog 42 #[.string s, .int .i64 n] w fun e w' => e = .returned (.string (fillR s n)) ∧ Below w.heap.size w w' := by
  have hw : IntKind.i64.wrap ((n : Int) - (s.size : Int)) = (n : Int) - (s.size : Int) := IntWalk.i64_in _ (by omega)
  have z1 : s.size ≤ 1000 := by omega
  have z2 : (S (nul (n - s.size))).size ≤ 1000 := by rw [S_size, nul_length]; omega
  have hr := fun W => repeat_nul ((n : Int) - (s.size : Int)) W (by omega) (by omega)
  rw [show ((n : Int) - (s.size : Int)).toNat = n - s.size by omega] at hr
  have HR := Lib.hid hr
  clear hr
  go_enter Tryz.func42, Tryz.ntmps42
  go_wp2_with fail
  refine (HR.out _).mono ?_
  rintro e w1 ⟨rfl, hb1⟩
  go_wp2_with fail
  go_ret
  refine ⟨?_, hb1⟩
  show Ending.returned (.string (s ++ S (nul (n - s.size)))) = _
  rw [append_S]
  rfl
set_option maxRecDepth 100000 in
set_option maxHeartbeats 1000000 in
theorem super_any (first : Int) (size : Nat) (w : World) (h0 : 0 ≤ first) (hs : size ≤ 65536) :
    Calls Tryz.prog 52 #[.int .u64 first, .int .i64 size] w fun e w' => e = .returned (.string (superT first size)) ∧ Below w.heap.size w w' := by
  have e1 := u64_int (size : Int) (by omega) (by omega)
  have HP1 := Lib.hid (fun W => put_any first 8 W (by omega) h0)
  have HP2 := Lib.hid (fun W => put_any (size : Int) 4 W (by omega) (by omega))
  have z1 : (S (leB first 8)).size ≤ 8 := by rw [S_size, leB_length]; omega
  have z2 : (S (leB (size : Int) 4)).size ≤ 4 := by rw [S_size, leB_length]; omega
  have hsz : (S (leB first 8) ++ S (leB (size : Int) 4)).size ≤ 48 := by rw [S_append, S_size, List.length_append, leB_length, leB_length]; omega
  have HF := Lib.hid (fun W => pfill_any (S (leB first 8) ++ S (leB (size : Int) 4)) 48 W hsz (by omega))
  have hres : fillR (S (leB first 8) ++ S (leB (size : Int) 4)) 48 = superT first size := by
    unfold fillR superT
    rw [S_append, data_S, S_size, List.length_append, leB_length, leB_length, List.append_assoc]
  rw [hres] at HF
  clear hsz hres
  go_enter Tryz.func52, Tryz.ntmps52
  go_wp2_with fail
  refine (HP1.out _).mono ?_
  rintro e w1 ⟨rfl, hb1⟩
  go_wp2_with fail
  refine (HP2.out _).mono ?_
  rintro e w2 ⟨rfl, hb2⟩
  go_wp2_with fail
  refine (HF.out _).mono ?_
  rintro e w3 ⟨rfl, hb3⟩
  go_wp2_with fail
  go_ret
  exact ⟨rfl, below_step hb3 (below_step hb2 hb1)⟩

/-- The model's Alloc, case by case. -/
theorem alloc_not {kind : Int} (h : oursK kind = false) : allocP M kind = (0, 1, M) := by unfold allocP; rw [if_pos h]
theorem alloc_err {kind : Int} (h : oursK kind = true) {x : Int × Int × Int × Int} (hq : pickP M = x) (he : x.2.2.2 ≠ 0) : allocP M kind = (0, x.2.2.2, M) := by
  unfold allocP
  rw [if_neg (by rw [h]; decide), hq]
  simp only
  rw [if_pos he]
theorem alloc_set {kind no u f : Int} (h : oursK kind = true) (hq : pickP M = (no, u, f, 0)) {s : Int × PM} (hs : setP M no kind ⟨#[]⟩ = s) (he : s.1 ≠ 0) : allocP M kind = (0, s.1, s.2) := by
  unfold allocP
  rw [if_neg (by rw [h]; decide), hq]
  simp only
  rw [if_neg (by simp), hs, if_pos he]
theorem alloc_head {kind no u f : Int} (h : oursK kind = true) (hq : pickP M = (no, u, f, 0)) {s : Int × PM} (hs : setP M no kind ⟨#[]⟩ = s) (he : s.1 = 0) {t : Int × PM} (ht : setHeadP s.2 u f (rdP M 0).2.1 = t) : allocP M kind = if t.1 ≠ 0 then (0, t.1, t.2) else (no, 0, t.2) := by
  unfold allocP
  rw [if_neg (by rw [h]; decide), hq]
  simp only
  rw [if_neg (by simp), hs, if_neg (by simp [he]), ht]
theorem setP_most (no kind : Int) (r : ByteArray) : (setP M no kind r).2.most = M.most := by
  unfold setP
  split
  · rfl
  · split
    · rfl
    · split <;> rfl

set_option maxRecDepth 100000 in
set_option maxHeartbeats 4000000 in
theorem Alloc_any (h : PgIn w b d lb pb hb FD FP K k M) (hs : Snd M) (hK : K ≤ 2000000000000000000) (kind : Int) :
    Calls Tryz.prog 23 #[.pointer (some ⟨b, 0, none⟩), .int .i64 kind] w fun e w' => e = .returned (.tuple #[.int .i64 (allocP M kind).1, .int .i64 (allocP M kind).2.1]) ∧ PgStep w w' b d lb pb hb FD FP (K + 8) k (allocP M kind).2.2 := by
  have H := Lib.hid h
  have hm := h.ok.most1
  have hgeo := h.ok.geo
  have hfew := h.ok.disk.few
  have HO := Lib.hid (fun W => ours_any W kind)
  have HR := Lib.hid (pread_int h (by omega) 0 (by omega) (by omega))
  clear h
  cases ho : oursK kind
  · rw [alloc_not ho]
    rw [ho] at HO
    go_enter Tryz.func23, Tryz.ntmps23
    go_wp2_with fail
    refine (HO.out _).mono ?_
    rintro e w1 ⟨rfl, rfl⟩
    go_wp2_with fail
    go_ret2
    exact ⟨rfl, (PgStep.refl H.out).mono (by omega)⟩
  rw [ho] at HO
  have hsz := rdP_size (M := M) (no := 0)
  unfold Snd at hs
  obtain ⟨kd, r, er, hx⟩ : ∃ kd r er, rdP M 0 = (kd, r, er) := ⟨_, _, _, rfl⟩
  rw [hx] at HR hsz hs
  simp only at HR hsz hs
  have HO2 := Lib.hid ho
  by_cases he : er = 0
  rotate_left
  · have HA := Lib.hid (alloc_err (M := M) (x := (0, 0, 0, er)) ho (by unfold pickP; rw [hx, if_pos he]) he)
    have e1 : (er != 0) = true := by simpa using he
    clear hsz hs ho hx
    go_enter Tryz.func23, Tryz.ntmps23
    go_wp2_with fail
    refine (HO.out _).mono ?_
    rintro e w1 ⟨rfl, rfl⟩
    go_wp2_with fail
    refine HR.out.mono ?_
    rintro e w1 ⟨rfl, F1, h1, t1, f1⟩
    have HST := Lib.hid (show PgStep w w1 b d lb pb hb FD FP (K + 2) k M from ⟨F1, h1, t1, f1⟩)
    clear h1 t1 f1
    go_wp2_with fail
    go_ret2
    rw [HA.out]
    exact ⟨rfl, HST.out.mono (by omega)⟩
  subst he
  have hz : r.size = 496 := hsz rfl
  have hsn := hs rfl
  have HD := Lib.hid (fun W p => head_any W p r (by omega) (by omega))
  have hub := usedR_bd r
  have hfb := freeR_bd r
  clear hsz hs
  have HX := Lib.hid hx
  by_cases hfr : 0 < freeR r
  · obtain ⟨k2, r2, er2, hx2⟩ : ∃ k2 r2 er2, rdP M (freeR r) = (k2, r2, er2) := ⟨_, _, _, rfl⟩
    have hsz2 := rdP_size (M := M) (no := freeR r)
    rw [hx2] at hsz2
    simp only at hsz2
    by_cases he2 : er2 = 0
    rotate_left
    · have HA := Lib.hid (alloc_err (M := M) (x := (0, 0, 0, er2)) ho (by unfold pickP; rw [hx]; simp only; rw [if_neg (by simp), if_pos hfr, hx2]; simp only; rw [if_pos he2]) he2)
      have e1 : (er2 != 0) = true := by simpa using he2
      clear ho hx hsz2
      go_enter Tryz.func23, Tryz.ntmps23
      go_wp2_with fail
      refine (HO.out _).mono ?_
      rintro e w1 ⟨rfl, rfl⟩
      go_wp2_with fail
      refine HR.out.mono ?_
      rintro e w1 ⟨rfl, F1, h1, t1, f1⟩
      obtain ⟨c0, c1, c2, c3, c4, c5, c6, c7⟩ := h1.cell
      have HR2 := Lib.hid (pread_int h1 (by omega) (freeR r) (by omega) (by omega))
      rw [hx2] at HR2
      simp only at HR2
      have HT1 := Lib.hid t1
      have HF1 := Lib.hid f1
      clear h1 t1 f1 hx2
      go_wp2_with fail
      refine (HD.out _ _).mono ?_
      rintro e w2 ⟨rfl, rfl⟩
      go_wp2_with fail
      refine HR2.out.mono ?_
      rintro e w2 ⟨rfl, F2, h2, t2, f2⟩
      have HST := Lib.hid (show PgStep w1 w2 b d lb pb hb FD F1 (K + 2 + 2) k M from ⟨F2, h2, t2, f2⟩)
      clear h2 t2 f2 c0 c1 c2 c3 c4 c5 c6 c7
      go_wp2_with fail
      go_ret2
      rw [HA.out]
      exact ⟨rfl, PgStep.mono (PgStep.trans HT1.out HF1.out HST.out) (by omega)⟩
    subst he2
    have hz2 : r2.size = 496 := hsz2 rfl
    have HG := Lib.hid (fun W => get_any r2 0 4 W (by omega) (by omega) (by omega))
    have hnb := cut_bd4 r2 0
    obtain ⟨nx, hnx⟩ : ∃ nx, leN (cut r2 0 4) = nx := ⟨_, rfl⟩
    rw [hnx] at HG hnb
    have hfz : (r2.extract 0 4).size = 4 := by rw [ByteArray.size_extract, hz2]; rfl
    have HFI := Lib.hid (fun W => pfill_any (r2.extract 0 4) 496 W (by omega) (by omega))
    have wn : IntKind.i64.wrap nx = nx := IntWalk.i64_in _ (by omega)
    have zr1 : 4 ≤ r2.size := by omega
    have zr2 : (4 : Int) ≤ r2.size := by omega
    by_cases hk : k2 = 255
    rotate_left
    · have e1 : (k2 != 255) = true := by simpa using hk
      have hbad : k2 ≠ 255 ∨ r2 ≠ fillR (r2.extract 0 4) 496 ∨ usedR r ≤ nx := .inl hk
      have HA := Lib.hid (alloc_err (M := M) (x := (0, 0, 0, 19)) ho (by unfold pickP; rw [hx]; simp only; rw [if_neg (by simp), if_pos hfr, hx2]; simp only; rw [if_neg (by simp), hnx, if_pos hbad]) (by decide))
      clear ho hx hsz2
      go_enter Tryz.func23, Tryz.ntmps23
      go_wp2_with fail
      refine (HO.out _).mono ?_
      rintro e w1 ⟨rfl, rfl⟩
      go_wp2_with fail
      refine HR.out.mono ?_
      rintro e w1 ⟨rfl, F1, h1, t1, f1⟩
      obtain ⟨c0, c1, c2, c3, c4, c5, c6, c7⟩ := h1.cell
      have HR2 := Lib.hid (pread_int h1 (by omega) (freeR r) (by omega) (by omega))
      rw [hx2] at HR2
      simp only at HR2
      have HT1 := Lib.hid t1
      have HF1 := Lib.hid f1
      clear h1 t1 f1 hx2
      go_wp2_with fail
      refine (HD.out _ _).mono ?_
      rintro e w2 ⟨rfl, rfl⟩
      go_wp2_with fail
      refine HR2.out.mono ?_
      rintro e w2 ⟨rfl, F2, h2, t2, f2⟩
      have HST := Lib.hid (show PgStep w1 w2 b d lb pb hb FD F1 (K + 2 + 2) k M from ⟨F2, h2, t2, f2⟩)
      clear h2 t2 f2 c0 c1 c2 c3 c4 c5 c6 c7
      go_wp2_with fail
      refine (HG.out _).mono ?_
      rintro e w3 ⟨rfl, rfl⟩
      go_wp2_with fail
      go_ret2
      rw [HA.out]
      exact ⟨rfl, PgStep.mono (PgStep.trans HT1.out HF1.out HST.out) (by omega)⟩
    subst hk
    by_cases hfe : r2 = fillR (r2.extract 0 4) 496
    rotate_left
    · have e1 := str_ne hfe
      have hbad : (255 : Int) ≠ 255 ∨ r2 ≠ fillR (r2.extract 0 4) 496 ∨ usedR r ≤ nx := .inr (.inl hfe)
      have HA := Lib.hid (alloc_err (M := M) (x := (0, 0, 0, 19)) ho (by unfold pickP; rw [hx]; simp only; rw [if_neg (by simp), if_pos hfr, hx2]; simp only; rw [if_neg (by simp), hnx, if_pos hbad]) (by decide))
      clear ho hx hsz2
      go_enter Tryz.func23, Tryz.ntmps23
      go_wp2_with fail
      refine (HO.out _).mono ?_
      rintro e w1 ⟨rfl, rfl⟩
      go_wp2_with fail
      refine HR.out.mono ?_
      rintro e w1 ⟨rfl, F1, h1, t1, f1⟩
      obtain ⟨c0, c1, c2, c3, c4, c5, c6, c7⟩ := h1.cell
      have HR2 := Lib.hid (pread_int h1 (by omega) (freeR r) (by omega) (by omega))
      rw [hx2] at HR2
      simp only at HR2
      have HT1 := Lib.hid t1
      have HF1 := Lib.hid f1
      clear h1 t1 f1 hx2
      go_wp2_with fail
      refine (HD.out _ _).mono ?_
      rintro e w2 ⟨rfl, rfl⟩
      go_wp2_with fail
      refine HR2.out.mono ?_
      rintro e w2 ⟨rfl, F2, h2, t2, f2⟩
      have HST := Lib.hid (show PgStep w1 w2 b d lb pb hb FD F1 (K + 2 + 2) k M from ⟨F2, h2, t2, f2⟩)
      clear h2 t2 f2 c0 c1 c2 c3 c4 c5 c6 c7
      go_wp2_with fail
      refine (HG.out _).mono ?_
      rintro e w3 ⟨rfl, rfl⟩
      go_wp2_with fail
      refine (HFI.out _).mono ?_
      rintro e w4 ⟨rfl, hb4⟩
      go_wp2_with fail
      go_ret2
      rw [HA.out]
      exact ⟨rfl, PgStep.mono (PgStep.after (PgStep.trans HT1.out HF1.out HST.out) hb4) (by omega)⟩
    have e1 := str_eq hfe
    have HFE := Lib.hid hfe
    clear hfe
    by_cases hun : usedR r ≤ nx
    · have hbad : (255 : Int) ≠ 255 ∨ r2 ≠ fillR (r2.extract 0 4) 496 ∨ usedR r ≤ nx := .inr (.inr hun)
      have HA := Lib.hid (alloc_err (M := M) (x := (0, 0, 0, 19)) ho (by unfold pickP; rw [hx]; simp only; rw [if_neg (by simp), if_pos hfr, hx2]; simp only; rw [if_neg (by simp), hnx, if_pos hbad]) (by decide))
      clear ho hx hsz2
      go_enter Tryz.func23, Tryz.ntmps23
      go_wp2_with fail
      refine (HO.out _).mono ?_
      rintro e w1 ⟨rfl, rfl⟩
      go_wp2_with fail
      refine HR.out.mono ?_
      rintro e w1 ⟨rfl, F1, h1, t1, f1⟩
      obtain ⟨c0, c1, c2, c3, c4, c5, c6, c7⟩ := h1.cell
      have HR2 := Lib.hid (pread_int h1 (by omega) (freeR r) (by omega) (by omega))
      rw [hx2] at HR2
      simp only at HR2
      have HT1 := Lib.hid t1
      have HF1 := Lib.hid f1
      clear h1 t1 f1 hx2
      go_wp2_with fail
      refine (HD.out _ _).mono ?_
      rintro e w2 ⟨rfl, rfl⟩
      go_wp2_with fail
      refine HR2.out.mono ?_
      rintro e w2 ⟨rfl, F2, h2, t2, f2⟩
      have HST := Lib.hid (show PgStep w1 w2 b d lb pb hb FD F1 (K + 2 + 2) k M from ⟨F2, h2, t2, f2⟩)
      clear h2 t2 f2 c0 c1 c2 c3 c4 c5 c6 c7
      go_wp2_with fail
      refine (HG.out _).mono ?_
      rintro e w3 ⟨rfl, rfl⟩
      go_wp2_with fail
      refine (HFI.out _).mono ?_
      rintro e w4 ⟨rfl, hb4⟩
      go_wp2_with fail
      go_ret2
      rw [HA.out]
      exact ⟨rfl, PgStep.mono (PgStep.after (PgStep.trans HT1.out HF1.out HST.out) hb4) (by omega)⟩
    · have HQ := Lib.hid (show pickP M = (freeR r, usedR r, nx, 0) by
        unfold pickP; rw [hx]; simp only; rw [if_neg (by simp), if_pos hfr, hx2]; simp only; rw [if_neg (by simp), hnx, if_neg (by rintro (h | h | h); exact h rfl; exact h HFE.out; exact hun h)])
      clear ho hx hsz2
      go_enter Tryz.func23, Tryz.ntmps23
      go_wp2_with fail
      refine (HO.out _).mono ?_
      rintro e w1 ⟨rfl, rfl⟩
      go_wp2_with fail
      refine HR.out.mono ?_
      rintro e w1 ⟨rfl, F1, h1, t1, f1⟩
      obtain ⟨c0, c1, c2, c3, c4, c5, c6, c7⟩ := h1.cell
      have HR2 := Lib.hid (pread_int h1 (by omega) (freeR r) (by omega) (by omega))
      rw [hx2] at HR2
      simp only at HR2
      have HT1 := Lib.hid t1
      have HF1 := Lib.hid f1
      clear h1 t1 f1 hx2
      go_wp2_with fail
      refine (HD.out _ _).mono ?_
      rintro e w2 ⟨rfl, rfl⟩
      go_wp2_with fail
      refine HR2.out.mono ?_
      rintro e w2 ⟨rfl, F2, h2, t2, f2⟩
      have HT2 := Lib.hid t2
      have HF2 := Lib.hid f2
      have HH2 := Lib.hid h2
      clear h2 t2 f2 c0 c1 c2 c3 c4 c5 c6 c7
      go_wp2_with fail
      refine (HG.out _).mono ?_
      rintro e w3 ⟨rfl, rfl⟩
      go_wp2_with fail
      refine (HFI.out _).mono ?_
      rintro e w4 ⟨rfl, hb4⟩
      have hc1 := HH2.out.below hb4
      have HTC := Lib.hid ((HT1.out.trans HT2.out HF1.out).trans (Touch.of_below (F := FP) hb4) (fun x hx => .inl hx))
      have HFC := Lib.hid (show ∀ x ∈ F2, x ∈ FP ∨ w.heap.size ≤ x from fun x hx => (HF2.out x hx).elim (HF1.out x) (fun h => .inr (Nat.le_trans HT1.out.size h)))
      clear hb4
      have HS := Lib.hid (pgset_any hc1 (by omega) (freeR r) kind ⟨#[]⟩ (by omega) (by omega))
      obtain ⟨sx, hsx⟩ : ∃ sx, setP M (freeR r) kind ⟨#[]⟩ = sx := ⟨_, rfl⟩
      have hmo : sx.2.most = M.most := by rw [← hsx]; exact setP_most _ _ _
      rw [hsx] at HS
      clear hc1
      by_cases hs1 : sx.1 = 0
      · have HA := Lib.hid (alloc_head HO2.out HQ.out hsx hs1 (t := setHeadP sx.2 (usedR r) nx (rdP M 0).2.1) rfl)
        rw [HX.out] at HA
        simp only at HA
        obtain ⟨s1, M1⟩ := sx
        simp only at hs1 hmo HS HA
        subst hs1
        go_wp2_with fail
        refine HS.out.mono ?_
        rintro e w5 ⟨rfl, F5, h5, t5, f5⟩
        have HT5 := Lib.hid t5
        have HF5 := Lib.hid f5
        have HHD := Lib.hid (setHead_any h5 (by omega) ((usedR r)) (nx) r (by omega) (by omega) (by omega) (by omega) hz)
        obtain ⟨tx, htx⟩ : ∃ tx, setHeadP M1 ((usedR r)) (nx) r = tx := ⟨_, rfl⟩
        rw [htx] at HHD HA
        obtain ⟨t1x, M2⟩ := tx
        simp only at HHD HA
        clear h5 t5 f5 htx hsx
        go_wp2_with fail
        refine HHD.out.mono ?_
        rintro e w6 ⟨rfl, hst⟩
        have HST := Lib.hid hst
        clear hst
        by_cases ht1 : t1x = 0
        · subst ht1
          rw [if_neg (by simp)] at HA
          go_wp2_with fail
          go_ret2
          rw [HA.out]
          exact ⟨rfl, PgStep.mono (PgStep.trans HTC.out HFC.out (PgStep.trans HT5.out HF5.out HST.out)) (by omega)⟩
        · rw [if_pos ht1] at HA
          have e9 : (t1x != 0) = true := by simpa using ht1
          go_wp2_with fail
          go_ret2
          rw [HA.out]
          exact ⟨rfl, PgStep.mono (PgStep.trans HTC.out HFC.out (PgStep.trans HT5.out HF5.out HST.out)) (by omega)⟩
      · have HA := Lib.hid (alloc_set HO2.out HQ.out hsx hs1)
        obtain ⟨s1, M1⟩ := sx
        simp only at hs1 hmo HS HA
        have e9 : (s1 != 0) = true := by simpa using hs1
        clear hsx
        go_wp2_with fail
        refine HS.out.mono ?_
        rintro e w5 ⟨rfl, hst⟩
        have HST := Lib.hid hst
        clear hst
        go_wp2_with fail
        go_ret2
        rw [HA.out]
        exact ⟨rfl, PgStep.mono (PgStep.trans HTC.out HFC.out HST.out) (by omega)⟩
  · have e2 : ¬ (0 : Int) < freeR r := hfr
    have hf0 : freeR r = 0 := by omega
    by_cases hfull : (M.most : Int) ≤ usedR r
    · have HA := Lib.hid (alloc_err (M := M) (x := (0, 0, 0, 8)) ho (by unfold pickP; rw [hx]; simp only; rw [if_neg (by simp), if_neg hfr, if_pos hfull]) (by decide))
      clear ho hx
      go_enter Tryz.func23, Tryz.ntmps23
      go_wp2_with fail
      refine (HO.out _).mono ?_
      rintro e w1 ⟨rfl, rfl⟩
      go_wp2_with fail
      refine HR.out.mono ?_
      rintro e w1 ⟨rfl, F1, h1, t1, f1⟩
      obtain ⟨c0, c1, c2, c3, c4, c5, c6, c7⟩ := h1.cell
      have HST := Lib.hid (show PgStep w w1 b d lb pb hb FD FP (K + 2) k M from ⟨F1, h1, t1, f1⟩)
      clear h1 t1 f1
      go_wp2_with fail
      refine (HD.out _ _).mono ?_
      rintro e w2 ⟨rfl, rfl⟩
      go_wp2_with fail
      go_ret2
      rw [HA.out]
      exact ⟨rfl, HST.out.mono (by omega)⟩
    · have HQ := Lib.hid (show pickP M = (usedR r, usedR r + 1, 0, 0) by unfold pickP; rw [hx]; simp only; rw [if_neg (by simp), if_neg hfr, if_neg hfull])
      have q1 : IntKind.i64.wrap (usedR r + 1) = usedR r + 1 := IntWalk.i64_in _ (by omega)
      clear ho hx
      go_enter Tryz.func23, Tryz.ntmps23
      go_wp2_with fail
      refine (HO.out _).mono ?_
      rintro e w1 ⟨rfl, rfl⟩
      go_wp2_with fail
      refine HR.out.mono ?_
      rintro e w1 ⟨rfl, F1, h1, t1, f1⟩
      obtain ⟨c0, c1, c2, c3, c4, c5, c6, c7⟩ := h1.cell
      have HTC := Lib.hid t1
      have HFC := Lib.hid f1
      have hc1 := h1
      clear h1 t1 f1
      go_wp2_with fail
      refine (HD.out _ _).mono ?_
      rintro e w2 ⟨rfl, rfl⟩
      rw [hf0]
      have HS := Lib.hid (pgset_any hc1 (by omega) (usedR r) kind ⟨#[]⟩ (by omega) (by omega))
      obtain ⟨sx, hsx⟩ : ∃ sx, setP M (usedR r) kind ⟨#[]⟩ = sx := ⟨_, rfl⟩
      have hmo : sx.2.most = M.most := by rw [← hsx]; exact setP_most _ _ _
      rw [hsx] at HS
      clear hc1
      by_cases hs1 : sx.1 = 0
      · have HA := Lib.hid (alloc_head HO2.out HQ.out hsx hs1 (t := setHeadP sx.2 (usedR r + 1) 0 (rdP M 0).2.1) rfl)
        rw [HX.out] at HA
        simp only at HA
        obtain ⟨s1, M1⟩ := sx
        simp only at hs1 hmo HS HA
        subst hs1
        go_wp2_with fail
        refine HS.out.mono ?_
        rintro e w5 ⟨rfl, F5, h5, t5, f5⟩
        have HT5 := Lib.hid t5
        have HF5 := Lib.hid f5
        have HHD := Lib.hid (setHead_any h5 (by omega) ((usedR r + 1)) (0) r (by omega) (by omega) (by omega) (by omega) hz)
        obtain ⟨tx, htx⟩ : ∃ tx, setHeadP M1 ((usedR r + 1)) (0) r = tx := ⟨_, rfl⟩
        rw [htx] at HHD HA
        obtain ⟨t1x, M2⟩ := tx
        simp only at HHD HA
        clear h5 t5 f5 htx hsx
        go_wp2_with fail
        refine HHD.out.mono ?_
        rintro e w6 ⟨rfl, hst⟩
        have HST := Lib.hid hst
        clear hst
        by_cases ht1 : t1x = 0
        · subst ht1
          rw [if_neg (by simp)] at HA
          go_wp2_with fail
          go_ret2
          rw [HA.out]
          exact ⟨rfl, PgStep.mono (PgStep.trans HTC.out HFC.out (PgStep.trans HT5.out HF5.out HST.out)) (by omega)⟩
        · rw [if_pos ht1] at HA
          have e9 : (t1x != 0) = true := by simpa using ht1
          go_wp2_with fail
          go_ret2
          rw [HA.out]
          exact ⟨rfl, PgStep.mono (PgStep.trans HTC.out HFC.out (PgStep.trans HT5.out HF5.out HST.out)) (by omega)⟩
      · have HA := Lib.hid (alloc_set HO2.out HQ.out hsx hs1)
        obtain ⟨s1, M1⟩ := sx
        simp only at hs1 hmo HS HA
        have e9 : (s1 != 0) = true := by simpa using hs1
        clear hsx
        go_wp2_with fail
        refine HS.out.mono ?_
        rintro e w5 ⟨rfl, hst⟩
        have HST := Lib.hid hst
        clear hst
        go_wp2_with fail
        go_ret2
        rw [HA.out]
        exact ⟨rfl, PgStep.mono (PgStep.trans HTC.out HFC.out HST.out) (by omega)⟩
end
end Go.Proofs.YtpaholkmlfaflaaGreatDoor

namespace Go.Proofs.YtpaholkmlfaflaaGreatDoor
open Go.RowKit Go.Maps Go.Joins
set_option linter.unusedVariables false
section
variable {w w' w1 w2 : World} {b d lb pb hb K J k room : Nat} {FD FP F1 F : List Nat} {M M' : PM} {fr : Hand}
theorem free_out {no : Int} (h : withinP M no = false) : freeP M no = (1, M) := by unfold freeP; rw [if_pos h]
theorem free_err {no : Int} (h : withinP M no = true) (he : (rdP M no).2.2 ≠ 0) : freeP M no = ((rdP M no).2.2, M) := by unfold freeP; rw [if_neg (by rw [h]; decide), if_pos he]
theorem free_none {no : Int} (h : withinP M no = true) (he : (rdP M no).2.2 = 0) (hk : (rdP M no).1 = 255) : freeP M no = (6, M) := by unfold freeP; rw [if_neg (by rw [h]; decide), if_neg (by simp [he]), if_pos hk]
theorem free_set {no : Int} (h : withinP M no = true) (he : (rdP M no).2.2 = 0) (hk : (rdP M no).1 ≠ 255) {s : Int × PM} (hs : setP M no 255 (S (leB (freeR (rdP M 0).2.1) 4)) = s) (h1 : s.1 ≠ 0) : freeP M no = s := by
  unfold freeP; rw [if_neg (by rw [h]; decide), if_neg (by simp [he]), if_neg hk]; simp only; rw [hs, if_pos h1]
theorem free_head {no : Int} (h : withinP M no = true) (he : (rdP M no).2.2 = 0) (hk : (rdP M no).1 ≠ 255) {s : Int × PM} (hs : setP M no 255 (S (leB (freeR (rdP M 0).2.1) 4)) = s) (h1 : s.1 = 0) :
    freeP M no = setHeadP s.2 (usedR (rdP M 0).2.1) no (rdP M 0).2.1 := by
  unfold freeP; rw [if_neg (by rw [h]; decide), if_neg (by simp [he]), if_neg hk]; simp only; rw [hs, if_neg (by simp [h1])]

set_option maxRecDepth 100000 in
set_option maxHeartbeats 4000000 in
theorem Free_any (h : PgIn w b d lb pb hb FD FP K k M) (hs : Snd M) (hK : K ≤ 2000000000000000000) (no : Int) :
    Calls Tryz.prog 30 #[.pointer (some ⟨b, 0, none⟩), .int .i64 no] w fun e w' => e = .returned (.int .i64 (freeP M no).1) ∧ PgStep w w' b d lb pb hb FD FP (K + 10) k (freeP M no).2 := by
  have H := Lib.hid h
  have hm := h.ok.most1
  have hgeo := h.ok.geo
  have hfew := h.ok.disk.few
  have HW := Lib.hid (within_any h (by omega) no)
  clear h
  cases hw : withinP M no
  · rw [free_out hw]
    rw [hw] at HW
    go_enter Tryz.func30, Tryz.ntmps30
    go_wp2_with fail
    refine HW.out.mono ?_
    rintro e w1 ⟨rfl, hst⟩
    have HST := Lib.hid hst
    clear hst
    go_wp2_with fail
    go_ret
    exact ⟨rfl, HST.out.mono (by omega)⟩
  rw [hw] at HW
  obtain ⟨n1, n2, n3, n4⟩ := within_facts hs hw
  have hsn := hs n3
  have HWI := Lib.hid hw
  obtain ⟨kx, rx, ex, hx⟩ : ∃ kx rx ex, rdP M no = (kx, rx, ex) := ⟨_, _, _, rfl⟩
  obtain ⟨kd, r, er, hy⟩ : ∃ kd r er, rdP M 0 = (kd, r, er) := ⟨_, _, _, rfl⟩
  have hz := rdP_size n3
  rw [hy] at n3 n4 hsn hz
  simp only at n3 n4 hsn hz
  subst n3
  have HX := Lib.hid hx
  have HY := Lib.hid hy
  by_cases he : ex = 0
  rotate_left
  · have HA := Lib.hid (free_err hw (by rw [hx]; exact he))
    rw [hx] at HA
    simp only at HA
    have e1 : (ex != 0) = true := by simpa using he
    clear hw hx hy hs
    go_enter Tryz.func30, Tryz.ntmps30
    go_wp2_with fail
    refine HW.out.mono ?_
    rintro e w1 ⟨rfl, F1, h1, t1, f1⟩
    have HR := Lib.hid (pread_int h1 (by omega) no (by omega) (by omega))
    rw [HX.out] at HR
    simp only at HR
    have HT1 := Lib.hid t1
    have HF1 := Lib.hid f1
    clear h1 t1 f1
    go_wp2_with fail
    refine HR.out.mono ?_
    rintro e w2 ⟨rfl, F2, h2, t2, f2⟩
    have HST := Lib.hid (show PgStep w1 w2 b d lb pb hb FD F1 (K + 2 + 2) k M from ⟨F2, h2, t2, f2⟩)
    clear h2 t2 f2
    go_wp2_with fail
    go_ret
    rw [HA.out]
    exact ⟨rfl, PgStep.mono (PgStep.trans HT1.out HF1.out HST.out) (by omega)⟩
  subst he
  by_cases hk : kx = 255
  · have HA := Lib.hid (free_none hw (by rw [hx]) (by rw [hx]; exact hk))
    subst hk
    clear hw hx hy hs
    go_enter Tryz.func30, Tryz.ntmps30
    go_wp2_with fail
    refine HW.out.mono ?_
    rintro e w1 ⟨rfl, F1, h1, t1, f1⟩
    have HR := Lib.hid (pread_int h1 (by omega) no (by omega) (by omega))
    rw [HX.out] at HR
    simp only at HR
    have HT1 := Lib.hid t1
    have HF1 := Lib.hid f1
    clear h1 t1 f1
    go_wp2_with fail
    refine HR.out.mono ?_
    rintro e w2 ⟨rfl, F2, h2, t2, f2⟩
    have HST := Lib.hid (show PgStep w1 w2 b d lb pb hb FD F1 (K + 2 + 2) k M from ⟨F2, h2, t2, f2⟩)
    clear h2 t2 f2
    go_wp2_with fail
    go_ret
    rw [HA.out]
    exact ⟨rfl, PgStep.mono (PgStep.trans HT1.out HF1.out HST.out) (by omega)⟩
  have ek : (kx == 255) = false := by simpa using hk
  have hub := usedR_bd r
  have hfb := freeR_bd r
  have HD := Lib.hid (fun W p => head_any W p r (by omega) (by omega))
  have HPU := Lib.hid (fun W => put_any (freeR r) 4 W (by omega) (by omega))
  have ew := u64_int (freeR r) (by omega) (by omega)
  obtain ⟨sx, hsx⟩ : ∃ sx, setP M no 255 (S (leB (freeR r) 4)) = sx := ⟨_, rfl⟩
  have hmo : sx.2.most = M.most := by rw [← hsx]; exact setP_most _ _ _
  have hsx' : setP M no 255 (S (leB (freeR (rdP M 0).2.1) 4)) = sx := by rw [hy]; exact hsx
  have HAE := fun h1 => Lib.hid (free_set hw (by rw [hx]) (by rw [hx]; exact hk) hsx' h1)
  have HAH := fun h1 => Lib.hid (free_head hw (by rw [hx]) (by rw [hx]; exact hk) hsx' h1)
  rw [hy] at HAH
  simp only at HAH
  clear hw hx hy hs hsx'
  go_enter Tryz.func30, Tryz.ntmps30
  go_wp2_with fail
  refine HW.out.mono ?_
  rintro e w1 ⟨rfl, F1, h1, t1, f1⟩
  have HR := Lib.hid (pread_int h1 (by omega) no (by omega) (by omega))
  rw [HX.out] at HR
  simp only at HR
  have HT1 := Lib.hid t1
  have HF1 := Lib.hid f1
  clear h1 t1 f1
  go_wp2_with fail
  refine HR.out.mono ?_
  rintro e w2 ⟨rfl, F2, h2, t2, f2⟩
  have HR3 := Lib.hid (pread_int h2 (by omega) 0 (by omega) (by omega))
  rw [HY.out] at HR3
  simp only at HR3
  have HT2 := Lib.hid t2
  have HF2 := Lib.hid f2
  clear h2 t2 f2
  go_wp2_with fail
  refine HR3.out.mono ?_
  rintro e w3 ⟨rfl, F3, h3, t3, f3⟩
  have HT3 := Lib.hid t3
  have HF3 := Lib.hid f3
  have HP3 := Lib.hid h3
  clear h3 t3 f3
  go_wp2_with fail
  refine (HD.out _ _).mono ?_
  rintro e w4 ⟨rfl, rfl⟩
  go_wp2_with fail
  refine (HPU.out _).mono ?_
  rintro e w5 ⟨rfl, hb5⟩
  have HS := Lib.hid (pgset_any (HP3.out.below hb5) (by omega) no 255 (S (leB (freeR r) 4)) (by omega) (by omega))
  rw [hsx] at HS
  have HB5 := Lib.hid hb5
  obtain ⟨s1, M1⟩ := sx
  simp only at HS HAE HAH hmo
  clear hb5 hsx
  by_cases hs1 : s1 = 0
  · have HA := HAH hs1
    subst hs1
    go_wp2_with fail
    refine HS.out.mono ?_
    rintro e w6 ⟨rfl, F6, h6, t6, f6⟩
    have HHD := Lib.hid (setHead_any h6 (by omega) (usedR r) no r (by omega) (by omega) (by omega) (by omega) hz)
    rw [← HA.out] at HHD
    have HT6 := Lib.hid t6
    have HF6 := Lib.hid f6
    clear h6 t6 f6
    go_wp2_with fail
    refine HHD.out.mono ?_
    rintro e w7 ⟨rfl, hst⟩
    have HST := Lib.hid hst
    clear hst
    go_wp2_with fail
    go_ret
    exact ⟨rfl, PgStep.mono (PgStep.trans HT1.out HF1.out (PgStep.trans HT2.out HF2.out (PgStep.trans HT3.out HF3.out (PgStep.below HB5.out (PgStep.trans HT6.out HF6.out HST.out))))) (by omega)⟩
  · have HA := HAE hs1
    have e9 : (s1 != 0) = true := by simpa using hs1
    go_wp2_with fail
    refine HS.out.mono ?_
    rintro e w6 ⟨rfl, hst⟩
    have HST := Lib.hid hst
    clear hst
    go_wp2_with fail
    go_ret
    rw [HA.out]
    exact ⟨rfl, PgStep.mono (PgStep.trans HT1.out HF1.out (PgStep.trans HT2.out HF2.out (PgStep.trans HT3.out HF3.out (PgStep.below HB5.out HST.out)))) (by omega)⟩

set_option maxRecDepth 100000 in
set_option maxHeartbeats 2000000 in
theorem SetRoot_any (h : PgIn w b d lb pb hb FD FP K k M) (hK : K ≤ 2000000000000000000) (i n : Int) (n0 : 0 ≤ n) :
    Calls Tryz.prog 32 #[.pointer (some ⟨b, 0, none⟩), .int .i64 i, .int .u64 n] w fun e w' => e = .returned (.int .i64 (setRootP M i n).1) ∧ PgStep w w' b d lb pb hb FD FP (K + 4) k (setRootP M i n).2 := by
  have hm := h.ok.most1
  have HR := Lib.hid (pread_int h (by omega) 0 (by omega) (by omega))
  have hsz := rdP_size (M := M) (no := 0)
  unfold setRootP
  by_cases hn : i < 0 ∨ 8 ≤ i
  · have H := Lib.hid h
    rw [if_pos hn]
    clear h hsz
    rcases hn with hn | hn
    · go_enter Tryz.func32, Tryz.ntmps32
      go_wp2_with fail
      go_ret
      exact ⟨rfl, (PgStep.refl H.out).mono (by omega)⟩
    · have hn2 : ¬ i < 0 := by omega
      go_enter Tryz.func32, Tryz.ntmps32
      go_wp2_with fail
      go_ret
      exact ⟨rfl, (PgStep.refl H.out).mono (by omega)⟩
  rw [if_neg hn]
  clear h
  obtain ⟨N, rfl⟩ : ∃ N : Nat, i = N := ⟨i.toNat, by omega⟩
  have hn1 : ¬ (N : Int) < 0 := by omega
  have hn2 : ¬ (8 : Int) ≤ N := by omega
  rw [Int.toNat_natCast]
  clear hn
  generalize rdP M 0 = x at HR hsz ⊢
  obtain ⟨kd, r, er⟩ := x
  by_cases he : er = 0
  · subst he
    rw [if_neg (by simp)]
    have hz : r.size = 496 := hsz rfl
    simp only
    obtain ⟨A, hA⟩ : ∃ A : Nat, A = 8 + 8 * N := ⟨_, rfl⟩
    have q1 : IntKind.i64.wrap (8 * (N : Int)) = 8 * (N : Int) := IntWalk.i64_in _ (by omega)
    have q2 : IntKind.i64.wrap (8 + 8 * (N : Int)) = (A : Int) := by rw [IntWalk.i64_in _ (by omega)]; omega
    have q3 : IntKind.i64.wrap ((A : Int) + 8) = ((A + 8 : Nat) : Int) := by rw [IntWalk.i64_in _ (by omega)]; omega
    have HP1 := Lib.hid (fun W => put_any n 8 W (by omega) n0)
    have z1 : (S (leB n 8)).size ≤ 8 := by rw [S_size, leB_length]; omega
    have z2 : (r.extract 0 A).size ≤ 496 := by rw [ByteArray.size_extract]; omega
    have z3 : A + 8 ≤ r.size := by omega
    have z4 : A ≤ r.size := by omega
    have z5 : (A : Int) ≤ r.size := by omega
    have z6 : (A : Int) + 8 ≤ r.size := by omega
    have z7 : r.size ≤ 496 := by omega
    have hcat : (r.extract 0 A ++ S (leB n 8)) ++ r.extract (A + 8) 496 = rootR r N n := by
      unfold rootR
      rw [append_S, S_append_s, List.append_assoc, hA, hz]
    have HCA := Lib.hid hcat
    have HA := Lib.hid hA
    clear hsz hA hcat
    go_enter Tryz.func32, Tryz.ntmps32
    go_wp2_with fail
    refine HR.out.mono ?_
    rintro e w1 ⟨rfl, F1, h1, t1, f1⟩
    have HPG := Lib.hid h1
    have HT1 := Lib.hid t1
    have HF1 := Lib.hid f1
    clear h1 t1 f1
    go_wp2_with fail
    refine wp_region_later_tail 12 (by kernel_rfl) (by kernel_rfl) ?_
    simp only [List.take_succ_cons, List.take_zero, List.drop_succ_cons, List.drop_zero]
    repeat (first | go_big_quiet_step ((go_at_call 47; refine Later.call (HP1.out _))) | quiet_step ((go_at_call 47; refine Later.call (HP1.out _))))
    refine wpQuiet_nil ?_
    rintro w3 ⟨y3, hw3⟩
    have hb3 : Below w1.heap.size w1 w3 := by rw [hw3]; exact y3.2
    have HB3 := Lib.hid hb3
    have HS := Lib.hid (pgset_any (HPG.out.below hb3) (by omega) 0 1 (rootR r N n) (by omega) (by omega))
    clear hw3 hb3
    rw [HCA.out]
    go_wp2_with fail
    refine HS.out.mono ?_
    rintro e w5 ⟨rfl, hst⟩
    have HST := Lib.hid hst
    clear hst
    go_wp2_with fail
    go_ret
    exact ⟨rfl, PgStep.trans HT1.out HF1.out (PgStep.below HB3.out HST.out)⟩
  · have e1 : (er != 0) = true := by simpa using he
    rw [if_pos he]
    clear hsz
    go_enter Tryz.func32, Tryz.ntmps32
    go_wp2_with fail
    refine HR.out.mono ?_
    rintro e w1 ⟨rfl, hst⟩
    have HST := Lib.hid hst
    clear hst
    go_wp2_with fail
    go_ret
    exact ⟨rfl, HST.out.mono (by omega)⟩
end
end Go.Proofs.YtpaholkmlfaflaaGreatDoor

