/- A disk in memory: how it lies, and what it is. -/
import Derived.Test.YtfnfapgmicmegaaWord
import Derived.Test.YtfnfapgmicmegaaFrame
import Derived.Lib.SmallJoins
import Derived.Maps.OwnOps
namespace Go.Proofs.Ytfnfapgmicmegaa
open Go.RowKit Go.Maps Go.Joins
set_option linter.unusedVariables false

/-- A disk as plain data. -/
structure DM where
  sure : List ByteArray
  wait : List (Int × ByteArray)
  fuse : Int
  down : Bool

/-- The last text that was written to a place. -/
def lastW (l : List (Int × ByteArray)) (k : Int) : Option ByteArray := l.foldl (fun acc x => if x.1 = k then some x.2 else acc) none
theorem lastW_nil (k : Int) : lastW [] k = none := rfl
theorem lastW_snoc (l : List (Int × ByteArray)) (i : Int) (s : ByteArray) (k : Int) : lastW (l ++ [(i, s)]) k = if i = k then some s else lastW l k := by
  simp [lastW, List.foldl_append]
def waitCells (l : List (Int × ByteArray)) : List Value := l.flatMap fun x => [.int .i64 x.1, .string x.2]
theorem waitCells_snoc (l : List (Int × ByteArray)) (i : Int) (s : ByteArray) : waitCells l ++ [.int .i64 i, .string s] = waitCells (l ++ [(i, s)]) := by
  simp [waitCells]
theorem waitCells_length (l : List (Int × ByteArray)) : (waitCells l).length = l.length * 2 := by
  induction l with
  | nil => rfl
  | cons x l ih => simp only [waitCells, List.flatMap_cons, List.length_append, List.length_cons, List.length_nil] at ih ⊢; omega
theorem waitCells_get : ∀ (l : List (Int × ByteArray)) (i : Nat) (x : Int × ByteArray), l[i]? = some x → (waitCells l)[i * 2]? = some (.int .i64 x.1) ∧ (waitCells l)[i * 2 + 1]? = some (.string x.2)
  | [], i, x, h => by simp at h
  | y :: l, 0, x, h => by
    simp at h; subst h
    simp [waitCells]
  | y :: l, i + 1, x, h => by
    have ih := waitCells_get l i x (by simpa using h)
    have e : waitCells (y :: l) = .int .i64 y.1 :: .string y.2 :: waitCells l := rfl
    rw [e, show (i + 1) * 2 = i * 2 + 1 + 1 by omega]
    exact ih

/-- The map holds just these. -/
def MapIs (D : DataW Unit) (f : Int → Option ByteArray) : Prop :=
  IsMap D ∧ ∀ k : Int, Maps.has D (.int .i64 k) = (f k).isSome ∧ ∀ z, D.atKey (.int .i64 k) z = match f k with
    | some s => .lit (.string s.data.toList)
    | none => z
theorem MapIs.empty : MapIs (.map []) (lastW []) := ⟨isMap_empty, fun k => ⟨rfl, fun z => rfl⟩⟩

/-- The cells of a disk. -/
def diskF (sv wv : Value) (M : Nat) (m : DM) : Nat → Value
  | 0 => sv
  | 1 => wv
  | 2 => .map (some M)
  | 3 => .int .i64 m.fuse
  | 4 => .bool m.down
  | _ => undef

theorem Try.infoStr : (Try.prog.info? 9).map (fun i => (i.zero, i.size, i.bytes)) = some (some (.string ⟨#[]⟩), 1, 16) := by kernel_rfl
theorem Try.keyInt : Keyed Try.prog 3 := int_keyed Try.underlying3

/-- A disk lies in the blocks F. -/
structure DiskAt (w : World) (d sb sc M : Nat) (wv : Value) (D : DataW Unit) (m : DM) : Prop where
  cells : w.rowIs d 75 5 (diskF (.slice (some ⟨sb, 0, none⟩) m.sure.length sc) wv M m)
  sure : w.ownsRow 0 9 1 (.slice (some ⟨sb, 0, none⟩) m.sure.length sc) m.sure.length (m.sure.map Value.string)
  wait : w.ownsRow 0 83 2 wv m.wait.length (waitCells m.wait)
  map : w.ownsMap Try.prog 3 (plainElem Try.prog 9) M m.wait.length D
  mapIs : MapIs D (lastW m.wait)
  ne1 : d ≠ sb
  ne2 : d ≠ M
  ne3 : sb ≠ M
  ne4 : ∀ g, wv.ownBlock = some g → g ≠ d ∧ g ≠ sb ∧ g ≠ M
/-- The blocks in which it lies. -/
def diskB (d sb M : Nat) (wv : Value) : List Nat := d :: sb :: M :: wv.ownBlock.toList
/-- A disk, wherever its parts lie: its blocks are F. -/
def IsDisk (w : World) (d : Nat) (F : List Nat) (m : DM) : Prop := ∃ sb sc M wv D, DiskAt w d sb sc M wv D m ∧ F = diskB d sb M wv

theorem DiskAt.touch {w w' : World} {d sb sc M : Nat} {wv : Value} {D : DataW Unit} {m : DM} {F : List Nat} (h : DiskAt w d sb sc M wv D m) (t : Touch F w w') (hF : ∀ b ∈ diskB d sb M wv, b ∉ F) : DiskAt w' d sb sc M wv D m :=
  ⟨rowIs_touch h.cells t (hF d (by simp [diskB])), ownsRow_touch h.sure t (fun g hg => by cases hg; exact hF sb (by simp [diskB])), ownsRow_touch h.wait t (fun g hg => hF g (by simp [diskB, hg])),
    ownsMap_touch h.map t (hF M (by simp [diskB])), h.mapIs, h.ne1, h.ne2, h.ne3, h.ne4⟩
theorem IsDisk.touch {w w' : World} {d : Nat} {m : DM} {F G : List Nat} (h : IsDisk w d G m) (t : Touch F w w') (hF : ∀ b ∈ G, b ∉ F) : IsDisk w' d G m := by
  obtain ⟨sb, sc, M, wv, D, h, rfl⟩ := h
  exact ⟨sb, sc, M, wv, D, h.touch t hF, rfl⟩
theorem DiskAt.lt {w : World} {d sb sc M : Nat} {wv : Value} {D : DataW Unit} {m : DM} (h : DiskAt w d sb sc M wv D m) : ∀ b ∈ diskB d sb M wv, b < w.heap.size := by
  intro b hb
  simp only [diskB, List.mem_cons, Option.mem_toList] at hb
  rcases hb with rfl | rfl | rfl | hb
  · exact World.rowIs.lt h.cells
  · exact (h.sure.lt b rfl).2
  · exact h.map.lt
  · exact (h.wait.lt b hb).2
theorem IsDisk.lt {w : World} {d : Nat} {m : DM} {F : List Nat} (h : IsDisk w d F m) : ∀ b ∈ F, b < w.heap.size := by
  obtain ⟨sb, sc, M, wv, D, h, rfl⟩ := h
  exact h.lt
theorem DiskAt.cell {w : World} {d sb sc M : Nat} {wv : Value} {D : DataW Unit} {m : DM} (h : DiskAt w d sb sc M wv D m) :
    w.cell? ⟨d, 0, none⟩ = some (.slice (some ⟨sb, 0, none⟩) m.sure.length sc) ∧ w.cell? ⟨d, 1, none⟩ = some wv ∧ w.cell? ⟨d, 2, none⟩ = some (.map (some M)) ∧ w.cell? ⟨d, 3, none⟩ = some (.int .i64 m.fuse) ∧ w.cell? ⟨d, 4, none⟩ = some (.bool m.down) :=
  ⟨World.rowIs.cell h.cells (i := 0) (by decide), World.rowIs.cell h.cells (i := 1) (by decide), World.rowIs.cell h.cells (i := 2) (by decide), World.rowIs.cell h.cells (i := 3) (by decide), World.rowIs.cell h.cells (i := 4) (by decide)⟩
theorem DiskAt.frozen {w : World} {d sb sc M : Nat} {wv : Value} {D : DataW Unit} {m : DM} (h : DiskAt w d sb sc M wv D m) (i : Nat) : w.frozen? ⟨d, i, none⟩ = false := World.rowIs.frozen h.cells i

/-- The fuse is set. -/
theorem DiskAt.setFuse {w : World} {d sb sc M : Nat} {wv : Value} {D : DataW Unit} {m : DM} (h : DiskAt w d sb sc M wv D m) (n : Int) : DiskAt (w.setCell ⟨d, 3, none⟩ (.int .i64 n)) d sb sc M wv D { m with fuse := n } := by
  have t : Touch [d] w (w.setCell ⟨d, 3, none⟩ (.int .i64 n)) := (Touch.refl _ _).setCell (.inl (by simp)) _
  exact ⟨World.rowIs.congr (World.rowIs.set h.cells 3 (.int .i64 n)) (fun i hi => by
      rcases i with _ | _ | _ | _ | _ | i <;> first | rfl | omega),
    ownsRow_touch h.sure t (fun g hg => by cases hg; simp; exact fun e => h.ne1 e.symm), ownsRow_touch h.wait t (fun g hg => by simp; exact (h.ne4 g hg).1), ownsMap_touch h.map t (by simp; exact fun e => h.ne2 e.symm), h.mapIs, h.ne1, h.ne2, h.ne3, h.ne4⟩
theorem DiskAt.setDown {w : World} {d sb sc M : Nat} {wv : Value} {D : DataW Unit} {m : DM} (h : DiskAt w d sb sc M wv D m) (b : Bool) : DiskAt (w.setCell ⟨d, 4, none⟩ (.bool b)) d sb sc M wv D { m with down := b } := by
  have t : Touch [d] w (w.setCell ⟨d, 4, none⟩ (.bool b)) := (Touch.refl _ _).setCell (.inl (by simp)) _
  exact ⟨World.rowIs.congr (World.rowIs.set h.cells 4 (.bool b)) (fun i hi => by
      rcases i with _ | _ | _ | _ | _ | i <;> first | rfl | omega),
    ownsRow_touch h.sure t (fun g hg => by cases hg; simp; exact fun e => h.ne1 e.symm), ownsRow_touch h.wait t (fun g hg => by simp; exact (h.ne4 g hg).1), ownsMap_touch h.map t (by simp; exact fun e => h.ne2 e.symm), h.mapIs, h.ne1, h.ne2, h.ne3, h.ne4⟩

end Go.Proofs.Ytfnfapgmicmegaa
