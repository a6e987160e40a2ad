/- Rows of tables in memory (printed by wip/tools/gen_tbl.py). -/
import Derived.Test.YthopjhifepijiaaRowEq
import Derived.Test.YthopjhifepijiaaPlan1
namespace Go.Proofs.Ythopjhifepijiaa
open Go.RowKit
set_option linter.unusedVariables false
/-- A row of a face. -/
structure FR where
  id : Int
  at_ : Int
deriving DecidableEq
/-- So many rows lie there, below block B. -/
def VRIn (w : World) (B : Nat) (a : Option Addr) (n : Nat) (l : List VR) : Prop := n = l.length ∧ (n = 0 ∨ ∃ b off, a = some ⟨b, off, none⟩ ∧ b < B ∧ ∀ (i : Nat) (v : VR), l[i]? = some v →
  w.cell? ⟨b, off + i * 4, none⟩ = some (.int .i64 v.id) ∧ w.cell? ⟨b, off + i * 4 + 1, none⟩ = some (.int .i64 v.x) ∧ w.cell? ⟨b, off + i * 4 + 1 + 1, none⟩ = some (.int .i64 v.y) ∧ w.cell? ⟨b, off + i * 4 + 1 + 1 + 1, none⟩ = some (.int .i64 v.f))
theorem VRIn.below {w w' : World} {B : Nat} {a : Option Addr} {n : Nat} {l : List VR} (h : VRIn w B a n l) (hb : Below B w w') : VRIn w' B a n l := by
  obtain ⟨h1, h2 | ⟨b, off, ha, hlt, hc⟩⟩ := h
  · exact ⟨h1, .inl h2⟩
  · exact ⟨h1, .inr ⟨b, off, ha, hlt, fun i v hv => ⟨(hb.cell (p := ⟨b, _, none⟩) hlt).trans (hc i v hv).1, (hb.cell (p := ⟨b, _, none⟩) hlt).trans (hc i v hv).2.1, (hb.cell (p := ⟨b, _, none⟩) hlt).trans (hc i v hv).2.2.1, (hb.cell (p := ⟨b, _, none⟩) hlt).trans (hc i v hv).2.2.2⟩⟩⟩
theorem VRIn.mono {w : World} {B B' : Nat} {a : Option Addr} {n : Nat} {l : List VR} (h : VRIn w B a n l) (hb : B ≤ B') : VRIn w B' a n l := by
  obtain ⟨h1, h2 | ⟨b, off, ha, hlt, hc⟩⟩ := h
  · exact ⟨h1, .inl h2⟩
  · exact ⟨h1, .inr ⟨b, off, ha, by omega, hc⟩⟩
theorem VRIn.at_ {w : World} {B : Nat} {a : Option Addr} {n : Nat} {l : List VR} (h : VRIn w B a n l) {k : Nat} (hk : k < n) : ∃ b off v, a = some ⟨b, off, none⟩ ∧ b < B ∧ l[k]? = some v ∧
    w.cell? ⟨b, off + k * 4, none⟩ = some (.int .i64 v.id) ∧ w.cell? ⟨b, off + k * 4 + 1, none⟩ = some (.int .i64 v.x) ∧ w.cell? ⟨b, off + k * 4 + 1 + 1, none⟩ = some (.int .i64 v.y) ∧ w.cell? ⟨b, off + k * 4 + 1 + 1 + 1, none⟩ = some (.int .i64 v.f) := by
  obtain ⟨h1, h2 | ⟨b, off, ha, hlt, hc⟩⟩ := h
  · omega
  · have hv := List.getElem?_eq_getElem (l := l) (i := k) (by omega)
    exact ⟨b, off, _, ha, hlt, hv, hc k _ hv⟩
/-- So many rows lie there, below block B. -/
def ERIn (w : World) (B : Nat) (a : Option Addr) (n : Nat) (l : List ER) : Prop := n = l.length ∧ (n = 0 ∨ ∃ b off, a = some ⟨b, off, none⟩ ∧ b < B ∧ ∀ (i : Nat) (v : ER), l[i]? = some v →
  w.cell? ⟨b, off + i * 13, none⟩ = some (.int .i64 v.id) ∧ w.cell? ⟨b, off + i * 13 + 1, none⟩ = some (.int .i64 v.a) ∧ w.cell? ⟨b, off + i * 13 + 1 + 1, none⟩ = some (.int .i64 v.b) ∧ w.cell? ⟨b, off + i * 13 + 1 + 1 + 1, none⟩ = some (.int .i64 v.n0) ∧ w.cell? ⟨b, off + i * 13 + 1 + 1 + 1 + 1, none⟩ = some (.bool v.m0) ∧ w.cell? ⟨b, off + i * 13 + 1 + 1 + 1 + 1 + 1, none⟩ = some (.int .i64 v.n1) ∧ w.cell? ⟨b, off + i * 13 + 1 + 1 + 1 + 1 + 1 + 1, none⟩ = some (.bool v.m1) ∧ w.cell? ⟨b, off + i * 13 + 1 + 1 + 1 + 1 + 1 + 1 + 1, none⟩ = some (.int .i64 v.p0) ∧ w.cell? ⟨b, off + i * 13 + 1 + 1 + 1 + 1 + 1 + 1 + 1 + 1, none⟩ = some (.bool v.q0) ∧ w.cell? ⟨b, off + i * 13 + 1 + 1 + 1 + 1 + 1 + 1 + 1 + 1 + 1, none⟩ = some (.int .i64 v.p1) ∧ w.cell? ⟨b, off + i * 13 + 1 + 1 + 1 + 1 + 1 + 1 + 1 + 1 + 1 + 1, none⟩ = some (.bool v.q1) ∧ w.cell? ⟨b, off + i * 13 + 1 + 1 + 1 + 1 + 1 + 1 + 1 + 1 + 1 + 1 + 1, none⟩ = some (.int .i64 v.f0) ∧ w.cell? ⟨b, off + i * 13 + 1 + 1 + 1 + 1 + 1 + 1 + 1 + 1 + 1 + 1 + 1 + 1, none⟩ = some (.int .i64 v.f1))
theorem ERIn.below {w w' : World} {B : Nat} {a : Option Addr} {n : Nat} {l : List ER} (h : ERIn w B a n l) (hb : Below B w w') : ERIn w' B a n l := by
  obtain ⟨h1, h2 | ⟨b, off, ha, hlt, hc⟩⟩ := h
  · exact ⟨h1, .inl h2⟩
  · exact ⟨h1, .inr ⟨b, off, ha, hlt, fun i v hv => ⟨(hb.cell (p := ⟨b, _, none⟩) hlt).trans (hc i v hv).1, (hb.cell (p := ⟨b, _, none⟩) hlt).trans (hc i v hv).2.1, (hb.cell (p := ⟨b, _, none⟩) hlt).trans (hc i v hv).2.2.1, (hb.cell (p := ⟨b, _, none⟩) hlt).trans (hc i v hv).2.2.2.1, (hb.cell (p := ⟨b, _, none⟩) hlt).trans (hc i v hv).2.2.2.2.1, (hb.cell (p := ⟨b, _, none⟩) hlt).trans (hc i v hv).2.2.2.2.2.1, (hb.cell (p := ⟨b, _, none⟩) hlt).trans (hc i v hv).2.2.2.2.2.2.1, (hb.cell (p := ⟨b, _, none⟩) hlt).trans (hc i v hv).2.2.2.2.2.2.2.1, (hb.cell (p := ⟨b, _, none⟩) hlt).trans (hc i v hv).2.2.2.2.2.2.2.2.1, (hb.cell (p := ⟨b, _, none⟩) hlt).trans (hc i v hv).2.2.2.2.2.2.2.2.2.1, (hb.cell (p := ⟨b, _, none⟩) hlt).trans (hc i v hv).2.2.2.2.2.2.2.2.2.2.1, (hb.cell (p := ⟨b, _, none⟩) hlt).trans (hc i v hv).2.2.2.2.2.2.2.2.2.2.2.1, (hb.cell (p := ⟨b, _, none⟩) hlt).trans (hc i v hv).2.2.2.2.2.2.2.2.2.2.2.2⟩⟩⟩
theorem ERIn.mono {w : World} {B B' : Nat} {a : Option Addr} {n : Nat} {l : List ER} (h : ERIn w B a n l) (hb : B ≤ B') : ERIn w B' a n l := by
  obtain ⟨h1, h2 | ⟨b, off, ha, hlt, hc⟩⟩ := h
  · exact ⟨h1, .inl h2⟩
  · exact ⟨h1, .inr ⟨b, off, ha, by omega, hc⟩⟩
theorem ERIn.at_ {w : World} {B : Nat} {a : Option Addr} {n : Nat} {l : List ER} (h : ERIn w B a n l) {k : Nat} (hk : k < n) : ∃ b off v, a = some ⟨b, off, none⟩ ∧ b < B ∧ l[k]? = some v ∧
    w.cell? ⟨b, off + k * 13, none⟩ = some (.int .i64 v.id) ∧ w.cell? ⟨b, off + k * 13 + 1, none⟩ = some (.int .i64 v.a) ∧ w.cell? ⟨b, off + k * 13 + 1 + 1, none⟩ = some (.int .i64 v.b) ∧ w.cell? ⟨b, off + k * 13 + 1 + 1 + 1, none⟩ = some (.int .i64 v.n0) ∧ w.cell? ⟨b, off + k * 13 + 1 + 1 + 1 + 1, none⟩ = some (.bool v.m0) ∧ w.cell? ⟨b, off + k * 13 + 1 + 1 + 1 + 1 + 1, none⟩ = some (.int .i64 v.n1) ∧ w.cell? ⟨b, off + k * 13 + 1 + 1 + 1 + 1 + 1 + 1, none⟩ = some (.bool v.m1) ∧ w.cell? ⟨b, off + k * 13 + 1 + 1 + 1 + 1 + 1 + 1 + 1, none⟩ = some (.int .i64 v.p0) ∧ w.cell? ⟨b, off + k * 13 + 1 + 1 + 1 + 1 + 1 + 1 + 1 + 1, none⟩ = some (.bool v.q0) ∧ w.cell? ⟨b, off + k * 13 + 1 + 1 + 1 + 1 + 1 + 1 + 1 + 1 + 1, none⟩ = some (.int .i64 v.p1) ∧ w.cell? ⟨b, off + k * 13 + 1 + 1 + 1 + 1 + 1 + 1 + 1 + 1 + 1 + 1, none⟩ = some (.bool v.q1) ∧ w.cell? ⟨b, off + k * 13 + 1 + 1 + 1 + 1 + 1 + 1 + 1 + 1 + 1 + 1 + 1, none⟩ = some (.int .i64 v.f0) ∧ w.cell? ⟨b, off + k * 13 + 1 + 1 + 1 + 1 + 1 + 1 + 1 + 1 + 1 + 1 + 1 + 1, none⟩ = some (.int .i64 v.f1) := by
  obtain ⟨h1, h2 | ⟨b, off, ha, hlt, hc⟩⟩ := h
  · omega
  · have hv := List.getElem?_eq_getElem (l := l) (i := k) (by omega)
    exact ⟨b, off, _, ha, hlt, hv, hc k _ hv⟩
/-- So many rows lie there, below block B. -/
def FRIn (w : World) (B : Nat) (a : Option Addr) (n : Nat) (l : List FR) : Prop := n = l.length ∧ (n = 0 ∨ ∃ b off, a = some ⟨b, off, none⟩ ∧ b < B ∧ ∀ (i : Nat) (v : FR), l[i]? = some v →
  w.cell? ⟨b, off + i * 2, none⟩ = some (.int .i64 v.id) ∧ w.cell? ⟨b, off + i * 2 + 1, none⟩ = some (.int .i64 v.at_))
theorem FRIn.below {w w' : World} {B : Nat} {a : Option Addr} {n : Nat} {l : List FR} (h : FRIn w B a n l) (hb : Below B w w') : FRIn w' B a n l := by
  obtain ⟨h1, h2 | ⟨b, off, ha, hlt, hc⟩⟩ := h
  · exact ⟨h1, .inl h2⟩
  · exact ⟨h1, .inr ⟨b, off, ha, hlt, fun i v hv => ⟨(hb.cell (p := ⟨b, _, none⟩) hlt).trans (hc i v hv).1, (hb.cell (p := ⟨b, _, none⟩) hlt).trans (hc i v hv).2⟩⟩⟩
theorem FRIn.mono {w : World} {B B' : Nat} {a : Option Addr} {n : Nat} {l : List FR} (h : FRIn w B a n l) (hb : B ≤ B') : FRIn w B' a n l := by
  obtain ⟨h1, h2 | ⟨b, off, ha, hlt, hc⟩⟩ := h
  · exact ⟨h1, .inl h2⟩
  · exact ⟨h1, .inr ⟨b, off, ha, by omega, hc⟩⟩
theorem FRIn.at_ {w : World} {B : Nat} {a : Option Addr} {n : Nat} {l : List FR} (h : FRIn w B a n l) {k : Nat} (hk : k < n) : ∃ b off v, a = some ⟨b, off, none⟩ ∧ b < B ∧ l[k]? = some v ∧
    w.cell? ⟨b, off + k * 2, none⟩ = some (.int .i64 v.id) ∧ w.cell? ⟨b, off + k * 2 + 1, none⟩ = some (.int .i64 v.at_) := by
  obtain ⟨h1, h2 | ⟨b, off, ha, hlt, hc⟩⟩ := h
  · omega
  · have hv := List.getElem?_eq_getElem (l := l) (i := k) (by omega)
    exact ⟨b, off, _, ha, hlt, hv, hc k _ hv⟩
end Go.Proofs.Ythopjhifepijiaa
