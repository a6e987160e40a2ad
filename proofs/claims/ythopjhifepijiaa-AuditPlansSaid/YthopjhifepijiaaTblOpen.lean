/- A table among the arguments. -/
import Derived.Test.YthopjhifepijiaaSame18
import Derived.Test.YthopjhifepijiaaStructs
import Derived.ProofKit
namespace Go.Proofs.Ythopjhifepijiaa
open Go.ChangeShapes Go.WideShapes Go.ChangeAt Go.RowKit Go.Deep Go.Joins
set_option linter.unusedVariables false
theorem addr_add (b : Nat) (o i : Nat) : (⟨b, o, none⟩ : Addr).add i = ⟨b, o + i, none⟩ := by unfold Addr.add; split <;> simp_all
theorem getL {α : Type} {xs : List α} {n i : Nat} (h : xs.length = n) (hi : i < n) : ∃ y, xs[i]? = some y := ⟨_, List.getElem?_eq_getElem (by omega)⟩
theorem list_of {α : Type} : ∀ (n : Nat) (P : Nat → α → Prop), (∀ i, i < n → ∃ x, P i x) → ∃ l : List α, l.length = n ∧ ∀ (i : Nat) (x : α), l[i]? = some x → P i x
  | 0, P, _ => ⟨[], rfl, fun i x h => by simp at h⟩
  | n + 1, P, h => by
    obtain ⟨l, hl, hP⟩ := list_of n P (fun i hi => h i (by omega))
    obtain ⟨x, hx⟩ := h n (by omega)
    refine ⟨l ++ [x], by simp [hl], fun i y hy => ?_⟩
    by_cases hi : i < n
    · rw [List.getElem?_append_left (by omega)] at hy; exact hP i y hy
    · have hlt := (List.getElem?_eq_some_iff.1 hy).1
      simp [hl] at hlt
      obtain rfl : i = n := by omega
      rw [List.getElem?_append_right (by omega), hl] at hy
      simp at hy; subst hy; exact hx
section
variable {H : Type} {enc : TypeId × Value → H} {W : World} {base : Nat} {sp : Nat → Bool} {held : Bool} {n : Nat} {cs : List Value} {x : DataW H × List MemPlace}
/-- A slice of rows. -/
theorem open_rows {α : Type} {P : Program} {t e : TypeId} {size : Nat} {C : α → List Value} (ht : P.underlying t = some (.slice e)) (hC : P.cellsOf e = size) (hz : ∀ v, (C v).length = size) (hpos : 0 < size)
    (hd : ∀ {n : Nat} {cs : List Value} {x : DataW H × List MemPlace}, DataW.trod enc P W base sp held n e cs = some x → ∃ v, cs = C v) (h : DataW.trod enc P W base sp held n t cs = some x) :
    ∃ (a : Option Addr) (n c : Nat) (l : List α), cs = [.slice a n c] ∧ n = l.length ∧ (n = 0 ∨ ∃ b off, a = some ⟨b, off, none⟩ ∧ b < W.heap.size ∧ ∀ (i : Nat) (v : α), l[i]? = some v → ∀ (j : Nat) (u : Value), (C v)[j]? = some u → W.cell? ⟨b, off + i * size + j, none⟩ = some u) := by
  rcases open_slice ht h with ⟨e, _⟩ | ⟨a, len, cap, m, n', D, Pl, e, _, hl, hm, hmm, _, hc⟩
  · exact ⟨none, 0, 0, [], e, rfl, .inl rfl⟩
  · have hlm : len ≤ m := by rw [hmm]; split <;> omega
    obtain ⟨l, hll, hP⟩ := list_of len (fun i v => ∀ (j : Nat) (u : Value), (C v)[j]? = some u → W.cell? (a.add (i * size + j)) = some u) (fun i hi => by
      obtain ⟨cs', h1, h2⟩ := hc i (by omega)
      obtain ⟨v, rfl⟩ := hd h2
      obtain ⟨_, _, hat⟩ := World.cells?_some h1
      refine ⟨v, fun j u hu => ?_⟩
      have := hat j (by rw [hC, ← hz v]; exact (List.getElem?_eq_some_iff.1 hu).1)
      rw [hC, hu] at this
      rw [← Go.Deep.add_add]
      exact this)
    by_cases h0 : len = 0
    · exact ⟨some a, len, cap, l, e, hll.symm, .inl h0⟩
    · obtain ⟨b, off, s⟩ := a
      obtain ⟨v, hv⟩ := getL hll (show 0 < len by omega)
      obtain ⟨u, hu⟩ := getL (hz v) hpos
      have h1 := hP 0 v hv 0 u hu
      have hs : s = none := by simpa [Addr.add] using World.cell?_spot h1
      subst hs
      rw [addr_add] at h1
      refine ⟨_, len, cap, l, e, hll.symm, .inr ⟨b, off, rfl, cell_lt h1, fun i v hv j u hu => ?_⟩⟩
      have := hP i v hv j u hu
      rw [addr_add, ← Nat.add_assoc] at this
      exact this
theorem dec_int (h : (DataW.trod enc Try.prog W base sp held) n 3 cs = some x) : ∃ a, cs = [.int .i64 a] := by
  obtain ⟨a, e, _⟩ := DataW.trod_int Try.underlying3 h
  exact ⟨a, e⟩
theorem dec_bool (h : (DataW.trod enc Try.prog W base sp held) n 4 cs = some x) : ∃ a, cs = [.bool a] := by
  obtain ⟨a, e, _⟩ := DataW.trod_bool Try.underlying4 h
  exact ⟨a, e⟩
theorem sz_int : Try.prog.cellsOf 3 = 1 := by kernel_rfl
theorem sz_bool : Try.prog.cellsOf 4 = 1 := by kernel_rfl
theorem sz_point : Try.prog.cellsOf 51 = 2 := by kernel_rfl
theorem sz_half : Try.prog.cellsOf 45 = 2 := by kernel_rfl
theorem sz_pair : Try.prog.cellsOf 79 = 2 := by kernel_rfl
theorem sz_halves : Try.prog.cellsOf 78 = 4 := by kernel_rfl
set_option maxRecDepth 100000 in
theorem dec_point (h : (DataW.trod enc Try.prog W base sp held) n 51 cs = some x) : ∃ a b, cs = [.int .i64 a, .int .i64 b] := by
  obtain ⟨xs, m, _, _, hl, hlen, hf⟩ := DataW.trod_struct Try.underlying51 h
  rw [sz_point] at hl
  match cs, hl with
  | [c0, c1], _ =>
    obtain ⟨y0, e0⟩ := getL hlen (i := 0) (by simp)
    obtain ⟨y1, e1⟩ := getL hlen (i := 1) (by simp)
    have h0 := (hf 0 _ rfl).trans e0
    have h1 := (hf 1 _ rfl).trans e1
    simp [sz_int] at h0 h1
    obtain ⟨a, ha⟩ := dec_int h0
    obtain ⟨b, hb⟩ := dec_int h1
    simp at ha hb
    exact ⟨a, b, by rw [ha, hb]⟩
set_option maxRecDepth 100000 in
theorem dec_half (h : (DataW.trod enc Try.prog W base sp held) n 45 cs = some x) : ∃ a b, cs = [.int .i64 a, .bool b] := by
  obtain ⟨xs, m, _, _, hl, hlen, hf⟩ := DataW.trod_struct Try.underlying45 h
  rw [sz_half] at hl
  match cs, hl with
  | [c0, c1], _ =>
    obtain ⟨y0, e0⟩ := getL hlen (i := 0) (by simp)
    obtain ⟨y1, e1⟩ := getL hlen (i := 1) (by simp)
    have h0 := (hf 0 _ rfl).trans e0
    have h1 := (hf 1 _ rfl).trans e1
    simp [sz_int, sz_bool] at h0 h1
    obtain ⟨a, ha⟩ := dec_int h0
    obtain ⟨b, hb⟩ := dec_bool h1
    simp at ha hb
    exact ⟨a, b, by rw [ha, hb]⟩
set_option maxRecDepth 100000 in
theorem dec_pair (h : (DataW.trod enc Try.prog W base sp held) n 79 cs = some x) : ∃ a b, cs = [.int .i64 a, .int .i64 b] := by
  obtain ⟨xs, m, _, _, hl, hlen, hf⟩ := DataW.trod_array Try.underlying79 h
  rw [sz_pair] at hl
  match cs, hl with
  | [c0, c1], _ =>
    obtain ⟨y0, e0⟩ := getL hlen (i := 0) (by simp)
    obtain ⟨y1, e1⟩ := getL hlen (i := 1) (by simp)
    have h0 := (hf 0 (by simp)).trans e0
    have h1 := (hf 1 (by simp)).trans e1
    simp [sz_int] at h0 h1
    obtain ⟨a, ha⟩ := dec_int h0
    obtain ⟨b, hb⟩ := dec_int h1
    simp at ha hb
    exact ⟨a, b, by rw [ha, hb]⟩
set_option maxRecDepth 100000 in
theorem dec_halves (h : (DataW.trod enc Try.prog W base sp held) n 78 cs = some x) : ∃ a b c d, cs = [.int .i64 a, .bool b, .int .i64 c, .bool d] := by
  obtain ⟨xs, m, _, _, hl, hlen, hf⟩ := DataW.trod_array Try.underlying78 h
  rw [sz_halves] at hl
  match cs, hl with
  | [c0, c1, c2, c3], _ =>
    obtain ⟨y0, e0⟩ := getL hlen (i := 0) (by simp)
    obtain ⟨y1, e1⟩ := getL hlen (i := 1) (by simp)
    have h0 := (hf 0 (by simp)).trans e0
    have h1 := (hf 1 (by simp)).trans e1
    simp [sz_half] at h0 h1
    obtain ⟨a, b, ha⟩ := dec_half h0
    obtain ⟨c, d, hb⟩ := dec_half h1
    simp at ha hb
    exact ⟨a, b, c, d, by rw [ha.1, ha.2, hb.1, hb.2]⟩
def vrC' (v : VR) : List Value := [.int .i64 v.id, .int .i64 v.x, .int .i64 v.y, .int .i64 v.f]
def erC' (v : ER) : List Value := [.int .i64 v.id, .int .i64 v.a, .int .i64 v.b, .int .i64 v.n0, .bool v.m0, .int .i64 v.n1, .bool v.m1, .int .i64 v.p0, .bool v.q0, .int .i64 v.p1, .bool v.q1, .int .i64 v.f0, .int .i64 v.f1]
def frC' (v : FR) : List Value := [.int .i64 v.id, .int .i64 v.at_]
theorem sz_vr : Try.prog.cellsOf 146 = 4 := by kernel_rfl
theorem sz_er : Try.prog.cellsOf 147 = 13 := by kernel_rfl
theorem sz_fr : Try.prog.cellsOf 83 = 2 := by kernel_rfl
set_option maxRecDepth 100000 in
theorem dec_fr (h : (DataW.trod enc Try.prog W base sp held) n 83 cs = some x) : ∃ v, cs = frC' v := by
  obtain ⟨xs, m, _, _, hl, hlen, hf⟩ := DataW.trod_struct Try.underlying83 h
  rw [sz_fr] at hl
  match cs, hl with
  | [c0, c1], _ =>
    obtain ⟨y0, e0⟩ := getL hlen (i := 0) (by simp)
    obtain ⟨y1, e1⟩ := getL hlen (i := 1) (by simp)
    have h0 := (hf 0 _ rfl).trans e0
    have h1 := (hf 1 _ rfl).trans e1
    simp [sz_int] at h0 h1
    obtain ⟨a, ha⟩ := dec_int h0
    obtain ⟨b, hb⟩ := dec_int h1
    simp at ha hb
    exact ⟨⟨a, b⟩, by rw [ha, hb]; rfl⟩
set_option maxRecDepth 100000 in
theorem dec_vr (h : (DataW.trod enc Try.prog W base sp held) n 146 cs = some x) : ∃ v, cs = vrC' v := by
  obtain ⟨xs, m, _, _, hl, hlen, hf⟩ := DataW.trod_struct Try.underlying146 h
  rw [sz_vr] at hl
  match cs, hl with
  | [c0, c1, c2, c3], _ =>
    obtain ⟨y0, e0⟩ := getL hlen (i := 0) (by simp)
    obtain ⟨y1, e1⟩ := getL hlen (i := 1) (by simp)
    obtain ⟨y2, e2⟩ := getL hlen (i := 2) (by simp)
    have h0 := (hf 0 _ rfl).trans e0
    have h1 := (hf 1 _ rfl).trans e1
    have h2 := (hf 2 _ rfl).trans e2
    simp [sz_int, sz_point] at h0 h1 h2
    obtain ⟨a, ha⟩ := dec_int h0
    obtain ⟨b, c, hb⟩ := dec_point h1
    obtain ⟨d, hd⟩ := dec_int h2
    simp at ha hb hd
    exact ⟨⟨a, b, c, d⟩, by rw [ha, hb.1, hb.2, hd]; rfl⟩
set_option maxRecDepth 100000 in
theorem dec_er (h : (DataW.trod enc Try.prog W base sp held) n 147 cs = some x) : ∃ v, cs = erC' v := by
  obtain ⟨xs, m, _, _, hl, hlen, hf⟩ := DataW.trod_struct Try.underlying147 h
  rw [sz_er] at hl
  match cs, hl with
  | [c0, c1, c2, c3, c4, c5, c6, c7, c8, c9, c10, c11, c12], _ =>
    obtain ⟨y0, e0⟩ := getL hlen (i := 0) (by simp)
    obtain ⟨y1, e1⟩ := getL hlen (i := 1) (by simp)
    obtain ⟨y2, e2⟩ := getL hlen (i := 2) (by simp)
    obtain ⟨y3, e3⟩ := getL hlen (i := 3) (by simp)
    obtain ⟨y4, e4⟩ := getL hlen (i := 4) (by simp)
    obtain ⟨y5, e5⟩ := getL hlen (i := 5) (by simp)
    have h0 := (hf 0 _ rfl).trans e0
    have h1 := (hf 1 _ rfl).trans e1
    have h2 := (hf 2 _ rfl).trans e2
    have h3 := (hf 3 _ rfl).trans e3
    have h4 := (hf 4 _ rfl).trans e4
    have h5 := (hf 5 _ rfl).trans e5
    simp [sz_int, sz_halves, sz_pair] at h0 h1 h2 h3 h4 h5
    obtain ⟨a0, ha⟩ := dec_int h0
    obtain ⟨a1, hb⟩ := dec_int h1
    obtain ⟨a2, hc⟩ := dec_int h2
    obtain ⟨a3, a4, a5, a6, hd⟩ := dec_halves h3
    obtain ⟨a7, a8, a9, a10, he⟩ := dec_halves h4
    obtain ⟨a11, a12, hg⟩ := dec_pair h5
    simp at ha hb hc hd he hg
    obtain ⟨d0, d1, d2, d3⟩ := hd
    obtain ⟨i0, i1, i2, i3⟩ := he
    obtain ⟨g0, g1⟩ := hg
    subst ha hb hc d0 d1 d2 d3 i0 i1 i2 i3 g0 g1
    exact ⟨⟨a0, a1, a2, a3, a4, a5, a6, a7, a8, a9, a10, a11, a12⟩, rfl⟩
end
section
variable {H : Type} {enc : TypeId × Value → H} {W : World}
set_option maxRecDepth 100000 in
/-- The argument. -/
theorem open_table {v : Value} {d : DataW H} {p : List MemPlace} (hv : Value.okWide Try.prog W .any 0 89 v) (h : DataW.Trod enc Try.prog W 0 (fun _ => true) true 89 v d p) :
    ∃ va ea fa vn en fn vc ec fc t, v = .agg #[.int .i64 t.lv, .int .i64 t.le, .int .i64 t.lf, .slice va vn vc, .slice ea en ec, .slice fa fn fc] ∧ TbIn W W.heap.size va ea fa vn en fn t := by
  obtain ⟨v0, v1, v2, v3, v4, v5, y0, y1, y2, y3, y4, y5, n, rfl, _, _, h0, h1, h2, h3, h4, h5⟩ := open_agg6 Try.underlying89 (by kernel_rfl) (by kernel_rfl) hv h
  obtain ⟨a, ha⟩ := dec_int h0
  obtain ⟨b, hb⟩ := dec_int h1
  obtain ⟨c, hc⟩ := dec_int h2
  obtain ⟨va, vn, vc, vs, e3, hvn, hvs⟩ := open_rows (C := vrC') Try.underlying86 sz_vr (fun _ => rfl) (by decide) dec_vr h3
  obtain ⟨ea, en, ec, es, e4, hen, hes⟩ := open_rows (C := erC') Try.underlying87 sz_er (fun _ => rfl) (by decide) dec_er h4
  obtain ⟨fa, fn, fc, fs, e5, hfn, hfs⟩ := open_rows (C := frC') Try.underlying71 sz_fr (fun _ => rfl) (by decide) dec_fr h5
  simp at ha hb hc e3 e4 e5
  subst ha hb hc e3 e4 e5
  refine ⟨va, ea, fa, vn, en, fn, vc, ec, fc, ⟨a, b, c, vs, es, fs⟩, rfl, ⟨hvn, ?_⟩, ⟨hen, ?_⟩, ⟨hfn, ?_⟩⟩
  · rcases hvs with h0 | ⟨b, off, rfl, hb, hc⟩
    · exact .inl h0
    · exact .inr ⟨b, off, rfl, hb, fun i v hv => ⟨hc i v hv 0 _ rfl, hc i v hv 1 _ rfl, hc i v hv 2 _ rfl, hc i v hv 3 _ rfl⟩⟩
  · rcases hes with h0 | ⟨b, off, rfl, hb, hc⟩
    · exact .inl h0
    · exact .inr ⟨b, off, rfl, hb, fun i v hv => ⟨hc i v hv 0 _ rfl, hc i v hv 1 _ rfl, hc i v hv 2 _ rfl, hc i v hv 3 _ rfl, hc i v hv 4 _ rfl, hc i v hv 5 _ rfl, hc i v hv 6 _ rfl, hc i v hv 7 _ rfl, hc i v hv 8 _ rfl, hc i v hv 9 _ rfl, hc i v hv 10 _ rfl, hc i v hv 11 _ rfl, hc i v hv 12 _ rfl⟩⟩
  · rcases hfs with h0 | ⟨b, off, rfl, hb, hc⟩
    · exact .inl h0
    · exact .inr ⟨b, off, rfl, hb, fun i v hv => ⟨hc i v hv 0 _ rfl, hc i v hv 1 _ rfl⟩⟩
end
end Go.Proofs.Ythopjhifepijiaa
