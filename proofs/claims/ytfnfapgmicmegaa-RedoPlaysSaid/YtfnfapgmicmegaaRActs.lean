/- The acts of layer 9 in memory; few. -/
import Derived.Test.YtfnfapgmicmegaaRedoP
namespace Go.Proofs.Ytfnfapgmicmegaa
open Go.RowKit Go.Maps Go.Joins
set_option linter.unusedVariables false

/-- An act. -/
structure ActD where
  b1 : Int
  b2 : Int
  n : Int
  ka : Option Addr
  kn : Nat
  kc : Nat
  kf : Nat → Bool
  torn : Int
  by_ : Int

/-- The numbers of an act fit. -/
structure ActOk (x : ActD) : Prop where
  u1 : 0 ≤ x.b1 ∧ x.b1 ≤ 255
  u2 : 0 ≤ x.b2 ∧ x.b2 ≤ 255
  n : -9223372036854775808 ≤ x.n ∧ x.n ≤ 9223372036854775807
  k : x.kn ≤ 9223372036854775807
  torn : -9223372036854775808 ≤ x.torn ∧ x.torn ≤ 9223372036854775807
  by_ : -9223372036854775808 ≤ x.by_ ∧ x.by_ ≤ 9223372036854775807

/-- The act lies in six cells; its bools lie below block B. -/
structure ActAt (w : World) (B : Nat) (a : Addr) (x : ActD) : Prop where
  c0 : w.cell? a = some (.int .u8 x.b1)
  c1 : w.cell? (a.add 1) = some (.int .u8 x.b2)
  c2 : w.cell? (a.add 2) = some (.int .i64 x.n)
  c3 : w.cell? (a.add 3) = some (.slice x.ka x.kn x.kc)
  c4 : w.cell? (a.add 4) = some (.int .i64 x.torn)
  c5 : w.cell? (a.add 5) = some (.int .i64 x.by_)
  keep : KeepAt w x.ka x.kn x.kf
  keepB : ∀ b off, x.ka = some ⟨b, off, none⟩ → 0 < x.kn → b < B
  ok : ActOk x
/-- A list of acts lies at block lb, below B. -/
def ActsAt (w : World) (B lb off : Nat) (l : List ActD) : Prop := lb < B ∧ ∀ (k : Nat) (x : ActD), l[k]? = some x → ActAt w B ⟨lb, off + k * 6, none⟩ x

theorem ActAt.below {w w' : World} {B lb o : Nat} {x : ActD} (h : ActAt w B ⟨lb, o, none⟩ x) (hb : Below B w w') (hl : lb < B) : ActAt w' B ⟨lb, o, none⟩ x := by
  have hk (j : Nat) : w'.cell? ((⟨lb, o, none⟩ : Addr).add j) = w.cell? ((⟨lb, o, none⟩ : Addr).add j) := hb.cell (by unfold Addr.add; split <;> exact hl)
  refine ⟨(hb.cell (p := ⟨lb, o, none⟩) hl).trans h.c0, (hk 1).trans h.c1, (hk 2).trans h.c2, (hk 3).trans h.c3, (hk 4).trans h.c4, (hk 5).trans h.c5, ?_, h.keepB, h.ok⟩
  rcases h.keep with h0 | ⟨b, off, ha, hc⟩
  · exact .inl h0
  · refine .inr ⟨b, off, ha, fun i hi => ?_⟩
    exact (hb.cell (p := ⟨b, off + i, none⟩) (h.keepB b off ha (by omega))).trans (hc i hi)
theorem ActsAt.below {w w' : World} {B lb off : Nat} {l : List ActD} (h : ActsAt w B lb off l) (hb : Below B w w') : ActsAt w' B lb off l :=
  ⟨h.1, fun k x hx => (h.2 k x hx).below hb h.1⟩

/-- Is an act small? -/
def smallA (x : ActD) : Bool := decide (x.kn ≤ 1000)
/-- few. -/
def fewA (l : List ActD) : Bool := decide (l.length ≤ 40) && l.all smallA
theorem addr_add (b o j : Nat) : (⟨b, o, none⟩ : Addr).add j = ⟨b, o + j, none⟩ := by unfold Addr.add; split <;> simp_all

theorem few_stop {l : List ActD} {k : Nat} {x : ActD} (h : l[k]? = some x) (hx : 40 ≤ k ∨ 1000 < x.kn) : fewA l = false := by
  unfold fewA
  rcases hx with hx | hx
  · have : k < l.length := (List.getElem?_eq_some_iff.1 h).1
    simp; intro h'; omega
  · have hm := List.mem_of_getElem? h
    have : l.all smallA = false := by
      rw [List.all_eq_false]
      exact ⟨x, hm, by simp [smallA]; omega⟩
    rw [this]; simp
theorem few_all {l : List ActD} (h0 : l.length ≤ 40) (h : ∀ (k : Nat) (x : ActD), l[k]? = some x → smallA x = true) : fewA l = true := by
  unfold fewA
  simp only [Bool.and_eq_true, decide_eq_true_eq, List.all_eq_true]
  refine ⟨h0, fun x hx => ?_⟩
  obtain ⟨k, hk⟩ := List.mem_iff_getElem?.1 hx
  exact h k x hk

set_option maxRecDepth 100000 in
set_option maxHeartbeats 2000000 in
theorem few_any {w : World} {B lb off n c : Nat} {l : List ActD} (h : ActsAt w B lb off l) (hn : n = l.length) (hm : n ≤ 9223372036854775807) :
    Calls Try.prog 21 #[.slice (some ⟨lb, off, none⟩) n c] w fun e w' => e = .returned (.bool (fewA l)) ∧ w = w' := by
  have HN := Lib.hid hn
  clear hn
  go_enter Try.func21, Try.ntmps21
  go_wp2_with fail
  go_loop [3] (fun v => ∃ k : Nat, k ≤ n ∧ k ≤ 40 ∧ v = .int .i64 k ∧ ∀ (j : Nat) (x : ActD), j < k → l[j]? = some x → smallA x = true) (fun v => n - (intOf v).toNat)
  case atStart => exact ⟨0, Nat.zero_le _, Nat.zero_le _, rfl, fun j x hj => absurd hj (by omega)⟩
  case round =>
    obtain ⟨k, hk, hk3, rfl, hall⟩ := hrel
    have HA := Lib.hid hall
    clear hall
    by_cases hlt : k < n
    · obtain ⟨x, hx⟩ : ∃ x, l[k]? = some x := ⟨l[k]'(by rw [← HN.out]; exact hlt), List.getElem?_eq_getElem _⟩
      have hX := h.2 k x hx
      have c3 := hX.c3
      rw [addr_add] at c3
      have k2 := hX.ok.k
      have HX := Lib.hid hx
      clear hX hx
      have HB := Lib.hid h
      clear h
      by_cases q0 : k < 40
      · by_cases q1 : x.kn ≤ 1000
        · go_wp2_with fail
          go_round
          case rel =>
            refine ⟨k + 1, by omega, by omega, by go_num, fun j y hj hy => ?_⟩
            by_cases e : j = k
            · subst e; have := HX.out.symm.trans hy; cases this; simp [smallA, q1]
            · exact HA.out j y (by omega) hy
          case measure => simp [intOf]; omega
        · have F := Lib.hid (few_stop HX.out (.inr (by omega)))
          go_wp2_with fail
          go_ret
          rw [F.out]
          exact ⟨rfl, rfl⟩
      · have F := Lib.hid (few_stop HX.out (.inl (by omega)))
        go_wp2_with fail
        go_ret
        rw [F.out]
        exact ⟨rfl, rfl⟩
    · obtain rfl : k = n := by omega
      have F := Lib.hid (few_all (l := l) (by rw [← HN.out]; exact hk3) (fun j x hx => HA.out j x (by have := (List.getElem?_eq_some_iff.1 hx).1; have := HN.out; omega) hx))
      go_wp2_with fail
      go_ret
      rw [F.out]
      exact ⟨rfl, rfl⟩

theorem few_nil (w : World) (a : Option Addr) (c : Nat) :
    Calls Try.prog 21 #[.slice a 0 c] w fun e w' => e = .returned (.bool true) ∧ w = w' := by
  go_enter Try.func21, Try.ntmps21
  go_wp2_with fail
  refine wp_loop_rounds 1 ?_
  rw [rounds_succ]
  go_wp2_with fail
  go_ret
  exact ⟨rfl, rfl⟩

/-- A list of acts, wherever it lies (an empty one has no place). -/
def ActsIn (w : World) (B : Nat) (a : Option Addr) (n : Nat) (l : List ActD) : Prop := n = l.length ∧ n ≤ 9223372036854775807 ∧ (n = 0 ∨ ∃ lb off, a = some ⟨lb, off, none⟩ ∧ ActsAt w B lb off l)
theorem few_in {w : World} {B n c : Nat} {a : Option Addr} {l : List ActD} (h : ActsIn w B a n l) :
    Calls Try.prog 21 #[.slice a n c] w fun e w' => e = .returned (.bool (fewA l)) ∧ w = w' := by
  obtain ⟨hn, hm, h0 | ⟨lb, off, rfl, hA⟩⟩ := h
  · subst h0
    have : l = [] := List.eq_nil_of_length_eq_zero hn.symm
    subst this
    exact few_nil w a c
  · exact few_any hA hn hm
theorem fewA_length {l : List ActD} (h : fewA l = true) : l.length ≤ 40 := by
  unfold fewA at h; simp at h; exact h.1
theorem ActsIn.at_ {w w' : World} {B n k : Nat} {a : Option Addr} {l : List ActD} (h : ActsIn w B a n l) (hb : Below B w w') (hk : k < n) :
    ∃ lb off x, a = some ⟨lb, off, none⟩ ∧ l[k]? = some x ∧ ActAt w' B ⟨lb, off + k * 6, none⟩ x ∧ lb < B := by
  obtain ⟨hn, hm, h0 | ⟨lb, off, rfl, hA⟩⟩ := h
  · omega
  · have hx : l[k]? = some (l[k]'(by omega)) := List.getElem?_eq_getElem _
    exact ⟨lb, off, _, rfl, hx, (hA.2 k _ hx).below hb hA.1, hA.1⟩

end Go.Proofs.Ytfnfapgmicmegaa
