/- The calls of Append in a play of layer 9, case by case. -/
import Derived.Test.YtfnfapgmicmegaaRPlay
namespace Go.Proofs.Ytfnfapgmicmegaa
open Go.RowKit Go.Joins
set_option linter.unusedVariables false
variable {w0 w w' : World} {d lb k : Nat} {F : List Nat} {l : LM} {m : DM}
theorem play_restart_dead (h : PlSt w0 w d lb F l m k) (hd : l.dead = true) : Calls Try.prog 13 #[.pointer (some ⟨lb, 0, none⟩)] w fun e w' => e = .returned (.int .i64 17) ∧ w = w' := restart_dead h.log hd
theorem play_append_none (h : PlSt w0 w d lb F l m k) {a : Option Addr} {c : Nat} : Calls Try.prog 9 #[.pointer (some ⟨lb, 0, none⟩), .slice a 0 c] w fun e w' => e = .returned (.int .i64 1) ∧ PlSt w0 w' d lb F l m k :=
  (append_none w lb a c).mono fun e w' ⟨he, hb⟩ => ⟨he, h.move hb⟩
theorem act_form {w : World} {B N : Nat} {v : Value} {xs : List Value} (h : w.ownsRow B 9 1 v N xs) : ∃ a c, v = .slice a N c := by
  rcases ownsRow_forms h with ⟨e, h0⟩ | ⟨g, cap, e⟩
  · exact ⟨none, 0, by rw [h0]; exact e⟩
  · exact ⟨_, _, e⟩
theorem act_pg {w : World} {B N : Nat} {b : Int} {a : Option Addr} {c : Nat} {L : List Nat} (h : w.ownsRow B 9 1 (.slice a N c) N (actC b N)) (hn : 0 < N) (hL : ∀ b ∈ L, b < B) : PgAt w a (actP b N) L := by
  obtain ⟨g, cap, e⟩ := ownsRow_form h hn
  injection e with e1 e2 e3
  subst e1
  refine ⟨g, 0, rfl, fun j x hx => ?_, fun hm => ?_⟩
  · have := h.cells (g := g) rfl (j := j) (u := .string x) (by simp [actC, hx])
    have ea : (⟨g, 0, none⟩ : Addr).add j = ⟨g, j, none⟩ := by unfold Addr.add; split <;> simp_all
    rw [ea] at this
    rw [Nat.zero_add]; exact this
  · have := (h.lt g rfl).1
    have := hL g hm
    omega
variable {a : Option Addr} {c N : Nat} {b : Int}
theorem play_append_n (h : PlSt w0 w d lb F l m k) (hk : k ≤ 100000) (hne : 0 < N) (hn : N ≤ 5) (hpg : PgAt w a (actP b N) (lb :: F)) :
    Calls Try.prog 9 #[.pointer (some ⟨lb, 0, none⟩), .slice a N c] w fun e w' => ∃ x F' l' m', e = .returned (.int .i64 x) ∧ PlSt w0 w' d lb F' l' m' (k + 46) ∧ ApFate l l' m m' N x := by
  have hl := actP_length b N
  have := play_append (c := c) h hk (pages := actP b N) (by omega) (by omega) hpg (actP_size b N)
  rw [hl] at this
  exact this.mono fun e w' ⟨x, F', l', m', he, hS, hA⟩ => ⟨x, F', l', m', he, hS.later (by omega), hA⟩
theorem play_append_dead (h : PlSt w0 w d lb F l m k) (hk : k ≤ 100000) (hne : 0 < N) (hn : N ≤ 5) (hpg : PgAt w a (actP b N) (lb :: F)) (hd : l.dead = true) :
    Calls Try.prog 9 #[.pointer (some ⟨lb, 0, none⟩), .slice a N c] w fun e w' => e = .returned (.int .i64 17) ∧ ∃ F' m', PlSt w0 w' d lb F' l m' (k + 46) :=
  (play_append_n h hk hne hn hpg).mono fun e w' ⟨x, F', l', m', he, hS, hA⟩ => by
    rcases hA with ⟨_, rfl, rfl⟩ | ⟨h1, _⟩ | ⟨h1, _⟩ | ⟨h1, _⟩
    · exact ⟨he, F', m', hS⟩
    all_goals (rw [hd] at h1; cases h1)
theorem play_append_room (h : PlSt w0 w d lb F l m k) (hk : k ≤ 100000) (hne : 0 < N) (hn : N ≤ 5) (hpg : PgAt w a (actP b N) (lb :: F)) (hd : l.dead = false) (hr : 100 < l.at_ + 1 + 9 * N) :
    Calls Try.prog 9 #[.pointer (some ⟨lb, 0, none⟩), .slice a N c] w fun e w' => e = .returned (.int .i64 9) ∧ ∃ F' m', PlSt w0 w' d lb F' l m' (k + 46) :=
  (play_append_n h hk hne hn hpg).mono fun e w' ⟨x, F', l', m', he, hS, hA⟩ => by
    rcases hA with ⟨h1, _⟩ | ⟨_, _, rfl, rfl⟩ | ⟨_, h1, _⟩ | ⟨_, h1, _⟩
    · rw [hd] at h1; cases h1
    · exact ⟨he, F', m', hS⟩
    all_goals omega
theorem play_append_fits (h : PlSt w0 w d lb F l m k) (hk : k ≤ 100000) (hne : 0 < N) (hn : N ≤ 5) (hpg : PgAt w a (actP b N) (lb :: F)) (hd : l.dead = false) (hr : l.at_ + 1 + 9 * N ≤ 100) :
    Calls Try.prog 9 #[.pointer (some ⟨lb, 0, none⟩), .slice a N c] w fun e w' => ∃ F' m', (e = .returned (.int .i64 0) ∧ m.down = false ∧ PlSt w0 w' d lb F' { l with at_ := l.at_ + 1 + 9 * N, next := (l.next + 1) % 18446744073709551616 } m' (k + 46)) ∨
      (e = .returned (.int .i64 11) ∧ m'.down = true ∧ PlSt w0 w' d lb F' { l with dead := true } m' (k + 46)) :=
  (play_append_n h hk hne hn hpg).mono fun e w' ⟨x, F', l', m', he, hS, hA⟩ => by
    rcases hA with ⟨h1, _⟩ | ⟨_, h1, _⟩ | ⟨_, _, rfl, h1, rfl⟩ | ⟨_, _, rfl, h1, rfl⟩
    · rw [hd] at h1; cases h1
    · omega
    · exact ⟨F', m', .inl ⟨he, h1, hS⟩⟩
    · exact ⟨F', m', .inr ⟨he, h1, hS⟩⟩
end Go.Proofs.Ytfnfapgmicmegaa
