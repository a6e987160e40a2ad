/- The state of a play of layer 9, and what each act makes of it. -/
import Derived.Test.YtfnfapgmicmegaaRPages
namespace Go.Proofs.Ytfnfapgmicmegaa
open Go.RowKit Go.Joins
set_option linter.unusedVariables false

/-- A log of the call's own at sector 3, of 100 sectors, and its disk. -/
structure PlSt (w0 w : World) (d lb : Nat) (F : List Nat) (l : LM) (m : DM) (k : Nat) : Prop where
  log : LogAt w lb d l
  disk : IsDisk w d F m
  ok : DOk m k
  len : m.sure.length = 150
  ne : lb ∉ F
  fresh : ∀ b ∈ lb :: F, w0.heap.size ≤ b
  below : Below w0.heap.size w0 w
  frm : l.frm = 3
  size : l.size = 100
  at_ : l.at_ ≤ 100
  n0 : 0 ≤ l.next
  n1 : l.next ≤ 18446744073709551615
variable {w0 w w' : World} {d lb k : Nat} {F : List Nat} {l : LM} {m : DM}
theorem PlSt.move (h : PlSt w0 w d lb F l m k) (hb : Below w.heap.size w w') : PlSt w0 w' d lb F l m k :=
  { h with log := h.log.below hb, disk := h.disk.below hb, below := h.below.trans (hb.mono h.below.size) }

/-- What an Append of right pages makes. -/
def ApFate (l l' : LM) (m m' : DM) (n : Nat) (x : Int) : Prop :=
  (l.dead = true ∧ x = 17 ∧ l' = l) ∨ (l.dead = false ∧ 100 < l.at_ + 1 + 9 * n ∧ x = 9 ∧ l' = l) ∨
  (l.dead = false ∧ l.at_ + 1 + 9 * n ≤ 100 ∧ x = 0 ∧ m.down = false ∧ l' = { l with at_ := l.at_ + 1 + 9 * n, next := (l.next + 1) % 18446744073709551616 }) ∨
  (l.dead = false ∧ l.at_ + 1 + 9 * n ≤ 100 ∧ x = 11 ∧ m'.down = true ∧ l' = { l with dead := true })
theorem play_append (h : PlSt w0 w d lb F l m k) (hk : k ≤ 100000) {a : Option Addr} {c : Nat} {pages : List ByteArray} (hne : 0 < pages.length) (hn : pages.length ≤ 5) (hpg : PgAt w a pages (lb :: F)) (hall : ∀ p ∈ pages, p.size = 512) :
    Calls Try.prog 9 #[.pointer (some ⟨lb, 0, none⟩), .slice a pages.length c] w fun e w' => ∃ x F' l' m', e = .returned (.int .i64 x) ∧ PlSt w0 w' d lb F' l' m' (k + 9 * pages.length + 1) ∧ ApFate l l' m m' pages.length x := by
  have hfrm := h.frm
  have hsize := h.size
  have hat := h.at_
  refine (append_right h.log h.disk h.ok hk h.ne (by omega) (by omega) h.n0 h.n1 hne (by omega) hpg hall).mono ?_
  rintro e w' ⟨he, hl, ⟨F', hd, hF, hn'⟩, ht⟩
  have hfresh : ∀ b ∈ lb :: F', w0.heap.size ≤ b := by
    intro b hb
    rcases List.mem_cons.1 hb with rfl | hb
    · exact h.fresh _ (by simp)
    · rcases hF b hb with h' | h'
      · exact h.fresh b (by simp [h'])
      · exact Nat.le_trans h.below.size h'
  have hbel := h.below.trans (ht.below h.below.size h.fresh)
  have hok0 : DOk m (k + 9 * pages.length + 1) := h.ok.mono (by omega)
  by_cases hdd : l.dead = true
  · rw [apR_no (e := 17) (by unfold apE; rw [if_pos hdd]) (by decide)] at he hl hd
    exact ⟨17, F', l, m, he, { h with log := hl, disk := hd, ok := hok0, ne := hn', fresh := hfresh, below := hbel }, .inl ⟨hdd, rfl, rfl⟩⟩
  · have hdf : l.dead = false := by simpa using hdd
    by_cases hr : 100 < l.at_ + 1 + 9 * pages.length
    · rw [apR_no (e := 9) (by unfold apE; rw [hdf, if_neg (by decide), if_neg (by omega), if_pos (by omega)]) (by decide)] at he hl hd
      exact ⟨9, F', l, m, he, { h with log := hl, disk := hd, ok := hok0, ne := hn', fresh := hfresh, below := hbel }, .inr (.inl ⟨hdf, hr, rfl, rfl⟩)⟩
    · have e0 : apE l pages.length = 0 := by unfold apE; rw [hdf, if_neg (by decide), if_neg (by omega), if_neg (by omega)]
      have hft := apX_fate (l := l) h.len pages hne hall (by omega)
      have hok1 := ok_apX (l := l) h.ok pages
      rw [apR_yes e0] at he hl hd
      unfold apM at he hl hd
      obtain ⟨hlen, ⟨f1, f2, f3⟩ | ⟨f1, f2⟩⟩ := hft
      · rw [if_neg (by rw [f1]; decide)] at he hl hd
        exact ⟨0, F', _, _, he, ⟨hl, hd, hok1, hlen, hn', hfresh, hbel, hfrm, hsize, by show l.at_ + 1 + 9 * pages.length ≤ 100; omega, by show 0 ≤ (l.next + 1) % 18446744073709551616; omega, by show (l.next + 1) % 18446744073709551616 ≤ _; omega⟩, .inr (.inr (.inl ⟨hdf, by omega, rfl, f2, rfl⟩))⟩
      · rw [if_pos (by rw [f1]; decide), f1] at he hl hd
        exact ⟨11, F', _, _, he, ⟨hl, hd, hok1, hlen, hn', hfresh, hbel, hfrm, hsize, hat, h.n0, h.n1⟩, .inr (.inr (.inr ⟨hdf, by omega, rfl, f2, rfl⟩))⟩

/-- After a call on the disk alone. -/
theorem PlSt.goes (h : PlSt w0 w d lb F l m k) {m' : DM} {j : Nat} (g : Goes w w' d F m') (ok : DOk m' j) (len : m'.sure.length = 150) : ∃ F', PlSt w0 w' d lb F' l m' j := by
  obtain ⟨F', hD, hT, hF⟩ := g
  have hlt := h.log.lt
  refine ⟨F', { h with log := h.log.touch hT h.ne, disk := hD, ok := ok, len := len, ne := ?_, fresh := ?_, below := ?_ }⟩
  · intro hm
    rcases hF _ hm with h' | h'
    · exact h.ne h'
    · omega
  · intro b hb
    rcases List.mem_cons.1 hb with rfl | hb
    · exact h.fresh _ (by simp)
    · rcases hF b hb with h' | h'
      · exact h.fresh b (by simp [h'])
      · exact Nat.le_trans h.below.size h'
  · exact h.below.trans (hT.below h.below.size (fun b hb => h.fresh b (by simp [hb])))
theorem play_fuse (h : PlSt w0 w d lb F l m k) (n : Int) (h1 : -9223372036854775808 ≤ n) (h2 : n ≤ 9223372036854775807) :
    Calls Try.prog 22 #[.pointer (some ⟨d, 0, none⟩), .int .i64 n] w fun e w' => e = .returned (.tuple #[]) ∧ ∃ F' m', PlSt w0 w' d lb F' l m' k :=
  (is_fuse h.disk n h1 h2).mono fun e w' ⟨he, g⟩ => by
    obtain ⟨F', h'⟩ := h.goes g (h.ok.setFuse n h2) h.len
    exact ⟨he, F', _, h'⟩
theorem play_crash (h : PlSt w0 w d lb F l m k) (hk : k ≤ 100000) {kc kn : Nat} {a0 : Option Addr} {kf : Nat → Bool} (torn b : Int) (hkeep : KeepAt w a0 kn kf) (n5 : ∀ b off, a0 = some ⟨b, off, none⟩ → 0 < kn → b ∉ F)
    (b1 : -9223372036854775808 ≤ b) (b2 : b ≤ 9223372036854775807) :
    Calls Try.prog 23 #[.pointer (some ⟨d, 0, none⟩), .slice a0 kn kc, .int .i64 torn, .int .i64 b] w fun e w' => e = .returned (.tuple #[]) ∧ ∃ F' m', PlSt w0 w' d lb F' l m' 0 ∧ m'.wait = [] ∧ m'.down = false :=
  (is_crash h.disk h.ok (by omega) torn b hkeep n5 b1 b2).mono fun e w' ⟨he, g⟩ => by
    obtain ⟨F', h'⟩ := h.goes g (h.ok.crash kn kf torn b) (by show (crN _ _ _ _ _ _ _).length = 150; rw [crN_length]; exact h.len)
    exact ⟨he, F', _, h', rfl, rfl⟩
theorem play_restart (h : PlSt w0 w d lb F l m k) (hd : l.dead = false) :
    Calls Try.prog 13 #[.pointer (some ⟨lb, 0, none⟩)] w fun e w' => e = .returned (.int .i64 0) ∧ PlSt w0 w' d lb F { l with at_ := 0 } m k :=
  (restart_any h.log hd).mono fun e w' ⟨he, hl, ht⟩ => by
    refine ⟨he, { h with log := hl, disk := h.disk.touch ht (fun b hb hm => by simp at hm; subst hm; exact h.ne hb), below := h.below.trans (ht.below h.below.size (fun b hb => h.fresh b (by simp at hb; simp [hb]))), at_ := Nat.zero_le _ }⟩

/-- Opening the disk of a play anew: a new log. -/
theorem play_open (h : PlSt w0 w d lb F l m k) (hup : m.down = false) (q0 : Int) (h0 : 0 ≤ q0) (h1 : q0 ≤ 18446744073709551615) :
    Calls Try.prog 8 #[.pointer (some ⟨d, 0, none⟩), .int .i64 (3 : Nat), .int .i64 (100 : Nat), .int .u64 q0] w fun e w' => ∃ v, e = .returned (.tuple #[.pointer (some ⟨w.heap.size, 0, none⟩), v, .int .i64 0]) ∧
      PlSt w0 w' d w.heap.size F ⟨3, 100, (stM m 3 100 q0).2, (q0 + (stM m 3 100 q0).1.length) % 18446744073709551616, false⟩ m k ∧ TxRow w' (w.heap.size + 1) v (stM m 3 100 q0).1 := by
  have hp := (stM_props m 3 100 q0).1
  refine (open_up h.disk hup h.ok 3 100 q0 (by decide) (by rw [h.len]; decide) h0 h1).mono ?_
  rintro e w' ⟨v, rfl, hl, hrow, hb⟩
  refine ⟨v, rfl, ⟨hl, h.disk.below hb, h.ok, h.len, fun hm => by have := h.disk.lt _ hm; omega, fun b hb' => ?_, h.below.trans (hb.mono h.below.size), rfl, rfl, hp, ?_, ?_⟩, hrow⟩
  · rcases List.mem_cons.1 hb' with rfl | hb'
    · exact h.below.size
    · exact h.fresh b (by simp [hb'])
  · show 0 ≤ (q0 + _) % 18446744073709551616; omega
  · show (q0 + _) % 18446744073709551616 ≤ _; omega
theorem play_next (h : PlSt w0 w d lb F l m k) : Calls Try.prog 12 #[.pointer (some ⟨lb, 0, none⟩)] w fun e w' => e = .returned (.int .u64 l.next) ∧ w = w' := next_any h.log
theorem play_left (h : PlSt w0 w d lb F l m k) (hd : l.dead = false) : Calls Try.prog 11 #[.pointer (some ⟨lb, 0, none⟩)] w fun e w' => e = .returned (.int .i64 (100 - (l.at_ : Int))) ∧ PlSt w0 w' d lb F l m k := by
  have hs := h.size
  have ha := h.at_
  refine (left_any h.log (by omega) (by omega) hd).mono ?_
  rintro e w' ⟨he, hd⟩
  have : ((l.size - l.at_ : Nat) : Int) = 100 - (l.at_ : Int) := by omega
  rw [this] at he
  exact ⟨he, h.move hd.below⟩
theorem play_left_dead (h : PlSt w0 w d lb F l m k) (hd : l.dead = true) : Calls Try.prog 11 #[.pointer (some ⟨lb, 0, none⟩)] w fun e w' => e = .returned (.int .i64 0) ∧ PlSt w0 w' d lb F l m k :=
  (left_dead h.log hd).mono fun e w' ⟨he, hd⟩ => ⟨he, h.move hd.below⟩
theorem PlSt.later (h : PlSt w0 w d lb F l m k) {j : Nat} (hj : k ≤ j) : PlSt w0 w d lb F l m j := { h with ok := h.ok.mono hj }
theorem fz_bd (n : Int) : -9223372036854775808 ≤ wrap64 ((IntKind.u64.wrap n).tmod 40) ∧ wrap64 ((IntKind.u64.wrap n).tmod 40) ≤ 9223372036854775807 := by
  rw [IntKind.wrap_u64, Int.tmod_eq_emod_of_nonneg (by omega), IntWalk.wrap64_in _ ⟨by omega, by omega⟩]; omega
end Go.Proofs.Ytfnfapgmicmegaa
