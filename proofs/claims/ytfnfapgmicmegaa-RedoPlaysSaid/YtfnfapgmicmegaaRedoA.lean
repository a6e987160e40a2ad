/- A log in use, on a disk that stays up; the document's example of layer 9. -/
import Derived.Test.YtfnfapgmicmegaaRedo9
namespace Go.Proofs.Ytfnfapgmicmegaa
open Go.RowKit Go.Joins
set_option linter.unusedVariables false

/-- A log of the call's own, and its disk. -/
structure LogOn (w0 w : World) (d lb : Nat) (F : List Nat) (l : LM) (m : DM) (N k : Nat) : Prop where
  log : LogAt w lb d l
  disk : IsDisk w d F m
  ok : DOk m k
  up : UpM m N
  ne : lb ∉ F
  fresh : ∀ b ∈ lb :: F, w0.heap.size ≤ b
  below : Below w0.heap.size w0 w
  fit : l.frm + l.size ≤ N
  small : l.frm + l.size ≤ 100000
  at_ : l.at_ ≤ l.size
  n0 : 0 ≤ l.next
  n1 : l.next ≤ 18446744073709551615
  alive : l.dead = false
variable {w0 w w' : World} {d lb N k : Nat} {F : List Nat} {l : LM} {m : DM}
theorem LogOn.move (h : LogOn w0 w d lb F l m N k) (hb : Below w.heap.size w w') : LogOn w0 w' d lb F l m N k :=
  { h with log := h.log.below hb, disk := h.disk.below hb, below := h.below.trans (hb.mono h.below.size) }
theorem LogOn.size (h : LogOn w0 w d lb F l m N k) : w0.heap.size ≤ w.heap.size := h.below.size

theorem append_on_ok (h : LogOn w0 w d lb F l m N k) (hk : k ≤ 100000) {a : Option Addr} {c : Nat} {pages : List ByteArray} (hne : 0 < pages.length) (hn : pages.length ≤ 64) (hpg : PgAt w a pages (lb :: F)) (hall : ∀ p ∈ pages, p.size = 512)
    (hroom : l.at_ + 1 + 9 * pages.length ≤ l.size) :
    Calls Try.prog 9 #[.pointer (some ⟨lb, 0, none⟩), .slice a pages.length c] w fun e w' => e = .returned (.int .i64 0) ∧
      ∃ F' m', LogOn w0 w' d lb F' { l with at_ := l.at_ + 1 + 9 * pages.length, next := (l.next + 1) % 18446744073709551616 } m' N (k + 9 * pages.length + 1) := by
  have e0 : apE l pages.length = 0 := by unfold apE; rw [h.alive]; simp; omega
  refine (append_right h.log h.disk h.ok hk h.ne h.small h.at_ h.n0 h.n1 hne (by omega) hpg hall).mono ?_
  rintro e w' ⟨he, hl, ⟨F', hd, hF, hn'⟩, ht⟩
  have hfit := h.fit
  have hap := up_apM h.up (l := l) pages hall (by omega)
  rw [apR_yes e0, hap] at he hl hd
  refine ⟨he, F', _, hl, hd, ok_apX h.ok pages, (up_apX h.up pages hall (by omega)).2, hn', ?_, ?_, h.fit, h.small, hroom, by show 0 ≤ (l.next + 1) % 18446744073709551616; omega, by show (l.next + 1) % 18446744073709551616 ≤ _; omega, h.alive⟩
  · intro b hb
    rcases List.mem_cons.1 hb with rfl | hb
    · exact h.fresh _ (by simp)
    · rcases hF b hb with h' | h'
      · exact h.fresh b (by simp [h'])
      · exact Nat.le_trans h.size h'
  · exact h.below.trans (ht.below h.size h.fresh)
theorem append_on_no (h : LogOn w0 w d lb F l m N k) (hk : k ≤ 100000) {a : Option Addr} {c : Nat} {pages : List ByteArray} (hne : 0 < pages.length) (hn : pages.length ≤ 1000000000) (hpg : PgAt w a pages (lb :: F)) (hall : ∀ p ∈ pages, p.size = 512) {e0 : Int} (he0 : apE l pages.length = e0) (hz : e0 ≠ 0) :
    Calls Try.prog 9 #[.pointer (some ⟨lb, 0, none⟩), .slice a pages.length c] w fun e w' => ∃ F', e = .returned (.int .i64 e0) ∧ LogOn w0 w' d lb F' l m N k := by
  refine (append_right h.log h.disk h.ok hk h.ne h.small h.at_ h.n0 h.n1 hne hn hpg hall).mono ?_
  rintro e w' ⟨he, hl, ⟨F', hd, hF, hn'⟩, ht⟩
  rw [apR_no he0 hz] at he hl hd
  refine ⟨F', he, { h with log := hl, disk := hd, ne := hn', fresh := ?_, below := h.below.trans (ht.below h.size h.fresh) }⟩
  intro b hb
  rcases List.mem_cons.1 hb with rfl | hb
  · exact h.fresh _ (by simp)
  · rcases hF b hb with h' | h'
    · exact h.fresh b (by simp [h'])
    · exact Nat.le_trans h.size h'

/-- Opening a fresh disk. -/
theorem open_fresh {w0 w : World} {d n : Nat} {F : List Nat} (hd : IsDisk w d F (newM (newSu n))) (hb : Below w0.heap.size w0 w) (hF : ∀ b ∈ F, w0.heap.size ≤ b) (h1 : 1 ≤ n) (h2 : n ≤ 65536) (q : Int) (q0 : 0 ≤ q) (q1 : q ≤ 18446744073709551615) :
    Calls Try.prog 8 #[.pointer (some ⟨d, 0, none⟩), .int .i64 (0 : Nat), .int .i64 n, .int .u64 q] w fun e w' => ∃ a c, e = .returned (.tuple #[.pointer (some ⟨w.heap.size, 0, none⟩), .slice a 0 c, .int .i64 0]) ∧
      LogOn w0 w' d w.heap.size F ⟨0, n, 0, q % 18446744073709551616, false⟩ (newM (newSu n)) n 0 := by
  have hok : DOk (newM (newSu n)) 0 := DOk.new (newSu_size n) (by simp [newSu]; exact h1) (by simp [newSu]; exact h2)
  refine (open_up hd rfl hok 0 n q h1 (by simp [newM, newSu]) q0 q1).mono ?_
  rintro e w' ⟨v, rfl, hl, ⟨vs, hrow, -⟩, hbw⟩
  rw [stM_new n n q (by omega)] at hl hrow
  have hform : ∃ a c, v = .slice a 0 c := by
    rcases ownsRow_forms hrow with ⟨e, _⟩ | ⟨g, cap, e⟩
    · exact ⟨_, _, e⟩
    · exact ⟨_, _, e⟩
  obtain ⟨a, c, rfl⟩ := hform
  refine ⟨a, c, rfl, by simpa using hl, hd.below hbw, hok, UpM.new n, fun h => by have := hd.lt _ h; omega, fun b hb' => ?_, hb.trans (hbw.mono hb.size), by simp, by simp; omega, Nat.zero_le _, by show 0 ≤ q % _; omega, by show q % _ ≤ _; omega, rfl⟩
  rcases List.mem_cons.1 hb' with rfl | hb'
  · exact hb.size
  · exact hF b hb'

theorem pg_two (w : World) (p q : ByteArray) (B : List Nat) (hB : ∀ b ∈ B, b < w.heap.size) : PgAt (w.alloc (.cells #[.string p, .string q] 9)) (some ⟨w.heap.size, 0, none⟩) [p, q] B := by
  refine ⟨w.heap.size, 0, rfl, fun j x hx => ?_, fun h => by have := hB _ h; omega⟩
  have := cell_pair w (.string p) (.string q) 9 j (.string x) (by
    rcases j with _ | _ | j <;> simp at hx ⊢ <;> exact hx)
  have e : (⟨w.heap.size, 0, none⟩ : Addr).add j = ⟨w.heap.size, j, none⟩ := by unfold Addr.add; split <;> simp_all
  rw [e] at this
  rw [Nat.zero_add]; exact this
theorem pg_one (w : World) (p : ByteArray) (B : List Nat) (hB : ∀ b ∈ B, b < w.heap.size) : PgAt (w.alloc (.cells #[.string p] 9)) (some ⟨w.heap.size, 0, none⟩) [p] B := by
  refine ⟨w.heap.size, 0, rfl, fun j x hx => ?_, fun h => by have := hB _ h; omega⟩
  rcases j with _ | j
  · simp at hx; subst hx; exact cell_new _ _ _
  · simp at hx
theorem LogOn.lt {w0 w : World} {d lb N k : Nat} {F : List Nat} {l : LM} {m : DM} (h : LogOn w0 w d lb F l m N k) : ∀ b ∈ lb :: F, b < w.heap.size := by
  intro b hb
  rcases List.mem_cons.1 hb with rfl | hb
  · exact h.log.lt
  · exact h.disk.lt b hb
theorem LogOn.as {w0 w : World} {d lb N k k' : Nat} {F : List Nat} {l l' : LM} {m : DM} (h : LogOn w0 w d lb F l m N k) (e : l = l') (ek : k = k') : LogOn w0 w d lb F l' m N k' := by subst e ek; exact h

set_option maxRecDepth 100000 in
set_option maxHeartbeats 4000000 in
theorem awake09_any (w : World) : Calls Try.prog 6 #[] w fun e w' => e = .returned (.bool true) ∧ Below w.heap.size w w' := by
  have z1 := pageB_size 1 1
  have z2 := pageB_size 2 3
  have z3 := pageB_size 4 4
  go_enter Try.func6, Try.ntmps6
  go_wp2_with fail
  refine (new_any 22 _ (by omega) (by omega)).mono ?_
  rintro e w1 ⟨d, rfl, F1, hD1, hb1, hF1⟩
  go_wp2_with fail
  refine (open_fresh hD1 hb1 hF1 (by omega) (by omega) 1 (by omega) (by omega)).mono ?_
  rintro e w2 ⟨a, c, rfl, h2⟩
  have H2 := Lib.hid (h2.as (l' := ⟨0, 22, 0, 1, false⟩) rfl rfl)
  clear hD1 hb1 hF1 h2
  go_wp2_with fail
  refine (page_any 1 1 _ (by omega) (by omega) (by omega) (by omega)).mono ?_
  rintro e w3 ⟨rfl, hb3⟩
  go_wp2_with fail
  refine (page_any 2 3 _ (by omega) (by omega) (by omega) (by omega)).mono ?_
  rintro e w4 ⟨rfl, hb4⟩
  have H4 := Lib.hid ((H2.out.move hb3).move hb4)
  have HAP := Lib.hid (append_on_ok (c := 2) (H4.out.move (below_alloc (o := .cells #[.string (pageB 1 1), .string (pageB 2 3)] 9) (Below.refl _ _))) (by omega) (pages := [pageB 1 1, pageB 2 3]) (by simp) (by simp) (pg_two w4 _ _ _ H4.out.lt) (by intro p hp; simp at hp; rcases hp with rfl | rfl <;> assumption) (by simp))
  clear hb3 hb4
  go_wp2_with fail
  refine HAP.out.mono ?_
  rintro e w5 ⟨rfl, F5, m5, h5⟩
  have H5 := Lib.hid (h5.as (l' := ⟨0, 22, 19, 2, false⟩) (by simp) rfl)
  clear h5
  have HLE := Lib.hid (left_any H5.out.log (by decide) (by decide) rfl)
  go_wp2_with fail
  refine HLE.out.mono ?_
  rintro e w6 ⟨rfl, hw6⟩
  have H6 := Lib.hid (H5.out.move hw6.below)
  clear hw6
  go_wp2_with fail
  refine (page_any 4 4 _ (by omega) (by omega) (by omega) (by omega)).mono ?_
  rintro e w7 ⟨rfl, hb7⟩
  have H7 := Lib.hid (H6.out.move hb7)
  have HAN := Lib.hid (append_on_no (c := 1) (e0 := 9) (H7.out.move (below_alloc (o := .cells #[.string (pageB 4 4)] 9) (Below.refl _ _))) (by simp) (pages := [pageB 4 4]) (by simp) (by simp) (pg_one w7 _ _ H7.out.lt) (by intro p hp; simp at hp; subst hp; assumption) (by decide) (by decide))
  clear hb7
  go_wp2_with fail
  refine HAN.out.mono ?_
  rintro e w8 ⟨F8, rfl, h8⟩
  have H8 := Lib.hid h8
  have HNX := Lib.hid (next_any h8.log)
  clear h8
  go_wp2_with fail
  refine HNX.out.mono ?_
  rintro e w9 ⟨rfl, rfl⟩
  go_wp2_with fail
  go_ret
  exact ⟨rfl, H8.out.below⟩

end Go.Proofs.Ytfnfapgmicmegaa
