/- The contract of redo's Append. -/
import Derived.Test.YtfnfapgmicmegaaRedo5
namespace Go.Proofs.Ytfnfapgmicmegaa
open Go.RowKit Go.Joins
set_option linter.unusedVariables false

/-- The disk behind t sectors of pages. -/
def wrN (base : Nat) (pages : List ByteArray) (m : DM) : Nat → Int × DM
  | 0 => (0, m)
  | t + 1 => stepW (wrN base pages m t) ((base + t : Nat) : Int) (secP (pages.getD (t / 9) ⟨#[]⟩) (t % 9))
theorem wrN_step (base : Nat) (pages : List ByteArray) (m : DM) (i k : Nat) (p : ByteArray) (hp : pages[i]? = some p) (hk : k < 9) :
    wrN base pages m (9 * i + (k + 1)) = stepW (wrN base pages m (9 * i + k)) ((base + (9 * i + k) : Nat) : Int) (secP p k) := by
  rw [show 9 * i + (k + 1) = (9 * i + k) + 1 by omega, wrN, show (9 * i + k) / 9 = i by omega, show (9 * i + k) % 9 = k by omega]
  simp [List.getD, hp]
theorem DOk.stepW {x : Int × DM} {k : Nat} (h : DOk x.2 k) (i : Int) (s : ByteArray) : DOk (stepW x i s).2 (k + 1) := by
  unfold Proofs.Ytfnfapgmicmegaa.stepW
  split
  · exact h.write i s
  · exact h.mono (by omega)
theorem DOk.stepF {x : Int × DM} {k : Nat} (h : DOk x.2 k) : DOk (stepF x).2 k := by
  unfold Proofs.Ytfnfapgmicmegaa.stepF
  split
  · exact h.flush
  · exact h
theorem DOk.wrN {m : DM} {k : Nat} (h : DOk m k) (base : Nat) (pages : List ByteArray) : ∀ t, DOk (wrN base pages m t).2 (k + t)
  | 0 => h
  | t + 1 => (DOk.wrN h base pages t).stepW _ _

/-- What Append answers and leaves. -/
def apX (l : LM) (m : DM) (pages : List ByteArray) : Int × DM :=
  stepF (stepW (stepF (wrN (l.frm + l.at_ + 1) pages m (9 * pages.length))) ((l.frm + l.at_ : Nat) : Int) (mkStr l.next (textM pages.length)))
def apM (l : LM) (m : DM) (pages : List ByteArray) : Int × LM × DM :=
  if (apX l m pages).1 ≠ 0 then ((apX l m pages).1, { l with dead := true }, (apX l m pages).2)
  else (0, { l with at_ := l.at_ + 1 + 9 * pages.length, next := (l.next + 1) % 18446744073709551616 }, (apX l m pages).2)

/-- What the call stands on, ahead of its writes. -/
structure ApB (w1 : World) (d lb eb b0 b1 : Nat) (F : List Nat) (l : LM) (a : Option Addr) (n c : Nat) (pages : List ByteArray) : Prop where
  log : LogAt w1 lb d l
  box : w1.cell? ⟨b0, 0, none⟩ = some (.pointer (some ⟨lb, 0, none⟩))
  sl : w1.cell? ⟨b1, 0, none⟩ = some (.slice a n c)
  pg : ∃ b off, a = some ⟨b, off, none⟩ ∧ (∀ (j : Nat) x, pages[j]? = some x → w1.cell? ⟨b, off + j, none⟩ = some (.string x)) ∧ b ∉ eb :: F
  e1 : lb ∉ eb :: F
  e2 : b0 ∉ eb :: F
  e3 : b1 ∉ eb :: F
  e4 : eb ∉ F
  lt : eb < w1.heap.size
variable {w1 w2 wr : World} {d lb eb b0 b1 n c k : Nat} {F F2 : List Nat} {l : LM} {a : Option Addr} {pages : List ByteArray} {x : Int × DM}
theorem ApB.move (B : ApB w1 d lb eb b0 b1 F l a n c pages) (hpos : 0 < pages.length) (t : Touch (eb :: F) w1 w2) (hF : ∀ b ∈ F2, b ∈ F ∨ w1.heap.size ≤ b) (he : eb ∉ F2) : ApB w2 d lb eb b0 b1 F2 l a n c pages := by
  obtain ⟨b, off, ha, hc, hb⟩ := B.pg
  have l1 := B.log.lt
  have l2 := cell_lt B.box
  have l3 := cell_lt B.sl
  have l4 : b < w1.heap.size := cell_lt (hc 0 _ (List.getElem?_eq_getElem hpos))
  have no : ∀ q, q < w1.heap.size → q ∉ eb :: F → q ∉ eb :: F2 := fun q hq h1 h2 => by
    rcases List.mem_cons.1 h2 with rfl | h2
    · exact h1 (by simp)
    · rcases hF q h2 with h | h
      · exact h1 (by simp [h])
      · omega
  exact ⟨B.log.touch t B.e1, (t.cell (p := ⟨b0, 0, none⟩) l2 B.e2).trans B.box, (t.cell (p := ⟨b1, 0, none⟩) l3 B.e3).trans B.sl,
    ⟨b, off, ha, fun j x hx => (t.cell (p := ⟨b, off + j, none⟩) l4 hb).trans (hc j x hx), no b l4 hb⟩, no _ l1 B.e1, no _ l2 B.e2, no _ l3 B.e3, he, Nat.lt_of_lt_of_le B.lt t.size⟩
/-- At any time since. -/
theorem ApB.on (B : ApB w1 d lb eb b0 b1 F l a n c pages) (hpos : 0 < pages.length) (h : ApSt w1 d eb F wr x) : ∃ F', ApOn wr d lb eb b0 F' l x.2 x.1 ∧ ApB wr d lb eb b0 b1 F' l a n c pages ∧ Touch (eb :: F) w1 wr ∧ ∀ b ∈ F', b ∈ F ∨ w1.heap.size ≤ b := by
  obtain ⟨F', h1, h2, h3, h4, h5, h6⟩ := h
  have B' := B.move hpos h4 h5 h6
  have n1 : lb ∉ F' ∧ lb ≠ eb := ⟨fun h => B'.e1 (by simp [h]), fun h => B'.e1 (by simp [h])⟩
  have n2 : b0 ∉ F' ∧ b0 ≠ eb := ⟨fun h => B'.e2 (by simp [h]), fun h => B'.e2 (by simp [h])⟩
  exact ⟨F', ⟨h1, h2, h3, B'.log, B'.box, h6, n1.1, n2.1, n1.2, n2.2⟩, B', h4, h5⟩
theorem ApOn.below {e0 : Int} {m : DM} (h : ApOn w1 d lb eb b0 F l m e0) (hb : Below w1.heap.size w1 w2) : ApOn w2 d lb eb b0 F l m e0 :=
  ⟨h.disk.below hb, (hb.cell (p := ⟨eb, 0, none⟩) (cell_lt h.err)).trans h.err, (hb.frozen (p := ⟨eb, 0, none⟩) (cell_lt h.err)).trans h.errf, h.log.below hb, (hb.cell (p := ⟨b0, 0, none⟩) (cell_lt h.box)).trans h.box, h.ne, h.nel, h.neb, h.nel2, h.neb2⟩

set_option maxRecDepth 100000 in
/-- Refused without a look. -/
theorem append_nil (w : World) (v : Value) (hv : ∃ a n c, v = .slice a n c) : Calls Try.prog 9 #[.pointer none, v] w fun e w' => e = .returned (.int .i64 1) ∧ Below w.heap.size w w' := by
  obtain ⟨a, n, c, rfl⟩ := hv
  go_enter Try.func9, Try.ntmps9
  go_wp2_with fail
  go_ret
  exact ⟨rfl, below_alloc (below_alloc (Below.refl _ _))⟩
set_option maxRecDepth 100000 in
theorem append_none (w : World) (lb : Nat) (a : Option Addr) (c : Nat) : Calls Try.prog 9 #[.pointer (some ⟨lb, 0, none⟩), .slice a 0 c] w fun e w' => e = .returned (.int .i64 1) ∧ Below w.heap.size w w' := by
  go_enter Try.func9, Try.ntmps9
  go_wp2_with fail
  go_ret
  exact ⟨rfl, below_alloc (below_alloc (Below.refl _ _))⟩

/-- Where the strings lie. -/
def PgAt (w : World) (a : Option Addr) (pages : List ByteArray) (B : List Nat) : Prop := ∃ b off, a = some ⟨b, off, none⟩ ∧ (∀ (j : Nat) x, pages[j]? = some x → w.cell? ⟨b, off + j, none⟩ = some (.string x)) ∧ b ∉ B

set_option maxRecDepth 100000 in
set_option maxHeartbeats 2000000 in
/-- A page of another length. -/
theorem append_len {w : World} {m : DM} (hne : 0 < pages.length) (hn : pages.length ≤ 1000000000) (hpg : PgAt w a pages []) (hbad : ∃ p ∈ pages, p.size ≠ 512) :
    Calls Try.prog 9 #[.pointer (some ⟨lb, 0, none⟩), .slice a pages.length c] w fun e w' => e = .returned (.int .i64 1) ∧ Below w.heap.size w w' := by
  obtain ⟨b, off, rfl, hc, -⟩ := hpg
  have hlt0 : b < w.heap.size := cell_lt (hc 0 _ (List.getElem?_eq_getElem hne))
  have hz : ((pages.length : Int) == 0) = false := by rw [beq_eq_false_iff_ne]; omega
  have hz2 : (pages.length == 0) = false := by rw [beq_eq_false_iff_ne]; omega
  obtain ⟨n, hnn⟩ : ∃ n, n = pages.length := ⟨_, rfl⟩
  rw [← hnn] at hn hz hz2 hne ⊢
  have HN := Lib.hid hnn
  have HC := Lib.hid hc
  have HBAD := Lib.hid hbad
  clear hnn hc hbad
  go_enter Try.func9, Try.ntmps9
  go_wp2_with fail
  go_loop [24] (fun v => ∃ j : Nat, j ≤ n ∧ v = .int .i64 j ∧ ∀ i x, i < j → pages[i]? = some x → x.size = 512) (fun v => n - (intOf v).toNat)
  case atStart => exact ⟨0, Nat.zero_le _, rfl, fun i x h => absurd h (by omega)⟩
  case round =>
    obtain ⟨j, hj, rfl, hall⟩ := hrel
    have HA := Lib.hid hall
    clear hall
    by_cases hlt : j < n
    · obtain ⟨p, hp⟩ : ∃ p, pages[j]? = some p := ⟨pages[j]'(by rw [← HN.out]; exact hlt), List.getElem?_eq_getElem _⟩
      have hcell : w.cell? ⟨b, off + j, none⟩ = some (.string p) := HC.out j p hp
      have HP := Lib.hid hp
      clear hp
      by_cases hs : p.size = 512
      · have t : ((p.size : Int) != 512) = false := by rw [hs]; rfl
        have HS := Lib.hid hs
        clear hs
        go_wp2
        go_round
        case rel =>
          refine ⟨j + 1, by omega, by go_num, fun i x hi hx => ?_⟩
          rcases Nat.lt_or_ge i j with h | h
          · exact HA.out i x h hx
          · obtain rfl : i = j := by omega
            rw [HP.out] at hx; cases hx; exact HS.out
        case measure => simp [intOf]; omega
      · have t : ((p.size : Int) != 512) = true := by simp; omega
        clear hs
        go_wp2
        go_ret
        exact ⟨rfl, below_alloc (below_alloc (Below.refl _ _))⟩
    · exfalso
      obtain ⟨p, hp, hs⟩ := HBAD.out
      obtain ⟨i, hi⟩ := List.getElem?_of_mem hp
      have : i < pages.length := (List.getElem?_eq_some_iff.1 hi).1
      exact hs (HA.out i p (by rw [← HN.out] at this; omega) hi)

end Go.Proofs.Ytfnfapgmicmegaa
