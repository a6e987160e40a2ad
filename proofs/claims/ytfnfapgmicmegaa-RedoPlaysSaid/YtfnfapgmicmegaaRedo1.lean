/- The contracts of redo's text, cut and joined. -/
import Derived.Test.YtfnfapgmicmegaaMark
import Derived.Test.YtfnfapgmicmegaaDiskRep
import Derived.Lib.SmallJoins
import Derived.Deep.RegionHeld3
import Derived.Deep.RegionLaw
import Derived.Deep.AppendLies
import Derived.BigRegion
import Derived.Deep.QuietTactic
import Derived.BigQuiet
namespace Go.Proofs.Ytfnfapgmicmegaa
open Go.RowKit Go.Joins
set_option linter.unusedVariables false

/-- A mark's text of so many pages. -/
def textM (n : Int) : ByteArray := S (leB n 2 ++ [1] ++ nul 45)
theorem textM_size (n : Int) : (textM n).size = 48 := by unfold textM; rw [S_size]; simp only [List.length_append, leB_length, nul_length]; rfl
theorem u64_of (x : Int) (h : 0 ≤ x) (hu : x ≤ 9223372036854775807) : IntKind.u64.wrap x = x := by
  rw [IntKind.wrap_u64]; omega

set_option maxRecDepth 100000 in
set_option maxHeartbeats 1000000 in
theorem text_any (n : Int) (w : World) (h0 : 0 ≤ n) (h1 : n ≤ 1000000) :
    Calls Try.prog 36 #[.int .i64 n] w fun e w' => e = .returned (.string (textM n)) ∧ Below w.heap.size w w' := by
  have u1 := u64_of n h0 (by omega)
  have z1 : (S (leB n 2)).size ≤ 2 := by rw [S_size, leB_length]; omega
  have z2 : (S (nul 45)).size ≤ 45 := by rw [S_size, nul_length]; omega
  have z3 : (S (leB n 2) ++ ⟨#[1]⟩).size ≤ 3 := by rw [ByteArray.size_append, S_size, leB_length]; decide
  have T : S (leB n 2) ++ ⟨#[1]⟩ ++ S (nul 45) = textM n := by
    have : (⟨#[1]⟩ : ByteArray) = S [1] := rfl
    rw [this, S_append, S_append]; rfl
  have TT := Lib.hid T
  clear T
  go_enter Try.func36, Try.ntmps36
  go_wp2_with fail
  refine (put_any n 2 _ (by omega) h0).mono ?_
  rintro e w1 ⟨rfl, hb1⟩
  go_wp2_with fail
  refine (repeat_nul _ _ (by omega) (by omega)).mono ?_
  rintro e w2 ⟨rfl, hb2⟩
  go_wp2_with fail
  go_ret
  exact ⟨by rw [← TT.out]; rfl, below_step hb2 hb1⟩

/-! A page cut into a log's sectors. -/
def padP (p : ByteArray) : ByteArray := p ++ S (nul (567 - p.size))
theorem padP_size (p : ByteArray) (h : p.size ≤ 567) : (padP p).size = 567 := by unfold padP; rw [ByteArray.size_append, S_size, nul_length]; omega
/-- A part with a nought in it. -/
def tellS (s : ByteArray) : ByteArray := s.extract 0 10 ++ ⟨#[0]⟩ ++ s.extract 10 63
def secP (p : ByteArray) (k : Nat) : ByteArray := tellS ((padP p).extract (k * 63) ((k + 1) * 63))
theorem tellS_size (s : ByteArray) (h : s.size = 63) : (tellS s).size = 64 := by
  unfold tellS; rw [ByteArray.size_append, ByteArray.size_append, ByteArray.size_extract, ByteArray.size_extract]
  have : (⟨#[0]⟩ : ByteArray).size = 1 := rfl
  omega
theorem part_size (p : ByteArray) (h : p.size ≤ 567) (k : Nat) (hk : k < 9) : ((padP p).extract (k * 63) ((k + 1) * 63)).size = 63 := by
  rw [ByteArray.size_extract, padP_size p h]; omega
theorem secP_size (p : ByteArray) (h : p.size ≤ 567) (k : Nat) (hk : k < 9) : (secP p k).size = 64 := tellS_size _ (part_size p h k hk)
def secCells (p : ByteArray) (j : Nat) : List Value := (List.range j).map fun k => .string (secP p k)
theorem secCells_snoc (p : ByteArray) (j : Nat) : secCells p j ++ [.string (secP p j)] = secCells p (j + 1) := by
  simp [secCells, List.range_succ]

set_option maxRecDepth 100000 in
set_option maxHeartbeats 2000000 in
theorem rcut_any (p : ByteArray) (w : World) (hp : p.size ≤ 567) :
    Calls Try.prog 30 #[.string p] w fun e w' => ∃ g cap, e = .returned (.slice (some ⟨g, 0, none⟩) 9 cap) ∧ w'.ownsRow w.heap.size 9 1 (.slice (some ⟨g, 0, none⟩) 9 cap) 9 (secCells p 9) ∧ Below w.heap.size w w' := by
  obtain ⟨i0, hi, hz0, hz1, hz2⟩ := info_parts Try.infoStr
  have z2 : (S (nul (567 - p.size))).size ≤ 567 := by rw [S_size, nul_length]; omega
  have zq := padP_size p hp
  have TT0 : p ++ S (nul (567 - p.size)) = padP p := rfl
  have TT := Lib.hid TT0
  clear TT0
  go_enter Try.func30, Try.ntmps30
  go_wp2_with fail
  refine (repeat_nul _ _ (by omega) (by omega)).mono ?_
  rintro e w1 ⟨rfl, hb1⟩
  have HB1 := Lib.hid hb1
  have e1 : ((567 : Int) - p.size).toNat = 567 - p.size := by omega
  rw [e1]
  clear e1 hb1
  have zq1 : (padP p).size ≤ 567 := by omega
  have zq2 : 567 ≤ (padP p).size := by omega
  have PS := fun k hk => Lib.hid (part_size p hp k hk)
  clear zq
  go_wp2_with fail
  rw [TT.out]
  go_loopw [3, 4, 5, 12] (fun v _ _ c wr => ∃ j : Nat, j ≤ 9 ∧ c = .int .i64 j ∧ wr.ownsRow w.heap.size 9 1 v j (secCells p j) ∧ Below w.heap.size w wr) (fun _ _ _ c _ => 9 - (intOf c).toNat)
  case atStart => exact ⟨0, Nat.zero_le _, rfl, World.ownsRow_nil _ _ _ _, HB1.out⟩
  case round =>
    clear HB1
    obtain ⟨j, hj, rfl, hown, hb⟩ := hrel
    by_cases hlt : j < 9
    · have HC := Lib.hid (secCells_snoc p j)
      have HB := Lib.hid hb
      have HO := Lib.hid hown
      have hsz := hb.size
      have hps := (PS j hlt).out
      generalize hq : (padP p).extract (j * 63) ((j + 1) * 63) = q at hps
      have HQ := Lib.hid hq
      have q1 : q.size ≤ 63 := by omega
      have q2 : 63 ≤ q.size := by omega
      clear hb hown hq hps
      go_upto_region 7 with (fail)
      rw [HQ.out]
      have q3 : (10 : Int) ≤ (q.size : Int) := by omega
      have q4 : (0 : Int) ≤ 10 := by decide
      have q5 : ¬ (9223372036854775807 < min 10 q.size + 1) := by omega
      have q6 : ¬ (9223372036854775807 < min 10 q.size + 1 + (q.size - 10)) := by omega
      have TQ : q.extract 0 10 ++ (⟨#[0]⟩ : ByteArray) ++ q.extract 10 q.size = secP p j := by
        rw [← HQ.out, part_size p hp j hlt]; rfl
      have HTQ := Lib.hid TQ
      have h63 : j + 1 ≤ maxLen := by unfold maxLen; omega
      have hrb : w.heap.size ≤ wr.heap.size + 1 := by omega
      clear TQ
      go_region_law ((refine step_append_lies _ (by rfl) _ _ _ (by rfl) w.heap.size 9 i0 _ 1 16 Try.underlying22 hi hz0 hz1 hz2 rfl (by omega) u3 j (secCells p j) (by rfl) ((HO.out.alloc _).drew) ⟨wr.heap.size, 0, none⟩ 1 1 [.string (secP p j)] (by rfl) (by rfl) (by rw [← HTQ.out]; exact cell_one_new _ _ _) (by simp [Value.oneCell']) (by omega) h63 (by omega) (by simp; omega) (wr.heap.size + 1) (by simp) ?_; intro gg cap w3 hown1 hgrow hat hlt'))
      all_goals
        rw [HC.out] at hown1
        have hb2 := (HB.out.alloc hsz (.cells #[.string (q.extract 0 10 ++ (⟨#[0]⟩ : ByteArray) ++ q.extract 10 q.size)] 9)).drew.grown hgrow (by simp; omega) (fun k hk => (HO.out.lt k hk).1)
        have HO2 := Lib.hid hown1
        have HB2 := Lib.hid hb2
        clear hown1 hgrow hat hlt' hb2
        go_wp2_with fail
        go_roundw
        case rel => exact ⟨j + 1, by omega, by go_num, HO2.out, HB2.out⟩
        case measure => simp [intOf]; omega
    · obtain rfl : j = 9 := by omega
      obtain ⟨g, cap, hv⟩ := ownsRow_form hown (by omega)
      rw [hv] at hown
      have HO := Lib.hid hown
      clear hown
      rw [hv]
      go_wp2
      go_ret
      exact ⟨g, cap, rfl, HO.out, hb⟩

/-! Sectors joined to a page. -/
def untell (s : ByteArray) : ByteArray := s.extract 0 10 ++ s.extract 11 64
def joinL (l : List ByteArray) : ByteArray := S (l.map fun s => (untell s).data.toList).flatten
/-- Do these sectors make a page? -/
def joinOk (l : List ByteArray) : Bool := l.all (fun s => s.data.toList.getD 10 0 == 0) && decide ((joinL l).extract 512 567 = S (nul 55))
def joinP (l : List ByteArray) : ByteArray := (joinL l).extract 0 512
theorem untell_size (s : ByteArray) (h : s.size = 64) : (untell s).size = 63 := by
  unfold untell; rw [ByteArray.size_append, ByteArray.size_extract, ByteArray.size_extract]; omega
theorem joinL_snoc (l : List ByteArray) (s : ByteArray) : joinL l ++ untell s = joinL (l ++ [s]) := by
  unfold joinL
  conv => lhs; rw [← S_data (untell s)]
  rw [S_append]; simp
/-- The strings of a slice. -/
def StrsAt (w : World) (a : Option Addr) (l : List ByteArray) : Prop := l = [] ∨ ∃ b off, a = some ⟨b, off, none⟩ ∧ ∀ (j : Nat) x, l[j]? = some x → w.cell? ⟨b, off + j, none⟩ = some (.string x)

end Go.Proofs.Ytfnfapgmicmegaa
