/- The contract of page.Cut. -/
import Derived.Test.YteiomhojflianaaMark
import Derived.Lib.SmallJoins
namespace Go.Proofs.Yteiomhojflianaa
open Go.RowKit Go.Joins
set_option linter.unusedVariables false

theorem Try.infoStr : (Try.prog.info? 9).map (fun i => (i.zero, i.size, i.bytes)) = some (some (.string ⟨#[]⟩), 1, 16) := by kernel_rfl

/-- The sectors that have been cut behind j rounds. -/
def cutCells (s : ByteArray) (j : Nat) : List Value := (List.range j).map fun i => .string (s.extract (i * 64) ((i + 1) * 64))
theorem cutCells_snoc (s : ByteArray) (j : Nat) : cutCells s j ++ [.string (s.extract (j * 64) ((j + 1) * 64))] = cutCells s (j + 1) := by
  simp [cutCells, List.range_succ]

set_option maxHeartbeats 1000000 in
theorem cut_any (s : ByteArray) (w : World) (hz : s.size = 512) :
    Calls Try.prog 17 #[.string s] w fun e w' => ∃ g cap, e = .returned (.slice (some ⟨g, 0, none⟩) 8 cap) ∧ w'.ownsRow w.heap.size 9 1 (.slice (some ⟨g, 0, none⟩) 8 cap) 8 (cutCells s 8) ∧ Below w.heap.size w w' := by
  obtain ⟨i0, hi, hz0, hz1, hz2⟩ := info_parts Try.infoStr
  have z1 : s.size ≤ 512 := by omega
  have z2 : 512 ≤ s.size := by omega
  have z3 : ((s.size : Int) != 512) = false := by simp [hz]
  clear hz
  go_enter Try.func17, Try.ntmps17
  go_wp2
  go_loopw [3, 8] (fun v c wr => ∃ j : Nat, j ≤ 8 ∧ c = .int .i64 j ∧ wr.ownsRow w.heap.size 9 1 v j (cutCells s j) ∧ Below w.heap.size w wr) (fun _ c _ => 8 - (intOf c).toNat)
  case atStart => exact ⟨0, Nat.zero_le _, rfl, World.ownsRow_nil _ _ _ _, Below.refl _ _⟩
  case round =>
    obtain ⟨j, hj, rfl, hown, hb⟩ := hrel
    have hsz := hb.size
    by_cases hlt : j < 8
    · have HC := Lib.hid (cutCells_snoc s j)
      go_wp2_with (at_builtin; refine wpList_append_own _ rfl (.tmp 11) (.tmp 19) 37 rfl w.heap.size 9 i0 (.string ⟨#[]⟩) 1 16 Try.underlying37 hi hz0 hz1 hz2 rfl (by decide) _ _ _ rfl (hown.alloc _) ⟨wr.heap.size, 0, none⟩ 1 1 [.string (s.extract (j * 64) ((j + 1) * 64))] rfl rfl ?c1 ?c2 ?c3 ?c4 ?c5 ?_)
      case c1 => exact cell_one_new _ _ _
      case c2 => intro u hu; simp at hu; subst hu; rfl
      case c3 => unfold maxLen; omega
      case c4 => omega
      case c5 => simp; omega
      · intro v' w1 hown' hgrow _
        rw [HC.out] at hown'
        have hb' := (hb.alloc hsz (.cells #[.string (s.extract (j * 64) ((j + 1) * 64))] 9)).grown hgrow (by simp; omega) (fun k hk => (hown.lt k hk).1)
        clear hgrow hown
        go_wp2
        go_roundw
        case rel => exact ⟨j + 1, by omega, by go_num, hown', hb'⟩
        case measure => simp [intOf]; omega
    · obtain rfl : j = 8 := by omega
      obtain ⟨g, cap, hv⟩ := ownsRow_form hown (by omega)
      rw [hv] at hown
      have HO := Lib.hid hown
      clear hown
      rw [hv]
      go_wp2
      go_ret
      exact ⟨g, cap, rfl, HO.out, hb⟩

set_option maxHeartbeats 400000 in
theorem cut_none (s : ByteArray) (w : World) (hz : ((s.size : Int) != 512) = true) :
    Calls Try.prog 17 #[.string s] w fun e w' => e = .returned (.slice none 0 0) ∧ w = w' := by
  go_enter Try.func17, Try.ntmps17
  go_wp2_with fail
  go_ret
  exact ⟨rfl, rfl⟩

end Go.Proofs.Yteiomhojflianaa
