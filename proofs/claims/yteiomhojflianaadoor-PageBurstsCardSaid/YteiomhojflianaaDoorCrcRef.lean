/- The contract of the reference's sum. -/
import Derived.Test.YteiomhojflianaaDoorWord
import Derived.Test.YteiomhojflianaaDoorCrcRefPlain
import Derived.Deep.OwnRows
import Derived.Deep.QuietTactic
import Derived.BigQuiet
namespace Go.Proofs.YteiomhojflianaaDoor
open Go.RowKit
set_option linter.unusedVariables false

/-- The 32 bits of a number, as the cells of a block. -/
def Bits32 (w : World) (b : Nat) (f : Nat → Bool) : Prop := w.rowIs b 52 32 (fun i => .bool (f i))
theorem Bits32.cell {w : World} {b : Nat} {f : Nat → Bool} (h : Bits32 w b f) (i : Nat) (hi : i < 32) : w.cell? ⟨b, i, none⟩ = some (.bool (f i)) := World.rowIs.cell h hi
theorem Bits32.frozen {w : World} {b : Nat} {f : Nat → Bool} (h : Bits32 w b f) (i : Nat) : w.frozen? ⟨b, i, none⟩ = false := World.rowIs.frozen h i
theorem Bits32.congr {w : World} {b : Nat} {f g : Nat → Bool} (h : Bits32 w b f) (e : ∀ i, i < 32 → f i = g i) : Bits32 w b g := World.rowIs.congr h fun i hi => by rw [e i hi]
theorem Bits32.set {w : World} {b : Nat} {f g : Nat → Bool} (h : Bits32 w b f) (j : Nat) (v : Bool) (e : ∀ i, i < 32 → (if i = j then v else f i) = g i) : Bits32 (w.setCell ⟨b, j, none⟩ (.bool v)) b g :=
  World.rowIs.congr (World.rowIs.set h j (.bool v)) fun i hi => by rw [← e i hi]; split <;> rfl
theorem Bits32.made (w : World) : Bits32 (w.alloc (.cells (Array.replicate 32 (Value.bool false)) 52)) w.heap.size (fun _ => false) := by
  have := World.rowIs_alloc w (Array.replicate 32 (Value.bool false)) 52 (fun _ => .bool false) (by intro i hi; rw [Array.getElem?_replicate, if_pos (by simpa using hi)])
  simpa [Bits32] using this
theorem Bits32.drewN {w : World} {b : Nat} {f : Nat → Bool} (h : Bits32 w b f) (q : Nat) : Bits32 (w.drewN q) b f := h

set_option maxHeartbeats 4000000 in
/-- The reference's Sum. -/
theorem refSum_any (s : ByteArray) (w : World) (hs : s.size ≤ 9223372036854775807) :
    Calls Tryd.prog 14 #[.string s] w fun e w' => e = .returned (.int .u32 (crcV s)) ∧ Below w.heap.size w w' := by
  go_enter Tryd.func14, Tryd.ntmps14
  go_wp2
  go_loopw [4] (fun c wr => ∃ j : Nat, j ≤ 32 ∧ c = .int .i64 j ∧ Bits32 wr w.heap.size (fun i => decide (i < j)) ∧ Below w.heap.size w wr) (fun c _ => 32 - (intOf c).toNat)
  case atStart => exact ⟨0, Nat.zero_le _, rfl, (Bits32.made w).congr (fun i _ => by simp), (Below.refl _ _).alloc (Nat.le_refl _) _⟩
  case round =>
    obtain ⟨j, hj, rfl, hrow, hb⟩ := hrel
    by_cases hlt : j < 32
    · have c1 := hrow.cell j hlt
      have c2 := hrow.frozen j
      have R := fun (v : Bool) (g : Nat → Bool) => hrow.set (g := g) j v
      clear hrow
      go_wp2
      go_roundw
      case rel => exact ⟨j + 1, by omega, by go_num, R true _ (fun i hi => by by_cases e : i = j <;> simp [e] <;> omega), hb.setCell (by simp) _⟩
      case measure => simp [intOf]; omega
    · obtain rfl : j = 32 := by omega
      have h1 : Bits32 wr w.heap.size (fun i => (crcTo s 0).testBit i) := hrow.congr fun i hi => by rw [crcTo_zero, ones_bit i hi]; simp [hi]
      clear hrow
      go_wp2
      obtain ⟨wo, rfl⟩ : ∃ wo : World, wo = wr := ⟨_, rfl⟩
      go_loopw [5] (fun c wr => ∃ i : Nat, i ≤ s.size ∧ c = .int .i64 i ∧ Bits32 wr w.heap.size (fun t => (crcTo s i).testBit t) ∧ Below w.heap.size w wr) (fun c _ => s.size - (intOf c).toNat)
      case atStart => exact ⟨0, Nat.zero_le _, rfl, h1, hb⟩
      case round =>
        clear h1 hb
        obtain ⟨i, hi, rfl, hrow, hb⟩ := hrel
        have ht := crcTo_lt s i
        by_cases hlt : i < s.size
        · go_wp2
          obtain ⟨w2, rfl⟩ : ∃ wo : World, wo = wr := ⟨_, rfl⟩
          have hb8 : s[i].toNat < 256 := s[i].toNat_lt
          have R0 := refSt_zero (crcTo s i) s[i].toNat
          have R8 := refSt_eight (crcTo s i) s[i]
          go_loopw [6, 7] (fun c k wr => ∃ j : Nat, j ≤ 8 ∧ k = .int .i64 j ∧ c = .int .u8 (refB s[i].toNat j : Nat) ∧ Bits32 wr w.heap.size (fun t => (refSt (crcTo s i) s[i].toNat j).testBit t) ∧ Below w.heap.size w wr) (fun _ k _ => 8 - (intOf k).toNat)
          case atStart => exact ⟨0, Nat.zero_le _, rfl, by simp [refB], by rw [R0]; exact hrow, hb⟩
          case round =>
            clear hrow hb R0
            obtain ⟨j, hj, rfl, rfl, hrow, hb⟩ := hrel
            have hz := refSt_lt (crcTo s i) s[i].toNat j ht hb8
            have hc := refB_lt s[i].toNat j hb8
            have hst := refSt_next (crcTo s i) s[i].toNat j
            have hhalf := refB_half s[i].toNat j
            have S1 := Lib.hid hst
            have S2 := Lib.hid hhalf
            clear hst hhalf
            by_cases hj8 : j < 8
            · have d8 : decide ((j : Int) < 8) = true := by simp; omega
              have ho := refOut_walk (refSt (crcTo s i) s[i].toNat j) (refB s[i].toNat j)
              generalize hzz : refSt (crcTo s i) s[i].toNat j = z at *
              generalize hcc : refB s[i].toNat j = c at *
              have c0 := hrow.cell 0 (by decide)
              generalize refOut z c = o at *
              have hrow' : Bits32 wr w.heap.size (shB z 0) := hrow.congr fun t _ => (shB_zero z t).symm
              have HR := Lib.hid hrow'
              clear hzz hcc hrow hrow'
              generalize z.testBit 0 = zb at *
              cases o
              · go_wp2
                obtain ⟨w3, rfl⟩ : ∃ wo : World, wo = wr := ⟨_, rfl⟩
                go_loopw [9] (fun c wr => ∃ t : Nat, t ≤ 31 ∧ c = .int .i64 t ∧ Bits32 wr w.heap.size (shB z t) ∧ Below w.heap.size w wr) (fun c _ => 31 - (intOf c).toNat)
                case atStart => exact ⟨0, Nat.zero_le _, rfl, HR.out, hb⟩
                case round =>
                  clear HR hb c0
                  obtain ⟨t, htt, rfl, hrow, hb⟩ := hrel
                  by_cases ht31 : t < 31
                  · have c1 := hrow.cell (t + 1) (by omega)
                    rw [shB_next] at c1
                    have c2 := hrow.cell t (by omega)
                    have c3 := hrow.frozen t
                    have RS := Lib.hid (hrow.set (g := shB z (t + 1)) t (z.testBit (t + 1)) (fun u _ => shB_step z t u))
                    clear hrow
                    generalize z.testBit (t + 1) = zt at *
                    go_wp2
                    go_roundw
                    case rel => exact ⟨t + 1, by omega, by go_num, RS.out, hb.setCell (by simp) _⟩
                    case measure => simp [intOf]; omega
                  · obtain rfl : t = 31 := by omega
                    have c2 := hrow.cell 31 (by omega)
                    have c3 := hrow.frozen 31
                    have RS := Lib.hid (hrow.set (g := fun u => (z / 2).testBit u) 31 false (fun u hu => shB_end z u hz hu))
                    clear hrow
                    generalize shB z 31 31 = zt at *
                    go_wp2
                    obtain ⟨w4, rfl⟩ : ∃ wo : World, wo = wr := ⟨_, rfl⟩
                    have hb' := hb.setCell (p := ⟨w.heap.size, 31, none⟩) (by simp) (.bool false)
                    go_loop [10, 11] (fun p c => p = .int .u32 3988292384 ∧ c = .int .i64 0) (fun _ _ => 0)
                    case atStart => exact ⟨rfl, rfl⟩
                    case round =>
                      obtain ⟨rfl, rfl⟩ := hrel
                      go_wp2
                      go_roundw
                      case rel => exact ⟨j + 1, by omega, by go_num, by rw [← S2.out]; go_num, by rw [S1.out]; exact RS.out, hb'⟩
                      case measure => simp [intOf]; omega
              · go_wp2
                obtain ⟨w3, rfl⟩ : ∃ wo : World, wo = wr := ⟨_, rfl⟩
                go_loopw [9] (fun c wr => ∃ t : Nat, t ≤ 31 ∧ c = .int .i64 t ∧ Bits32 wr w.heap.size (shB z t) ∧ Below w.heap.size w wr) (fun c _ => 31 - (intOf c).toNat)
                case atStart => exact ⟨0, Nat.zero_le _, rfl, HR.out, hb⟩
                case round =>
                  clear HR hb c0
                  obtain ⟨t, htt, rfl, hrow, hb⟩ := hrel
                  by_cases ht31 : t < 31
                  · have c1 := hrow.cell (t + 1) (by omega)
                    rw [shB_next] at c1
                    have c2 := hrow.cell t (by omega)
                    have c3 := hrow.frozen t
                    have RS := Lib.hid (hrow.set (g := shB z (t + 1)) t (z.testBit (t + 1)) (fun u _ => shB_step z t u))
                    clear hrow
                    generalize z.testBit (t + 1) = zt at *
                    go_wp2
                    go_roundw
                    case rel => exact ⟨t + 1, by omega, by go_num, RS.out, hb.setCell (by simp) _⟩
                    case measure => simp [intOf]; omega
                  · obtain rfl : t = 31 := by omega
                    have c2 := hrow.cell 31 (by omega)
                    have c3 := hrow.frozen 31
                    have RS := Lib.hid (hrow.set (g := fun u => (z / 2).testBit u) 31 false (fun u hu => shB_end z u hz hu))
                    clear hrow
                    generalize shB z 31 31 = zt at *
                    go_wp2
                    obtain ⟨w4, rfl⟩ : ∃ wo : World, wo = wr := ⟨_, rfl⟩
                    have hb' := hb.setCell (p := ⟨w.heap.size, 31, none⟩) (by simp) (.bool false)
                    go_loopw [10, 11] (fun p c wr => ∃ t : Nat, t ≤ 32 ∧ c = .int .i64 t ∧ p = .int .u32 (polyB t : Nat) ∧ Bits32 wr w.heap.size (tuB (z / 2) t) ∧ Below w.heap.size w wr) (fun _ c _ => 32 - (intOf c).toNat)
                    case atStart => exact ⟨0, Nat.zero_le _, rfl, by simp [polyB], RS.out.congr (fun u _ => (tuB_zero (z / 2) u).symm), hb'⟩
                    case round =>
                      clear RS hb' hb
                      obtain ⟨t, htt, rfl, rfl, hrow, hb⟩ := hrel
                      by_cases ht32 : t < 32
                      · have d32 : decide ((t : Int) < 32) = true := by simp; omega
                        have hpl := polyB_lt t
                        have hph := Lib.hid (polyB_half t)
                        have hpb := polyB_bit t
                        have c1 := hrow.cell t ht32
                        rw [tuB_at] at c1
                        have c3 := hrow.frozen t
                        cases hbt : (3988292384 : Nat).testBit t
                        · rw [hbt] at hpb
                          have RN := Lib.hid (hrow.congr (g := tuB (z / 2) (t + 1)) fun u _ => tuB_no (z / 2) t u hbt)
                          clear hrow hbt
                          generalize (z / 2).testBit t = zt at *
                          go_wp2
                          go_roundw
                          case rel => exact ⟨t + 1, by omega, by go_num, by rw [← hph.out]; go_num, RN.out, hb⟩
                          case measure => simp [intOf]; omega
                        · rw [hbt] at hpb
                          have RN := Lib.hid (hrow.set (g := tuB (z / 2) (t + 1)) t (!(z / 2).testBit t) fun u _ => tuB_yes (z / 2) t u hbt)
                          clear hrow hbt
                          generalize (z / 2).testBit t = zt at *
                          go_wp2
                          go_roundw
                          case rel => exact ⟨t + 1, by omega, by go_num, by rw [← hph.out]; go_num, RN.out, hb.setCell (by simp) _⟩
                          case measure => simp [intOf]; omega
                      · obtain rfl : t = 32 := by omega
                        have RN := Lib.hid (hrow.congr (g := fun u => (z / 2 ^^^ 3988292384).testBit u) fun u hu => tuB_end (z / 2) u hu)
                        clear hrow
                        go_wp2
                        go_roundw
                        case rel => (repeat apply Exists.intro); exact ⟨⟨j + 1, by omega, by go_num, by rw [← S2.out]; go_num, by rw [S1.out]; exact RN.out, hb⟩, rfl⟩
                        case measure => simp [intOf]; omega
            · obtain rfl : j = 8 := by omega
              have RN := Lib.hid (hrow.congr (g := fun u => (crcTo s (i + 1)).testBit u) fun u _ => by rw [R8]; unfold crcByte; rw [crcTo_step s i hlt])
              clear hrow R8
              go_wp2
              go_roundw
              case rel => exact ⟨i + 1, by omega, by go_num, RN.out, hb⟩
              case measure => simp [intOf]; omega
        · obtain rfl : i = s.size := by omega
          have hl := crcL_lt s.data.toList
          rw [crcTo_all] at hrow
          have E := Lib.hid (outN_all s)
          have T := outN_top (crcL s.data.toList)
          generalize crcL s.data.toList = r at *
          go_wp2
          go_loop [12, 13] (fun n c => ∃ t : Nat, t ≤ 32 ∧ c = .int .i64 ((t : Int) - 1) ∧ n = .int .u32 (outN r t : Nat)) (fun _ c => (intOf c + 1).toNat)
          case atStart => exact ⟨32, Nat.le_refl _, rfl, by rw [T]; rfl⟩
          case round =>
            clear T
            obtain ⟨t, htt, rfl, rfl⟩ := hrel
            by_cases h0 : 0 < t
            · obtain ⟨t, rfl⟩ : ∃ q, t = q + 1 := ⟨t - 1, by omega⟩
              clear h0
              have hst := outN_step r t hl (by omega)
              have hhf := outN_half r t (by omega)
              have c1 := hrow.cell t (by omega)
              generalize r.testBit t = zb at *
              have O := Lib.hid hst
              clear hst
              cases zb
              all_goals
                go_wp2
                go_round
                case rel => exact ⟨t, by omega, by go_num, by rw [O.out]; go_num⟩
                case measure => simp [intOf]
            · obtain rfl : t = 0 := by omega
              go_wp2
              go_ret
              exact ⟨by rw [← E.out]; rfl, hb⟩

end Go.Proofs.YteiomhojflianaaDoor
