/- The walk of the law DiskSure. -/
import Derived.Test.YteijagojagfecaaDiskSureLaw
namespace Go.Proofs.Yteijagojagfecaa
open Go.RowKit Go.Maps Go.Joins
set_option linter.unusedVariables false

/-- The state of the law's loop behind k acts. -/
structure SureAt (w0 w : World) (d : Nat) (F : List Nat) (m : DM) (k i : Nat) (f : ByteArray) : Prop where
  disk : IsDisk w d F m
  ok : DOk m k
  keep : SureI m i f
  below : Below w0.heap.size w0 w
  own : ∀ b ∈ F, w0.heap.size ≤ b
theorem SureAt.lt {w0 w : World} {d : Nat} {F : List Nat} {m : DM} {k i : Nat} {f : ByteArray} (h : SureAt w0 w d F m k i f) : w0.heap.size ≤ w.heap.size := h.below.size
theorem SureAt.next {w0 w w' : World} {d : Nat} {F : List Nat} {m m' : DM} {k k' i : Nat} {f : ByteArray} (h : SureAt w0 w d F m k i f) (g : Goes w w' d F m') (ok : DOk m' k') (keep : SureI m' i f) : ∃ F', SureAt w0 w' d F' m' k' i f := by
  obtain ⟨F', hD, hb, hF⟩ := Goes.fresh h.own h.below h.lt g
  exact ⟨F', hD, ok, keep, hb, hF⟩
theorem SureAt.stay {w0 w w' : World} {d : Nat} {F : List Nat} {m : DM} {k i : Nat} {f : ByteArray} (h : SureAt w0 w d F m k i f) (b : Below w.heap.size w w') : SureAt w0 w' d F m k i f :=
  ⟨h.disk.touch (F := []) (Touch.of_below b) (fun _ _ h => by cases h), h.ok, h.keep, below_step b h.below, h.own⟩
theorem SureAt.more {w0 w : World} {d : Nat} {F : List Nat} {m : DM} {k k' i : Nat} {f : ByteArray} (h : SureAt w0 w d F m k i f) (hk : k ≤ k') : SureAt w0 w d F m k' i f :=
  ⟨h.disk, h.ok.mono hk, h.keep, h.below, h.own⟩

theorem to_eq (i : Nat) (A : Int) (hi : i < 8) : ∃ t : Nat, (wrap64 ((i : Int) + 1 + wrap64 ((IntKind.u64.wrap A).tmod 7))).tmod 8 = t ∧ t < 8 ∧ (t : Int) ≠ i := by
  rw [IntKind.wrap_u64]
  have h0 : 0 ≤ A % 18446744073709551616 := Int.emod_nonneg _ (by decide)
  generalize A % 18446744073709551616 = B at *
  rw [Int.tmod_eq_emod_of_nonneg h0, IntWalk.wrap64_in (B % 7) ⟨by omega, by omega⟩, IntWalk.wrap64_in ((i : Int) + 1 + B % 7) ⟨by omega, by omega⟩, Int.tmod_eq_emod_of_nonneg (by omega)]
  exact ⟨(((i : Int) + 1 + B % 7) % 8).toNat, by omega, by omega, by omega⟩

set_option maxRecDepth 100000 in
set_option maxHeartbeats 8000000 in
theorem diskSure_walk {w : World} {n c : Nat} {a : Option Addr} {l : List ActD} (hl : ActsIn w w.heap.size a n l) (at_ b : Int) (h1 : 0 ≤ at_) (h2 : at_ ≤ 255) (h3 : 0 ≤ b) (h4 : b ≤ 255) :
    Calls Try.prog 3 #[.slice a n c, .int .u8 at_, .int .u8 b] w fun e w' => e = .returned (.bool true) ∧ Below w.heap.size w w' := by
  have hfit := hl.2.1
  have HL := Lib.hid hl
  clear hl
  have few' : ∀ w', Below w.heap.size w w' → ActsIn w' w.heap.size a n l := fun w' hb => by
    obtain ⟨e1, e2, e3⟩ := HL.out
    exact ⟨e1, e2, e3.imp id fun ⟨lb, off, ha, hA⟩ => ⟨lb, off, ha, hA.below hb⟩⟩
  have FW := Lib.hid few'
  clear few'
  cases hfew : fewA l
  · have HF := Lib.hid hfew
    clear hfew
    go_enter Try.func3, Try.ntmps3
    go_wp2_with fail
    refine (awake06_any _).mono ?_
    rintro e w1 ⟨rfl, hb1⟩
    go_wp2_with fail
    refine (few_in (FW.out w1 hb1)).mono ?_
    rintro e w2 ⟨rfl, rfl⟩
    rw [HF.out]
    go_wp2_with fail
    refine (awake06_any _).mono ?_
    rintro e w2 ⟨rfl, hb2⟩
    go_wp2_with fail
    go_ret
    exact ⟨rfl, below_step hb2 hb1⟩
  · have HF := Lib.hid hfew
    have hn300 : n ≤ 300 := by rw [HL.out.1]; exact fewA_length hfew
    clear hfew
    obtain ⟨i, hi⟩ : ∃ i : Nat, at_ % 8 = i := ⟨(at_ % 8).toNat, by omega⟩
    have hi8 : i < 8 := by omega
    have hfs := fillB_size b
    obtain ⟨f1, f2, f3⟩ := first_write i (fillB b) hi8 hfs
    have q1 := DOk.new (newSu_size 8) (by simp [newSu]) (by simp [newSu])
    have q2 := q1.write i (fillB b)
    have q3 := q2.flush
    have FF := Lib.hid f1; have FF2 := Lib.hid f2; have FF3 := Lib.hid f3; have Q1 := Lib.hid q1; have Q2 := Lib.hid q2; have Q3 := Lib.hid q3; have ZS := Lib.hid hfs
    clear f1 f2 f3 q1 q2 q3 hfs
    have hfs' : (fillB b).size ≤ 9223372036854775807 := by rw [ZS.out]; omega
    go_enter Try.func3, Try.ntmps3
    go_wp2_with fail
    refine (awake06_any _).mono ?_
    rintro e w1 ⟨rfl, hb1⟩
    go_wp2_with fail
    refine (few_in (FW.out w1 hb1)).mono ?_
    rintro e w2 ⟨rfl, rfl⟩
    rw [HF.out]
    go_wp2_with fail
    refine (new_any 8 _ (by omega) (by omega)).mono ?_
    rintro e w2 ⟨d, rfl, F2, hD2, hb2, hF2⟩
    go_wp2_with fail
    refine (fill_any b _ h3 h4).mono ?_
    rintro e w3 ⟨rfl, hb3⟩
    have hD3 := hD2.touch (F := []) (Touch.of_below hb3) (fun _ _ h => by cases h)
    have hB3 := below_step hb3 (below_step hb2 hb1)
    go_wp2_with fail
    refine (is_write hD3 Q1.out (by omega) i (fillB b) (by omega) (by omega) hfs').mono ?_
    rintro e w4 ⟨rfl, hG4⟩
    rw [FF.out]
    obtain ⟨F4, hD4, hB4, hF4⟩ := Goes.fresh (fun b hb => Nat.le_trans hb1.size (hF2 b hb)) hB3 hB3.size hG4
    go_wp2_with fail
    refine (is_flush hD4 Q2.out (by omega)).mono ?_
    rintro e w5 ⟨rfl, hG5⟩
    rw [FF2.out]
    obtain ⟨F5, hD5, hB5, hF5⟩ := Goes.fresh hF4 hB4 hB4.size hG5
    have hS : SureAt w w5 d F5 (flM (wrM (newM (newSu 8)) i (fillB b)).2).2 (0 + 1) i (fillB b) := ⟨hD5, Q3.out, FF3.out, hB5, hF5⟩
    generalize (flM (wrM (newM (newSu 8)) i (fillB b)).2).2 = m5 at *
    clear hb1 hb2 hD2 hF2 hb3 hD3 hB3 hG4 hD4 hB4 hF4 hG5 hD5 hB5 hF5
    have HS := Lib.hid hS
    clear hS
    have hi' : (i : Int) < 8 := by omega
    go_wp2_with fail
    go_loopw [10] (fun c wr => ∃ (k : Nat) (m : DM) (F : List Nat), k ≤ n ∧ c = .int .i64 k ∧ SureAt w wr d F m (k + 1) i (fillB b)) (fun c _ => n - (intOf c).toNat)
    case atStart => exact ⟨0, m5, F5, Nat.zero_le _, rfl, HS.out⟩
    case round =>
      clear HS FF FF2 FF3 Q1 Q2 Q3 HF m5 F5
      obtain ⟨k, m, F, hk, rfl, hS⟩ := hrel
      by_cases hlt : k < n
      · obtain ⟨lb, off, x, ha, hx, hX, hlb⟩ := HL.out.at_ hS.below hlt
        rw [ha]
        have c0 := hX.c0
        have c1 := hX.c1
        have c2 := hX.c2
        have c3 := hX.c3
        have c4 := hX.c4
        have c5 := hX.c5
        rw [addr_add] at c1 c2 c3 c4 c5
        have ku := hX.ok.u1
        have ku2 := hX.ok.u2
        have ka := hX.ok.at_
        have kn := hX.ok.n
        obtain ⟨t, hto, ht8, hti⟩ := to_eq i x.at_ hi8
        have HX := Lib.hid hX
        have SS := Lib.hid hS
        clear hX hS ha hx
        have hk6 : x.b1 % 6 = 0 ∨ x.b1 % 6 = 1 ∨ x.b1 % 6 = 2 ∨ x.b1 % 6 = 3 ∨ x.b1 % 6 = 4 ∨ x.b1 % 6 = 5 := by omega
        have HK := Lib.hid hk6
        clear hk6
        rcases HK.out with h6 | h6 | h6 | h6 | h6 | h6
        · go_wp2_with fail
          have HS1 := Lib.hid (SS.out.stay (below_alloc (o := .cells #[.int .u8 x.b1, .int .u8 x.b2, .int .i64 x.at_, .int .i64 x.n, .string x.s, .slice x.ka x.kn x.kc] 34) (Below.refl _ wr)))
          refine (fill_any x.b2 _ ku2.1 ku2.2).mono ?_
          rintro e w2 ⟨rfl, hb2⟩
          have HS2 := Lib.hid (HS1.out.stay hb2)
          clear hb2
          go_wp2_with fail
          refine (is_write HS2.out.disk HS2.out.ok (by omega) t _ (by omega) (by omega) (by rw [fillB_size]; omega)).mono ?_
          rintro e w3 ⟨rfl, hG⟩
          obtain ⟨F3, S3⟩ := HS2.out.next hG (HS2.out.ok.write _ _) (HS2.out.keep.write _ _ hti)
          clear hG
          obtain ⟨mm, S4⟩ : ∃ mm, SureAt w w3 d F3 mm (k + 1 + 1) i (fillB b) := ⟨_, S3⟩
          have HS4 := Lib.hid S4
          clear S3 S4
          go_wp2_with fail
          refine (is_read HS4.out.disk i (by omega) (by omega)).mono ?_
          rintro e w4 ⟨rfl, rfl⟩
          rw [HS4.out.keep.read]
          cases hd : mm.down
          · simp only [Bool.false_eq_true, if_false]
            have HD := Lib.hid hd
            clear hd
            go_wp2_with fail
            refine (is_down HS4.out.disk).mono ?_
            rintro e w4 ⟨rfl, rfl⟩
            rw [HD.out]
            go_wp2_with fail
            refine (fill_any b _ h3 h4).mono ?_
            rintro e w5 ⟨rfl, hb5⟩
            go_wp2_with fail
            go_roundw
            case rel => exact ⟨k + 1, mm, F3, by omega, by go_num, HS4.out.stay hb5⟩
            case measure => simp [intOf]; omega
          · simp only [if_true]
            have HD := Lib.hid hd
            clear hd
            go_wp2_with fail
            refine (is_down HS4.out.disk).mono ?_
            rintro e w4 ⟨rfl, rfl⟩
            rw [HD.out]
            go_wp2_with fail
            go_roundw
            case rel => exact ⟨k + 1, mm, F3, by omega, by go_num, HS4.out⟩
            case measure => simp [intOf]; omega
        · go_wp2_with fail
          have HS1 := Lib.hid (SS.out.stay (below_alloc (o := .cells #[.int .u8 x.b1, .int .u8 x.b2, .int .i64 x.at_, .int .i64 x.n, .string x.s, .slice x.ka x.kn x.kc] 34) (Below.refl _ wr)))
          refine (is_flush HS1.out.disk HS1.out.ok (by omega)).mono ?_
          rintro e w3 ⟨rfl, hG⟩
          obtain ⟨F3, S3⟩ := HS1.out.next hG (HS1.out.ok.flush.mono (by omega) : DOk _ (k + 1 + 1)) (HS1.out.keep.flush HS1.out.ok.wait)
          clear hG
          obtain ⟨mm, S4⟩ : ∃ mm, SureAt w w3 d F3 mm (k + 1 + 1) i (fillB b) := ⟨_, S3⟩
          have HS4 := Lib.hid S4
          clear S3 S4
          go_wp2_with fail
          refine (is_read HS4.out.disk i (by omega) (by omega)).mono ?_
          rintro e w4 ⟨rfl, rfl⟩
          rw [HS4.out.keep.read]
          cases hd : mm.down
          · simp only [Bool.false_eq_true, if_false]
            have HD := Lib.hid hd
            clear hd
            go_wp2_with fail
            refine (is_down HS4.out.disk).mono ?_
            rintro e w4 ⟨rfl, rfl⟩
            rw [HD.out]
            go_wp2_with fail
            refine (fill_any b _ h3 h4).mono ?_
            rintro e w5 ⟨rfl, hb5⟩
            go_wp2_with fail
            go_roundw
            case rel => exact ⟨k + 1, mm, F3, by omega, by go_num, HS4.out.stay hb5⟩
            case measure => simp [intOf]; omega
          · simp only [if_true]
            have HD := Lib.hid hd
            clear hd
            go_wp2_with fail
            refine (is_down HS4.out.disk).mono ?_
            rintro e w4 ⟨rfl, rfl⟩
            rw [HD.out]
            go_wp2_with fail
            go_roundw
            case rel => exact ⟨k + 1, mm, F3, by omega, by go_num, HS4.out⟩
            case measure => simp [intOf]; omega
        · go_wp2_with fail
          have HS1 := Lib.hid (SS.out.stay (below_alloc (o := .cells #[.int .u8 x.b1, .int .u8 x.b2, .int .i64 x.at_, .int .i64 x.n, .string x.s, .slice x.ka x.kn x.kc] 34) (Below.refl _ wr)))
          refine (is_fuse HS1.out.disk x.n kn.1 kn.2).mono ?_
          rintro e w3 ⟨rfl, hG⟩
          obtain ⟨F3, S3⟩ := HS1.out.next hG ((HS1.out.ok.setFuse x.n kn.2).mono (by omega) : DOk _ (k + 1 + 1)) (HS1.out.keep.setFuse _)
          clear hG
          obtain ⟨mm, S4⟩ : ∃ mm, SureAt w w3 d F3 mm (k + 1 + 1) i (fillB b) := ⟨_, S3⟩
          have HS4 := Lib.hid S4
          clear S3 S4
          go_wp2_with fail
          refine (is_read HS4.out.disk i (by omega) (by omega)).mono ?_
          rintro e w4 ⟨rfl, rfl⟩
          rw [HS4.out.keep.read]
          cases hd : mm.down
          · simp only [Bool.false_eq_true, if_false]
            have HD := Lib.hid hd
            clear hd
            go_wp2_with fail
            refine (is_down HS4.out.disk).mono ?_
            rintro e w4 ⟨rfl, rfl⟩
            rw [HD.out]
            go_wp2_with fail
            refine (fill_any b _ h3 h4).mono ?_
            rintro e w5 ⟨rfl, hb5⟩
            go_wp2_with fail
            go_roundw
            case rel => exact ⟨k + 1, mm, F3, by omega, by go_num, HS4.out.stay hb5⟩
            case measure => simp [intOf]; omega
          · simp only [if_true]
            have HD := Lib.hid hd
            clear hd
            go_wp2_with fail
            refine (is_down HS4.out.disk).mono ?_
            rintro e w4 ⟨rfl, rfl⟩
            rw [HD.out]
            go_wp2_with fail
            go_roundw
            case rel => exact ⟨k + 1, mm, F3, by omega, by go_num, HS4.out⟩
            case measure => simp [intOf]; omega
        · go_wp2_with fail
          have HS1 := Lib.hid (SS.out.stay (below_alloc (o := .cells #[.int .u8 x.b1, .int .u8 x.b2, .int .i64 x.at_, .int .i64 x.n, .string x.s, .slice x.ka x.kn x.kc] 34) (Below.refl _ wr)))
          refine (is_crash (kf := x.kf) HS1.out.disk HS1.out.ok (by omega) x.n x.at_ (keepAt_alloc HX.out.keep _ 0) (fun b off ha h0 hm => by have := HX.out.keepB b off ha h0; have := HS1.out.own b hm; omega) ka.1 ka.2).mono ?_
          rintro e w3 ⟨rfl, hG⟩
          obtain ⟨F3, S3⟩ := HS1.out.next hG ((HS1.out.ok.crash x.kn x.kf x.n x.at_).mono (by omega) : DOk _ (k + 1 + 1)) (HS1.out.keep.crash HS1.out.ok.wait _ _ _ _)
          clear hG
          obtain ⟨mm, S4⟩ : ∃ mm, SureAt w w3 d F3 mm (k + 1 + 1) i (fillB b) := ⟨_, S3⟩
          have HS4 := Lib.hid S4
          clear S3 S4
          go_wp2_with fail
          refine (is_read HS4.out.disk i (by omega) (by omega)).mono ?_
          rintro e w4 ⟨rfl, rfl⟩
          rw [HS4.out.keep.read]
          cases hd : mm.down
          · simp only [Bool.false_eq_true, if_false]
            have HD := Lib.hid hd
            clear hd
            go_wp2_with fail
            refine (is_down HS4.out.disk).mono ?_
            rintro e w4 ⟨rfl, rfl⟩
            rw [HD.out]
            go_wp2_with fail
            refine (fill_any b _ h3 h4).mono ?_
            rintro e w5 ⟨rfl, hb5⟩
            go_wp2_with fail
            go_roundw
            case rel => exact ⟨k + 1, mm, F3, by omega, by go_num, HS4.out.stay hb5⟩
            case measure => simp [intOf]; omega
          · simp only [if_true]
            have HD := Lib.hid hd
            clear hd
            go_wp2_with fail
            refine (is_down HS4.out.disk).mono ?_
            rintro e w4 ⟨rfl, rfl⟩
            rw [HD.out]
            go_wp2_with fail
            go_roundw
            case rel => exact ⟨k + 1, mm, F3, by omega, by go_num, HS4.out⟩
            case measure => simp [intOf]; omega
        · go_wp2_with fail
          have HS1 := Lib.hid (SS.out.stay (below_alloc (o := .cells #[.int .u8 x.b1, .int .u8 x.b2, .int .i64 x.at_, .int .i64 x.n, .string x.s, .slice x.ka x.kn x.kc] 34) (Below.refl _ wr)))
          obtain ⟨w3, hw3⟩ : ∃ w3 : World, w3 = wr.alloc (.cells #[.int .u8 x.b1, .int .u8 x.b2, .int .i64 x.at_, .int .i64 x.n, .string x.s, .slice x.ka x.kn x.kc] 34) := ⟨_, rfl⟩
          rw [← hw3]
          have S3 := HS1.out.more (k' := k + 1 + 1) (by omega)
          rw [← hw3] at S3
          clear hw3
          obtain ⟨mm, S4⟩ : ∃ mm, SureAt w w3 d F mm (k + 1 + 1) i (fillB b) := ⟨_, S3⟩
          have HS4 := Lib.hid S4
          clear S3 S4
          refine (is_read HS4.out.disk i (by omega) (by omega)).mono ?_
          rintro e w4 ⟨rfl, rfl⟩
          rw [HS4.out.keep.read]
          cases hd : mm.down
          · simp only [Bool.false_eq_true, if_false]
            have HD := Lib.hid hd
            clear hd
            go_wp2_with fail
            refine (is_down HS4.out.disk).mono ?_
            rintro e w4 ⟨rfl, rfl⟩
            rw [HD.out]
            go_wp2_with fail
            refine (fill_any b _ h3 h4).mono ?_
            rintro e w5 ⟨rfl, hb5⟩
            go_wp2_with fail
            go_roundw
            case rel => exact ⟨k + 1, mm, F, by omega, by go_num, HS4.out.stay hb5⟩
            case measure => simp [intOf]; omega
          · simp only [if_true]
            have HD := Lib.hid hd
            clear hd
            go_wp2_with fail
            refine (is_down HS4.out.disk).mono ?_
            rintro e w4 ⟨rfl, rfl⟩
            rw [HD.out]
            go_wp2_with fail
            go_roundw
            case rel => exact ⟨k + 1, mm, F, by omega, by go_num, HS4.out⟩
            case measure => simp [intOf]; omega
        · go_wp2_with fail
          have HS1 := Lib.hid (SS.out.stay (below_alloc (o := .cells #[.int .u8 x.b1, .int .u8 x.b2, .int .i64 x.at_, .int .i64 x.n, .string x.s, .slice x.ka x.kn x.kc] 34) (Below.refl _ wr)))
          refine (fill_any x.b2 _ ku2.1 ku2.2).mono ?_
          rintro e w2 ⟨rfl, hb2⟩
          have HS2 := Lib.hid (HS1.out.stay hb2)
          clear hb2
          go_wp2_with fail
          refine (is_write HS2.out.disk HS2.out.ok (by omega) t _ (by omega) (by omega) (by rw [fillB_size]; omega)).mono ?_
          rintro e w3 ⟨rfl, hG⟩
          obtain ⟨F3, S3⟩ := HS2.out.next hG (HS2.out.ok.write _ _) (HS2.out.keep.write _ _ hti)
          clear hG
          obtain ⟨mm, S4⟩ : ∃ mm, SureAt w w3 d F3 mm (k + 1 + 1) i (fillB b) := ⟨_, S3⟩
          have HS4 := Lib.hid S4
          clear S3 S4
          go_wp2_with fail
          refine (is_read HS4.out.disk i (by omega) (by omega)).mono ?_
          rintro e w4 ⟨rfl, rfl⟩
          rw [HS4.out.keep.read]
          cases hd : mm.down
          · simp only [Bool.false_eq_true, if_false]
            have HD := Lib.hid hd
            clear hd
            go_wp2_with fail
            refine (is_down HS4.out.disk).mono ?_
            rintro e w4 ⟨rfl, rfl⟩
            rw [HD.out]
            go_wp2_with fail
            refine (fill_any b _ h3 h4).mono ?_
            rintro e w5 ⟨rfl, hb5⟩
            go_wp2_with fail
            go_roundw
            case rel => exact ⟨k + 1, mm, F3, by omega, by go_num, HS4.out.stay hb5⟩
            case measure => simp [intOf]; omega
          · simp only [if_true]
            have HD := Lib.hid hd
            clear hd
            go_wp2_with fail
            refine (is_down HS4.out.disk).mono ?_
            rintro e w4 ⟨rfl, rfl⟩
            rw [HD.out]
            go_wp2_with fail
            go_roundw
            case rel => exact ⟨k + 1, mm, F3, by omega, by go_num, HS4.out⟩
            case measure => simp [intOf]; omega
      · obtain rfl : k = n := by omega
        have SS := Lib.hid hS
        clear hS
        go_wp2_with fail
        refine (is_crash (kf := kf0) SS.out.disk SS.out.ok (by omega) (-1) 0 (.inl rfl) (fun _ _ h => by cases h) (by omega) (by omega)).mono ?_
        rintro e w3 ⟨rfl, hG⟩
        obtain ⟨F3, S3⟩ := SS.out.next hG (SS.out.ok.crash 0 kf0 (-1) 0) (SS.out.keep.crash SS.out.ok.wait _ _ _ _)
        have HS3 := Lib.hid S3
        clear hG S3
        go_wp2_with fail
        refine (is_read HS3.out.disk i (by omega) (by omega)).mono ?_
        rintro e w4 ⟨rfl, rfl⟩
        rw [HS3.out.keep.read, show (crM m 0 kf0 (-1) 0).down = false from rfl]
        simp only [Bool.false_eq_true, if_false]
        go_wp2_with fail
        refine (fill_any b _ h3 h4).mono ?_
        rintro e w5 ⟨rfl, hb5⟩
        go_wp2_with fail
        go_ret
        exact ⟨rfl, (HS3.out.stay hb5).below⟩

end Go.Proofs.Yteijagojagfecaa
