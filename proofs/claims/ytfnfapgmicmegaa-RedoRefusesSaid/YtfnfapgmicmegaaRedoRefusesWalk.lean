/- The walk of the law RedoRefuses. -/
import Derived.Test.YtfnfapgmicmegaaRedoA
import Derived.Test.YtfnfapgmicmegaaStrsOpen
namespace Go.Proofs.Ytfnfapgmicmegaa
open Go.RowKit Go.Joins
set_option linter.unusedVariables false

/-- Is a page of these of another length, or is there none? -/
def badL (l : List ByteArray) (j : Nat) : Bool := decide (l.length = 0) || (l.take j).any fun s => decide (s.size ≠ 512)
theorem badL_zero (l : List ByteArray) : badL l 0 = decide (l.length = 0) := by simp [badL]
theorem badL_step (l : List ByteArray) (j : Nat) {s : ByteArray} (h : l[j]? = some s) : badL l (j + 1) = (badL l j || decide (s.size ≠ 512)) := by
  unfold badL; rw [← takeL_snoc l j h, List.any_append]; simp [Bool.or_assoc]
theorem badL_no {l : List ByteArray} (h : badL l l.length = false) : 0 < l.length ∧ ∀ p ∈ l, p.size = 512 := by
  unfold badL at h
  rw [List.take_length, Bool.or_eq_false_iff, decide_eq_false_iff_not] at h
  refine ⟨by omega, fun p hp => ?_⟩
  have := List.any_eq_false.1 h.2 p hp
  simpa using this
theorem badL_yes {l : List ByteArray} (h : badL l l.length = true) : l.length = 0 ∨ ∃ p ∈ l, p.size ≠ 512 := by
  unfold badL at h
  rw [List.take_length, Bool.or_eq_true, decide_eq_true_eq] at h
  refine h.imp id (fun h => ?_)
  obtain ⟨p, hp, hs⟩ := List.any_eq_true.1 h
  exact ⟨p, hp, by simpa using hs⟩

def manyP (n : Nat) : List ByteArray := List.replicate n (pageB 1 2)
theorem manyP_length (n : Nat) : (manyP n).length = n := List.length_replicate
theorem manyP_size (n : Nat) : ∀ p ∈ manyP n, p.size = 512 := fun p hp => by rw [List.eq_of_mem_replicate hp]; exact pageB_size 1 2
def manyC (n : Nat) : List Value := (manyP n).map Value.string
theorem manyC_snoc (n : Nat) : manyC n ++ [.string (pageB 1 2)] = manyC (n + 1) := by
  unfold manyC manyP
  rw [List.replicate_succ', List.map_append]; rfl

/-- What the first call answers. -/
def refE (l : List ByteArray) : Int := if badL l l.length then 1 else if 64 < l.length then 10 else 0

set_option maxRecDepth 100000 in
/-- The first call. -/
theorem refuse_first {w0 w : World} {d lb : Nat} {F : List Nat} {m : DM} {a : Option Addr} {c : Nat} {l : List ByteArray} (h : LogOn w0 w d lb F ⟨0, 1000, 0, 0, false⟩ m 1000 0) (hl : StrsAt w a l) (hn : l.length ≤ 100) (hsep : ∀ b off, a = some ⟨b, off, none⟩ → 0 < l.length → b ∉ lb :: F) :
    Calls Try.prog 9 #[.pointer (some ⟨lb, 0, none⟩), .slice a l.length c] w fun e w' => e = .returned (.int .i64 (refE l)) ∧ ∃ F' l' m' k', LogOn w0 w' d lb F' l' m' 1000 k' ∧ l'.size = 1000 ∧ l'.at_ ≤ 577 ∧ k' ≤ 1000 := by
  have KEEP : ∀ w', Below w.heap.size w w' → ∃ F' l' m' k', LogOn w0 w' d lb F' l' m' 1000 k' ∧ l'.size = 1000 ∧ l'.at_ ≤ 577 ∧ k' ≤ 1000 := fun w' hb => ⟨F, _, m, 0, h.move hb, rfl, Nat.zero_le _, by omega⟩
  cases hb : badL l l.length
  · obtain ⟨hp, hall⟩ := badL_no hb
    have hpg : PgAt w a l (lb :: F) := by
      rcases hl with h | ⟨b, off, rfl, hc⟩
      · rw [h] at hp; simp at hp
      · exact ⟨b, off, rfl, hc, hsep b off rfl hp⟩
    by_cases h64 : 64 < l.length
    · have e : refE l = 10 := by unfold refE; rw [hb, if_neg (by decide), if_pos h64]
      rw [e]
      refine (append_on_no h (by omega) hp (by omega) hpg hall (e0 := 10) (by unfold apE; simp [h64]) (by decide)).mono ?_
      rintro e w' ⟨F', he, h'⟩
      exact ⟨he, F', _, m, 0, h', rfl, Nat.zero_le _, by omega⟩
    · have e : refE l = 0 := by unfold refE; rw [hb, if_neg (by decide), if_neg h64]
      rw [e]
      refine (append_on_ok h (by omega) hp (by omega) hpg hall (by show 0 + 1 + 9 * l.length ≤ 1000; omega)).mono ?_
      rintro e w' ⟨he, F', m', h'⟩
      exact ⟨he, F', _, m', _, h', rfl, by show 0 + 1 + 9 * l.length ≤ 577; omega, by omega⟩
  · have e : refE l = 1 := by unfold refE; rw [hb, if_pos rfl]
    rw [e]
    rcases badL_yes hb with h0 | hbad
    · rw [h0]
      exact (append_none w lb a c).mono fun e w' ⟨he, hb⟩ => ⟨he, KEEP w' hb⟩
    · have hp : 0 < l.length := by
        obtain ⟨p, hp, _⟩ := hbad
        exact List.length_pos_of_mem hp
      have hpg : PgAt w a l [] := by
        rcases hl with h | ⟨b, off, rfl, hc⟩
        · rw [h] at hp; simp at hp
        · exact ⟨b, off, rfl, hc, by simp⟩
      exact (append_len (m := m) hp (by omega) hpg hbad).mono fun e w' ⟨he, hb⟩ => ⟨he, KEEP w' hb⟩

theorem many_pg {w : World} {B : Nat} {a : Option Addr} {c n : Nat} {L : List Nat} (h : w.ownsRow B 9 1 (.slice a n c) n (manyC n)) (hn : 0 < n) (hL : ∀ b ∈ L, b < B) : PgAt w a (manyP n) L := by
  obtain ⟨g, cap, e⟩ := ownsRow_form h hn
  injection e with e1 e2 e3
  subst e1
  refine ⟨g, 0, rfl, fun j x hx => ?_, fun hm => ?_⟩
  · have := h.cells (g := g) rfl (j := j) (u := .string x) (by simp [manyC, hx])
    have ea : (⟨g, 0, none⟩ : Addr).add j = ⟨g, j, none⟩ := by unfold Addr.add; split <;> simp_all
    rw [ea] at this
    rw [Nat.zero_add]; exact this
  · have := (h.lt g rfl).1
    have := hL g hm
    omega
set_option maxRecDepth 100000 in
theorem second_big {w0 w : World} {d lb k : Nat} {F : List Nat} {l : LM} {m : DM} {a : Option Addr} {c n B : Nat} (h : LogOn w0 w d lb F l m 1000 k) (hk : k ≤ 1000) (hrow : w.ownsRow B 9 1 (.slice a n c) n (manyC n)) (hn : 64 < n) (hn2 : n ≤ 255) (hB : ∀ b ∈ lb :: F, b < B) :
    Calls Try.prog 9 #[.pointer (some ⟨lb, 0, none⟩), .slice a n c] w fun e w' => e = .returned (.int .i64 10) ∧ Below w0.heap.size w0 w' := by
  have := append_on_no (c := c) h (by omega) (pages := manyP n) (by rw [manyP_length]; omega) (by rw [manyP_length]; omega) (many_pg hrow (by omega) hB) (manyP_size n) (e0 := 10) (by unfold apE; rw [h.alive, manyP_length]; simp [hn]) (by decide)
  rw [manyP_length] at this
  exact this.mono fun e w' ⟨F', he, h'⟩ => ⟨he, h'.below⟩
set_option maxRecDepth 100000 in
theorem second_small {w0 w : World} {d lb k : Nat} {F : List Nat} {l : LM} {m : DM} {a : Option Addr} {c n B : Nat} (h : LogOn w0 w d lb F l m 1000 k) (hs : l.size = 1000) (hat : l.at_ ≤ 577) (hk : k ≤ 1000) (hrow : w.ownsRow B 9 1 (.slice a n c) n (manyC n)) (hn : ¬ 64 < n) (hB : ∀ b ∈ lb :: F, b < B) :
    Calls Try.prog 9 #[.pointer (some ⟨lb, 0, none⟩), .slice a n c] w fun e w' => ∃ e2, e = .returned (.int .i64 e2) ∧ e2 ≠ 10 ∧ Below w0.heap.size w0 w' := by
  by_cases h0 : n = 0
  · subst h0
    exact (append_none w lb a c).mono fun e w' ⟨he, hb⟩ => ⟨1, he, by decide, h.below.trans (hb.mono h.size)⟩
  · by_cases hr : l.at_ + 1 + 9 * n ≤ l.size
    · have := append_on_ok (c := c) h (by omega) (pages := manyP n) (by rw [manyP_length]; omega) (by rw [manyP_length]; omega) (many_pg hrow (by omega) hB) (manyP_size n) (by rw [manyP_length]; exact hr)
      rw [manyP_length] at this
      exact this.mono fun e w' ⟨he, F', m', h'⟩ => ⟨0, he, by decide, h'.below⟩
    · have := append_on_no (c := c) h (by omega) (pages := manyP n) (by rw [manyP_length]; omega) (by rw [manyP_length]; omega) (many_pg hrow (by omega) hB) (manyP_size n) (e0 := 9) (by unfold apE; rw [h.alive, manyP_length]; simp [hn]; omega) (by decide)
      rw [manyP_length] at this
      exact this.mono fun e w' ⟨F', he, h'⟩ => ⟨9, he, by decide, h'.below⟩

set_option maxRecDepth 100000 in
set_option maxHeartbeats 8000000 in
theorem redoRefuses_walk {w : World} {a : Option Addr} {n c : Nat} {l : List ByteArray} (hS : StrArg w a n l) (many : Int) (m0 : 0 ≤ many) (m1 : many ≤ 255) :
    Calls Try.prog 3 #[.slice a n c, .int .u8 many] w fun e w' => e = .returned (.bool true) ∧ Below w.heap.size w w' := by
  obtain ⟨mn, rfl⟩ := Int.eq_ofNat_of_zero_le m0
  have hmn : mn ≤ 255 := by omega
  have hmax := hS.max
  have HS := Lib.hid hS
  obtain ⟨i0, hi, hz0, hz1, hz2⟩ := info_parts Try.infoStr
  clear hS
  by_cases hbig : 100 < n
  · go_enter Try.func3, Try.ntmps3
    go_wp2_with fail
    refine (awake09_any _).mono ?_
    rintro e w1 ⟨rfl, hb1⟩
    have HB1 := Lib.hid hb1
    clear hb1
    go_wp2_with fail
    refine (awake09_any _).mono ?_
    rintro e w2 ⟨rfl, hb2⟩
    go_wp2_with fail
    go_ret
    exact ⟨rfl, below_step hb2 HB1.out⟩
  · go_enter Try.func3, Try.ntmps3
    go_wp2_with fail
    refine (awake09_any _).mono ?_
    rintro e w1 ⟨rfl, hb1⟩
    have HB1 := Lib.hid hb1
    clear hb1
    go_wp2_with fail
    refine (new_any 1000 _ (by omega) (by omega)).mono ?_
    rintro e w2 ⟨d, rfl, F1, hD1, hb2, hF1⟩
    have HB2 := Lib.hid (below_step hb2 HB1.out)
    have hF2 : ∀ b ∈ F1, w.heap.size ≤ b := fun b hb => Nat.le_trans HB1.out.size (hF1 b hb)
    have HO := Lib.hid (open_fresh hD1 HB2.out hF2 (by omega) (by omega) 0 (by omega) (by omega))
    clear hD1 hb2 hF1 hF2
    go_wp2_with fail
    refine HO.out.mono ?_
    rintro e w3 ⟨a1, c1, rfl, h3⟩
    have H3 := Lib.hid (h3.as (l' := ⟨0, 1000, 0, 0, false⟩) rfl rfl)
    have hat3 : StrsAt w3 a l := by
      rcases HS.out.lies with h | ⟨b, off, ha, hc⟩
      · exact .inl h
      · exact .inr ⟨b, off, ha, fun j x hx => (H3.out.below.cell (p := ⟨b, off + j, none⟩) (cell_lt (hc j x hx))).trans (hc j x hx)⟩
    have hsep : ∀ b off, a = some ⟨b, off, none⟩ → 0 < l.length → b ∉ w2.heap.size :: F1 := fun b off ha hp hm => by
      rcases HS.out.lies with h | ⟨b', off', ha', hc⟩
      · rw [h] at hp; simp at hp
      · rw [ha'] at ha
        injection ha with ha
        injection ha with e1 e2
        subst e1
        have h1 := cell_lt (hc 0 _ (List.getElem?_eq_getElem hp))
        have h2 := H3.out.fresh _ hm
        omega
    have hfirst := refuse_first (c := c) H3.out hat3 (by rw [← HS.out.len]; omega) hsep
    rw [← HS.out.len] at hfirst
    have HFI := Lib.hid hfirst
    have HAT := Lib.hid hat3
    have HBZ := Lib.hid (badL_zero l)
    clear h3 hat3 hsep hfirst
    have hz : ((n : Int) == 0) = decide (l.length = 0) := by
      rw [← HS.out.len]
      by_cases h : n = 0
      · simp [h]
      · have : ((n : Int) == 0) = false := by rw [beq_eq_false_iff_ne]; omega
        rw [this]; simp [h]
    have hz2 : (n == 0) = decide (l.length = 0) := by
      rw [← HS.out.len]
      by_cases h : n = 0 <;> simp [h]
    have HZ := Lib.hid hz
    have HZ2 := Lib.hid hz2
    clear hz hz2
    cases hb0 : decide (l.length = 0)
    all_goals
      rw [hb0] at HZ HZ2 HBZ
      have hz := HZ.out
      have hz2 := HZ2.out
      have HNZ := Lib.hid hb0
      clear hb0
      go_wp2_with fail
      clear hz hz2
      go_loop [10, 11] (fun u v => ∃ j : Nat, j ≤ n ∧ v = .int .i64 j ∧ u = .bool (badL l j)) (fun _ v => n - (intOf v).toNat)
      case atStart => exact ⟨0, Nat.zero_le _, rfl, by rw [HBZ.out]⟩
      case round =>
        obtain ⟨j, hj, rfl, rfl⟩ := hrel
        by_cases hlt : j < n
        · obtain ⟨p, hp⟩ : ∃ p, l[j]? = some p := ⟨l[j]'(by rw [← HS.out.len]; exact hlt), List.getElem?_eq_getElem _⟩
          obtain ⟨b, off, ha, hc⟩ : ∃ b off, a = some ⟨b, off, none⟩ ∧ ∀ (j : Nat) x, l[j]? = some x → w3.cell? ⟨b, off + j, none⟩ = some (.string x) := by
            rcases HAT.out with h | h
            · rw [h] at hp; simp at hp
            · exact h
          have hcell := hc j p hp
          have HST := Lib.hid (badL_step l j hp)
          subst ha
          clear hp hc
          cases hbj : badL l j
          · rw [hbj] at HST
            by_cases hs : p.size = 512
            · have t : ((p.size : Int) != 512) = false := by rw [hs]; rfl
              have e : badL l (j + 1) = false := by rw [HST.out, hs]; rfl
              have HE := Lib.hid e
              clear hbj hs e
              go_wp2
              go_round
              case rel => exact ⟨j + 1, by omega, by go_num, by rw [HE.out]⟩
              case measure => simp [intOf]; omega
            · have t : ((p.size : Int) != 512) = true := by simp; omega
              have e : badL l (j + 1) = true := by rw [HST.out]; simpa using hs
              have HE := Lib.hid e
              clear hbj hs e
              go_wp2
              go_round
              case rel => exact ⟨j + 1, by omega, by go_num, by rw [HE.out]⟩
              case measure => simp [intOf]; omega
          · have e : badL l (j + 1) = true := by rw [HST.out, hbj]; rfl
            have HE := Lib.hid e
            clear hbj e
            go_wp2
            go_round
            case rel => exact ⟨j + 1, by omega, by go_num, by rw [HE.out]⟩
            case measure => simp [intOf]; omega
        · obtain rfl : j = n := by omega
          have HN := Lib.hid HS.out.len
          go_wp2_with fail
          refine HFI.out.mono ?_
          rintro e w4 ⟨rfl, F', l', m', k', hL, hl'1, hl'2, hl'3⟩
          have hlen := HN.out
          cases hbn : badL l j
          · by_cases h64 : 64 < j
            · have hre : refE l = 10 := by unfold refE; rw [← hlen, hbn, if_neg (by decide), if_pos h64]
              rw [hre]
              clear hbn hre hlen
              have d1 : decide ((64 : Int) < (j : Int)) = true := by simp; omega
              have d2 : decide ((j : Int) ≤ 64) = false := by simp; omega
              have HL := Lib.hid hL
              clear hL
              go_wp2_with fail
              go_loopw [13, 14] (fun u c wr => ∃ t : Nat, t ≤ mn ∧ c = .int .i64 t ∧ wr.ownsRow w4.heap.size 9 1 u t (manyC t) ∧ Below w4.heap.size w4 wr) (fun _ c _ => mn - (intOf c).toNat)
              case atStart => exact ⟨0, Nat.zero_le _, rfl, World.ownsRow_nil _ _ _ _, Below.refl _ _⟩
              case round =>
                obtain ⟨t, hj, rfl, hown, hb⟩ := hrel
                have hsz := hb.size
                by_cases hltm : t < mn
                · have HM := Lib.hid (manyC_snoc t)
                  have HB := Lib.hid hb
                  have HO := Lib.hid hown
                  clear hb hown
                  go_wp2_with fail
                  refine (page_any 1 2 _ (by omega) (by omega) (by omega) (by omega)).mono ?_
                  rintro e w5 ⟨rfl, hb5⟩
                  have HB5 := Lib.hid (below_step hb5 HB.out)
                  have ho5 := ownsRow_touch HO.out (F := []) (Touch.of_below hb5) (by simp)
                  have hs5 := hb5.size
                  have HO5 := Lib.hid ho5
                  clear hb5 ho5
                  go_wp2_with (at_builtin; refine wpList_append_own _ rfl (.tmp 93) (.tmp 95) 22 rfl w4.heap.size 9 i0 (.string ⟨#[]⟩) 1 16 Try.underlying22 hi hz0 hz1 hz2 rfl (by decide) _ t (manyC t) rfl (HO5.out.alloc _) ⟨w5.heap.size, 0, none⟩ 1 1 [.string (pageB 1 2)] rfl rfl (cell_one_new _ _ _) (by intro u hu; simp at hu; subst hu; rfl) (by unfold maxLen; omega) (by omega) (by simp; omega) ?_; intro v' w6 hown' hgrow _; rw [HM.out] at hown'; have HO6 := Lib.hid hown'; have HB6 := Lib.hid ((below_alloc (o := .cells #[.string (pageB 1 2)] 9) HB5.out).grown hgrow (by simp; omega) (fun q hq => (HO5.out.lt q hq).1)); clear hown' hgrow)
                  go_roundw
                  case rel => exact ⟨t + 1, by omega, by go_num, HO6.out, HB6.out⟩
                  case measure => simp [intOf]; omega
                · obtain rfl : t = mn := by omega
                  have hform : ∃ a c, u13 = .slice a t c := by
                    rcases ownsRow_forms hown with ⟨e, h0⟩ | ⟨g, cap, e⟩
                    · exact ⟨none, 0, by rw [h0]; exact e⟩
                    · exact ⟨_, _, e⟩
                  obtain ⟨a2, c2, rfl⟩ := hform
                  have H4 := Lib.hid (HL.out.move hb)
                  by_cases hbig : 64 < t
                  · have HSE := Lib.hid (second_big (c := c2) H4.out hl'3 hown hbig (by omega) (by have := hb.size; exact fun b hb' => by have := HL.out.lt b hb'; omega))
                    have tt1 : decide ((64 : Int) < (t : Int)) = true := by simp; omega
                    clear hown hb
                    go_wp2_with fail
                    refine HSE.out.mono ?_
                    rintro e w5 ⟨rfl, hb5⟩
                    have HB5 := Lib.hid hb5
                    clear hb5
                    go_wp2_with fail
                    refine (append_nil _ _ ⟨_, _, _, rfl⟩).mono ?_
                    rintro e w6 ⟨rfl, hb6⟩
                    have HB6 := Lib.hid (HB5.out.trans (hb6.mono HB5.out.size))
                    clear hb6
                    go_wp2_with fail
                    refine (left_nil _).mono ?_
                    rintro e w7 ⟨rfl, rfl⟩
                    go_wp2_with fail
                    refine (next_nil _).mono ?_
                    rintro e w7 ⟨rfl, rfl⟩
                    go_wp2_with fail
                    refine (restart_nil _).mono ?_
                    rintro e w7 ⟨rfl, rfl⟩
                    go_wp2_with fail
                    go_ret
                    exact ⟨rfl, HB6.out⟩
                  · have HSE := Lib.hid (second_small (c := c2) H4.out hl'1 hl'2 hl'3 hown hbig (by have := hb.size; exact fun b hb' => by have := HL.out.lt b hb'; omega))
                    have tt1 : decide ((64 : Int) < (t : Int)) = false := by simp; omega
                    clear hown hb
                    go_wp2_with fail
                    refine HSE.out.mono ?_
                    rintro e w5 ⟨e2, rfl, he2, hb5⟩
                    have tt2 : (e2 == 10) = false := by simpa using he2
                    have HB5 := Lib.hid hb5
                    clear hb5 he2
                    go_wp2_with fail
                    refine (append_nil _ _ ⟨_, _, _, rfl⟩).mono ?_
                    rintro e w6 ⟨rfl, hb6⟩
                    have HB6 := Lib.hid (HB5.out.trans (hb6.mono HB5.out.size))
                    clear hb6
                    go_wp2_with fail
                    refine (left_nil _).mono ?_
                    rintro e w7 ⟨rfl, rfl⟩
                    go_wp2_with fail
                    refine (next_nil _).mono ?_
                    rintro e w7 ⟨rfl, rfl⟩
                    go_wp2_with fail
                    refine (restart_nil _).mono ?_
                    rintro e w7 ⟨rfl, rfl⟩
                    go_wp2_with fail
                    go_ret
                    exact ⟨rfl, HB6.out⟩
            · have hre : refE l = 0 := by unfold refE; rw [← hlen, hbn, if_neg (by decide), if_neg h64]
              rw [hre]
              clear hbn hre hlen
              have d1 : decide ((64 : Int) < (j : Int)) = false := by simp; omega
              have d2 : decide ((j : Int) ≤ 64) = true := by simp; omega
              have HL := Lib.hid hL
              clear hL
              go_wp2_with fail
              go_loopw [13, 14] (fun u c wr => ∃ t : Nat, t ≤ mn ∧ c = .int .i64 t ∧ wr.ownsRow w4.heap.size 9 1 u t (manyC t) ∧ Below w4.heap.size w4 wr) (fun _ c _ => mn - (intOf c).toNat)
              case atStart => exact ⟨0, Nat.zero_le _, rfl, World.ownsRow_nil _ _ _ _, Below.refl _ _⟩
              case round =>
                obtain ⟨t, hj, rfl, hown, hb⟩ := hrel
                have hsz := hb.size
                by_cases hltm : t < mn
                · have HM := Lib.hid (manyC_snoc t)
                  have HB := Lib.hid hb
                  have HO := Lib.hid hown
                  clear hb hown
                  go_wp2_with fail
                  refine (page_any 1 2 _ (by omega) (by omega) (by omega) (by omega)).mono ?_
                  rintro e w5 ⟨rfl, hb5⟩
                  have HB5 := Lib.hid (below_step hb5 HB.out)
                  have ho5 := ownsRow_touch HO.out (F := []) (Touch.of_below hb5) (by simp)
                  have hs5 := hb5.size
                  have HO5 := Lib.hid ho5
                  clear hb5 ho5
                  go_wp2_with (at_builtin; refine wpList_append_own _ rfl (.tmp 93) (.tmp 95) 22 rfl w4.heap.size 9 i0 (.string ⟨#[]⟩) 1 16 Try.underlying22 hi hz0 hz1 hz2 rfl (by decide) _ t (manyC t) rfl (HO5.out.alloc _) ⟨w5.heap.size, 0, none⟩ 1 1 [.string (pageB 1 2)] rfl rfl (cell_one_new _ _ _) (by intro u hu; simp at hu; subst hu; rfl) (by unfold maxLen; omega) (by omega) (by simp; omega) ?_; intro v' w6 hown' hgrow _; rw [HM.out] at hown'; have HO6 := Lib.hid hown'; have HB6 := Lib.hid ((below_alloc (o := .cells #[.string (pageB 1 2)] 9) HB5.out).grown hgrow (by simp; omega) (fun q hq => (HO5.out.lt q hq).1)); clear hown' hgrow)
                  go_roundw
                  case rel => exact ⟨t + 1, by omega, by go_num, HO6.out, HB6.out⟩
                  case measure => simp [intOf]; omega
                · obtain rfl : t = mn := by omega
                  have hform : ∃ a c, u13 = .slice a t c := by
                    rcases ownsRow_forms hown with ⟨e, h0⟩ | ⟨g, cap, e⟩
                    · exact ⟨none, 0, by rw [h0]; exact e⟩
                    · exact ⟨_, _, e⟩
                  obtain ⟨a2, c2, rfl⟩ := hform
                  have H4 := Lib.hid (HL.out.move hb)
                  by_cases hbig : 64 < t
                  · have HSE := Lib.hid (second_big (c := c2) H4.out hl'3 hown hbig (by omega) (by have := hb.size; exact fun b hb' => by have := HL.out.lt b hb'; omega))
                    have tt1 : decide ((64 : Int) < (t : Int)) = true := by simp; omega
                    clear hown hb
                    go_wp2_with fail
                    refine HSE.out.mono ?_
                    rintro e w5 ⟨rfl, hb5⟩
                    have HB5 := Lib.hid hb5
                    clear hb5
                    go_wp2_with fail
                    refine (append_nil _ _ ⟨_, _, _, rfl⟩).mono ?_
                    rintro e w6 ⟨rfl, hb6⟩
                    have HB6 := Lib.hid (HB5.out.trans (hb6.mono HB5.out.size))
                    clear hb6
                    go_wp2_with fail
                    refine (left_nil _).mono ?_
                    rintro e w7 ⟨rfl, rfl⟩
                    go_wp2_with fail
                    refine (next_nil _).mono ?_
                    rintro e w7 ⟨rfl, rfl⟩
                    go_wp2_with fail
                    refine (restart_nil _).mono ?_
                    rintro e w7 ⟨rfl, rfl⟩
                    go_wp2_with fail
                    go_ret
                    exact ⟨rfl, HB6.out⟩
                  · have HSE := Lib.hid (second_small (c := c2) H4.out hl'1 hl'2 hl'3 hown hbig (by have := hb.size; exact fun b hb' => by have := HL.out.lt b hb'; omega))
                    have tt1 : decide ((64 : Int) < (t : Int)) = false := by simp; omega
                    clear hown hb
                    go_wp2_with fail
                    refine HSE.out.mono ?_
                    rintro e w5 ⟨e2, rfl, he2, hb5⟩
                    have tt2 : (e2 == 10) = false := by simpa using he2
                    have HB5 := Lib.hid hb5
                    clear hb5 he2
                    go_wp2_with fail
                    refine (append_nil _ _ ⟨_, _, _, rfl⟩).mono ?_
                    rintro e w6 ⟨rfl, hb6⟩
                    have HB6 := Lib.hid (HB5.out.trans (hb6.mono HB5.out.size))
                    clear hb6
                    go_wp2_with fail
                    refine (left_nil _).mono ?_
                    rintro e w7 ⟨rfl, rfl⟩
                    go_wp2_with fail
                    refine (next_nil _).mono ?_
                    rintro e w7 ⟨rfl, rfl⟩
                    go_wp2_with fail
                    refine (restart_nil _).mono ?_
                    rintro e w7 ⟨rfl, rfl⟩
                    go_wp2_with fail
                    go_ret
                    exact ⟨rfl, HB6.out⟩
          · have hre : refE l = 1 := by unfold refE; rw [← hlen, hbn, if_pos rfl]
            rw [hre]
            clear hbn hre hlen
            have HL := Lib.hid hL
            clear hL
            go_wp2_with fail
            go_loopw [13, 14] (fun u c wr => ∃ t : Nat, t ≤ mn ∧ c = .int .i64 t ∧ wr.ownsRow w4.heap.size 9 1 u t (manyC t) ∧ Below w4.heap.size w4 wr) (fun _ c _ => mn - (intOf c).toNat)
            case atStart => exact ⟨0, Nat.zero_le _, rfl, World.ownsRow_nil _ _ _ _, Below.refl _ _⟩
            case round =>
              obtain ⟨t, hj, rfl, hown, hb⟩ := hrel
              have hsz := hb.size
              by_cases hltm : t < mn
              · have HM := Lib.hid (manyC_snoc t)
                have HB := Lib.hid hb
                have HO := Lib.hid hown
                clear hb hown
                go_wp2_with fail
                refine (page_any 1 2 _ (by omega) (by omega) (by omega) (by omega)).mono ?_
                rintro e w5 ⟨rfl, hb5⟩
                have HB5 := Lib.hid (below_step hb5 HB.out)
                have ho5 := ownsRow_touch HO.out (F := []) (Touch.of_below hb5) (by simp)
                have hs5 := hb5.size
                have HO5 := Lib.hid ho5
                clear hb5 ho5
                go_wp2_with (at_builtin; refine wpList_append_own _ rfl (.tmp 93) (.tmp 95) 22 rfl w4.heap.size 9 i0 (.string ⟨#[]⟩) 1 16 Try.underlying22 hi hz0 hz1 hz2 rfl (by decide) _ t (manyC t) rfl (HO5.out.alloc _) ⟨w5.heap.size, 0, none⟩ 1 1 [.string (pageB 1 2)] rfl rfl (cell_one_new _ _ _) (by intro u hu; simp at hu; subst hu; rfl) (by unfold maxLen; omega) (by omega) (by simp; omega) ?_; intro v' w6 hown' hgrow _; rw [HM.out] at hown'; have HO6 := Lib.hid hown'; have HB6 := Lib.hid ((below_alloc (o := .cells #[.string (pageB 1 2)] 9) HB5.out).grown hgrow (by simp; omega) (fun q hq => (HO5.out.lt q hq).1)); clear hown' hgrow)
                go_roundw
                case rel => exact ⟨t + 1, by omega, by go_num, HO6.out, HB6.out⟩
                case measure => simp [intOf]; omega
              · obtain rfl : t = mn := by omega
                have hform : ∃ a c, u13 = .slice a t c := by
                  rcases ownsRow_forms hown with ⟨e, h0⟩ | ⟨g, cap, e⟩
                  · exact ⟨none, 0, by rw [h0]; exact e⟩
                  · exact ⟨_, _, e⟩
                obtain ⟨a2, c2, rfl⟩ := hform
                have H4 := Lib.hid (HL.out.move hb)
                by_cases hbig : 64 < t
                · have HSE := Lib.hid (second_big (c := c2) H4.out hl'3 hown hbig (by omega) (by have := hb.size; exact fun b hb' => by have := HL.out.lt b hb'; omega))
                  have tt1 : decide ((64 : Int) < (t : Int)) = true := by simp; omega
                  clear hown hb
                  go_wp2_with fail
                  refine HSE.out.mono ?_
                  rintro e w5 ⟨rfl, hb5⟩
                  have HB5 := Lib.hid hb5
                  clear hb5
                  go_wp2_with fail
                  refine (append_nil _ _ ⟨_, _, _, rfl⟩).mono ?_
                  rintro e w6 ⟨rfl, hb6⟩
                  have HB6 := Lib.hid (HB5.out.trans (hb6.mono HB5.out.size))
                  clear hb6
                  go_wp2_with fail
                  refine (left_nil _).mono ?_
                  rintro e w7 ⟨rfl, rfl⟩
                  go_wp2_with fail
                  refine (next_nil _).mono ?_
                  rintro e w7 ⟨rfl, rfl⟩
                  go_wp2_with fail
                  refine (restart_nil _).mono ?_
                  rintro e w7 ⟨rfl, rfl⟩
                  go_wp2_with fail
                  go_ret
                  exact ⟨rfl, HB6.out⟩
                · have HSE := Lib.hid (second_small (c := c2) H4.out hl'1 hl'2 hl'3 hown hbig (by have := hb.size; exact fun b hb' => by have := HL.out.lt b hb'; omega))
                  have tt1 : decide ((64 : Int) < (t : Int)) = false := by simp; omega
                  clear hown hb
                  go_wp2_with fail
                  refine HSE.out.mono ?_
                  rintro e w5 ⟨e2, rfl, he2, hb5⟩
                  have tt2 : (e2 == 10) = false := by simpa using he2
                  have HB5 := Lib.hid hb5
                  clear hb5 he2
                  go_wp2_with fail
                  refine (append_nil _ _ ⟨_, _, _, rfl⟩).mono ?_
                  rintro e w6 ⟨rfl, hb6⟩
                  have HB6 := Lib.hid (HB5.out.trans (hb6.mono HB5.out.size))
                  clear hb6
                  go_wp2_with fail
                  refine (left_nil _).mono ?_
                  rintro e w7 ⟨rfl, rfl⟩
                  go_wp2_with fail
                  refine (next_nil _).mono ?_
                  rintro e w7 ⟨rfl, rfl⟩
                  go_wp2_with fail
                  refine (restart_nil _).mono ?_
                  rintro e w7 ⟨rfl, rfl⟩
                  go_wp2_with fail
                  go_ret
                  exact ⟨rfl, HB6.out⟩

end Go.Proofs.Ytfnfapgmicmegaa
