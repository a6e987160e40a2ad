/- The acts of layer 12; few, done. -/
import Derived.Test.YteijagojagfecaaSlotLeftsWalk
import Derived.Test.YteijagojagfecaaStructs
import Derived.ProofKit
namespace Go.Proofs.Yteijagojagfecaa
open Go.RowKit Go.Joins
set_option linter.unusedVariables false

structure ActS where
  b1 : Int
  i : Int
  s : ByteArray
structure ActSOk (x : ActS) : Prop where
  u1 : 0 ≤ x.b1 ∧ x.b1 ≤ 255
  i : -9223372036854775808 ≤ x.i ∧ x.i ≤ 9223372036854775807
  s : x.s.size ≤ 9223372036854775807
/-- The acts lie at an address, three cells each; an empty list has no place. -/
structure ActsS (w : World) (a : Option Addr) (n : Nat) (l : List ActS) : Prop where
  len : n = l.length
  max : n ≤ 9223372036854775807
  ok : ∀ x ∈ l, ActSOk x
  at_ : l = [] ∨ ∃ b off, a = some ⟨b, off, none⟩ ∧ ∀ (k : Nat) (x : ActS), l[k]? = some x →
    w.cell? ⟨b, off + k * 3, none⟩ = some (.int .u8 x.b1) ∧ w.cell? ⟨b, off + k * 3 + 1, none⟩ = some (.int .i64 x.i) ∧ w.cell? ⟨b, off + k * 3 + 2, none⟩ = some (.string x.s)
theorem ActsS.below {w w' : World} {a : Option Addr} {n : Nat} {l : List ActS} (h : ActsS w a n l) (hb : Below w.heap.size w w') : ActsS w' a n l := by
  refine ⟨h.len, h.max, h.ok, ?_⟩
  rcases h.at_ with h0 | ⟨b, off, ha, hc⟩
  · exact .inl h0
  · refine .inr ⟨b, off, ha, fun k x hx => ?_⟩
    obtain ⟨c0, c1, c2⟩ := hc k x hx
    exact ⟨(hb.cell (p := ⟨b, off + k * 3, none⟩) (cell_lt c0)).trans c0, (hb.cell (p := ⟨b, off + k * 3 + 1, none⟩) (cell_lt c1)).trans c1, (hb.cell (p := ⟨b, off + k * 3 + 2, none⟩) (cell_lt c2)).trans c2⟩
theorem ActsS.get {w : World} {a : Option Addr} {n : Nat} {l : List ActS} (h : ActsS w a n l) {k : Nat} (hk : k < n) : ∃ b off x, a = some ⟨b, off, none⟩ ∧ l[k]? = some x ∧ ActSOk x ∧
    w.cell? ⟨b, off + k * 3, none⟩ = some (.int .u8 x.b1) ∧ w.cell? ⟨b, off + k * 3 + 1, none⟩ = some (.int .i64 x.i) ∧ w.cell? ⟨b, off + k * 3 + 2, none⟩ = some (.string x.s) := by
  rcases h.at_ with h0 | ⟨b, off, ha, hc⟩
  · have := h.len; rw [h0] at this; simp at this; omega
  · have hx : l[k]? = some (l[k]'(by have := h.len; omega)) := List.getElem?_eq_getElem _
    exact ⟨b, off, _, ha, hx, h.ok _ (List.mem_of_getElem? hx), hc k _ hx⟩
def smallS (x : ActS) : Bool := decide (x.s.size ≤ 1000)
def fewS (l : List ActS) : Bool := decide (l.length ≤ 300) && l.all smallS
theorem fewS_stop {l : List ActS} {k : Nat} {x : ActS} (h : l[k]? = some x) (hx : 300 ≤ k ∨ 1000 < x.s.size) : fewS l = false := by
  unfold fewS
  rcases hx with hx | hx
  · have : k < l.length := (List.getElem?_eq_some_iff.1 h).1
    simp; intro h'; omega
  · have hm := List.mem_of_getElem? h
    have : l.all smallS = false := by
      rw [List.all_eq_false]
      exact ⟨x, hm, by simp [smallS]; omega⟩
    rw [this]; simp
theorem fewS_all {l : List ActS} (h0 : l.length ≤ 300) (h : ∀ (k : Nat) (x : ActS), l[k]? = some x → smallS x = true) : fewS l = true := by
  unfold fewS
  simp only [Bool.and_eq_true, decide_eq_true_eq, List.all_eq_true]
  refine ⟨h0, fun x hx => ?_⟩
  obtain ⟨k, hk⟩ := List.mem_iff_getElem?.1 hx
  exact h k x hk
theorem fewS_true {l : List ActS} (h : fewS l = true) : l.length ≤ 300 ∧ ∀ x ∈ l, x.s.size ≤ 1000 := by
  unfold fewS at h
  simp only [Bool.and_eq_true, decide_eq_true_eq, List.all_eq_true, smallS] at h
  exact ⟨h.1, fun x hx => h.2 x hx⟩

set_option maxRecDepth 100000 in
set_option maxHeartbeats 2000000 in
theorem fewS_any {w : World} {a : Option Addr} {n c : Nat} {l : List ActS} (h : ActsS w a n l) :
    Calls Try.prog 41 #[.slice a n c] w fun e w' => e = .returned (.bool (fewS l)) ∧ w = w' := by
  have hm := h.max
  have HN := Lib.hid h.len
  have H := Lib.hid h
  clear h
  go_enter Try.func41, Try.ntmps41
  go_wp2_with fail
  go_loop [3] (fun v => ∃ k : Nat, k ≤ n ∧ k ≤ 300 ∧ v = .int .i64 k ∧ ∀ (j : Nat) (x : ActS), j < k → l[j]? = some x → smallS x = true) (fun v => n - (intOf v).toNat)
  case atStart => exact ⟨0, Nat.zero_le _, Nat.zero_le _, rfl, fun j x hj => absurd hj (by omega)⟩
  case round =>
    obtain ⟨k, hk, hk3, rfl, hall⟩ := hrel
    have HA := Lib.hid hall
    clear hall
    by_cases hlt : k < n
    · obtain ⟨b, off, x, ha, hx, hok, c0, c1, c2⟩ := H.out.get hlt
      have k1 := hok.s
      have HX := Lib.hid hx
      clear hx hok
      subst ha
      by_cases q0 : k < 300
      · by_cases q2 : x.s.size ≤ 1000
        · go_wp2_with fail
          go_round
          case rel =>
            refine ⟨k + 1, by omega, by omega, by go_num, fun j y hj hy => ?_⟩
            by_cases e : j = k
            · subst e; have := HX.out.symm.trans hy; cases this; simp [smallS, q2]
            · exact HA.out j y (by omega) hy
          case measure => simp [intOf]; omega
        · have F := Lib.hid (fewS_stop HX.out (.inr (by omega)))
          go_wp2_with fail
          go_ret
          rw [F.out]
          exact ⟨rfl, rfl⟩
      · have F := Lib.hid (fewS_stop HX.out (.inl (by omega)))
        go_wp2_with fail
        go_ret
        rw [F.out]
        exact ⟨rfl, rfl⟩
    · obtain rfl : k = n := by omega
      have F := Lib.hid (fewS_all (l := l) (by rw [← HN.out]; exact hk3) (fun j x hx => HA.out j x (by have := (List.getElem?_eq_some_iff.1 hx).1; have := HN.out; omega) hx))
      go_wp2_with fail
      go_ret
      rw [F.out]
      exact ⟨rfl, rfl⟩

/-- A room behind a call. -/
def doneM (room : ByteArray) (x : ActS) : ByteArray :=
  if x.b1 % 4 = 0 then (if (addM room x.s).2.2 = 0 then (addM room x.s).1 else room)
  else if x.b1 % 4 = 1 then (if (setM room x.i x.s).2 = 0 then (setM room x.i x.s).1 else room)
  else if x.b1 % 4 = 2 then (if (delM room x.i).2 = 0 then (delM room x.i).1 else room)
  else room

set_option maxRecDepth 100000 in
set_option maxHeartbeats 4000000 in
theorem done_any (room : ByteArray) (x : ActS) (w : World) (hr : room.size ≤ 9223372036854775807) (hok : ActSOk x) :
    Calls Try.prog 43 #[.string room, .agg #[.int .u8 x.b1, .int .i64 x.i, .string x.s]] w fun e w' => e = .returned (.string (doneM room x)) ∧ Below w.heap.size w w' := by
  obtain ⟨b1, i, s⟩ := x
  obtain ⟨hu, hi, hs⟩ := hok
  simp only at hu hi hs
  have hk4 : b1 % 4 = 0 ∨ b1 % 4 = 1 ∨ b1 % 4 = 2 ∨ b1 % 4 = 3 := by omega
  have hA := fun W => addS_any room s W hr hs
  have hS := fun W => setS_any room i s W hr hi.1 hi.2 hs
  have hD := fun W => delS_any room i W hr hi.1 hi.2
  have hF : doneM room ⟨b1, i, s⟩ = if b1 % 4 = 0 then (if (addM room s).2.2 = 0 then (addM room s).1 else room) else if b1 % 4 = 1 then (if (setM room i s).2 = 0 then (setM room i s).1 else room) else if b1 % 4 = 2 then (if (delM room i).2 = 0 then (delM room i).1 else room) else room := rfl
  generalize addM room s = RA at *
  generalize setM room i s = RS at *
  generalize delM room i = RD at *
  obtain ⟨A1, A2, A3⟩ := RA
  obtain ⟨S1, S2⟩ := RS
  obtain ⟨D1, D2⟩ := RD
  have HA := fun W => Lib.hid (hA W); have HS := fun W => Lib.hid (hS W); have HD := fun W => Lib.hid (hD W)
  have HK := Lib.hid hk4
  clear hA hS hD hk4
  rcases HK.out with h4 | h4 | h4 | h4
  · by_cases hz : A3 = 0
    · have F := Lib.hid (hF.trans ((if_pos h4).trans (if_pos hz)))
      subst hz
      clear hF
      go_enter Try.func43, Try.ntmps43
      go_wp2_with fail
      refine (HA _).out.mono ?_
      rintro e w1 ⟨rfl, hb1⟩
      have HB1 := Lib.hid (below_step hb1 (below_alloc (o := .cells #[.int .u8 b1, .int .i64 i, .string s] 73) (Below.refl _ w)))
      clear hb1
      go_wp2_with fail
      go_ret
      rw [F.out]
      exact ⟨rfl, HB1.out⟩
    · have F := Lib.hid (hF.trans ((if_pos h4).trans (if_neg hz)))
      have q1 : (A3 == 0) = false := by simp [hz]
      have q2 : (A3 != 0) = true := by simp [hz]
      clear hF hz
      go_enter Try.func43, Try.ntmps43
      go_wp2_with fail
      refine (HA _).out.mono ?_
      rintro e w1 ⟨rfl, hb1⟩
      have HB1 := Lib.hid (below_step hb1 (below_alloc (o := .cells #[.int .u8 b1, .int .i64 i, .string s] 73) (Below.refl _ w)))
      clear hb1
      go_wp2_with fail
      go_ret
      rw [F.out]
      exact ⟨rfl, HB1.out⟩
  · rw [if_neg (by omega), if_pos h4] at hF
    by_cases hz : S2 = 0
    · have F := Lib.hid (hF.trans (if_pos hz))
      subst hz
      clear hF
      go_enter Try.func43, Try.ntmps43
      go_wp2_with fail
      refine (HS _).out.mono ?_
      rintro e w1 ⟨rfl, hb1⟩
      have HB1 := Lib.hid (below_step hb1 (below_alloc (o := .cells #[.int .u8 b1, .int .i64 i, .string s] 73) (Below.refl _ w)))
      clear hb1
      go_wp2_with fail
      go_ret
      rw [F.out]
      exact ⟨rfl, HB1.out⟩
    · have F := Lib.hid (hF.trans (if_neg hz))
      have q1 : (S2 == 0) = false := by simp [hz]
      have q2 : (S2 != 0) = true := by simp [hz]
      clear hF hz
      go_enter Try.func43, Try.ntmps43
      go_wp2_with fail
      refine (HS _).out.mono ?_
      rintro e w1 ⟨rfl, hb1⟩
      have HB1 := Lib.hid (below_step hb1 (below_alloc (o := .cells #[.int .u8 b1, .int .i64 i, .string s] 73) (Below.refl _ w)))
      clear hb1
      go_wp2_with fail
      go_ret
      rw [F.out]
      exact ⟨rfl, HB1.out⟩
  · rw [if_neg (by omega), if_neg (by omega), if_pos h4] at hF
    by_cases hz : D2 = 0
    · have F := Lib.hid (hF.trans (if_pos hz))
      subst hz
      clear hF
      go_enter Try.func43, Try.ntmps43
      go_wp2_with fail
      refine (HD _).out.mono ?_
      rintro e w1 ⟨rfl, hb1⟩
      have HB1 := Lib.hid (below_step hb1 (below_alloc (o := .cells #[.int .u8 b1, .int .i64 i, .string s] 73) (Below.refl _ w)))
      clear hb1
      go_wp2_with fail
      go_ret
      rw [F.out]
      exact ⟨rfl, HB1.out⟩
    · have F := Lib.hid (hF.trans (if_neg hz))
      have q1 : (D2 == 0) = false := by simp [hz]
      have q2 : (D2 != 0) = true := by simp [hz]
      clear hF hz
      go_enter Try.func43, Try.ntmps43
      go_wp2_with fail
      refine (HD _).out.mono ?_
      rintro e w1 ⟨rfl, hb1⟩
      have HB1 := Lib.hid (below_step hb1 (below_alloc (o := .cells #[.int .u8 b1, .int .i64 i, .string s] 73) (Below.refl _ w)))
      clear hb1
      go_wp2_with fail
      go_ret
      rw [F.out]
      exact ⟨rfl, HB1.out⟩
  · rw [if_neg (by omega), if_neg (by omega), if_neg (by omega)] at hF
    have F := Lib.hid hF
    clear hF
    go_enter Try.func43, Try.ntmps43
    go_wp2_with fail
    go_ret
    rw [F.out]
    exact ⟨rfl, below_alloc (Below.refl _ w)⟩

/-- What a call leaves is a room again; a record stays in its slot, unless the call is at that slot. -/
theorem done_keeps {room : ByteArray} {l : List SlotD} (h : readM room = some l) (x : ActS) : ∃ l', readM (doneM room x) = some l' ∧
    ∀ (k : Nat) (s : ByteArray), l[k]? = some (true, s) → (x.b1 % 4 = 0 ∨ x.i ≠ k) → l'[k]? = some (true, s) := by
  have hG := Good.of_read h
  have stay : ∃ l', readM room = some l' ∧ ∀ (k : Nat) (s : ByteArray), l[k]? = some (true, s) → (x.b1 % 4 = 0 ∨ x.i ≠ k) → l'[k]? = some (true, s) := ⟨l, h, fun _ _ hk _ => hk⟩
  unfold doneM
  split
  · split
    · rename_i hz
      have hadd : addM room x.s = if (packM (addL l x.s)).2 = 0 then ((packM (addL l x.s)).1, (freeI l : Int), 0) else (⟨#[]⟩, 0, (packM (addL l x.s)).2) := by simp [addM, h]
      by_cases hp : (packM (addL l x.s)).2 = 0
      · rw [hadd, if_pos hp]
        refine ⟨_, read_pack hp, fun k s hk _ => ?_⟩
        rw [addL_trim hG]
        exact addL_other hk rfl
      · rw [hadd, if_neg hp] at hz; exact absurd hz hp
    · exact stay
  · split
    · rename_i h4
      split
      · rename_i hz
        have hset : setM room x.i x.s = if hasI l x.i then packM (l.set x.i.toNat (true, x.s)) else (⟨#[]⟩, 6) := by simp [setM, h]
        cases hh : hasI l x.i
        · rw [hset, hh] at hz; simp at hz
        · rw [hset, hh, if_pos rfl] at hz ⊢
          refine ⟨_, read_pack hz, fun k s hk hne => ?_⟩
          have hi0 : 0 ≤ x.i := by
            rcases Int.lt_or_le x.i 0 with h' | h'
            · rw [hasI_out (.inl h')] at hh; cases hh
            · exact h'
          have hne' : x.i.toNat ≠ k := by rcases hne with hne | hne <;> omega
          refine trim_keeps ?_ rfl
          rw [List.getElem?_set_ne hne', hk]
      · exact stay
    · split
      · rename_i h4
        split
        · rename_i hz
          have hdel : delM room x.i = if hasI l x.i then packM (l.set x.i.toNat (false, ⟨#[]⟩)) else (⟨#[]⟩, 6) := by simp [delM, h]
          cases hh : hasI l x.i
          · rw [hdel, hh] at hz; simp at hz
          · rw [hdel, hh, if_pos rfl] at hz ⊢
            refine ⟨_, read_pack hz, fun k s hk hne => ?_⟩
            have hi0 : 0 ≤ x.i := by
              rcases Int.lt_or_le x.i 0 with h' | h'
              · rw [hasI_out (.inl h')] at hh; cases hh
              · exact h'
            have hne' : x.i.toNat ≠ k := by rcases hne with hne | hne <;> omega
            refine trim_keeps ?_ rfl
            rw [List.getElem?_set_ne hne', hk]
        · exact stay
      · exact stay

end Go.Proofs.Yteijagojagfecaa
