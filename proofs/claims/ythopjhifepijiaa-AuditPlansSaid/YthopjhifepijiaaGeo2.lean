/- The walks of package geom: all, Turn, between, On. -/
import Derived.Test.YthopjhifepijiaaGeo1
namespace Go.Proofs.Ythopjhifepijiaa
open Go.RowKit
set_option linter.unusedVariables false

theorem below_alloc' {B : Nat} {a b : World} {o : Obj} (h : Below B a b) (hB : B ≤ a.heap.size) : Below B a (b.alloc o) := h.alloc (Nat.le_trans hB h.size) o
/-- Points in memory. -/
def PtsAt (w : World) (b off : Nat) (l : List Pt) : Prop := ∀ (i : Nat) (p : Pt), l[i]? = some p → w.cell? ⟨b, off + i * 2, none⟩ = some (.int .i64 p.x) ∧ w.cell? ⟨b, off + i * 2 + 1, none⟩ = some (.int .i64 p.y)
theorem PtsAt.below {w w' : World} {b off : Nat} {l : List Pt} (h : PtsAt w b off l) {B : Nat} (hb : Below B w w') (hB : b < B) : PtsAt w' b off l := fun i p hp =>
  ⟨(hb.cell (p := ⟨b, off + i * 2, none⟩) hB).trans (h i p hp).1, (hb.cell (p := ⟨b, off + i * 2 + 1, none⟩) hB).trans (h i p hp).2⟩

set_option maxRecDepth 100000 in
theorem all_any {w : World} {b off n c : Nat} {l : List Pt} (h : PtsAt w b off l) (hn : n = l.length) (hl : l.length ≤ 1000) (hb : b < w.heap.size) :
    Calls Try.prog 86 #[.slice (some ⟨b, off, none⟩) n c] w fun e w' => e = .returned (.bool (l.all inB)) ∧ Below w.heap.size w w' := by
  have H := Lib.hid h
  have HN := Lib.hid hn
  have hn1 : n ≤ 1000 := by omega
  clear h hn hl
  go_enter Try.func86, Try.ntmps86
  go_wp2_with fail
  go_loopw [7] (fun v wr => ∃ k : Nat, k ≤ n ∧ v = .int .i64 k ∧ (∀ (j : Nat) (p : Pt), j < k → l[j]? = some p → inB p = true) ∧ Below w.heap.size w wr) (fun v _ => n - (intOf v).toNat)
  case atStart => exact ⟨0, Nat.zero_le _, rfl, fun j p hj => absurd hj (by omega), Below.refl _ _⟩
  case round =>
    obtain ⟨k, hk, rfl, hall, hbw⟩ := hrel
    have HA := Lib.hid hall
    have HB := Lib.hid hbw
    by_cases hlt : k < n
    · obtain ⟨p, hp⟩ : ∃ p, l[k]? = some p := ⟨l[k]'(by rw [← HN.out]; exact hlt), List.getElem?_eq_getElem _⟩
      obtain ⟨c0, c1⟩ := (H.out.below hbw hb) k p hp
      have HP := Lib.hid hp
      clear hp hall hbw
      cases hv : inB p
      · have F := Lib.hid (show l.all inB = false by rw [List.all_eq_false]; exact ⟨p, List.mem_of_getElem? HP.out, by rw [hv]; decide⟩)
        have HC := fun (w : World) => Lib.hid (hv ▸ in_any p w)
        clear hv
        go_wp2_with fail
        refine (HC _).out.mono ?_
        rintro e w' ⟨rfl, hb1⟩
        go_wp2_with fail
        go_ret
        exact ⟨by rw [F.out]; rfl, below_next (below_alloc' HB.out (Nat.le_refl _)) (by have := HB.out.size; simp; omega) hb1⟩
      · have HC := fun (w : World) => Lib.hid (hv ▸ in_any p w)
        have HV := Lib.hid hv
        clear hv
        go_wp2_with fail
        refine (HC _).out.mono ?_
        rintro e w' ⟨rfl, hb1⟩
        have HB1 := Lib.hid (below_next (below_alloc' HB.out (Nat.le_refl _)) (by have := HB.out.size; simp; omega) hb1)
        clear hb1
        go_wp2_with fail
        go_roundw
        case rel =>
          refine ⟨k + 1, by omega, by go_num, fun j q hj hq => ?_, HB1.out⟩
          by_cases e : j = k
          · subst e; rw [HP.out] at hq; cases hq; exact HV.out
          · exact HA.out j q (by omega) hq
        case measure => simp [intOf]; omega
    · obtain rfl : k = n := by omega
      have F := Lib.hid (show l.all inB = true by
        rw [List.all_eq_true]
        intro p hp
        obtain ⟨j, hj⟩ := List.mem_iff_getElem?.1 hp
        exact hall j p (by have := (List.getElem?_eq_some_iff.1 hj).1; have := HN.out; omega) hj)
      clear hall hbw
      go_wp2_with fail
      go_ret
      exact ⟨by rw [F.out]; rfl, HB.out⟩
theorem pts3 (w : World) (a b c : Pt) {blk : Nat} (h : blk = w.heap.size) : PtsAt (w.alloc (.cells #[.int .i64 a.x, .int .i64 a.y, .int .i64 b.x, .int .i64 b.y, .int .i64 c.x, .int .i64 c.y] 51)) blk 0 [a, b, c] := by
  subst h
  intro i p hp
  rcases i with _ | _ | _ | i
  · cases hp; simp [World.cell?_alloc_new]
  · cases hp; simp [World.cell?_alloc_new]
  · cases hp; simp [World.cell?_alloc_new]
  · simp at hp
theorem pts4 (w : World) (a b c d : Pt) {blk : Nat} (h : blk = w.heap.size) : PtsAt (w.alloc (.cells #[.int .i64 a.x, .int .i64 a.y, .int .i64 b.x, .int .i64 b.y, .int .i64 c.x, .int .i64 c.y, .int .i64 d.x, .int .i64 d.y] 51)) blk 0 [a, b, c, d] := by
  subst h
  intro i p hp
  rcases i with _ | _ | _ | _ | i
  · cases hp; simp [World.cell?_alloc_new]
  · cases hp; simp [World.cell?_alloc_new]
  · cases hp; simp [World.cell?_alloc_new]
  · cases hp; simp [World.cell?_alloc_new]
  · simp at hp
set_option maxRecDepth 100000 in
set_option maxHeartbeats 2000000 in
theorem btw_any (p a b : Pt) (w : World) : Calls Try.prog 88 #[.agg #[.int .i64 p.x, .int .i64 p.y], .agg #[.int .i64 a.x, .int .i64 a.y], .agg #[.int .i64 b.x, .int .i64 b.y]] w fun e w' => e = .returned (.bool (btwB p a b)) ∧ Below w.heap.size w w' := by
  have H1 := fun w => Lib.hid (less_any a p w)
  have H2 := fun w => Lib.hid (less_any p b w)
  have H3 := fun w => Lib.hid (less_any b p w)
  have H4 := fun w => Lib.hid (less_any p a w)
  unfold btwB
  generalize lessB a p = v1 at *
  generalize lessB p b = v2 at *
  generalize lessB b p = v3 at *
  generalize lessB p a = v4 at *
  cases v1
  · cases v3
    · go_enter Try.func88, Try.ntmps88
      go_wp2_with fail
      have HB := Lib.hid (below_alloc (below_alloc (below_alloc (o := .cells #[.int .i64 p.x, .int .i64 p.y] 51) (Below.refl w.heap.size w)) (o := .cells #[.int .i64 a.x, .int .i64 a.y] 51)) (o := .cells #[.int .i64 b.x, .int .i64 b.y] 51))
      refine ((H1 _).out).mono ?_
      rintro e w1 ⟨rfl, hb1⟩
      have HB := Lib.hid (below_next HB.out HB.out.size hb1)
      obtain ⟨hc1, hf1⟩ := bcell hb1
      have hz1 := hb1.size
      try simp at hz1
      clear hb1
      have hz1_0 : w.heap.size < w1.heap.size := by omega
      have hz1_1 : w.heap.size + 1 < w1.heap.size := by omega
      have hz1_2 : w.heap.size + 1 + 1 < w1.heap.size := by omega
      go_wp2_with fail
      refine ((H3 _).out).mono ?_
      rintro e w2 ⟨rfl, hb2⟩
      have HB := Lib.hid (below_next HB.out HB.out.size hb2)
      obtain ⟨hc2, hf2⟩ := bcell hb2
      have hz2 := hb2.size
      try simp at hz2
      clear hb2
      have hz2_0 : w.heap.size < w2.heap.size := by omega
      have hz2_1 : w.heap.size + 1 < w2.heap.size := by omega
      have hz2_2 : w.heap.size + 1 + 1 < w2.heap.size := by omega
      go_wp2_with fail
      go_ret
      exact ⟨rfl, HB.out⟩
    · cases v4
      · go_enter Try.func88, Try.ntmps88
        go_wp2_with fail
        have HB := Lib.hid (below_alloc (below_alloc (below_alloc (o := .cells #[.int .i64 p.x, .int .i64 p.y] 51) (Below.refl w.heap.size w)) (o := .cells #[.int .i64 a.x, .int .i64 a.y] 51)) (o := .cells #[.int .i64 b.x, .int .i64 b.y] 51))
        refine ((H1 _).out).mono ?_
        rintro e w4 ⟨rfl, hb4⟩
        have HB := Lib.hid (below_next HB.out HB.out.size hb4)
        obtain ⟨hc4, hf4⟩ := bcell hb4
        have hz4 := hb4.size
        try simp at hz4
        clear hb4
        have hz4_0 : w.heap.size < w4.heap.size := by omega
        have hz4_1 : w.heap.size + 1 < w4.heap.size := by omega
        have hz4_2 : w.heap.size + 1 + 1 < w4.heap.size := by omega
        go_wp2_with fail
        refine ((H3 _).out).mono ?_
        rintro e w5 ⟨rfl, hb5⟩
        have HB := Lib.hid (below_next HB.out HB.out.size hb5)
        obtain ⟨hc5, hf5⟩ := bcell hb5
        have hz5 := hb5.size
        try simp at hz5
        clear hb5
        have hz5_0 : w.heap.size < w5.heap.size := by omega
        have hz5_1 : w.heap.size + 1 < w5.heap.size := by omega
        have hz5_2 : w.heap.size + 1 + 1 < w5.heap.size := by omega
        go_wp2_with fail
        refine ((H4 _).out).mono ?_
        rintro e w6 ⟨rfl, hb6⟩
        have HB := Lib.hid (below_next HB.out HB.out.size hb6)
        obtain ⟨hc6, hf6⟩ := bcell hb6
        have hz6 := hb6.size
        try simp at hz6
        clear hb6
        have hz6_0 : w.heap.size < w6.heap.size := by omega
        have hz6_1 : w.heap.size + 1 < w6.heap.size := by omega
        have hz6_2 : w.heap.size + 1 + 1 < w6.heap.size := by omega
        go_wp2_with fail
        go_ret
        exact ⟨rfl, HB.out⟩
      · go_enter Try.func88, Try.ntmps88
        go_wp2_with fail
        have HB := Lib.hid (below_alloc (below_alloc (below_alloc (o := .cells #[.int .i64 p.x, .int .i64 p.y] 51) (Below.refl w.heap.size w)) (o := .cells #[.int .i64 a.x, .int .i64 a.y] 51)) (o := .cells #[.int .i64 b.x, .int .i64 b.y] 51))
        refine ((H1 _).out).mono ?_
        rintro e w8 ⟨rfl, hb8⟩
        have HB := Lib.hid (below_next HB.out HB.out.size hb8)
        obtain ⟨hc8, hf8⟩ := bcell hb8
        have hz8 := hb8.size
        try simp at hz8
        clear hb8
        have hz8_0 : w.heap.size < w8.heap.size := by omega
        have hz8_1 : w.heap.size + 1 < w8.heap.size := by omega
        have hz8_2 : w.heap.size + 1 + 1 < w8.heap.size := by omega
        go_wp2_with fail
        refine ((H3 _).out).mono ?_
        rintro e w9 ⟨rfl, hb9⟩
        have HB := Lib.hid (below_next HB.out HB.out.size hb9)
        obtain ⟨hc9, hf9⟩ := bcell hb9
        have hz9 := hb9.size
        try simp at hz9
        clear hb9
        have hz9_0 : w.heap.size < w9.heap.size := by omega
        have hz9_1 : w.heap.size + 1 < w9.heap.size := by omega
        have hz9_2 : w.heap.size + 1 + 1 < w9.heap.size := by omega
        go_wp2_with fail
        refine ((H4 _).out).mono ?_
        rintro e w10 ⟨rfl, hb10⟩
        have HB := Lib.hid (below_next HB.out HB.out.size hb10)
        obtain ⟨hc10, hf10⟩ := bcell hb10
        have hz10 := hb10.size
        try simp at hz10
        clear hb10
        have hz10_0 : w.heap.size < w10.heap.size := by omega
        have hz10_1 : w.heap.size + 1 < w10.heap.size := by omega
        have hz10_2 : w.heap.size + 1 + 1 < w10.heap.size := by omega
        go_wp2_with fail
        go_ret
        exact ⟨rfl, HB.out⟩
  · cases v2
    · cases v3
      · go_enter Try.func88, Try.ntmps88
        go_wp2_with fail
        have HB := Lib.hid (below_alloc (below_alloc (below_alloc (o := .cells #[.int .i64 p.x, .int .i64 p.y] 51) (Below.refl w.heap.size w)) (o := .cells #[.int .i64 a.x, .int .i64 a.y] 51)) (o := .cells #[.int .i64 b.x, .int .i64 b.y] 51))
        refine ((H1 _).out).mono ?_
        rintro e w12 ⟨rfl, hb12⟩
        have HB := Lib.hid (below_next HB.out HB.out.size hb12)
        obtain ⟨hc12, hf12⟩ := bcell hb12
        have hz12 := hb12.size
        try simp at hz12
        clear hb12
        have hz12_0 : w.heap.size < w12.heap.size := by omega
        have hz12_1 : w.heap.size + 1 < w12.heap.size := by omega
        have hz12_2 : w.heap.size + 1 + 1 < w12.heap.size := by omega
        go_wp2_with fail
        refine ((H2 _).out).mono ?_
        rintro e w13 ⟨rfl, hb13⟩
        have HB := Lib.hid (below_next HB.out HB.out.size hb13)
        obtain ⟨hc13, hf13⟩ := bcell hb13
        have hz13 := hb13.size
        try simp at hz13
        clear hb13
        have hz13_0 : w.heap.size < w13.heap.size := by omega
        have hz13_1 : w.heap.size + 1 < w13.heap.size := by omega
        have hz13_2 : w.heap.size + 1 + 1 < w13.heap.size := by omega
        go_wp2_with fail
        refine ((H3 _).out).mono ?_
        rintro e w14 ⟨rfl, hb14⟩
        have HB := Lib.hid (below_next HB.out HB.out.size hb14)
        obtain ⟨hc14, hf14⟩ := bcell hb14
        have hz14 := hb14.size
        try simp at hz14
        clear hb14
        have hz14_0 : w.heap.size < w14.heap.size := by omega
        have hz14_1 : w.heap.size + 1 < w14.heap.size := by omega
        have hz14_2 : w.heap.size + 1 + 1 < w14.heap.size := by omega
        go_wp2_with fail
        go_ret
        exact ⟨rfl, HB.out⟩
      · cases v4
        · go_enter Try.func88, Try.ntmps88
          go_wp2_with fail
          have HB := Lib.hid (below_alloc (below_alloc (below_alloc (o := .cells #[.int .i64 p.x, .int .i64 p.y] 51) (Below.refl w.heap.size w)) (o := .cells #[.int .i64 a.x, .int .i64 a.y] 51)) (o := .cells #[.int .i64 b.x, .int .i64 b.y] 51))
          refine ((H1 _).out).mono ?_
          rintro e w16 ⟨rfl, hb16⟩
          have HB := Lib.hid (below_next HB.out HB.out.size hb16)
          obtain ⟨hc16, hf16⟩ := bcell hb16
          have hz16 := hb16.size
          try simp at hz16
          clear hb16
          have hz16_0 : w.heap.size < w16.heap.size := by omega
          have hz16_1 : w.heap.size + 1 < w16.heap.size := by omega
          have hz16_2 : w.heap.size + 1 + 1 < w16.heap.size := by omega
          go_wp2_with fail
          refine ((H2 _).out).mono ?_
          rintro e w17 ⟨rfl, hb17⟩
          have HB := Lib.hid (below_next HB.out HB.out.size hb17)
          obtain ⟨hc17, hf17⟩ := bcell hb17
          have hz17 := hb17.size
          try simp at hz17
          clear hb17
          have hz17_0 : w.heap.size < w17.heap.size := by omega
          have hz17_1 : w.heap.size + 1 < w17.heap.size := by omega
          have hz17_2 : w.heap.size + 1 + 1 < w17.heap.size := by omega
          go_wp2_with fail
          refine ((H3 _).out).mono ?_
          rintro e w18 ⟨rfl, hb18⟩
          have HB := Lib.hid (below_next HB.out HB.out.size hb18)
          obtain ⟨hc18, hf18⟩ := bcell hb18
          have hz18 := hb18.size
          try simp at hz18
          clear hb18
          have hz18_0 : w.heap.size < w18.heap.size := by omega
          have hz18_1 : w.heap.size + 1 < w18.heap.size := by omega
          have hz18_2 : w.heap.size + 1 + 1 < w18.heap.size := by omega
          go_wp2_with fail
          refine ((H4 _).out).mono ?_
          rintro e w19 ⟨rfl, hb19⟩
          have HB := Lib.hid (below_next HB.out HB.out.size hb19)
          obtain ⟨hc19, hf19⟩ := bcell hb19
          have hz19 := hb19.size
          try simp at hz19
          clear hb19
          have hz19_0 : w.heap.size < w19.heap.size := by omega
          have hz19_1 : w.heap.size + 1 < w19.heap.size := by omega
          have hz19_2 : w.heap.size + 1 + 1 < w19.heap.size := by omega
          go_wp2_with fail
          go_ret
          exact ⟨rfl, HB.out⟩
        · go_enter Try.func88, Try.ntmps88
          go_wp2_with fail
          have HB := Lib.hid (below_alloc (below_alloc (below_alloc (o := .cells #[.int .i64 p.x, .int .i64 p.y] 51) (Below.refl w.heap.size w)) (o := .cells #[.int .i64 a.x, .int .i64 a.y] 51)) (o := .cells #[.int .i64 b.x, .int .i64 b.y] 51))
          refine ((H1 _).out).mono ?_
          rintro e w21 ⟨rfl, hb21⟩
          have HB := Lib.hid (below_next HB.out HB.out.size hb21)
          obtain ⟨hc21, hf21⟩ := bcell hb21
          have hz21 := hb21.size
          try simp at hz21
          clear hb21
          have hz21_0 : w.heap.size < w21.heap.size := by omega
          have hz21_1 : w.heap.size + 1 < w21.heap.size := by omega
          have hz21_2 : w.heap.size + 1 + 1 < w21.heap.size := by omega
          go_wp2_with fail
          refine ((H2 _).out).mono ?_
          rintro e w22 ⟨rfl, hb22⟩
          have HB := Lib.hid (below_next HB.out HB.out.size hb22)
          obtain ⟨hc22, hf22⟩ := bcell hb22
          have hz22 := hb22.size
          try simp at hz22
          clear hb22
          have hz22_0 : w.heap.size < w22.heap.size := by omega
          have hz22_1 : w.heap.size + 1 < w22.heap.size := by omega
          have hz22_2 : w.heap.size + 1 + 1 < w22.heap.size := by omega
          go_wp2_with fail
          refine ((H3 _).out).mono ?_
          rintro e w23 ⟨rfl, hb23⟩
          have HB := Lib.hid (below_next HB.out HB.out.size hb23)
          obtain ⟨hc23, hf23⟩ := bcell hb23
          have hz23 := hb23.size
          try simp at hz23
          clear hb23
          have hz23_0 : w.heap.size < w23.heap.size := by omega
          have hz23_1 : w.heap.size + 1 < w23.heap.size := by omega
          have hz23_2 : w.heap.size + 1 + 1 < w23.heap.size := by omega
          go_wp2_with fail
          refine ((H4 _).out).mono ?_
          rintro e w24 ⟨rfl, hb24⟩
          have HB := Lib.hid (below_next HB.out HB.out.size hb24)
          obtain ⟨hc24, hf24⟩ := bcell hb24
          have hz24 := hb24.size
          try simp at hz24
          clear hb24
          have hz24_0 : w.heap.size < w24.heap.size := by omega
          have hz24_1 : w.heap.size + 1 < w24.heap.size := by omega
          have hz24_2 : w.heap.size + 1 + 1 < w24.heap.size := by omega
          go_wp2_with fail
          go_ret
          exact ⟨rfl, HB.out⟩
    · go_enter Try.func88, Try.ntmps88
      go_wp2_with fail
      have HB := Lib.hid (below_alloc (below_alloc (below_alloc (o := .cells #[.int .i64 p.x, .int .i64 p.y] 51) (Below.refl w.heap.size w)) (o := .cells #[.int .i64 a.x, .int .i64 a.y] 51)) (o := .cells #[.int .i64 b.x, .int .i64 b.y] 51))
      refine ((H1 _).out).mono ?_
      rintro e w26 ⟨rfl, hb26⟩
      have HB := Lib.hid (below_next HB.out HB.out.size hb26)
      obtain ⟨hc26, hf26⟩ := bcell hb26
      have hz26 := hb26.size
      try simp at hz26
      clear hb26
      have hz26_0 : w.heap.size < w26.heap.size := by omega
      have hz26_1 : w.heap.size + 1 < w26.heap.size := by omega
      have hz26_2 : w.heap.size + 1 + 1 < w26.heap.size := by omega
      go_wp2_with fail
      refine ((H2 _).out).mono ?_
      rintro e w27 ⟨rfl, hb27⟩
      have HB := Lib.hid (below_next HB.out HB.out.size hb27)
      obtain ⟨hc27, hf27⟩ := bcell hb27
      have hz27 := hb27.size
      try simp at hz27
      clear hb27
      have hz27_0 : w.heap.size < w27.heap.size := by omega
      have hz27_1 : w.heap.size + 1 < w27.heap.size := by omega
      have hz27_2 : w.heap.size + 1 + 1 < w27.heap.size := by omega
      go_wp2_with fail
      go_ret
      exact ⟨rfl, HB.out⟩

/-- The boxes of three points. -/
theorem below3 (w : World) (a b c : Pt) : Below w.heap.size w (((w.alloc (.cells #[.int .i64 a.x, .int .i64 a.y] 51)).alloc (.cells #[.int .i64 b.x, .int .i64 b.y] 51)).alloc (.cells #[.int .i64 c.x, .int .i64 c.y] 51)) := below_alloc (below_alloc (below_alloc (Below.refl _ _)))
/-- .. and their slice. -/
theorem below33 (w : World) (a b c a' b' c' : Pt) : Below w.heap.size w ((((w.alloc (.cells #[.int .i64 a.x, .int .i64 a.y] 51)).alloc (.cells #[.int .i64 b.x, .int .i64 b.y] 51)).alloc (.cells #[.int .i64 c.x, .int .i64 c.y] 51)).alloc
    (.cells #[.int .i64 a'.x, .int .i64 a'.y, .int .i64 b'.x, .int .i64 b'.y, .int .i64 c'.x, .int .i64 c'.y] 51)) := below_alloc (below_alloc (below_alloc (below_alloc (Below.refl _ _))))
set_option maxRecDepth 100000 in
set_option maxHeartbeats 1000000 in
theorem turn_any (a b c : Pt) (w : World) : Calls Try.prog 80 #[.agg #[.int .i64 a.x, .int .i64 a.y], .agg #[.int .i64 b.x, .int .i64 b.y], .agg #[.int .i64 c.x, .int .i64 c.y]] w fun e w' => e = .returned (.int .i64 (if inB a && inB b && inB c then trn a b c else 0)) ∧ Below w.heap.size w w' := by
  have HALL := fun (W : World) (blk : Nat) (h : PtsAt W blk 0 [a, b, c]) (hb : blk < W.heap.size) => Lib.hid (all_any (c := 3) h (n := 3) rfl (by simp) hb)
  have e : [a, b, c].all inB = (inB a && inB b && inB c) := by simp [Bool.and_assoc]
  rw [e] at HALL
  cases hv : inB a && inB b && inB c
  · rw [hv] at HALL
    clear hv e
    go_enter Try.func80, Try.ntmps80
    go_wp2_with fail
    have HB := Lib.hid (below33 w a b c a b c)
    refine ((HALL _ _ (pts3 _ a b c (by simp)) (by simp)).out).mono ?_
    rintro e w29 ⟨rfl, hb29⟩
    have HB := Lib.hid (below_next HB.out HB.out.size hb29)
    obtain ⟨hc29, hf29⟩ := bcell hb29
    have hz29 := hb29.size
    try simp at hz29
    clear hb29
    have hz29_0 : w.heap.size < w29.heap.size := by omega
    have hz29_1 : w.heap.size + 1 < w29.heap.size := by omega
    have hz29_2 : w.heap.size + 1 + 1 < w29.heap.size := by omega
    go_wp2_with fail
    go_ret
    exact ⟨rfl, HB.out⟩
  · rw [hv] at HALL
    simp only [Bool.and_eq_true] at hv
    have HT := fun w => Lib.hid (turn_in a b c w hv.1.1 hv.1.2 hv.2)
    clear hv e
    go_enter Try.func80, Try.ntmps80
    go_wp2_with fail
    have HB := Lib.hid (below33 w a b c a b c)
    refine ((HALL _ _ (pts3 _ a b c (by simp)) (by simp)).out).mono ?_
    rintro e w31 ⟨rfl, hb31⟩
    have HB := Lib.hid (below_next HB.out HB.out.size hb31)
    obtain ⟨hc31, hf31⟩ := bcell hb31
    have hz31 := hb31.size
    try simp at hz31
    clear hb31
    have hz31_0 : w.heap.size < w31.heap.size := by omega
    have hz31_1 : w.heap.size + 1 < w31.heap.size := by omega
    have hz31_2 : w.heap.size + 1 + 1 < w31.heap.size := by omega
    go_wp2_with fail
    refine ((HT _).out).mono ?_
    rintro e w32 ⟨rfl, hb32⟩
    have HB := Lib.hid (below_next HB.out HB.out.size hb32)
    obtain ⟨hc32, hf32⟩ := bcell hb32
    have hz32 := hb32.size
    try simp at hz32
    clear hb32
    have hz32_0 : w.heap.size < w32.heap.size := by omega
    have hz32_1 : w.heap.size + 1 < w32.heap.size := by omega
    have hz32_2 : w.heap.size + 1 + 1 < w32.heap.size := by omega
    go_wp2_with fail
    go_ret
    exact ⟨rfl, HB.out⟩
set_option maxRecDepth 100000 in
set_option maxHeartbeats 1000000 in
theorem on_any (p a b : Pt) (w : World) : Calls Try.prog 59 #[.agg #[.int .i64 p.x, .int .i64 p.y], .agg #[.int .i64 a.x, .int .i64 a.y], .agg #[.int .i64 b.x, .int .i64 b.y]] w fun e w' => e = .returned (.bool (onB p a b)) ∧ Below w.heap.size w w' := by
  have HALL := fun (W : World) (blk : Nat) (h : PtsAt W blk 0 [p, a, b]) (hb : blk < W.heap.size) => Lib.hid (all_any (c := 3) h (n := 3) rfl (by simp) hb)
  have e : [p, a, b].all inB = (inB p && inB a && inB b) := by simp [Bool.and_assoc]
  rw [e] at HALL
  unfold onB
  cases hv : inB p && inB a && inB b
  · rw [hv] at HALL
    clear hv e
    go_enter Try.func59, Try.ntmps59
    go_wp2_with fail
    have HB := Lib.hid (below33 w p a b p a b)
    refine ((HALL _ _ (pts3 _ p a b (by simp)) (by simp)).out).mono ?_
    rintro e w34 ⟨rfl, hb34⟩
    have HB := Lib.hid (below_next HB.out HB.out.size hb34)
    obtain ⟨hc34, hf34⟩ := bcell hb34
    have hz34 := hb34.size
    try simp at hz34
    clear hb34
    have hz34_0 : w.heap.size < w34.heap.size := by omega
    have hz34_1 : w.heap.size + 1 < w34.heap.size := by omega
    have hz34_2 : w.heap.size + 1 + 1 < w34.heap.size := by omega
    go_wp2_with fail
    go_ret
    exact ⟨rfl, HB.out⟩
  · rw [hv] at HALL
    simp only [Bool.and_eq_true] at hv
    have HT := fun w => Lib.hid (turn_in a b p w hv.1.2 hv.2 hv.1.1)
    have HW := fun w => Lib.hid (btw_any p a b w)
    generalize trn a b p = t at *
    generalize btwB p a b = u at *
    clear hv e
    by_cases ht : t = 0
    · subst ht
      go_enter Try.func59, Try.ntmps59
      go_wp2_with fail
      have HB := Lib.hid (below33 w p a b p a b)
      refine ((HALL _ _ (pts3 _ p a b (by simp)) (by simp)).out).mono ?_
      rintro e w36 ⟨rfl, hb36⟩
      have HB := Lib.hid (below_next HB.out HB.out.size hb36)
      obtain ⟨hc36, hf36⟩ := bcell hb36
      have hz36 := hb36.size
      try simp at hz36
      clear hb36
      have hz36_0 : w.heap.size < w36.heap.size := by omega
      have hz36_1 : w.heap.size + 1 < w36.heap.size := by omega
      have hz36_2 : w.heap.size + 1 + 1 < w36.heap.size := by omega
      go_wp2_with fail
      refine ((HT _).out).mono ?_
      rintro e w37 ⟨rfl, hb37⟩
      have HB := Lib.hid (below_next HB.out HB.out.size hb37)
      obtain ⟨hc37, hf37⟩ := bcell hb37
      have hz37 := hb37.size
      try simp at hz37
      clear hb37
      have hz37_0 : w.heap.size < w37.heap.size := by omega
      have hz37_1 : w.heap.size + 1 < w37.heap.size := by omega
      have hz37_2 : w.heap.size + 1 + 1 < w37.heap.size := by omega
      go_wp2_with fail
      refine ((HW _).out).mono ?_
      rintro e w38 ⟨rfl, hb38⟩
      have HB := Lib.hid (below_next HB.out HB.out.size hb38)
      obtain ⟨hc38, hf38⟩ := bcell hb38
      have hz38 := hb38.size
      try simp at hz38
      clear hb38
      have hz38_0 : w.heap.size < w38.heap.size := by omega
      have hz38_1 : w.heap.size + 1 < w38.heap.size := by omega
      have hz38_2 : w.heap.size + 1 + 1 < w38.heap.size := by omega
      go_wp2_with fail
      go_ret
      exact ⟨rfl, HB.out⟩
    · have hz : (t == 0) = false := by simpa using ht
      rw [show decide (t = 0) = false by simpa using ht]
      clear ht
      go_enter Try.func59, Try.ntmps59
      go_wp2_with fail
      have HB := Lib.hid (below33 w p a b p a b)
      refine ((HALL _ _ (pts3 _ p a b (by simp)) (by simp)).out).mono ?_
      rintro e w40 ⟨rfl, hb40⟩
      have HB := Lib.hid (below_next HB.out HB.out.size hb40)
      obtain ⟨hc40, hf40⟩ := bcell hb40
      have hz40 := hb40.size
      try simp at hz40
      clear hb40
      have hz40_0 : w.heap.size < w40.heap.size := by omega
      have hz40_1 : w.heap.size + 1 < w40.heap.size := by omega
      have hz40_2 : w.heap.size + 1 + 1 < w40.heap.size := by omega
      go_wp2_with fail
      refine ((HT _).out).mono ?_
      rintro e w41 ⟨rfl, hb41⟩
      have HB := Lib.hid (below_next HB.out HB.out.size hb41)
      obtain ⟨hc41, hf41⟩ := bcell hb41
      have hz41 := hb41.size
      try simp at hz41
      clear hb41
      have hz41_0 : w.heap.size < w41.heap.size := by omega
      have hz41_1 : w.heap.size + 1 < w41.heap.size := by omega
      have hz41_2 : w.heap.size + 1 + 1 < w41.heap.size := by omega
      go_wp2_with fail
      go_ret
      exact ⟨rfl, HB.out⟩
end Go.Proofs.Ythopjhifepijiaa
