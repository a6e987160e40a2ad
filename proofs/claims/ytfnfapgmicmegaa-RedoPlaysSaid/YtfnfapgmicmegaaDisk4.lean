/- The contract of settle where the power goes. -/
import Derived.Test.YtfnfapgmicmegaaDisk3
namespace Go.Proofs.Ytfnfapgmicmegaa
open Go.RowKit Go.Maps Go.Joins
set_option linter.unusedVariables false

/-- The sectors behind k writes. -/
def crN (torn : Int) (n kn : Nat) (kf : Nat → Bool) (l : List (Int × ByteArray)) (su : List ByteArray) : Nat → List ByteArray
  | 0 => su
  | k + 1 => match l[k]? with
    | some x => (crN torn n kn kf l su k).set x.1.toNat (crV torn n kn kf k x.2 ((crN torn n kn kf l su k).getD x.1.toNat ⟨#[]⟩))
    | none => crN torn n kn kf l su k
theorem crN_length (torn : Int) (n kn : Nat) (kf : Nat → Bool) (l : List (Int × ByteArray)) (su : List ByteArray) : ∀ k, (crN torn n kn kf l su k).length = su.length
  | 0 => rfl
  | k + 1 => by
    have ih := crN_length torn n kn kf l su k
    unfold crN
    split
    · rw [List.length_set, ih]
    · exact ih
theorem crN_step (torn : Int) (n kn : Nat) (kf : Nat → Bool) (l : List (Int × ByteArray)) (su : List ByteArray) (k j : Nat) (s old : ByteArray) (h : l[k]? = some ((j : Int), s)) (ho : (crN torn n kn kf l su k)[j]? = some old) :
    crN torn n kn kf l su (k + 1) = (crN torn n kn kf l su k).set j (crV torn n kn kf k s old) := by
  conv => lhs; unfold crN
  rw [h]
  simp [ho]
/-- All sectors, and all that is written, have 64 bytes. -/
def SizeOk (m : DM) : Prop := (∀ t ∈ m.sure, t.size = 64) ∧ ∀ x ∈ m.wait, x.2.size = 64
theorem crV_size (torn : Int) (n kn : Nat) (kf : Nat → Bool) (k : Nat) (s old : ByteArray) (hn : n ≤ 64) (hs : s.size = 64) (ho : old.size = 64) : (crV torn n kn kf k s old).size = 64 := by
  unfold crV
  split
  · rw [ByteArray.size_append, ByteArray.size_extract, ByteArray.size_extract]; omega
  · split
    · exact hs
    · exact ho
theorem crN_size (torn : Int) (n kn : Nat) (kf : Nat → Bool) (m : DM) (hn : n ≤ 64) (hz : SizeOk m) : ∀ k, k ≤ m.wait.length → ∀ t ∈ crN torn n kn kf m.wait m.sure k, t.size = 64
  | 0, _, t, ht => hz.1 t ht
  | k + 1, hk, t, ht => by
    have ih := crN_size torn n kn kf m hn hz k (by omega)
    unfold crN at ht
    rw [List.getElem?_eq_getElem (by omega)] at ht
    simp only at ht
    by_cases hj : (m.wait[k]).1.toNat < (crN torn n kn kf m.wait m.sure k).length
    · rcases List.mem_or_eq_of_mem_set ht with h | h
      · exact ih t h
      · rw [h]
        refine crV_size _ _ _ _ _ _ _ hn (hz.2 _ (List.getElem_mem _)) (ih _ ?_)
        rw [List.getD_eq_getElem?_getD, List.getElem?_eq_getElem hj]
        exact List.getElem_mem hj
    · rw [List.set_eq_of_length_le (by omega)] at ht
      exact ih t ht

theorem keep_alloc {w : World} {b o : Nat} {v : Value} (h : w.cell? ⟨b, o, none⟩ = some v) (ob : Obj) (q : Nat) : ((w.alloc ob).drewN q).cell? ⟨b, o, none⟩ = some v := by
  rw [World.cell?_drewN]
  exact (World.cell?_alloc_lt w ob ⟨b, o, none⟩ (cell_lt h)).trans h
theorem keepAt_alloc {w : World} {a : Option Addr} {kn : Nat} {kf : Nat → Bool} (h : KeepAt w a kn kf) (ob : Obj) (q : Nat) : KeepAt ((w.alloc ob).drewN q) a kn kf := by
  rcases h with h0 | ⟨b, off, ha, hc⟩
  · exact .inl h0
  · exact .inr ⟨b, off, ha, fun i hi => keep_alloc (hc i hi) ob q⟩

set_option maxRecDepth 100000 in
set_option maxHeartbeats 4000000 in
theorem settle_crash {w : World} {d sb sc M : Nat} {wv : Value} {D : DataW Unit} {m : DM} (h : DiskAt w d sb sc M wv D m) (hok : WaitOk m) (hz : SizeOk m) (hl : m.wait.length ≤ 1000000000)
    {bt bb bd bk kc kn n : Nat} {torn : Int} {a0 : Option Addr} {kf : Nat → Bool} (c1' : w.cell? ⟨bt, 0, none⟩ = some (.int .i64 torn)) (c2' : w.cell? ⟨bb, 0, none⟩ = some (.int .i64 n)) (c3' : w.cell? ⟨bd, 0, none⟩ = some (.pointer (some ⟨d, 0, none⟩))) (c4' : w.cell? ⟨bk, 0, none⟩ = some (.slice a0 kn kc))
    (hkeep : KeepAt w a0 kn kf) (n1 : bt ∉ diskB d sb M wv) (n2 : bb ∉ diskB d sb M wv) (n3 : bd ∉ diskB d sb M wv) (n4 : bk ∉ diskB d sb M wv) (n5 : ∀ b off, a0 = some ⟨b, off, none⟩ → 0 < kn → b ∉ diskB d sb M wv) (hn64 : n ≤ 64) :
    Calls Try.prog 40 #[.pointer (some ⟨d, 0, none⟩), .func (Fn.func 41) #[] #[.pointer (some ⟨bt, 0, none⟩), .pointer (some ⟨bb, 0, none⟩), .pointer (some ⟨bd, 0, none⟩), .pointer (some ⟨bk, 0, none⟩)]] w fun e w' => e = .returned (.tuple #[]) ∧ Goes w w' d (diskB d sb M wv) { m with sure := crN torn n kn kf m.wait m.sure m.wait.length, wait := [] } := by
  have hform := ownsRow_forms h.wait
  obtain ⟨a, n, cap, hv⟩ : ∃ a n cap, wv = .slice a n cap := by rcases hform with ⟨e, _⟩ | ⟨g, cap, e⟩ <;> exact ⟨_, _, _, e⟩
  obtain ⟨c0, c1, c2, _, _⟩ := h.cell
  have hn : n = m.wait.length := by
    rcases hform with ⟨e, h0⟩ | ⟨g, cap, e⟩
    · rw [hv] at e; cases e; omega
    · rw [hv] at e; cases e; rfl
  subst hn
  have H0 := Lib.hid h
  have HF := Lib.hid hform
  rw [hv] at c1
  clear h hform
  have HV := Lib.hid hv
  clear hv
  go_enter Try.func40, Try.ntmps40
  go_wp2
  go_loopw [11] (fun c wr => ∃ k : Nat, k ≤ m.wait.length ∧ c = .int .i64 k ∧ DiskAt wr d sb sc M wv D { m with sure := crN torn n kn kf m.wait m.sure k } ∧ Touch (diskB d sb M wv) w wr) (fun c _ => m.wait.length - (intOf c).toNat)
  case atStart => exact ⟨0, Nat.zero_le _, rfl, H0.out, Touch.refl _ _⟩
  case round =>
    clear c0 c1 c2
    obtain ⟨k, hk, rfl, hD, ht⟩ := hrel
    by_cases hlt : k < m.wait.length
    · obtain ⟨g, hg⟩ : ∃ g, a = some ⟨g, 0, none⟩ := by
        rcases HF.out with ⟨e, h0⟩ | ⟨g, cap', e⟩
        · omega
        · rw [HV.out] at e; cases e; exact ⟨g, rfl⟩
      rw [hg]
      obtain ⟨j, hj, hjl⟩ := hok m.wait[k] (List.getElem_mem hlt)
      have hw := hD.wait
      rw [HV.out, hg] at hw
      obtain ⟨e1, e2⟩ := waitCells_get m.wait k m.wait[k] (List.getElem?_eq_getElem hlt)
      have x1 := hw.cellAt (k * 2) (by show k * 2 < m.wait.length * 2; omega)
      have x2 := hw.cellAt (k * 2 + 1) (by show k * 2 + 1 < m.wait.length * 2; omega)
      rw [e1, hj] at x1
      rw [e2] at x2
      have hx : m.wait[k] = ((j : Int), m.wait[k].2) := by rw [← hj]
      have hsz := crN_size torn n kn kf m hn64 hz k hk
      obtain ⟨old, hold⟩ : ∃ t, (crN torn n kn kf m.wait m.sure k)[j]? = some t := ⟨_, List.getElem?_eq_getElem (by rw [crN_length]; exact hjl)⟩
      have ho64 : old.size = 64 := hsz old (List.mem_of_getElem? hold)
      have hs64 : m.wait[k].2.size = 64 := hz.2 _ (List.getElem_mem hlt)
      have S1 : crN torn n kn kf m.wait m.sure (k + 1) = (crN torn n kn kf m.wait m.sure k).set j (crV torn n kn kf k m.wait[k].2 old) := crN_step torn n kn kf m.wait m.sure k j m.wait[k].2 old (by rw [List.getElem?_eq_getElem hlt]; exact congrArg some hx) hold
      have HS1 := Lib.hid S1
      clear S1 hx
      have HD := Lib.hid hD
      have hds : d < wr.heap.size := World.rowIs.lt hD.cells
      have hss : sb < wr.heap.size := (hD.sure.lt sb rfl).2
      have c5 := hD.sure.cellAt j (by simp [crN_length]; omega)
      have f5 := hD.sure.frozenAt j
      have hold' : ((crN torn n kn kf m.wait m.sure k).map Value.string)[j]? = some (.string old) := by rw [List.getElem?_map, hold]; rfl
      simp only at c5
      rw [hold'] at c5
      have q1 := (ht.cell (p := ⟨bt, 0, none⟩) (cell_lt c1') n1).trans c1'
      have q2 := (ht.cell (p := ⟨bb, 0, none⟩) (cell_lt c2') n2).trans c2'
      have q3 := (ht.cell (p := ⟨bd, 0, none⟩) (cell_lt c3') n3).trans c3'
      have q4 := (ht.cell (p := ⟨bk, 0, none⟩) (cell_lt c4') n4).trans c4'
      have qk : KeepAt wr a0 kn kf := by
        rcases hkeep with h0 | ⟨b, off, ha, hc⟩
        · exact .inl h0
        · refine .inr ⟨b, off, ha, fun i hi => ?_⟩
          exact (ht.cell (p := ⟨b, off + i, none⟩) (cell_lt (hc i hi)) (n5 b off ha (by omega))).trans (hc i hi)
      have QF := Lib.hid (crashFn (W := (wr.alloc (.cells #[.int .i64 j, .string m.wait[k].2] 83)).drew) (j := j) (k := k) (s := m.wait[k].2) (old := old) (kf := kf) (N := m.sure.length) (sc := sc) (n := n) (torn := torn) (bt := bt) (bb := bb) (bd := bd) (bk := bk) (kc := kc) (kn := kn) (d := d) (sb := sb) (a := a0)
        (keep_alloc q1 _ 1) (keep_alloc q2 _ 1) (keep_alloc q3 _ 1) (keep_alloc q4 _ 1) (keepAt_alloc qk _ 1) (keep_alloc (by have := hD.cell.1; simp only at this; rw [crN_length] at this; exact this) _ 1) hjl (keep_alloc c5 _ 1) hn64 hs64 ho64)
      clear hold hold' q1 q2 q3 q4 qk hsz ho64 hs64
      generalize m.wait[k].2 = s at *
      obtain ⟨c0, _, _, _, _⟩ := hD.cell
      simp only at c0
      rw [crN_length] at c0
      have j1 : (0 : Int) ≤ j := by omega
      have nd : ¬ sb = d := fun e => H0.out.ne1 e.symm
      have nd' : ¬ d = sb := H0.out.ne1
      have j2 : (j : Int) < m.sure.length := by omega
      clear e1 e2 hw hD
      go_wp2
      go_region_held3 (fun w' => w'.cell? ⟨d, 0, none⟩ = some (.slice (some ⟨sb, 0, none⟩) m.sure.length sc) ∧ w'.cell? ⟨wr.heap.size, 0, none⟩ = some (.int .i64 j) ∧ w'.cell? ⟨wr.heap.size, 1, none⟩ = some (.string s)) (simp [go_sem, World.cell?_alloc_past, *])
        (first
          | (go_at_call 41; refine QF.out.mono ?_; rintro e w' ⟨rfl, q, rfl⟩))
      go_wp2
      have hD2 := (HD.out.touch (F := []) ((((Touch.refl [] _).alloc (.cells #[.int .i64 j, .string s] 83)).alloc (.cells #[.int .i64 j, .string s] 83)).drewN (1 + q)) (fun _ _ h => by cases h)).setSure j (crV torn n kn kf k s old)
      have ht2 := (((ht.alloc (.cells #[.int .i64 j, .string s] 83)).alloc (.cells #[.int .i64 j, .string s] 83)).drewN (1 + q)).setCell (p := ⟨sb, j, none⟩) (.inl (by simp [diskB])) (.string (crV torn n kn kf k s old))
      go_roundw
      case rel => exact ⟨k + 1, by omega, by go_num, by rw [HS1.out]; exact hD2, ht2⟩
      case measure => simp [intOf]; omega
    · obtain rfl : k = m.wait.length := by omega
      have HD := Lib.hid hD
      obtain ⟨_, c1, c2, _, _⟩ := hD.cell
      have f1 := hD.frozen 1
      rw [HV.out] at c1
      have HM := ownsMap_touch hD.map ((Touch.refl [d] _).setCell (w' := wr) (p := ⟨d, 1, none⟩) (.inl (by simp)) (.slice none 0 0)) (by simp; exact fun e => hD.ne2 e.symm)
      obtain ⟨w3, hrun, hm3, hg3⟩ := clear_run HM Try.underlying73
      obtain ⟨hA, hT⟩ := disk_settled hD hm3 hg3
      have HA := Lib.hid hA
      clear hD HM hm3 hg3 hA
      go_wp2
      go_end0
      refine ⟨rfl, _, ⟨_, _, _, _, _, HA.out, rfl⟩, ht.trans hT (fun b hb => .inl ?_), ?_⟩
      · simp at hb; rcases hb with rfl | rfl <;> simp [diskB]
      · intro b hb
        refine .inl ?_
        simp only [diskB, List.mem_cons, Option.mem_toList] at hb ⊢
        rcases hb with rfl | rfl | rfl | hb
        · exact .inl rfl
        · exact .inr (.inl rfl)
        · exact .inr (.inr (.inl rfl))
        · cases hb


end Go.Proofs.Ytfnfapgmicmegaa
