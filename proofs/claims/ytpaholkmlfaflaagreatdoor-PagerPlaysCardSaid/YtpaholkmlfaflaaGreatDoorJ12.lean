/- Lemmas on the way to the statement: Ref1Put, RefA, RefB, RefC, RefD, RefE, RefF. -/
import Derived.Test.YtpaholkmlfaflaaGreatDoorJ1
import Derived.Lib.Hide
import Derived.Test.YtpaholkmlfaflaaGreatDoorJ10
import Derived.Test.YtpaholkmlfaflaaGreatDoorJ5
set_option linter.unusedSimpArgs false
set_option linter.unusedVariables false
namespace Go.Proofs.YtpaholkmlfaflaaGreatDoor
open Go.RowKit
set_option linter.unusedVariables false

theorem byteAt_step (n : Int) (j : Nat) : n / 2 ^ (8 * j) / 256 = n / 2 ^ (8 * (j + 1)) := by
  rw [Int.ediv_ediv_of_nonneg (Int.le_of_lt (Int.pow_pos (by decide))), show 8 * (j + 1) = 8 * j + 8 by omega, Int.pow_add]
  rfl
theorem div_step (x : Int) (h0 : 0 ≤ x) (h1 : x ≤ 18446744073709551615) : IntKind.u64.wrap (x.tdiv 256) = x / 256 := by
  rw [IntKind.wrap_u64, Int.tdiv_eq_ediv_of_nonneg h0]; omega
theorem quot_le (n : Int) (j : Nat) (h0 : 0 ≤ n) (h : n ≤ 18446744073709551615) : n / 2 ^ (8 * j) ≤ 18446744073709551615 := by
  have : n / 2 ^ (8 * j) ≤ n := Int.ediv_le_self _ h0
  omega
theorem leB_snoc (n : Int) (k : Nat) : leB n (k + 1) = leB n k ++ [UInt8.ofNat (byteAt n k).toNat] := by
  simp [leB, List.range_succ]

/-- 'string([]byte{x})': the slice lies in the newest block. -/
theorem conv1 (w : World) (x : Int) (h0 : 0 ≤ x) (h1 : x < 256) :
    (convert 115 9 (.slice (some ⟨w.heap.size, 0, none⟩) 1 1)).run Tryz.prog (w.alloc (.cells #[.int .u8 x] 5)) = .ok (.string (S [UInt8.ofNat x.toNat])) (w.alloc (.cells #[.int .u8 x] 5)) := by
  refine run_convert_bytes_back (P := Tryz.prog) _ 115 9 5 ⟨w.heap.size, 0, none⟩ 1 [UInt8.ofNat x.toNat] Tryz.underlying115 Tryz.underlying5 Tryz.underlying9 ?_
  intro j hj
  obtain rfl : j = 0 := by simp at hj; omega
  have hm : x.toNat % 256 = x.toNat := by omega
  have : (x.toNat : Int) = x := by omega
  simp [Addr.add, go_sem, hm, this]

/-! The number of bytes, read from the left. -/
theorem leN_append (a b : List UInt8) : leN (a ++ b) = leN a + 256 ^ a.length * leN b := by
  induction a with
  | nil => simp [leN]
  | cons x a ih =>
    simp only [List.cons_append, leN, ih, List.length_cons, Int.pow_succ, Int.mul_add]
    rw [Int.mul_comm (256 ^ a.length) 256, Int.mul_assoc]
    omega
theorem cut_snoc (s : ByteArray) (j : Nat) (h : j < s.size) : cut s 0 (j + 1) = cut s 0 j ++ [s[j]] := by
  unfold cut
  rw [List.drop_zero, List.take_succ_eq_append_getElem (by simpa using h)]
  rfl
theorem pow8 (j : Nat) : (2 : Int) ^ (8 * j) = 256 ^ j := by rw [Int.pow_mul]; rfl
theorem leN_snoc (s : ByteArray) (j : Nat) (h : j < s.size) (hj : j ≤ 7) : IntKind.u64.wrap (leN (cut s 0 j) + IntKind.u64.wrap (IntKind.u64.wrap s[j].toNat * IntKind.u64.wrap (2 ^ (8 * j)))) = leN (cut s 0 (j + 1)) := by
  have hb := s[j].toNat_lt
  have hl := cut_length s 0 j (by omega)
  have h1 := leN_bd (cut s 0 j)
  have h2 := leN_bd (cut s 0 (j + 1))
  rw [cut_snoc s j h, leN_append, hl] at h2 ⊢
  have h3 : ((cut s 0 j) ++ [s[j]]).length = j + 1 := by simp [hl]
  rw [h3] at h2
  rw [hl] at h1
  simp only [leN, Int.mul_zero, Int.add_zero] at h2 ⊢
  have h4 : (256 : Int) ^ (j + 1) ≤ 18446744073709551616 := by
    rcases j with _ | _ | _ | _ | _ | _ | _ | _ | j <;> first | decide | omega
  have h5 := pow_le j hj
  have h6 : (0 : Int) < 256 ^ j := Int.pow_pos (by decide)
  have h7 : 0 ≤ (256 : Int) ^ j * s[j].toNat := Int.mul_nonneg (by omega) (by omega)
  rw [pow8, IntKind.wrap_u64, IntKind.wrap_u64, IntKind.wrap_u64, IntKind.wrap_u64, Int.emod_eq_of_lt (a := (s[j].toNat : Int)) (by omega) (by omega), Int.emod_eq_of_lt (a := 256 ^ j) (by omega) (by omega),
    Int.mul_comm, Int.emod_eq_of_lt (a := 256 ^ j * (s[j].toNat : Int)) (by omega) (by omega), Int.emod_eq_of_lt (by omega) (by omega)]
theorem pow_step (j : Nat) : IntKind.u64.wrap (IntKind.u64.wrap (2 ^ (8 * j)) * 256) = IntKind.u64.wrap (2 ^ (8 * (j + 1))) := by
  rw [IntKind.wrap_u64, IntKind.wrap_u64, IntKind.wrap_u64, show 8 * (j + 1) = 8 * j + 8 by omega, Int.pow_add]
  generalize (2 : Int) ^ (8 * j) = x
  omega

set_option maxRecDepth 100000 in
set_option maxHeartbeats 400000 in
theorem refPut_any (n : Int) (k : Nat) (w : World) (hk : k ≤ 8) (hn : 0 ≤ n) (hu : n ≤ 18446744073709551615) :
    Calls Tryz.prog 74 #[.int .u64 n, .int .i64 k] w fun e w' => e = .returned (.string (S (leB n k))) ∧ Below w.heap.size w w' := by
  go_enter Tryz.func74, Tryz.ntmps74
  go_wp2
  go_loopw [0, 5, 6] (fun m s c wr => ∃ j : Nat, j ≤ k ∧ c = .int .i64 j ∧ m = .int .u64 (n / 2 ^ (8 * j)) ∧ s = .string (S (leB n j)) ∧ Below w.heap.size w wr) (fun _ _ c _ => k - (intOf c).toNat)
  case atStart =>
    refine ⟨0, Nat.zero_le _, rfl, ?_, rfl, Below.refl _ _⟩
    simp
  case round =>
    obtain ⟨j, hj, rfl, rfl, rfl, hb⟩ := hrel
    by_cases hlt : j < k
    · have hsz := hb.size
      have z1 : (S (leB n j)).size ≤ 8 := by rw [S_size, leB_length]; omega
      have h0 : 0 ≤ n / 2 ^ (8 * j) := Int.ediv_nonneg hn (Int.le_of_lt (Int.pow_pos (by decide)))
      have hv := conv1 wr (n / 2 ^ (8 * j) % 256) (by omega) (by omega)
      have hst := byteAt_step n j
      have hq := div_step _ h0 (quot_le n j hn hu)
      rw [hst] at hq
      have hsn := leB_snoc n j
      have H1 := Lib.hid hq; have H2 := Lib.hid hsn; clear hst hsn hq
      have z2 : (S [UInt8.ofNat (n / 2 ^ (8 * j) % 256).toNat]).size ≤ 1 := by rw [S_size]; simp
      go_wp2
      go_roundw
      case rel => exact ⟨j + 1, by omega, by go_num, by rw [H1.out], by rw [H2.out, S_append]; rfl, hb.alloc hsz _⟩
      case measure => simp [intOf]; omega
    · obtain rfl : j = k := by omega
      go_wp2
      go_ret
      exact ⟨rfl, hb⟩

end Go.Proofs.YtpaholkmlfaflaaGreatDoor

namespace Go.Proofs.YtpaholkmlfaflaaGreatDoor
open Go.RowKit Go.Joins
set_option linter.unusedVariables false
theorem Tryz.infoByteF : (Tryz.prog.info? 5).map (fun i => (i.zero, i.size, i.bytes)) = some (some (.int .u8 0), 1, 1) := by kernel_rfl
theorem Tryz.infoBoolF : (Tryz.prog.info? 4).map (fun i => (i.zero, i.size, i.bytes)) = some (some (.bool false), 1, 1) := by kernel_rfl
theorem conv_nul11 (w : World) (B g n : Nat) (h : w.ownsRow B 5 1 (.slice (some ⟨g, 0, none⟩) n n) n (madeCells (Value.int .u8 0).cells (n * 1)).toList) :
    (convert 115 9 (.slice (some ⟨g, 0, none⟩) n n)).run Tryz.prog w = .ok (.string (S (nul n))) w := by
  have h1 := toList_madeCells_one (Value.int .u8 0) n
  have h2 : (Value.int .u8 0).cells = #[Value.int .u8 0] := rfl
  rw [h2, Nat.mul_one, h1] at h
  have hc := run_convert_bytes_back (P := Tryz.prog) w 115 9 5 ⟨g, 0, none⟩ n (nul n) Tryz.underlying115 Tryz.underlying5 Tryz.underlying9 (by
    intro t ht
    rw [nul_length] at ht
    have : (⟨g, 0, none⟩ : Addr).add t = ⟨g, t, none⟩ := by unfold Addr.add; split <;> simp_all
    rw [this, h.cellAt t (by omega)]
    simp [nul, ht])
  rw [nul_length] at hc
  exact hc
def kC (s : SM) : List Value := s.kinds.map (Value.int .i64)
def rC (s : SM) : List Value := s.rooms.map Value.string
def fC (s : SM) : List Value := s.free.map (Value.int .i64)
def x8 (s : SM) (i : Nat) : Value := .int .u64 (s.roots.getD i 0)
/-- A state as a value. -/
def stV (k r f : Value) (s : SM) : Value := .agg #[k, r, f, x8 s 0, x8 s 1, x8 s 2, x8 s 3, x8 s 4, x8 s 5, x8 s 6, x8 s 7]
def stB (k r f : Value) : List Nat := k.ownBlock.toList ++ (r.ownBlock.toList ++ f.ownBlock.toList)
/-- The rows of a state. -/
structure StRow (w : World) (B : Nat) (k r f : Value) (s : SM) : Prop where
  ko : w.ownsRow B 3 1 k s.kinds.length (kC s)
  ro : w.ownsRow B 9 1 r s.rooms.length (rC s)
  fo : w.ownsRow B 3 1 f s.free.length (fC s)
  nd : (stB k r f).Nodup
section
variable {w w' : World} {B : Nat} {k r f : Value} {s : SM}
/-- Where its rows lie. -/
theorem StRow.kf (h : StRow w B k r f s) : ∃ a c, k = .slice a s.kinds.length c := by
  rcases ownsRow_forms h.ko with ⟨rfl, e⟩ | ⟨g, c, rfl⟩
  · exact ⟨_, _, by rw [e]⟩
  · exact ⟨_, _, rfl⟩
theorem StRow.rf (h : StRow w B k r f s) : ∃ a c, r = .slice a s.rooms.length c := by
  rcases ownsRow_forms h.ro with ⟨rfl, e⟩ | ⟨g, c, rfl⟩
  · exact ⟨_, _, by rw [e]⟩
  · exact ⟨_, _, rfl⟩
theorem StRow.ff (h : StRow w B k r f s) : ∃ a c, f = .slice a s.free.length c := by
  rcases ownsRow_forms h.fo with ⟨rfl, e⟩ | ⟨g, c, rfl⟩
  · exact ⟨_, _, by rw [e]⟩
  · exact ⟨_, _, rfl⟩
end
set_option maxRecDepth 100000 in
set_option maxHeartbeats 2000000 in
theorem fill11_any (s : ByteArray) (n : Nat) (w : World) (h : s.size ≤ n) (hn : n ≤ 1000) :
    Calls Tryz.prog 70 #[.string s, .int .i64 n] w fun e w' => e = .returned (.string (fillR s n)) ∧ Below w.heap.size w w' := by
  obtain ⟨i0, hi, hz0, hz1, hz2⟩ := info_parts Tryz.infoByteF
  obtain ⟨m, hm⟩ : ∃ m : Nat, m = n - s.size := ⟨_, rfl⟩
  have q : IntKind.i64.wrap ((n : Int) - (s.size : Int)) = (m : Int) := by rw [IntWalk.i64_in _ (by omega)]; omega
  have q2 : (n : Int) - (s.size : Int) = (m : Int) := by omega
  have hT : s ++ S (nul m) = fillR s n := by
    unfold fillR
    have e : s ++ S (nul m) = S s.data.toList ++ S (nul m) := by rw [S_data]
    rw [e, S_append, ← hm]
  have z1 : (S (nul m)).size = m := by rw [S_size, nul_length]
  have z2 : ¬ (9223372036854775807 < s.size + m) := by omega
  have HT := Lib.hid hT
  have HM := Lib.hid hm
  clear hT hm
  go_enter Tryz.func70, Tryz.ntmps70
  go_wp2_with (at_make; refine wpList_make_full _ rfl (.tmp 9) (.tmp 9) 115 rfl w.heap.size 5 i0 (.int .u8 0) 1 Tryz.underlying115 hi hz0 hz1 .i64 .i64 m m m rfl rfl (by first | rfl | (with_reducible rw [q])) (by first | rfl | (with_reducible rw [q])) (by rw [hz2]; have := HM.out; omega) (by unfold maxLen; have := HM.out; omega) (Nat.le_refl _) ?_; intro w1 hown hgr; have hv := conv_nul11 _ _ _ _ hown)
  rw [HT.out]
  go_ret
  exact ⟨rfl, (Below.refl _ _).grown hgr (Nat.le_refl _) (by intro k h; cases h)⟩
/-- The last free page. -/
theorem firstF_nil {s : SM} (h : s.free.length = 0) : firstF s = 0 := by
  have : s.free = [] := List.eq_nil_of_length_eq_zero h
  unfold firstF; rw [this]; rfl
theorem firstF_cell {s : SM} (h : 0 < s.free.length) : (fC s)[s.free.length - 1]? = some (.int .i64 (firstF s)) := by
  unfold fC firstF
  rw [List.getElem?_map, List.getLast?_eq_getElem?]
  rw [List.getElem?_eq_getElem (by omega)]
  rfl
/-- The text of the page 0, so far. -/
def headN (s : SM) (i : Nat) : ByteArray := S (leB s.kinds.length 4 ++ (leB (firstF s) 4 ++ rootsL (s.roots.take i)))
theorem headN_zero (s : SM) : S (leB s.kinds.length 4) ++ S (leB (firstF s) 4) = headN s 0 := by unfold headN; rw [S_append]; rfl
theorem headN_size {s : SM} (h : s.roots.length = 8) {i : Nat} (hi : i ≤ 8) : (headN s i).size = 8 + 8 * i := by
  unfold headN
  rw [S_size, List.length_append, List.length_append, leB_length, leB_length, rootsL_length, List.length_take]
  omega
theorem rootsL_append (a b : List Int) : rootsL (a ++ b) = rootsL a ++ rootsL b := by unfold rootsL; simp
theorem headN_succ {s : SM} (h : s.roots.length = 8) {i : Nat} (hi : i < 8) : headN s i ++ S (leB (s.roots.getD i 0) 8) = headN s (i + 1) := by
  have : s.roots.take (i + 1) = s.roots.take i ++ [s.roots.getD i 0] := by
    rw [List.take_add_one, List.getD_eq_getElem?_getD, List.getElem?_eq_getElem (by omega)]; rfl
  unfold headN
  rw [S_append, this, rootsL_append]
  have e : rootsL [s.roots.getD i 0] = leB (s.roots.getD i 0) 8 := by simp [rootsL]
  rw [e]
  simp only [List.append_assoc]
theorem headN_all {s : SM} (h : s.roots.length = 8) : fillR (headN s 8) 496 = headS s := by
  unfold headN headS
  rw [List.take_of_length_le (by omega)]
def stCF (k r f : Value) (s : SM) : Nat → Value
  | 0 => k
  | 1 => r
  | 2 => f
  | i + 3 => x8 s i
theorem stCF_at (k r f : Value) (s : SM) (i : Nat) : stCF k r f s (3 + i) = x8 s i := by rw [Nat.add_comm]; rfl
theorem stCF_new (w : World) (k r f : Value) (s : SM) : (w.alloc (.cells #[k, r, f, x8 s 0, x8 s 1, x8 s 2, x8 s 3, x8 s 4, x8 s 5, x8 s 6, x8 s 7] 37)).rowIs w.heap.size 37 11 (stCF k r f s) := by
  refine World.rowIs_alloc w _ _ _ (fun i hi => ?_)
  rcases i with _ | _ | _ | _ | _ | _ | _ | _ | _ | _ | _ | i <;> first | rfl | (exfalso; simp at hi; done) | (exfalso; simp at hi; omega) | (exfalso; omega)
set_option maxRecDepth 100000 in
set_option maxHeartbeats 400000 in
theorem head11_any {B : Nat} {k r f : Value} {s : SM} (w : World) (h : StRow w B k r f s) (hr : s.roots.length = 8) (hb : ∀ x ∈ s.roots, 0 ≤ x ∧ x ≤ 18446744073709551615) (hk : s.kinds.length ≤ 1000000) (hf : s.free.length ≤ 1000000)
    (hf0 : 0 ≤ firstF s) (hf1 : firstF s ≤ 1000000) :
    Calls Tryz.prog 60 #[stV k r f s] w fun e w' => e = .returned (.string (headS s)) ∧ Below w.heap.size w w' := by
  obtain ⟨ak, ck, rfl⟩ := h.kf
  obtain ⟨af, cf, rfl⟩ := h.ff
  have hroots : ∀ i, i < 8 → 0 ≤ s.roots.getD i 0 ∧ s.roots.getD i 0 ≤ 18446744073709551615 := fun i hi => by
    rw [List.getD_eq_getElem?_getD, List.getElem?_eq_getElem (by omega)]
    exact hb _ (List.getElem_mem _)
  have hff : IntKind.u64.wrap (firstF s) = firstF s := by rw [IntKind.wrap_u64]; omega
  have HZ := Lib.hid (headN_zero s)
  have HS := Lib.hid (fun i hi => headN_succ hr (i := i) hi)
  have HSZ := Lib.hid (fun i hi => headN_size hr (i := i) hi)
  have HAL := Lib.hid (headN_all hr)
  have HRT := Lib.hid hroots
  have s4 : ∀ x, (S (leB x 4)).size = 4 := fun x => by rw [S_size, leB_length]
  have s8 : ∀ x, (S (leB x 8)).size = 8 := fun x => by rw [S_size, leB_length]
  clear hroots
  unfold stV
  by_cases hz : s.free.length = 0
  · have hf00 := firstF_nil hz
    have hz1 : ¬ 0 < s.free.length := by omega
    rw [hf00] at hff HZ
    clear hz
    go_enter Tryz.func60, Tryz.ntmps60
    go_wp2_with fail
    refine (refPut_any (s.kinds.length : Int) 4 _ (by omega) (by omega) (by omega)).mono ?_
    rintro e w1 ⟨rfl, hb1⟩
    have HST := Lib.hid (rowIs_touch (stCF_new w _ _ _ s) (F := []) (Touch.of_below hb1) (by simp))
    have HB1 := Lib.hid (below_step hb1 (below_alloc (Below.refl _ _)))
    clear hb1
    go_wp2_with fail
    refine (refPut_any 0 4 _ (by omega) (by omega) (by omega)).mono ?_
    rintro e w2 ⟨rfl, hb2⟩
    have HST2 := Lib.hid (rowIs_touch HST.out (F := []) (Touch.of_below hb2) (by simp))
    have HB2 := Lib.hid (below_step hb2 HB1.out)
    clear hb2
    go_wp2_with fail
    rw [HZ.out]
    clear h
    go_loopw [4, 5] (fun t c wr => ∃ i : Nat, i ≤ 8 ∧ c = .int .i64 i ∧ t = .string (headN s i) ∧ Below w2.heap.size w2 wr) (fun _ c _ => 8 - (intOf c).toNat)
    case atStart => exact ⟨0, Nat.zero_le _, rfl, rfl, Below.refl _ _⟩
    case round =>
      obtain ⟨i, hi, rfl, rfl, hbr⟩ := hrel
      have hsz := HSZ.out i hi
      by_cases hlt : i < 8
      · have ci := World.rowIs.cell (rowIs_touch HST2.out (F := []) (Touch.of_below hbr) (by simp)) (i := 3 + i) (by omega)
        rw [stCF_at] at ci
        unfold x8 at ci
        obtain ⟨X, hX⟩ : ∃ X, X = s.roots.getD i 0 := ⟨_, rfl⟩
        have hx := HRT.out i hlt
        have hst := HS.out i hlt
        rw [← hX] at ci hx hst
        have HH := Lib.hid hst
        have HB := Lib.hid hbr
        obtain ⟨hx0, hx1⟩ := hx
        clear hst hbr hX
        go_wp2_with fail
        refine (refPut_any X 8 _ (by omega) (by omega) (by omega)).mono ?_
        rintro e w3 ⟨rfl, hb3⟩
        have HB3 := Lib.hid (below_step hb3 HB.out)
        clear hb3
        go_wp2_with fail
        go_roundw
        case rel => exact ⟨i + 1, by omega, by go_num, by rw [HH.out], HB3.out⟩
        case measure => simp [intOf]; omega
      · obtain rfl : i = 8 := by omega
        have HB := Lib.hid hbr
        clear hbr
        go_wp2_with fail
        refine (fill11_any _ 496 _ (by omega) (by omega)).mono ?_
        rintro e w3 ⟨rfl, hb3⟩
        go_wp2_with fail
        go_ret
        exact ⟨by rw [HAL.out]; rfl, below_step hb3 (below_step HB.out HB2.out)⟩
  · have hz1 : 0 < s.free.length := by omega
    have hcell := firstF_cell hz1
    obtain ⟨g, c, hv⟩ := ownsRow_form h.fo hz1
    cases hv
    have hcc : w.cell? ⟨g, s.free.length - 1, none⟩ = some (.int .i64 (firstF s)) := by rw [h.fo.cellAt _ (by omega)]; exact hcell
    have hg := (h.fo.lt g rfl).2
    obtain ⟨n, hn⟩ : ∃ n, s.free.length = n + 1 := ⟨s.free.length - 1, by omega⟩
    rw [hn] at hcc ⊢
    rw [show n + 1 - 1 = n by omega] at hcc
    have e1 : ((n + 1 : Nat) : Int) - 1 = (n : Int) := by omega
    go_enter Tryz.func60, Tryz.ntmps60
    go_wp2_with fail
    refine (refPut_any (s.kinds.length : Int) 4 _ (by omega) (by omega) (by omega)).mono ?_
    rintro e w1 ⟨rfl, hb1⟩
    have HST := Lib.hid (rowIs_touch (stCF_new w _ _ _ s) (F := []) (Touch.of_below hb1) (by simp))
    have HB1 := Lib.hid (below_step hb1 (below_alloc (Below.refl _ _)))
    clear hb1
    go_wp2_with fail
    refine (refPut_any (firstF s) 4 _ (by omega) (by omega) (by omega)).mono ?_
    rintro e w2 ⟨rfl, hb2⟩
    have HST2 := Lib.hid (rowIs_touch HST.out (F := []) (Touch.of_below hb2) (by simp))
    have HB2 := Lib.hid (below_step hb2 HB1.out)
    clear hb2
    go_wp2_with fail
    rw [HZ.out]
    clear h
    go_loopw [4, 5] (fun t c wr => ∃ i : Nat, i ≤ 8 ∧ c = .int .i64 i ∧ t = .string (headN s i) ∧ Below w2.heap.size w2 wr) (fun _ c _ => 8 - (intOf c).toNat)
    case atStart => exact ⟨0, Nat.zero_le _, rfl, rfl, Below.refl _ _⟩
    case round =>
      obtain ⟨i, hi, rfl, rfl, hbr⟩ := hrel
      have hsz := HSZ.out i hi
      by_cases hlt : i < 8
      · have ci := World.rowIs.cell (rowIs_touch HST2.out (F := []) (Touch.of_below hbr) (by simp)) (i := 3 + i) (by omega)
        rw [stCF_at] at ci
        unfold x8 at ci
        obtain ⟨X, hX⟩ : ∃ X, X = s.roots.getD i 0 := ⟨_, rfl⟩
        have hx := HRT.out i hlt
        have hst := HS.out i hlt
        rw [← hX] at ci hx hst
        have HH := Lib.hid hst
        have HB := Lib.hid hbr
        obtain ⟨hx0, hx1⟩ := hx
        clear hst hbr hX
        go_wp2_with fail
        refine (refPut_any X 8 _ (by omega) (by omega) (by omega)).mono ?_
        rintro e w3 ⟨rfl, hb3⟩
        have HB3 := Lib.hid (below_step hb3 HB.out)
        clear hb3
        go_wp2_with fail
        go_roundw
        case rel => exact ⟨i + 1, by omega, by go_num, by rw [HH.out], HB3.out⟩
        case measure => simp [intOf]; omega
      · obtain rfl : i = 8 := by omega
        have HB := Lib.hid hbr
        clear hbr
        go_wp2_with fail
        refine (fill11_any _ 496 _ (by omega) (by omega)).mono ?_
        rintro e w3 ⟨rfl, hb3⟩
        go_wp2_with fail
        go_ret
        exact ⟨by rw [HAL.out]; rfl, below_step hb3 (below_step HB.out HB2.out)⟩
end Go.Proofs.YtpaholkmlfaflaaGreatDoor

namespace Go.Proofs.YtpaholkmlfaflaaGreatDoor
open Go.RowKit Go.Joins
set_option linter.unusedVariables false
/-- The 25 cells. -/
def rmF (kS rS fS kW rW fW dv : Value) (R : RM) : Nat → Value
  | 0 => .int .i64 R.most
  | 1 => .int .i64 R.room
  | 2 => kS
  | 3 => rS
  | 4 => fS
  | 5 => x8 R.sure 0
  | 6 => x8 R.sure 1
  | 7 => x8 R.sure 2
  | 8 => x8 R.sure 3
  | 9 => x8 R.sure 4
  | 10 => x8 R.sure 5
  | 11 => x8 R.sure 6
  | 12 => x8 R.sure 7
  | 13 => kW
  | 14 => rW
  | 15 => fW
  | 16 => x8 R.way 0
  | 17 => x8 R.way 1
  | 18 => x8 R.way 2
  | 19 => x8 R.way 3
  | 20 => x8 R.way 4
  | 21 => x8 R.way 5
  | 22 => x8 R.way 6
  | 23 => x8 R.way 7
  | _ => dv
/-- A list of blocks apart from another one. -/
def Off (A B : List Nat) : Prop := ∀ x ∈ A, x ∉ B
theorem Off.symm {A B : List Nat} (h : Off A B) : Off B A := fun x hx hy => h x hy hx
structure RmAt (w : World) (b : Nat) (kS rS fS kW rW fW dv : Value) (R : RM) : Prop where
  cells : w.rowIs b 43 25 (rmF kS rS fS kW rW fW dv R)
  sure : StRow w 0 kS rS fS R.sure
  way : StRow w 0 kW rW fW R.way
  dirty : w.ownsRow 0 4 1 dv R.dirty.length (R.dirty.map Value.bool)
  bS : b ∉ stB kS rS fS
  bW : b ∉ stB kW rW fW
  bD : b ∉ dv.ownBlock.toList
  sw : Off (stB kS rS fS) (stB kW rW fW)
  sd : Off (stB kS rS fS) dv.ownBlock.toList
  wd : Off (stB kW rW fW) dv.ownBlock.toList
def rmB (b : Nat) (kS rS fS kW rW fW dv : Value) : List Nat := b :: (stB kS rS fS ++ (stB kW rW fW ++ dv.ownBlock.toList))
def IsRm (w : World) (b : Nat) (F : List Nat) (R : RM) : Prop := ∃ kS rS fS kW rW fW dv, RmAt w b kS rS fS kW rW fW dv R ∧ F = rmB b kS rS fS kW rW fW dv
/-- A change of it: what was there else stays. -/
def RmGo (w w' : World) (b : Nat) (F : List Nat) (R : RM) : Prop := ∃ F', IsRm w' b F' R ∧ Touch F w w' ∧ ∀ x ∈ F', x ∈ F ∨ w.heap.size ≤ x
section
variable {w w' : World} {B b : Nat} {k r f k' r' f' : Value} {s s' : SM} {F G : List Nat}
theorem own_list {v : Value} {g : Nat} (h : v.ownBlock = some g) : g ∈ v.ownBlock.toList := by rw [h]; simp
theorem StRow.touch (h : StRow w B k r f s) (t : Touch F w w') (hF : Off (stB k r f) F) : StRow w' B k r f s :=
  ⟨ownsRow_touch h.ko t (fun g hg => hF g (by simp [stB, hg])), ownsRow_touch h.ro t (fun g hg => hF g (by simp [stB, hg])), ownsRow_touch h.fo t (fun g hg => hF g (by simp [stB, hg])), h.nd⟩
theorem StRow.lt (h : StRow w B k r f s) : ∀ x ∈ stB k r f, B ≤ x ∧ x < w.heap.size := by
  intro x hx
  simp only [stB, List.mem_append, Option.mem_toList] at hx
  rcases hx with hx | hx | hx
  · exact h.ko.lt x hx
  · exact h.ro.lt x hx
  · exact h.fo.lt x hx
theorem StRow.below (h : StRow w B k r f s) (hb : Below w.heap.size w w') : StRow w' B k r f s := h.touch (F := []) (Touch.of_below hb) (fun _ _ => by simp)
theorem StRow.base (h : StRow w B k r f s) {B' : Nat} (hB : B' ≤ B) : StRow w B' k r f s := ⟨ownsRow_le h.ko hB, ownsRow_le h.ro hB, ownsRow_le h.fo hB, h.nd⟩
theorem nd_parts (h : (stB k r f).Nodup) : Off k.ownBlock.toList (r.ownBlock.toList ++ f.ownBlock.toList) ∧ Off r.ownBlock.toList f.ownBlock.toList := by
  unfold stB at h
  rw [List.nodup_append] at h
  obtain ⟨-, h2, h3⟩ := h
  rw [List.nodup_append] at h2
  exact ⟨fun x hx hy => h3 x hx x hy rfl, fun x hx hy => h2.2.2 x hx x hy rfl⟩
theorem nd_toList (v : Value) : v.ownBlock.toList.Nodup := by cases v.ownBlock <;> simp
theorem nd_of (h1 : Off k.ownBlock.toList (r.ownBlock.toList ++ f.ownBlock.toList)) (h2 : Off r.ownBlock.toList f.ownBlock.toList) : (stB k r f).Nodup := by
  unfold stB
  rw [List.nodup_append, List.nodup_append]
  exact ⟨nd_toList k, ⟨nd_toList r, nd_toList f, fun x hx y hy e => h2 x hx (e ▸ hy)⟩, fun x hx y hy e => h1 x hx (e ▸ hy)⟩
/-- One row has become another one: kinds. -/
theorem StRow.newK (h : StRow w B k r f s) (t : Touch G w w') (hG : ∀ x ∈ G, x ∈ k.ownBlock.toList ∨ w.heap.size ≤ x) {l : List Int} (ho : w'.ownsRow B 3 1 k' l.length (l.map (Value.int .i64))) (hn : ∀ x ∈ k'.ownBlock.toList, x ∈ k.ownBlock.toList ∨ w.heap.size ≤ x) : StRow w' B k' r f { s with kinds := l } := by
  obtain ⟨n1, n2⟩ := nd_parts h.nd
  have off : ∀ x ∈ r.ownBlock.toList ++ f.ownBlock.toList, x ∉ G := fun x hx hg => by
    rcases hG x hg with h' | h'
    · exact n1 x h' hx
    · have := (h.lt x (by unfold stB; simp only [List.mem_append] at hx ⊢; exact .inr hx)).2
      omega
  refine ⟨ho, ownsRow_touch h.ro t (fun g hg => off g (by simp [hg])), ownsRow_touch h.fo t (fun g hg => off g (by simp [hg])), nd_of (fun x hx hy => ?_) n2⟩
  rcases hn x hx with h' | h'
  · exact n1 x h' hy
  · have := (h.lt x (by unfold stB; simp only [List.mem_append] at hy ⊢; exact .inr hy)).2
    omega
theorem StRow.newR (h : StRow w B k r f s) (t : Touch G w w') (hG : ∀ x ∈ G, x ∈ r.ownBlock.toList ∨ w.heap.size ≤ x) {l : List ByteArray} (ho : w'.ownsRow B 9 1 r' l.length (l.map Value.string)) (hn : ∀ x ∈ r'.ownBlock.toList, x ∈ r.ownBlock.toList ∨ w.heap.size ≤ x) : StRow w' B k r' f { s with rooms := l } := by
  obtain ⟨n1, n2⟩ := nd_parts h.nd
  have hk : ∀ x ∈ k.ownBlock.toList, x ∉ r.ownBlock.toList := fun x hx hy => n1 x hx (by simp only [List.mem_append]; exact .inl hy)
  have lk : ∀ x ∈ k.ownBlock.toList, x < w.heap.size := fun x hx => (h.lt x (by unfold stB; simp only [List.mem_append]; exact .inl hx)).2
  have lf : ∀ x ∈ f.ownBlock.toList, x < w.heap.size := fun x hx => (h.lt x (by unfold stB; simp only [List.mem_append]; exact .inr (.inr hx))).2
  refine ⟨ownsRow_touch h.ko t (fun g hg hm => ?_), ho, ownsRow_touch h.fo t (fun g hg hm => ?_), nd_of (fun x hx hy => ?_) (fun x hx hy => ?_)⟩
  · rcases hG g hm with h' | h'
    · exact hk g (own_list hg) h'
    · have := lk g (own_list hg); omega
  · rcases hG g hm with h' | h'
    · exact n2 g h' (own_list hg)
    · have := lf g (own_list hg); omega
  · rcases List.mem_append.1 hy with hy | hy
    · rcases hn x hy with h' | h'
      · exact hk x hx h'
      · have := lk x hx; omega
    · exact n1 x hx (by simp only [List.mem_append]; exact .inr hy)
  · rcases hn x hx with h' | h'
    · exact n2 x h' hy
    · have := lf x hy; omega
theorem StRow.newF (h : StRow w B k r f s) (t : Touch G w w') (hG : ∀ x ∈ G, x ∈ f.ownBlock.toList ∨ w.heap.size ≤ x) {l : List Int} (ho : w'.ownsRow B 3 1 f' l.length (l.map (Value.int .i64))) (hn : ∀ x ∈ f'.ownBlock.toList, x ∈ f.ownBlock.toList ∨ w.heap.size ≤ x) : StRow w' B k r f' { s with free := l } := by
  obtain ⟨n1, n2⟩ := nd_parts h.nd
  have lk : ∀ x ∈ k.ownBlock.toList, x < w.heap.size := fun x hx => (h.lt x (by unfold stB; simp only [List.mem_append]; exact .inl hx)).2
  have lr : ∀ x ∈ r.ownBlock.toList, x < w.heap.size := fun x hx => (h.lt x (by unfold stB; simp only [List.mem_append]; exact .inr (.inl hx))).2
  refine ⟨ownsRow_touch h.ko t (fun g hg hm => ?_), ownsRow_touch h.ro t (fun g hg hm => ?_), ho, nd_of (fun x hx hy => ?_) (fun x hx hy => ?_)⟩
  · rcases hG g hm with h' | h'
    · exact n1 g (own_list hg) (by simp only [List.mem_append]; exact .inr h')
    · have := lk g (own_list hg); omega
  · rcases hG g hm with h' | h'
    · exact n2 g (own_list hg) h'
    · have := lr g (own_list hg); omega
  · rcases List.mem_append.1 hy with hy | hy
    · exact n1 x hx (by simp only [List.mem_append]; exact .inl hy)
    · rcases hn x hy with h' | h'
      · exact n1 x hx (by simp only [List.mem_append]; exact .inr h')
      · have := lk x hx; omega
  · rcases hn x hy with h' | h'
    · exact n2 x hx h'
    · have := lr x hx; omega
end
section
variable {w w' : World} {b : Nat} {kS rS fS kW rW fW dv kW' rW' fW' dv' : Value} {R : RM} {F G : List Nat}
theorem RmAt.lt (h : RmAt w b kS rS fS kW rW fW dv R) : ∀ x ∈ rmB b kS rS fS kW rW fW dv, x < w.heap.size := by
  intro x hx
  simp only [rmB, List.mem_cons, List.mem_append] at hx
  rcases hx with rfl | hx | hx | hx
  · exact World.rowIs.lt h.cells
  · exact (h.sure.lt x hx).2
  · exact (h.way.lt x hx).2
  · exact (h.dirty.lt x (Option.mem_toList.1 hx)).2
theorem RmAt.touch (h : RmAt w b kS rS fS kW rW fW dv R) (t : Touch G w w') (hG : Off (rmB b kS rS fS kW rW fW dv) G) : RmAt w' b kS rS fS kW rW fW dv R :=
  ⟨rowIs_touch h.cells t (hG b (by simp [rmB])), h.sure.touch t (fun x hx => hG x (by simp [rmB, hx])), h.way.touch t (fun x hx => hG x (by simp [rmB, hx])), ownsRow_touch h.dirty t (fun g hg => hG g (by simp [rmB, hg])), h.bS, h.bW, h.bD, h.sw, h.sd, h.wd⟩
/-- What is under way has become another state. -/
theorem RmAt.newWay (h : RmAt w b kS rS fS kW rW fW dv R) (t : Touch G w w') (hG : ∀ x ∈ G, x = b ∨ x ∈ stB kW rW fW ∨ w.heap.size ≤ x) {s' : SM} (hc : w'.rowIs b 43 25 (rmF kS rS fS kW' rW' fW' dv { R with way := s' })) (hw : StRow w' 0 kW' rW' fW' s') (hn : ∀ x ∈ stB kW' rW' fW', x ∈ stB kW rW fW ∨ w.heap.size ≤ x) :
    RmAt w' b kS rS fS kW' rW' fW' dv { R with way := s' } := by
  have ls := fun x hx => (h.sure.lt x hx).2
  have ld : ∀ x ∈ dv.ownBlock.toList, x < w.heap.size := fun x hx => (h.dirty.lt x (Option.mem_toList.1 hx)).2
  have lb := World.rowIs.lt h.cells
  refine ⟨hc, h.sure.touch t (fun x hx hm => ?_), hw, ownsRow_touch h.dirty t (fun g hg hm => ?_), h.bS, fun hm => ?_, h.bD, fun x hx hm => ?_, h.sd, fun x hx hm => ?_⟩
  · rcases hG x hm with rfl | h' | h'
    · exact h.bS hx
    · exact h.sw x hx h'
    · have := ls x hx; omega
  · rcases hG g hm with rfl | h' | h'
    · exact h.bD (own_list hg)
    · exact h.wd g h' (own_list hg)
    · have := ld g (own_list hg); omega
  · rcases hn b hm with h' | h'
    · exact h.bW h'
    · omega
  · rcases hn x hm with h' | h'
    · exact h.sw x hx h'
    · have := ls x hx; omega
  · rcases hn x hx with h' | h'
    · exact h.wd x h' hm
    · have := ld x hm; omega
/-- The flags have become others. -/
theorem RmAt.newDirty (h : RmAt w b kS rS fS kW rW fW dv R) (t : Touch G w w') (hG : ∀ x ∈ G, x = b ∨ x ∈ dv.ownBlock.toList ∨ w.heap.size ≤ x) {l : List Bool} (hc : w'.rowIs b 43 25 (rmF kS rS fS kW rW fW dv' { R with dirty := l })) (hd : w'.ownsRow 0 4 1 dv' l.length (l.map Value.bool)) (hn : ∀ x ∈ dv'.ownBlock.toList, x ∈ dv.ownBlock.toList ∨ w.heap.size ≤ x) :
    RmAt w' b kS rS fS kW rW fW dv' { R with dirty := l } := by
  have ls := fun x hx => (h.sure.lt x hx).2
  have lw := fun x hx => (h.way.lt x hx).2
  have lb := World.rowIs.lt h.cells
  refine ⟨hc, h.sure.touch t (fun x hx hm => ?_), h.way.touch t (fun x hx hm => ?_), hd, h.bS, h.bW, fun hm => ?_, h.sw, fun x hx hm => ?_, fun x hx hm => ?_⟩
  · rcases hG x hm with rfl | h' | h'
    · exact h.bS hx
    · exact h.sd x hx h'
    · have := ls x hx; omega
  · rcases hG x hm with rfl | h' | h'
    · exact h.bW hx
    · exact h.wd x hx h'
    · have := lw x hx; omega
  · rcases hn b hm with h' | h'
    · exact h.bD h'
    · omega
  · rcases hn x hm with h' | h'
    · exact h.sd x hx h'
    · have := ls x hx; omega
  · rcases hn x hm with h' | h'
    · exact h.wd x hx h'
    · have := lw x hx; omega
theorem IsRm.touch (h : IsRm w b F R) (t : Touch G w w') (hG : Off F G) : IsRm w' b F R := by
  obtain ⟨kS, rS, fS, kW, rW, fW, dv, h, rfl⟩ := h
  exact ⟨kS, rS, fS, kW, rW, fW, dv, h.touch t hG, rfl⟩
theorem IsRm.below (h : IsRm w b F R) (hb : Below w.heap.size w w') : IsRm w' b F R := h.touch (G := []) (Touch.of_below hb) (fun _ _ => by simp)
theorem IsRm.lt (h : IsRm w b F R) : ∀ x ∈ F, x < w.heap.size := by
  obtain ⟨kS, rS, fS, kW, rW, fW, dv, h, rfl⟩ := h
  exact h.lt
end
end Go.Proofs.YtpaholkmlfaflaaGreatDoor

namespace Go.Proofs.YtpaholkmlfaflaaGreatDoor
open Go.RowKit Go.Joins
set_option linter.unusedVariables false
def bigJ (d : List Bool) (l : List Int) (i : Nat) : Nat := ((l.take i).filter fun x => !(d.getD x.toNat false)).length
theorem bigJ_succ {d : List Bool} {l : List Int} {i : Nat} (h : i < l.length) : bigJ d l (i + 1) = bigJ d l i + (if d.getD (l.getD i 0).toNat false = true then 0 else 1) := by
  unfold bigJ
  rw [List.take_add_one, List.filter_append, List.length_append, List.getD_eq_getElem?_getD (l := l), List.getElem?_eq_getElem h]
  simp only [Option.toList_some, Option.getD_some]
  have e : ∀ (p : Int → Bool) (x : Int), (([x] : List Int).filter fun x => !p x).length = if p x = true then 0 else 1 := fun p x => by cases h : p x <;> simp [h]
  exact congrArg (_ + ·) (e (fun x => d.getD x.toNat false) l[i])
theorem bigJ_le (d : List Bool) (l : List Int) (i : Nat) : bigJ d l i ≤ i := by
  unfold bigJ
  exact Nat.le_trans (List.length_filter_le _ _) (by rw [List.length_take]; omega)
theorem bigJ_all (R : RM) (l : List Int) : decide (R.room < cntR R + bigJ R.dirty l l.length) = bigR R l := by unfold bigJ bigR; rw [List.take_length]
/-- The ints lie in this block. -/
def IntsAt (w : World) (g : Nat) (l : List Int) : Prop := ∀ i, i < l.length → w.cell? ⟨g, i, none⟩ = some (.int .i64 (l.getD i 0))
theorem IntsAt.below {w w' : World} {g : Nat} {l : List Int} (h : IntsAt w g l) (hg : g < w.heap.size) (hb : Below w.heap.size w w') : IntsAt w' g l := fun i hi => (hb.cell (p := ⟨g, i, none⟩) hg).trans (h i hi)
theorem IntsAt.touch {w w' : World} {g : Nat} {l : List Int} {F : List Nat} (h : IntsAt w g l) (hg : g < w.heap.size) (t : Touch F w w') (hF : g ∉ F) : IntsAt w' g l := fun i hi => (t.cell (p := ⟨g, i, none⟩) hg hF).trans (h i hi)
def cntJ (d : List Bool) (i : Nat) : Nat := ((d.take i).filter id).length
theorem cntJ_succ {d : List Bool} {i : Nat} (h : i < d.length) : cntJ d (i + 1) = cntJ d i + (if d.getD i false = true then 1 else 0) := by
  unfold cntJ
  rw [List.take_add_one, List.filter_append, List.length_append, List.getD_eq_getElem?_getD, List.getElem?_eq_getElem h]
  cases hd : d[i] <;> simp [hd]
theorem cntJ_le (d : List Bool) (i : Nat) : cntJ d i ≤ i := by
  unfold cntJ
  exact Nat.le_trans (List.length_filter_le _ _) (by rw [List.length_take]; omega)
theorem cntJ_all (R : RM) : cntJ R.dirty R.dirty.length = cntR R := by unfold cntJ cntR; rw [List.take_length]
section
variable {w w' : World} {b : Nat} {kS rS fS kW rW fW dv : Value} {R : RM} {F : List Nat}
theorem dirty_form (h : RmAt w b kS rS fS kW rW fW dv R) (hl : 0 < R.dirty.length) : ∃ g c, dv = .slice (some ⟨g, 0, none⟩) R.dirty.length c ∧ ∀ i, i < R.dirty.length → w.cell? ⟨g, i, none⟩ = some (.bool (R.dirty.getD i false)) := by
  obtain ⟨g, c, rfl⟩ := ownsRow_form h.dirty hl
  refine ⟨g, c, rfl, fun i hi => ?_⟩
  rw [h.dirty.cellAt i (by omega), List.getElem?_map, List.getD_eq_getElem?_getD, List.getElem?_eq_getElem hi]
  rfl
set_option maxRecDepth 100000 in
set_option maxHeartbeats 2000000 in
theorem count11_any (h : IsRm w b F R) (hl : 0 < R.dirty.length) (hl2 : R.dirty.length ≤ 1000000) :
    Calls Tryz.prog 35 #[.pointer (some ⟨b, 0, none⟩)] w fun e w' => e = .returned (.int .i64 (cntR R)) ∧ w = w' := by
  obtain ⟨kS, rS, fS, kW, rW, fW, dv, h, rfl⟩ := h
  obtain ⟨g, c, rfl, hcell⟩ := dirty_form h hl
  have c24 := World.rowIs.cell h.cells (i := 24) (by decide)
  simp only [rmF] at c24
  have hlt := World.rowIs.lt h.cells
  have HA := Lib.hid (cntJ_all R)
  have HS := Lib.hid (fun i hi => cntJ_succ (d := R.dirty) (i := i) hi)
  have HC := Lib.hid hcell
  obtain ⟨N, hN⟩ : ∃ N, N = R.dirty.length := ⟨_, rfl⟩
  have HNN := Lib.hid hN
  rw [← hN] at c24 hl hl2
  clear h hcell hN
  go_enter Tryz.func35, Tryz.ntmps35
  go_wp2_with fail
  go_loop [3, 4] (fun n c => ∃ i : Nat, i ≤ N ∧ c = .int .i64 i ∧ n = .int .i64 (cntJ R.dirty i)) (fun _ c => N - (intOf c).toNat)
  case atStart => exact ⟨0, Nat.zero_le _, rfl, rfl⟩
  case round =>
    obtain ⟨i, hi, rfl, rfl⟩ := hrel
    by_cases hlt : i < N
    · have ci := HC.out i (by rw [← HNN.out]; exact hlt)
      have hle := cntJ_le R.dirty i
      have hst := HS.out i (by rw [← HNN.out]; exact hlt)
      cases hd : R.dirty.getD i false
      · rw [hd] at ci hst
        have HST := Lib.hid hst
        clear hst hd
        go_wp2
        go_round
        case rel => exact ⟨i + 1, by omega, by go_num, by rw [HST.out]; rfl⟩
        case measure => simp [intOf]; omega
      · rw [hd] at ci hst
        have HST := Lib.hid hst
        clear hst hd
        go_wp2
        go_round
        case rel => exact ⟨i + 1, by omega, by go_num, by rw [HST.out]; go_num⟩
        case measure => simp [intOf]; omega
    · obtain rfl : i = N := by omega
      go_wp2
      go_ret
      exact ⟨by rw [HNN.out, HA.out]; rfl, rfl⟩
set_option maxRecDepth 100000 in
set_option maxHeartbeats 2000000 in
theorem big11_any (h : IsRm w b F R) (hl : 0 < R.dirty.length) (hl2 : R.dirty.length ≤ 1000000) (hr : R.room ≤ 1000000) {lb cl : Nat} {l : List Int} (hi : IntsAt w lb l) (hll : l.length ≤ 1000) (hlt : ∀ i, i < l.length → 0 ≤ l.getD i 0 ∧ l.getD i 0 < R.dirty.length) :
    Calls Tryz.prog 69 #[.pointer (some ⟨b, 0, none⟩), .slice (some ⟨lb, 0, none⟩) l.length cl] w fun e w' => e = .returned (.bool (bigR R l)) ∧ ∃ q, w' = w.drewN q := by
  have HCT := Lib.hid (count11_any h hl hl2)
  have hcn : cntR R ≤ R.dirty.length := by unfold cntR; exact List.length_filter_le _ _
  obtain ⟨kS, rS, fS, kW, rW, fW, dv, h, rfl⟩ := h
  obtain ⟨g, c, rfl, hcell⟩ := dirty_form h hl
  have c24 := World.rowIs.cell h.cells (i := 24) (by decide)
  have c1 := World.rowIs.cell h.cells (i := 1) (by decide)
  simp only [rmF] at c24 c1
  have hltb := World.rowIs.lt h.cells
  have HA := Lib.hid (bigJ_all R l)
  have HS := Lib.hid (fun i hi => bigJ_succ (d := R.dirty) (l := l) (i := i) hi)
  have HC := Lib.hid hcell
  have HI := Lib.hid hi
  have HL := Lib.hid hlt
  obtain ⟨N, hN⟩ : ∃ N, N = R.dirty.length := ⟨_, rfl⟩
  obtain ⟨n, hn⟩ : ∃ n, n = l.length := ⟨_, rfl⟩
  have HNN := Lib.hid (And.intro hN hn)
  rw [← hN] at c24 hl hl2 hcn
  rw [← hn] at hll ⊢
  clear h hcell hN hn hi hlt
  go_enter Tryz.func69, Tryz.ntmps69
  go_wp2_with fail
  refine HCT.out.mono ?_
  rintro e w1 ⟨rfl, rfl⟩
  go_wp2_with fail
  go_loopw [5, 6] (fun m t wr => ∃ i : Nat, i ≤ n ∧ t = .int .i64 i ∧ m = .int .i64 ((cntR R + bigJ R.dirty l i : Nat) : Int) ∧ ∃ q, wr = w.drewN q) (fun _ t _ => n - (intOf t).toNat)
  case atStart => exact ⟨0, Nat.zero_le _, rfl, rfl, 0, rfl⟩
  case round =>
    obtain ⟨i, hi, rfl, rfl, q, rfl⟩ := hrel
    by_cases hlt : i < n
    · have hx := HL.out i (by rw [← HNN.out.2]; exact hlt)
      have xi := HI.out i (by rw [← HNN.out.2]; exact hlt)
      have hst := HS.out i (by rw [← HNN.out.2]; exact hlt)
      obtain ⟨x, hxx⟩ := Int.eq_ofNat_of_zero_le hx.1
      rw [hxx] at xi hst hx
      rw [Int.toNat_natCast] at hst
      have hxN : x < N := by have := HNN.out.1; omega
      have hx63 : (x : Int) < (N : Int) := by omega
      have ci := HC.out x (by rw [← HNN.out.1]; exact hxN)
      have hle := bigJ_le R.dirty l i
      clear hx hxx
      cases hd : R.dirty.getD x false
      · rw [hd] at ci hst
        have HST := Lib.hid hst
        clear hst hd
        go_wp2_with fail
        go_quiet (fail)
        go_wp2_with fail
        go_roundw
        case rel => exact ⟨i + 1, by omega, by go_num, by rw [HST.out]; go_num, _, rfl⟩
        case measure => simp [intOf]; omega
      · rw [hd] at ci hst
        have HST := Lib.hid hst
        clear hst hd
        go_wp2_with fail
        go_quiet (fail)
        go_wp2_with fail
        go_roundw
        case rel => exact ⟨i + 1, by omega, by go_num, by rw [HST.out]; rfl, _, rfl⟩
        case measure => simp [intOf]; omega
    · obtain rfl : i = n := by omega
      go_wp2_with fail
      go_ret
      refine ⟨?_, _, rfl⟩
      rw [← HA.out, ← HNN.out.2]
      simp
      omega
end
end Go.Proofs.YtpaholkmlfaflaaGreatDoor

namespace Go.Proofs.YtpaholkmlfaflaaGreatDoor
open Go.RowKit Go.Joins
set_option linter.unusedVariables false
theorem markR_succ {d : List Bool} {l : List Int} {i : Nat} (h : i < l.length) : markR d (l.take (i + 1)) = (markR d (l.take i)).set (l.getD i 0).toNat true := by
  unfold markR
  rw [List.take_add_one, List.foldl_append, List.getElem?_eq_getElem h, List.getD_eq_getElem?_getD, List.getElem?_eq_getElem h]
  rfl
theorem markR_length (d : List Bool) : ∀ l : List Int, (markR d l).length = d.length := by
  intro l
  unfold markR
  induction l generalizing d with
  | nil => rfl
  | cons x l ih => rw [List.foldl_cons, ih, List.length_set]
theorem map_set {α β : Type} (f : α → β) : ∀ (l : List α) (i : Nat) (x : α), (l.map f).set i (f x) = (l.set i x).map f
  | [], i, x => by simp
  | y :: l, 0, x => rfl
  | y :: l, i + 1, x => by simp
/-- The free pages are few. -/
theorem free_few {s : SM} {most : Nat} (h : PreOk s most) : s.free.length ≤ s.kinds.length := by
  have h1 : (s.free.map Int.toNat).Nodup := by
    refine List.pairwise_map.2 (List.Pairwise.imp_of_mem ?_ h.nd)
    intro a b ha hb hne e
    have := (h.fr a ha).1
    have := (h.fr b hb).1
    exact hne (by omega)
  have h2 : ∀ x ∈ s.free.map Int.toNat, x ∈ List.range s.kinds.length := by
    intro x hx
    obtain ⟨f, hf, rfl⟩ := List.mem_map.1 hx
    have := (h.fr f hf).2.1
    have := (h.fr f hf).1
    rw [List.mem_range]; omega
  have := h1.length_le_of_subset h2
  simpa using this
/-- What stands while the flags are set. -/
structure TchL (w wr : World) (g c N : Nat) (d : List Bool) : Prop where
  own : wr.ownsRow 0 4 1 (.slice (some ⟨g, 0, none⟩) N c) N (d.map Value.bool)
  t : Touch [g] w wr
section
variable {w w' : World} {b : Nat} {kS rS fS kW rW fW dv : Value} {R : RM} {F : List Nat}
/-- What is asked of its state, that it may be turned. -/
structure RmOk (R : RM) : Prop where
  way : StOk R.way R.most
  sure : StOk R.sure R.most
  dl : R.dirty.length = R.most
  big : R.most ≤ 65536
  m0 : 0 < R.most
  room : R.room ≤ 1000000
theorem rmF_way (kS rS fS kW rW fW dv : Value) (R : RM) (s : SM) (h : s.roots = R.way.roots) : rmF kS rS fS kW rW fW dv { R with way := s } = rmF kS rS fS kW rW fW dv R := by
  have : ∀ i, x8 s i = x8 R.way i := fun i => by unfold x8; rw [h]
  funext i
  unfold rmF
  simp only [this]
theorem rmF_dirty (kS rS fS kW rW fW dv : Value) (R : RM) (d : List Bool) : rmF kS rS fS kW rW fW dv { R with dirty := d } = rmF kS rS fS kW rW fW dv R := rfl
theorem RmAt.loads (h : RmAt w b kS rS fS kW rW fW dv R) : w.cell? ⟨b, 13, none⟩ = some kW ∧ w.cell? ⟨b, 14, none⟩ = some rW ∧ w.cell? ⟨b, 15, none⟩ = some fW ∧ w.cell? ⟨b, 16, none⟩ = some (x8 R.way 0) ∧ w.cell? ⟨b, 17, none⟩ = some (x8 R.way 1) ∧ w.cell? ⟨b, 18, none⟩ = some (x8 R.way 2) ∧ w.cell? ⟨b, 19, none⟩ = some (x8 R.way 3) ∧ w.cell? ⟨b, 20, none⟩ = some (x8 R.way 4) ∧ w.cell? ⟨b, 21, none⟩ = some (x8 R.way 5) ∧ w.cell? ⟨b, 22, none⟩ = some (x8 R.way 6) ∧ w.cell? ⟨b, 23, none⟩ = some (x8 R.way 7) :=
  ⟨World.rowIs.cell h.cells (i := 13) (by decide), World.rowIs.cell h.cells (i := 14) (by decide), World.rowIs.cell h.cells (i := 15) (by decide), World.rowIs.cell h.cells (i := 16) (by decide), World.rowIs.cell h.cells (i := 17) (by decide), World.rowIs.cell h.cells (i := 18) (by decide), World.rowIs.cell h.cells (i := 19) (by decide), World.rowIs.cell h.cells (i := 20) (by decide), World.rowIs.cell h.cells (i := 21) (by decide), World.rowIs.cell h.cells (i := 22) (by decide), World.rowIs.cell h.cells (i := 23) (by decide)⟩
theorem RmAt.setRoom {g c : Nat} (h : RmAt w b kS rS fS kW (.slice (some ⟨g, 0, none⟩) R.way.rooms.length c) fW dv R) (i : Nat) (t : ByteArray) :
    RmAt (w.setCell ⟨g, i, none⟩ (.string t)) b kS rS fS kW (.slice (some ⟨g, 0, none⟩) R.way.rooms.length c) fW dv { R with way := { R.way with rooms := R.way.rooms.set i t } } := by
  have hs := h.way.ro.stored i (.string t)
  have ht : Touch [g] w (w.setCell ⟨g, i, none⟩ (.string t)) := (Touch.refl _ _).setCell (.inl (by simp)) _
  have hbg : b ≠ g := fun e => h.bW (by simp [stB, Value.ownBlock, e])
  have ho := hs.1
  have e : (rC R.way).set i (.string t) = (R.way.rooms.set i t).map Value.string := map_set _ _ _ _
  rw [e] at ho
  refine h.newWay ht (fun x hx => ?_) ?_ (h.way.newR ht (fun x hx => .inl (by simpa [Value.ownBlock] using hx)) (by rw [List.length_set]; exact ho) (fun x hx => .inl hx)) (fun x hx => .inl hx)
  · simp only [List.mem_singleton] at hx
    exact .inr (.inl (by simp [stB, Value.ownBlock, hx]))
  · rw [show rmF kS rS fS kW (.slice (some ⟨g, 0, none⟩) R.way.rooms.length c) fW dv { R with way := { R.way with rooms := R.way.rooms.set i t } } = _ from rmF_way _ _ _ _ _ _ _ R { R.way with rooms := R.way.rooms.set i t } rfl]
    exact rowIs_touch h.cells ht (by simpa using hbg)
theorem RmAt.setKind {g c : Nat} (h : RmAt w b kS rS fS (.slice (some ⟨g, 0, none⟩) R.way.kinds.length c) rW fW dv R) (i : Nat) (t : Int) :
    RmAt (w.setCell ⟨g, i, none⟩ (.int .i64 t)) b kS rS fS (.slice (some ⟨g, 0, none⟩) R.way.kinds.length c) rW fW dv { R with way := { R.way with kinds := R.way.kinds.set i t } } := by
  have hs := h.way.ko.stored i (.int .i64 t)
  have ht : Touch [g] w (w.setCell ⟨g, i, none⟩ (.int .i64 t)) := (Touch.refl _ _).setCell (.inl (by simp)) _
  have hbg : b ≠ g := fun e => h.bW (by simp [stB, Value.ownBlock, e])
  have ho := hs.1
  have e : (kC R.way).set i (.int .i64 t) = (R.way.kinds.set i t).map (Value.int .i64) := map_set _ _ _ _
  rw [e] at ho
  refine h.newWay ht (fun x hx => ?_) ?_ (h.way.newK ht (fun x hx => .inl (by simpa [Value.ownBlock] using hx)) (by rw [List.length_set]; exact ho) (fun x hx => .inl hx)) (fun x hx => .inl hx)
  · simp only [List.mem_singleton] at hx
    exact .inr (.inl (by simp [stB, Value.ownBlock, hx]))
  · rw [show rmF kS rS fS (.slice (some ⟨g, 0, none⟩) R.way.kinds.length c) rW fW dv { R with way := { R.way with kinds := R.way.kinds.set i t } } = _ from rmF_way _ _ _ _ _ _ _ R { R.way with kinds := R.way.kinds.set i t } rfl]
    exact rowIs_touch h.cells ht (by simpa using hbg)
set_option maxRecDepth 100000 in
set_option maxHeartbeats 400000 in
theorem touch11_any (h : IsRm w b F R) (hd0 : 0 < R.dirty.length) (hd1 : R.dirty.length ≤ 1000000) (hp : PreOk R.way 65536) {lb cl : Nat} {l : List Int} (hi : IntsAt w lb l) (hlb : lb < w.heap.size) (hlF : lb ∉ F) (hll : l.length ≤ 1000) (hlt : ∀ i, i < l.length → 0 ≤ l.getD i 0 ∧ l.getD i 0 < R.dirty.length) :
    Calls Tryz.prog 71 #[.pointer (some ⟨b, 0, none⟩), .slice (some ⟨lb, 0, none⟩) l.length cl] w fun e w' => e = .returned (.tuple #[]) ∧ RmGo w w' b F { R with way := fixS R.way, dirty := markR R.dirty l } := by
  obtain ⟨kS, rS, fS, kW, rW, fW, dv, h, rfl⟩ := h
  obtain ⟨g, c, rfl, hcell⟩ := dirty_form h hd0
  have c24 := World.rowIs.cell h.cells (i := 24) (by decide)
  simp only [rmF] at c24
  have hltb := World.rowIs.lt h.cells
  have hgl := (h.dirty.lt g rfl).2
  have hbg : b ≠ g := fun e => h.bD (by simp [Value.ownBlock, e])
  have hlg : lb ≠ g := fun e => hlF (by simp [rmB, Value.ownBlock, e])
  have H := Lib.hid h
  have HS := Lib.hid (fun i hi => markR_succ (d := R.dirty) (l := l) (i := i) hi)
  have HI := Lib.hid hi
  have HL := Lib.hid hlt
  have HO := Lib.hid h.dirty
  obtain ⟨N, hN⟩ : ∃ N, N = R.dirty.length := ⟨_, rfl⟩
  obtain ⟨n, hn⟩ : ∃ n, n = l.length := ⟨_, rfl⟩
  have HNN := Lib.hid (And.intro hN hn)
  rw [← hN] at c24 hd0 hd1
  rw [← hN] at HO
  rw [← hn] at hll ⊢
  clear h hcell hN hn hi hlt
  go_enter Tryz.func71, Tryz.ntmps71
  go_wp2_with fail
  go_loopw [4] (fun t wr => ∃ i : Nat, i ≤ n ∧ t = .int .i64 i ∧ TchL w wr g c N (markR R.dirty (l.take i))) (fun t _ => n - (intOf t).toNat)
  case atStart => exact ⟨0, Nat.zero_le _, rfl, HO.out, Touch.refl _ _⟩
  case round =>
    obtain ⟨i, hi, rfl, hrl⟩ := hrel
    have HR := Lib.hid hrl
    have hszr := hrl.t.size
    have c24r := (hrl.t.cell (p := ⟨b, 24, none⟩) hltb (by simpa using hbg)).trans c24
    clear hrl
    by_cases hlt : i < n
    · have hx := HL.out i (by rw [← HNN.out.2]; exact hlt)
      have xi := (HI.out.touch hlb HR.out.t (by simpa using hlg)) i (by rw [← HNN.out.2]; exact hlt)
      have hst := HS.out i (by rw [← HNN.out.2]; exact hlt)
      obtain ⟨x, hxx⟩ := Int.eq_ofNat_of_zero_le hx.1
      rw [hxx] at xi hst hx
      rw [Int.toNat_natCast] at hst
      have hxN : x < N := by have := HNN.out.1; omega
      have hx63 : (x : Int) < (N : Int) := by omega
      have HST := Lib.hid hst
      have hfz := HR.out.own.frozenAt x
      have ci : wr.cell? ⟨g, x, none⟩ = some (.bool ((markR R.dirty (l.take i)).getD x false)) := by
        rw [HR.out.own.cellAt x (by omega), List.getElem?_map, List.getD_eq_getElem?_getD, List.getElem?_eq_getElem (by rw [markR_length]; have := HNN.out.1; omega)]
        rfl
      clear hx hxx hst
      go_wp2_with fail
      refine wp_region_tail (C := fun w' => ∃ n, w' = wr.drewN n) 9 (by kernel_rfl) (by kernel_rfl) ⟨1, rfl⟩ ?_
      simp only [List.take_succ_cons, List.take_zero, List.drop_succ_cons, List.drop_zero]
      repeat (first | go_big_quiet_step (fail) | quiet_step (fail))
      refine wpQuiet_nil ?_
      rintro w3 ⟨q, rfl⟩
      go_wp2_with fail
      have hso := (ownsRow_touch HR.out.own (F := []) ((Touch.refl _ _).drewN q) (by simp)).stored x (.bool true)
      rw [map_set, ← HST.out] at hso
      have HN := Lib.hid (TchL.mk hso.1 ((HR.out.t.drewN q).setCell (p := ⟨g, x, none⟩) (.inl (by simp)) (.bool true)))
      clear hso
      go_roundw
      case rel => exact ⟨i + 1, by omega, by go_num, HN.out⟩
      case measure => simp [intOf]; omega
    · obtain rfl : i = n := by omega
      have hrl := HR.out
      rw [HNN.out.2, List.take_length] at hrl
      have hmd : wr.rowIs b 43 25 (rmF kS rS fS kW rW fW (.slice (some ⟨g, 0, none⟩) R.dirty.length c) { R with dirty := markR R.dirty l }) := rowIs_touch H.out.cells hrl.t (by simpa using hbg)
      have hat := H.out.newDirty hrl.t (fun x hx => .inr (.inl (by simpa [Value.ownBlock] using hx))) hmd (by rw [markR_length]; have := HNN.out.1; subst this; exact hrl.own) (fun x hx => .inl hx)
      have HAT := Lib.hid hat
      obtain ⟨q13, q14, q15, q16, q17, q18, q19, q20, q21, q22, q23⟩ := hat.loads
      obtain ⟨gr, cr, hrw⟩ := ownsRow_form hat.way.ro (by have := hp.lr; have := hp.one; show 0 < R.way.rooms.length; omega)
      subst hrw
      have hb8 := firstF_bd hp
      have hrl2 := hp.le
      have hwy : StRow wr 0 kW _ fW R.way := hat.way
      have hHD := fun W (hb : Below wr.heap.size wr W) => Lib.hid (head11_any W (hwy.below hb) hp.r8 hp.rb (by omega) (by have := free_few hp; omega) hb8.1 (by omega))
      unfold stV at hHD
      have hrl3 : 0 < R.way.rooms.length := by have := hp.lr; have := hp.one; omega
      have hb2 : b < wr.heap.size := Nat.lt_of_lt_of_le hltb hszr
      have kk : ∀ {o : Nat} {v : Value}, wr.cell? ⟨b, o, none⟩ = some v → ∀ x : Later wr, x.1.cell? ⟨b, o, none⟩ = some v := fun e x => (x.cell hb2).trans e
      have k13 := kk q13
      have k14 := kk q14
      have k15 := kk q15
      have k16 := kk q16
      have k17 := kk q17
      have k18 := kk q18
      have k19 := kk q19
      have k20 := kk q20
      have k21 := kk q21
      have k22 := kk q22
      have k23 := kk q23
      clear kk
      clear hrl hmd hat c24r
      go_wp2_with fail
      refine wp_region_later_tail 11 (by kernel_rfl) (by kernel_rfl) ?_
      simp only [List.take_succ_cons, List.take_zero, List.drop_succ_cons, List.drop_zero]
      repeat (first | go_big_quiet_step ((go_at_call 60; refine Later.call (hHD _ (Subtype.property _)).out)) | quiet_step ((go_at_call 60; refine Later.call (hHD _ (Subtype.property _)).out)))
      refine wpQuiet_nil ?_
      rintro w3 ⟨y3, hw3⟩
      have hb3 : Below wr.heap.size wr w3 := by rw [hw3]; exact y3.2
      have hat3 := HAT.out.touch (G := []) (Touch.of_below hb3) (fun _ _ => by simp)
      have hfz := hat3.way.ro.frozenAt 0
      have ci : w3.cell? ⟨gr, 0, none⟩ = some (.string (R.way.rooms.getD 0 ⟨#[]⟩)) := by
        rw [hat3.way.ro.cellAt 0 (by show 0 < R.way.rooms.length * 1; omega), List.getD_eq_getElem?_getD]
        show (R.way.rooms.map Value.string)[0]? = _
        rw [List.getElem?_map, List.getElem?_eq_getElem hrl3]
        rfl
      have HAT3 := Lib.hid (RmAt.setRoom (R := { R with dirty := markR R.dirty l }) hat3 0 (headS R.way))
      have HB3 := Lib.hid hb3
      clear hw3 hb3 hat3
      go_wp2_with fail
      go_end0
      refine ⟨rfl, _, ⟨_, _, _, _, _, _, _, HAT3.out, rfl⟩, ?_, fun x hx => ?_⟩
      · refine ((HR.out.t.trans (Touch.of_below (F := []) HB3.out) (fun _ h => by simp at h)).mono (fun x hx => .inl ?_)).setCell (.inl ?_) _
        · simp only [List.mem_singleton] at hx
          simp [rmB, Value.ownBlock, hx]
        · simp [rmB, stB, Value.ownBlock]
      · exact .inl hx
end
end Go.Proofs.YtpaholkmlfaflaaGreatDoor

namespace Go.Proofs.YtpaholkmlfaflaaGreatDoor
open Go.RowKit Go.Joins
set_option linter.unusedVariables false
section
variable {w w' : World} {b : Nat} {kS rS fS kW rW fW dv : Value} {R : RM} {F : List Nat}
theorem RmGo.same (h : IsRm w b F R) (hb : Below w.heap.size w w') : RmGo w w' b F R := ⟨F, h.below hb, Touch.of_below hb, fun _ hx => .inl hx⟩
theorem RmGo.after {w1 : World} (hb : Below w.heap.size w w1) (h : RmGo w1 w' b F R) : RmGo w w' b F R := by
  obtain ⟨F', h1, t, f⟩ := h
  exact ⟨F', h1, (Touch.of_below hb).trans t (fun x hx => .inl hx), fun x hx => (f x hx).elim .inl (fun h => .inr (Nat.le_trans hb.size h))⟩
theorem kinds_form (h : RmAt w b kS rS fS kW rW fW dv R) (hl : 0 < R.way.kinds.length) : ∃ g c, kW = .slice (some ⟨g, 0, none⟩) R.way.kinds.length c ∧ ∀ i, i < R.way.kinds.length → w.cell? ⟨g, i, none⟩ = some (.int .i64 (R.way.kinds.getD i 0)) := by
  obtain ⟨g, c, rfl⟩ := ownsRow_form h.way.ko hl
  refine ⟨g, c, rfl, fun i hi => ?_⟩
  rw [h.way.ko.cellAt i (by omega), kC, List.getElem?_map, List.getD_eq_getElem?_getD, List.getElem?_eq_getElem hi]
  rfl
theorem rooms_form (h : RmAt w b kS rS fS kW rW fW dv R) (hl : 0 < R.way.rooms.length) : ∃ g c, rW = .slice (some ⟨g, 0, none⟩) R.way.rooms.length c ∧ ∀ i, i < R.way.rooms.length → w.cell? ⟨g, i, none⟩ = some (.string (R.way.rooms.getD i ⟨#[]⟩)) := by
  obtain ⟨g, c, rfl⟩ := ownsRow_form h.way.ro hl
  refine ⟨g, c, rfl, fun i hi => ?_⟩
  rw [h.way.ro.cellAt i (by omega), rC, List.getElem?_map, List.getD_eq_getElem?_getD, List.getElem?_eq_getElem hi]
  rfl
theorem ints_one (w : World) (n : Nat) : IntsAt (w.alloc (.cells #[.int .i64 n] 3)) w.heap.size [(n : Int)] := by
  intro i hi
  obtain rfl : i = 0 := by simp at hi; omega
  exact cell_one_new w (.int .i64 n) 3 0 _ rfl
/-- One flag set. -/
theorem RmAt.setFlag {g c : Nat} (h : RmAt w b kS rS fS kW rW fW (.slice (some ⟨g, 0, none⟩) R.dirty.length c) R) (i : Nat) :
    RmAt (w.setCell ⟨g, i, none⟩ (.bool true)) b kS rS fS kW rW fW (.slice (some ⟨g, 0, none⟩) R.dirty.length c) { R with dirty := R.dirty.set i true } := by
  have hs := h.dirty.stored i (.bool true)
  have ht : Touch [g] w (w.setCell ⟨g, i, none⟩ (.bool true)) := (Touch.refl _ _).setCell (.inl (by simp)) _
  have hbg : b ≠ g := fun e => h.bD (by simp [Value.ownBlock, e])
  have ho := hs.1
  rw [map_set] at ho
  exact h.newDirty ht (fun x hx => .inr (.inl (by simpa [Value.ownBlock] using hx))) (rowIs_touch h.cells ht (by simpa using hbg)) (by rw [List.length_set]; exact ho) (fun x hx => .inl hx)
set_option maxRecDepth 100000 in
set_option maxHeartbeats 400000 in
theorem write11_any (h : IsRm w b F R) (hk : RmOk R) (no kind : Int) (room : ByteArray) (n1 : -9223372036854775808 ≤ no) (n2 : no ≤ 9223372036854775807) :
    Calls Tryz.prog 29 #[.pointer (some ⟨b, 0, none⟩), .int .i64 no, .int .i64 kind, .string room] w fun e w' => e = .returned (.int .i64 (writeR R no kind room).1) ∧ RmGo w w' b F (writeR R no kind room).2 := by
  have hone := hk.way.one
  have hle := hk.way.le
  have hbig := hk.big
  have hdl := hk.dl
  have hm0 := hk.m0
  have hlr := hk.way.lr
  obtain ⟨kS, rS, fS, kW, rW, fW, dv, hat, rfl⟩ := h
  have HIS := Lib.hid (show IsRm w b _ R from ⟨_, _, _, _, _, _, _, hat, rfl⟩)
  obtain ⟨g, c, rfl, hcell⟩ := kinds_form hat (by omega)
  have c13 := World.rowIs.cell hat.cells (i := 13) (by decide)
  simp only [rmF] at c13
  have hlt := World.rowIs.lt hat.cells
  by_cases hno : no < 1
  · have e : writeR R no kind room = (1, R) := by unfold writeR; rw [if_pos (.inl hno)]
    rw [e]
    go_enter Tryz.func29, Tryz.ntmps29
    go_wp2_with fail
    go_ret
    exact ⟨rfl, RmGo.same HIS.out (Below.refl _ _)⟩
  obtain ⟨n, rfl⟩ : ∃ n : Nat, no = n := ⟨no.toNat, by omega⟩
  have hl : lenR R = R.way.kinds.length := rfl
  by_cases hin : R.way.kinds.length ≤ n
  · have e : writeR R n kind room = (1, R) := by unfold writeR; rw [if_pos (.inr (.inl (by rw [hl]; omega)))]
    rw [e]
    go_enter Tryz.func29, Tryz.ntmps29
    go_wp2_with fail
    go_ret
    exact ⟨rfl, RmGo.same HIS.out (Below.refl _ _)⟩
  by_cases hk2 : kind < 2
  · have e : writeR R n kind room = (1, R) := by unfold writeR; rw [if_pos (.inr (.inr (.inl hk2)))]
    rw [e]
    go_enter Tryz.func29, Tryz.ntmps29
    go_wp2_with fail
    go_ret
    exact ⟨rfl, RmGo.same HIS.out (Below.refl _ _)⟩
  by_cases hk3 : 254 < kind
  · have e : writeR R n kind room = (1, R) := by unfold writeR; rw [if_pos (.inr (.inr (.inr hk3)))]
    rw [e]
    go_enter Tryz.func29, Tryz.ntmps29
    go_wp2_with fail
    go_ret
    exact ⟨rfl, RmGo.same HIS.out (Below.refl _ _)⟩
  have hcond : ¬ ((n : Int) < 1 ∨ lenR R ≤ n ∨ kind < 2 ∨ 254 < kind) := by rw [hl]; omega
  by_cases hrs : 496 < room.size
  · have e : writeR R n kind room = (3, R) := by unfold writeR; rw [if_neg hcond, if_pos hrs]
    rw [e]
    go_enter Tryz.func29, Tryz.ntmps29
    go_wp2_with fail
    go_ret
    exact ⟨rfl, RmGo.same HIS.out (Below.refl _ _)⟩
  obtain ⟨gr, cr, rfl, hcellr⟩ := rooms_form hat (by omega)
  obtain ⟨gd, cd, rfl, hcelld⟩ := dirty_form hat (by omega)
  have HIS := Lib.hid (show IsRm w b _ R from ⟨_, _, _, _, _, _, _, hat, rfl⟩)
  have HAT := Lib.hid hat
  have HBG := Lib.hid (big11_any (HIS.out.below (below_alloc (o := .cells #[.int .i64 n] 3) (Below.refl _ _))) (by omega) (by omega) hk.room (lb := w.heap.size) (cl := 1) (l := [(n : Int)]) (ints_one w n) (by simp) (fun i hi => by
    obtain rfl : i = 0 := by simp at hi; omega
    show 0 ≤ (n : Int) ∧ (n : Int) < _
    omega))
  have hnl : n < R.way.kinds.length := by omega
  clear hat hcell hcellr hcelld
  cases hbg : bigR R [(n : Int)]
  rotate_left
  · have e : writeR R n kind room = (10, R) := by unfold writeR; rw [if_neg hcond, if_neg hrs, if_pos hbg]
    rw [e]
    rw [hbg] at HBG
    go_enter Tryz.func29, Tryz.ntmps29
    go_wp2_with fail
    refine HBG.out.mono ?_
    rintro e w2 ⟨rfl, q, hq⟩
    have hb2 : Below w.heap.size w w2 := by rw [hq]; exact below_drewN (below_alloc (Below.refl _ _)) _
    have HB2 := Lib.hid hb2
    clear hq hb2
    go_wp2_with fail
    go_ret
    exact ⟨rfl, RmGo.same HIS.out HB2.out⟩
  · have e : writeR R n kind room = (0, { R with way := { R.way with kinds := R.way.kinds.set n kind, rooms := R.way.rooms.set n (fillR room 496) }, dirty := R.dirty.set n true }) := by unfold writeR; rw [if_neg hcond, if_neg hrs, hbg]; rfl
    rw [e]
    rw [hbg] at HBG
    clear e
    go_enter Tryz.func29, Tryz.ntmps29
    go_wp2_with fail
    refine HBG.out.mono ?_
    rintro e w2 ⟨rfl, q, hq⟩
    have hb2 : Below w.heap.size w w2 := by rw [hq]; exact below_drewN (below_alloc (Below.refl _ _)) _
    have HB2 := Lib.hid hb2
    clear hq hb2
    have hat2 := HAT.out.touch (G := []) (Touch.of_below HB2.out) (fun _ _ => by simp)
    have c13 := World.rowIs.cell hat2.cells (i := 13) (by decide)
    simp only [rmF] at c13
    have ck : w2.cell? ⟨g, n, none⟩ = some (.int .i64 (R.way.kinds.getD n 0)) := by
      rw [hat2.way.ko.cellAt n (by omega), kC, List.getElem?_map, List.getD_eq_getElem?_getD, List.getElem?_eq_getElem hnl]
      rfl
    have fk := hat2.way.ko.frozenAt n
    have HAT2 := Lib.hid hat2
    clear hat2
    go_wp2_with fail
    have hat3 := HAT2.out.setKind n kind
    have t3 : Touch [g] w2 (w2.setCell ⟨g, n, none⟩ (.int .i64 kind)) := (Touch.refl _ _).setCell (.inl (by simp)) _
    generalize w2.setCell ⟨g, n, none⟩ (.int .i64 kind) = w3 at hat3 t3 ⊢
    have hlt3 := World.rowIs.lt hat3.cells
    have c14 := World.rowIs.cell hat3.cells (i := 14) (by decide)
    simp only [rmF] at c14
    have k14 : ∀ x : Later w3, x.1.cell? ⟨b, 14, none⟩ = some (.slice (some ⟨gr, 0, none⟩) R.way.rooms.length cr) := fun x => (x.cell hlt3).trans c14
    have HFL := Lib.hid (fun x : Later w3 => fill11_any room 496 x.1 (by omega) (by omega))
    have hnr : n < R.way.rooms.length := by omega
    have hnd : n < R.dirty.length := by omega
    have HAT3 := Lib.hid hat3
    have HT3 := Lib.hid t3
    clear hat3 t3 c13 ck fk hlr hdl
    refine wp_region_later_tail 9 (by kernel_rfl) (by kernel_rfl) ?_
    simp only [List.take_succ_cons, List.take_zero, List.drop_succ_cons, List.drop_zero]
    repeat (first | go_big_quiet_step ((go_at_call 70; refine Later.call (HFL.out _))) | quiet_step ((go_at_call 70; refine Later.call (HFL.out _))))
    refine wpQuiet_nil ?_
    rintro w4 ⟨y4, hw4⟩
    have hb4 : Below w3.heap.size w3 w4 := by rw [hw4]; exact y4.2
    have hat4 := HAT3.out.touch (G := []) (Touch.of_below hb4) (fun _ _ => by simp)
    have f4 := hat4.way.ro.frozenAt n
    have c4 : w4.cell? ⟨gr, n, none⟩ = some (.string (R.way.rooms.getD n ⟨#[]⟩)) := by
      rw [hat4.way.ro.cellAt n (by show n < R.way.rooms.length * 1; omega), List.getD_eq_getElem?_getD]
      show (R.way.rooms.map Value.string)[n]? = _
      rw [List.getElem?_map, List.getElem?_eq_getElem hnr]
      rfl
    have c24 := World.rowIs.cell hat4.cells (i := 24) (by decide)
    simp only [rmF] at c24
    have f5 := hat4.dirty.frozenAt n
    have c5 : w4.cell? ⟨gd, n, none⟩ = some (.bool (R.dirty.getD n false)) := by
      rw [hat4.dirty.cellAt n (by show n < R.dirty.length * 1; omega), List.getElem?_map, List.getD_eq_getElem?_getD, List.getElem?_eq_getElem hnd]
      rfl
    have hbr : b ≠ gr := fun e => hat4.bW (by simp [stB, Value.ownBlock, e])
    have hdr : gd ≠ gr := fun e => hat4.wd gr (by simp [stB, Value.ownBlock]) (by simp [Value.ownBlock, e])
    have hrd : gr ≠ gd := fun e => hdr e.symm
    have hrb : gr ≠ b := fun e => hbr e.symm
    have h5 := RmAt.setFlag (R := { R with way := { R.way with kinds := R.way.kinds.set n kind, rooms := R.way.rooms.set n (fillR room 496) } }) (RmAt.setRoom (R := { R with way := { R.way with kinds := R.way.kinds.set n kind } }) hat4 n (fillR room 496)) n
    have H5 := Lib.hid h5
    have HB4 := Lib.hid hb4
    clear hw4 hb4 hat4 h5 k14 c14
    go_wp2_with fail
    go_ret
    refine ⟨rfl, _, ⟨_, _, _, _, _, _, _, H5.out, rfl⟩, ?_, fun x hx => .inl hx⟩
    refine (((Touch.of_below HB2.out).trans (HT3.out.trans (Touch.of_below (F := []) HB4.out) (fun _ h => by simp at h)) (fun x hx => .inl ?_)).setCell (.inl ?_) _).setCell (.inl ?_) _
    · simp only [List.mem_singleton] at hx
      simp [rmB, stB, Value.ownBlock, hx]
    · simp [rmB, stB, Value.ownBlock]
    · simp [rmB, stB, Value.ownBlock]
end
end Go.Proofs.YtpaholkmlfaflaaGreatDoor

namespace Go.Proofs.YtpaholkmlfaflaaGreatDoor
open Go.RowKit Go.Joins
set_option linter.unusedVariables false
section
variable {w w5 : World} {b : Nat} {kS rS fS kW rW fW dv : Value} {R : RM} {F : List Nat}
theorem RmAt.appKind {g2 cap2 N : Nat} (h : RmAt w b kS rS fS kW rW fW dv R) (l : List Int) (hN : l.length = N) (ho : w5.ownsRow 0 3 1 (.slice (some ⟨g2, 0, none⟩) N cap2) N (l.map (Value.int .i64))) (hg : w.grownBy w5 kW.ownBlock) (hn : kW.ownBlock = some g2 ∨ w.heap.size ≤ g2) :
    RmAt (w5.setCell ⟨b, 13, none⟩ (.slice (some ⟨g2, 0, none⟩) N cap2)) b kS rS fS (Value.slice (some ⟨g2, 0, none⟩) N cap2) rW fW dv { R with way := { R.way with kinds := l } } ∧ Touch (rmB b kS rS fS kW rW fW dv) w (w5.setCell ⟨b, 13, none⟩ (.slice (some ⟨g2, 0, none⟩) N cap2)) ∧ ∀ x ∈ rmB b kS rS fS (Value.slice (some ⟨g2, 0, none⟩) N cap2) rW fW dv, x ∈ rmB b kS rS fS kW rW fW dv ∨ w.heap.size ≤ x := by
  subst hN
  have t5 : Touch kW.ownBlock.toList w w5 := Touch.of_grown hg
  have hsub : ∀ x ∈ kW.ownBlock.toList, x ∈ stB kW rW fW := fun x hx => by simp only [stB, List.mem_append]; exact .inl hx
  have hlb := World.rowIs.lt h.cells
  have hb5 : b ∉ kW.ownBlock.toList := fun hx => h.bW (hsub b hx)
  have hbg : b ≠ g2 := fun e => by
    rcases hn with hn | hn
    · exact hb5 (by rw [hn]; simp [e])
    · omega
  have hnew : ∀ x ∈ (Value.slice (some ⟨g2, 0, none⟩) l.length cap2).ownBlock.toList, x ∈ kW.ownBlock.toList ∨ w.heap.size ≤ x := fun x hx => by
    have e : x = g2 := by simpa [Value.ownBlock] using hx
    subst e
    rcases hn with hn | hn
    · exact .inl (by rw [hn]; simp)
    · exact .inr hn
  have hst := h.way.newK t5 (fun x hx => .inl hx) ho hnew
  have tb : Touch [b] w5 (w5.setCell ⟨b, 13, none⟩ (.slice (some ⟨g2, 0, none⟩) l.length cap2)) := (Touch.refl _ _).setCell (.inl (by simp)) _
  have tt : Touch (b :: kW.ownBlock.toList) w (w5.setCell ⟨b, 13, none⟩ (.slice (some ⟨g2, 0, none⟩) l.length cap2)) := (t5.mono (fun x hx => .inl (by simp only [List.mem_cons]; exact .inr hx))).trans tb (fun x hx => .inl (by simp only [List.mem_singleton] at hx; simp [hx]))
  have hnb : ∀ x ∈ stB (Value.slice (some ⟨g2, 0, none⟩) l.length cap2) rW fW, x ∈ stB kW rW fW ∨ w.heap.size ≤ x := fun x hx => by
    simp only [stB, List.mem_append] at hx ⊢
    rcases hx with hx | hx | hx
    · exact (hnew x hx).imp .inl id
    · exact .inl (.inr (.inl hx))
    · exact .inl (.inr (.inr hx))
  refine ⟨h.newWay tt (fun x hx => ?_) ?_ (hst.touch tb (fun x hx hm => ?_)) hnb, tt.mono (fun x hx => .inl ?_), fun x hx => ?_⟩
  · rcases List.mem_cons.1 hx with rfl | hx
    · exact .inl rfl
    · exact .inr (.inl (hsub x hx))
  · have h5 := rowIs_touch h.cells t5 hb5
    refine World.rowIs.congr (World.rowIs.set h5 13 _) (fun t ht => ?_)
    rcases t with _ | _ | _ | _ | _ | _ | _ | _ | _ | _ | _ | _ | _ | _ | _ | _ | _ | _ | _ | _ | _ | _ | _ | _ | _ | t <;> first | rfl | (exfalso; omega)
  · have e : x = b := by simpa using hm
    subst e
    rcases hnb x hx with h' | h'
    · exact h.bW h'
    · omega
  · rcases List.mem_cons.1 hx with rfl | hx
    · simp [rmB]
    · have := hsub x hx
      simp only [rmB, List.mem_cons, List.mem_append]
      exact .inr (.inr (.inl this))
  · simp only [rmB, List.mem_cons, List.mem_append] at hx ⊢
    rcases hx with hx | hx | hx | hx
    · exact .inl (.inl hx)
    · exact .inl (.inr (.inl hx))
    · rcases hnb x hx with h' | h'
      · exact .inl (.inr (.inr (.inl h')))
      · exact .inr h'
    · exact .inl (.inr (.inr (.inr hx)))
theorem RmAt.appRoom {g2 cap2 N : Nat} (h : RmAt w b kS rS fS kW rW fW dv R) (l : List ByteArray) (hN : l.length = N) (ho : w5.ownsRow 0 9 1 (.slice (some ⟨g2, 0, none⟩) N cap2) N (l.map Value.string)) (hg : w.grownBy w5 rW.ownBlock) (hn : rW.ownBlock = some g2 ∨ w.heap.size ≤ g2) :
    RmAt (w5.setCell ⟨b, 14, none⟩ (.slice (some ⟨g2, 0, none⟩) N cap2)) b kS rS fS kW (Value.slice (some ⟨g2, 0, none⟩) N cap2) fW dv { R with way := { R.way with rooms := l } } ∧ Touch (rmB b kS rS fS kW rW fW dv) w (w5.setCell ⟨b, 14, none⟩ (.slice (some ⟨g2, 0, none⟩) N cap2)) ∧ ∀ x ∈ rmB b kS rS fS kW (Value.slice (some ⟨g2, 0, none⟩) N cap2) fW dv, x ∈ rmB b kS rS fS kW rW fW dv ∨ w.heap.size ≤ x := by
  subst hN
  have t5 : Touch rW.ownBlock.toList w w5 := Touch.of_grown hg
  have hsub : ∀ x ∈ rW.ownBlock.toList, x ∈ stB kW rW fW := fun x hx => by simp only [stB, List.mem_append]; exact .inr (.inl hx)
  have hlb := World.rowIs.lt h.cells
  have hb5 : b ∉ rW.ownBlock.toList := fun hx => h.bW (hsub b hx)
  have hbg : b ≠ g2 := fun e => by
    rcases hn with hn | hn
    · exact hb5 (by rw [hn]; simp [e])
    · omega
  have hnew : ∀ x ∈ (Value.slice (some ⟨g2, 0, none⟩) l.length cap2).ownBlock.toList, x ∈ rW.ownBlock.toList ∨ w.heap.size ≤ x := fun x hx => by
    have e : x = g2 := by simpa [Value.ownBlock] using hx
    subst e
    rcases hn with hn | hn
    · exact .inl (by rw [hn]; simp)
    · exact .inr hn
  have hst := h.way.newR t5 (fun x hx => .inl hx) ho hnew
  have tb : Touch [b] w5 (w5.setCell ⟨b, 14, none⟩ (.slice (some ⟨g2, 0, none⟩) l.length cap2)) := (Touch.refl _ _).setCell (.inl (by simp)) _
  have tt : Touch (b :: rW.ownBlock.toList) w (w5.setCell ⟨b, 14, none⟩ (.slice (some ⟨g2, 0, none⟩) l.length cap2)) := (t5.mono (fun x hx => .inl (by simp only [List.mem_cons]; exact .inr hx))).trans tb (fun x hx => .inl (by simp only [List.mem_singleton] at hx; simp [hx]))
  have hnb : ∀ x ∈ stB kW (Value.slice (some ⟨g2, 0, none⟩) l.length cap2) fW, x ∈ stB kW rW fW ∨ w.heap.size ≤ x := fun x hx => by
    simp only [stB, List.mem_append] at hx ⊢
    rcases hx with hx | hx | hx
    · exact .inl (.inl hx)
    · exact (hnew x hx).imp (fun h => .inr (.inl h)) id
    · exact .inl (.inr (.inr hx))
  refine ⟨h.newWay tt (fun x hx => ?_) ?_ (hst.touch tb (fun x hx hm => ?_)) hnb, tt.mono (fun x hx => .inl ?_), fun x hx => ?_⟩
  · rcases List.mem_cons.1 hx with rfl | hx
    · exact .inl rfl
    · exact .inr (.inl (hsub x hx))
  · have h5 := rowIs_touch h.cells t5 hb5
    refine World.rowIs.congr (World.rowIs.set h5 14 _) (fun t ht => ?_)
    rcases t with _ | _ | _ | _ | _ | _ | _ | _ | _ | _ | _ | _ | _ | _ | _ | _ | _ | _ | _ | _ | _ | _ | _ | _ | _ | t <;> first | rfl | (exfalso; omega)
  · have e : x = b := by simpa using hm
    subst e
    rcases hnb x hx with h' | h'
    · exact h.bW h'
    · omega
  · rcases List.mem_cons.1 hx with rfl | hx
    · simp [rmB]
    · have := hsub x hx
      simp only [rmB, List.mem_cons, List.mem_append]
      exact .inr (.inr (.inl this))
  · simp only [rmB, List.mem_cons, List.mem_append] at hx ⊢
    rcases hx with hx | hx | hx | hx
    · exact .inl (.inl hx)
    · exact .inl (.inr (.inl hx))
    · rcases hnb x hx with h' | h'
      · exact .inl (.inr (.inr (.inl h')))
      · exact .inr h'
    · exact .inl (.inr (.inr (.inr hx)))
theorem RmAt.appFree {g2 cap2 N : Nat} (h : RmAt w b kS rS fS kW rW fW dv R) (l : List Int) (hN : l.length = N) (ho : w5.ownsRow 0 3 1 (.slice (some ⟨g2, 0, none⟩) N cap2) N (l.map (Value.int .i64))) (hg : w.grownBy w5 fW.ownBlock) (hn : fW.ownBlock = some g2 ∨ w.heap.size ≤ g2) :
    RmAt (w5.setCell ⟨b, 15, none⟩ (.slice (some ⟨g2, 0, none⟩) N cap2)) b kS rS fS kW rW (Value.slice (some ⟨g2, 0, none⟩) N cap2) dv { R with way := { R.way with free := l } } ∧ Touch (rmB b kS rS fS kW rW fW dv) w (w5.setCell ⟨b, 15, none⟩ (.slice (some ⟨g2, 0, none⟩) N cap2)) ∧ ∀ x ∈ rmB b kS rS fS kW rW (Value.slice (some ⟨g2, 0, none⟩) N cap2) dv, x ∈ rmB b kS rS fS kW rW fW dv ∨ w.heap.size ≤ x := by
  subst hN
  have t5 : Touch fW.ownBlock.toList w w5 := Touch.of_grown hg
  have hsub : ∀ x ∈ fW.ownBlock.toList, x ∈ stB kW rW fW := fun x hx => by simp only [stB, List.mem_append]; exact .inr (.inr hx)
  have hlb := World.rowIs.lt h.cells
  have hb5 : b ∉ fW.ownBlock.toList := fun hx => h.bW (hsub b hx)
  have hbg : b ≠ g2 := fun e => by
    rcases hn with hn | hn
    · exact hb5 (by rw [hn]; simp [e])
    · omega
  have hnew : ∀ x ∈ (Value.slice (some ⟨g2, 0, none⟩) l.length cap2).ownBlock.toList, x ∈ fW.ownBlock.toList ∨ w.heap.size ≤ x := fun x hx => by
    have e : x = g2 := by simpa [Value.ownBlock] using hx
    subst e
    rcases hn with hn | hn
    · exact .inl (by rw [hn]; simp)
    · exact .inr hn
  have hst := h.way.newF t5 (fun x hx => .inl hx) ho hnew
  have tb : Touch [b] w5 (w5.setCell ⟨b, 15, none⟩ (.slice (some ⟨g2, 0, none⟩) l.length cap2)) := (Touch.refl _ _).setCell (.inl (by simp)) _
  have tt : Touch (b :: fW.ownBlock.toList) w (w5.setCell ⟨b, 15, none⟩ (.slice (some ⟨g2, 0, none⟩) l.length cap2)) := (t5.mono (fun x hx => .inl (by simp only [List.mem_cons]; exact .inr hx))).trans tb (fun x hx => .inl (by simp only [List.mem_singleton] at hx; simp [hx]))
  have hnb : ∀ x ∈ stB kW rW (Value.slice (some ⟨g2, 0, none⟩) l.length cap2), x ∈ stB kW rW fW ∨ w.heap.size ≤ x := fun x hx => by
    simp only [stB, List.mem_append] at hx ⊢
    rcases hx with hx | hx | hx
    · exact .inl (.inl hx)
    · exact .inl (.inr (.inl hx))
    · exact (hnew x hx).imp (fun h => .inr (.inr h)) id
  refine ⟨h.newWay tt (fun x hx => ?_) ?_ (hst.touch tb (fun x hx hm => ?_)) hnb, tt.mono (fun x hx => .inl ?_), fun x hx => ?_⟩
  · rcases List.mem_cons.1 hx with rfl | hx
    · exact .inl rfl
    · exact .inr (.inl (hsub x hx))
  · have h5 := rowIs_touch h.cells t5 hb5
    refine World.rowIs.congr (World.rowIs.set h5 15 _) (fun t ht => ?_)
    rcases t with _ | _ | _ | _ | _ | _ | _ | _ | _ | _ | _ | _ | _ | _ | _ | _ | _ | _ | _ | _ | _ | _ | _ | _ | _ | t <;> first | rfl | (exfalso; omega)
  · have e : x = b := by simpa using hm
    subst e
    rcases hnb x hx with h' | h'
    · exact h.bW h'
    · omega
  · rcases List.mem_cons.1 hx with rfl | hx
    · simp [rmB]
    · have := hsub x hx
      simp only [rmB, List.mem_cons, List.mem_append]
      exact .inr (.inr (.inl this))
  · simp only [rmB, List.mem_cons, List.mem_append] at hx ⊢
    rcases hx with hx | hx | hx | hx
    · exact .inl (.inl hx)
    · exact .inl (.inr (.inl hx))
    · rcases hnb x hx with h' | h'
      · exact .inl (.inr (.inr (.inl h')))
      · exact .inr h'
    · exact .inl (.inr (.inr (.inr hx)))
/-- The last free page is taken off. -/
theorem RmAt.popFree {g c n : Nat} {l : List Int} {f : Int} (h : RmAt w b kS rS fS kW rW (.slice (some ⟨g, 0, none⟩) (n + 1) c) dv R) (hl : R.way.free = l ++ [f]) (hn : l.length = n) :
    RmAt (w.setCell ⟨b, 15, none⟩ (.slice (some ⟨g, 0, none⟩) n c)) b kS rS fS kW rW (.slice (some ⟨g, 0, none⟩) n c) dv { R with way := { R.way with free := l } } := by
  have ho := h.way.fo
  rw [fC, hl, List.length_append, List.map_append, hn] at ho
  have hp := ownsRow_pop (by rw [List.length_map, hn, Nat.mul_one]) ho
  have tb : Touch [b] w (w.setCell ⟨b, 15, none⟩ (.slice (some ⟨g, 0, none⟩) n c)) := (Touch.refl _ _).setCell (.inl (by simp)) _
  have hst := h.way.newF (Touch.refl [] w) (fun x hx => by simp at hx) (l := l) (f' := .slice (some ⟨g, 0, none⟩) n c) (by rw [hn]; exact hp) (fun x hx => .inl hx)
  refine h.newWay tb (fun x hx => .inl (by simpa using hx)) ?_ (hst.touch tb (fun x hx hm => ?_)) (fun x hx => .inl hx)
  · refine World.rowIs.congr (World.rowIs.set h.cells 15 _) (fun t ht => ?_)
    rcases t with _ | _ | _ | _ | _ | _ | _ | _ | _ | _ | _ | _ | _ | _ | _ | _ | _ | _ | _ | _ | _ | _ | _ | _ | _ | t <;> first | rfl | (exfalso; omega)
  · have e : x = b := by simpa using hm
    subst e
    exact h.bW hx
theorem x8_set (s : SM) (i j : Nat) (n : Int) (hl : s.roots.length = 8) (hj : j < 8) : x8 { s with roots := s.roots.set j n } i = if i = j then .int .u64 n else x8 s i := by
  unfold x8
  by_cases e : i = j
  · subst e
    rw [if_pos rfl, List.getD_eq_getElem?_getD, set_same (by omega)]; rfl
  · rw [if_neg e, List.getD_eq_getElem?_getD, set_other e, ← List.getD_eq_getElem?_getD]
/-- A root. -/
theorem RmAt.setRoot (h : RmAt w b kS rS fS kW rW fW dv R) (hl : R.way.roots.length = 8) (i : Nat) (hi : i < 8) (n : Int) :
    RmAt (w.setCell ⟨b, 16 + i, none⟩ (.int .u64 n)) b kS rS fS kW rW fW dv { R with way := { R.way with roots := R.way.roots.set i n } } := by
  have tb : Touch [b] w (w.setCell ⟨b, 16 + i, none⟩ (.int .u64 n)) := (Touch.refl _ _).setCell (.inl (by simp)) _
  have hst : StRow w 0 kW rW fW { R.way with roots := R.way.roots.set i n } := ⟨h.way.ko, h.way.ro, h.way.fo, h.way.nd⟩
  refine h.newWay tb (fun x hx => .inl (by simpa using hx)) ?_ (hst.touch tb (fun x hx hm => ?_)) (fun x hx => .inl hx)
  · refine World.rowIs.congr (World.rowIs.set h.cells (16 + i) _) (fun t ht => ?_)
    have hx := fun k => x8_set R.way k i n hl hi
    rcases t with _ | _ | _ | _ | _ | _ | _ | _ | _ | _ | _ | _ | _ | _ | _ | _ | _ | _ | _ | _ | _ | _ | _ | _ | _ | t <;> first | rfl | (exfalso; omega) | (simp only [rmF, hx]; rcases i with _ | _ | _ | _ | _ | _ | _ | _ | i <;> first | rfl | (exfalso; omega))
  · have e : x = b := by simpa using hm
    subst e
    exact h.bW hx
end
end Go.Proofs.YtpaholkmlfaflaaGreatDoor

