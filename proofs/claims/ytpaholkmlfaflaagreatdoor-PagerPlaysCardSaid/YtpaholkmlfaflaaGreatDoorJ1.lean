/- Lemmas on the way to the statement: Kit, Plain, Word, Shelf, Repeat, CrcPlain, Crc, PageD. -/
import Derived.Below
import Derived.ChangeSame
import Derived.ProofKit
import Derived.Deep.QuietTactic
import Derived.Lib.Hide
import Derived.WalkKit
import Derived.WalkSpells
import Derived.Test.YtpaholkmlfaflaaGreatDoorRows
import Derived.WalkLawsBesides
import Derived.Outline
import Derived.Shelf.Strings.Builder1
import Derived.Shelf.Strings.Builder2
import Derived.Shelf.Strings.OnBuilder
import Derived.Shelf.Strings.Trim
import Derived.Shelf.Small.Utf8
import Derived.Shelf.Small.Strs
import Derived.Shelf.Strings.BuilderF
import Derived.Shelf.Strings.Search1
import Derived.Shelf.Sort.Plain
import Derived.Shelf.Strings.Prefix
import Derived.Shelf.Strings.Runes
import Derived.Shelf.Strings.AsciiSet
import Derived.Shelf.Bits.Mul64
import Derived.Shelf.Strings.Repeat
import Derived.Shelf.Unicode.DecodeSlow
import Derived.Shelf.Slices.In.SortNone
import Derived.Test.YtpaholkmlfaflaaGreatDoorProg
import Derived.BigQuiet
namespace Go.Proofs.YtpaholkmlfaflaaGreatDoor
open Go.RowKit Go.WideShapes Go.ChangeShapes
set_option linter.unusedVariables false

theorem quiet_add {P : Program} {f : FuncId} {args : Array Value} {w : World} {a n : Nat} {v : Value}
    (h : Calls P f args (w.drewN (a + n)) fun e w' => e = .returned v ∧ ∃ m, w' = (w.drewN (a + n)).drewN m) :
    Calls P f args (w.drewN (a + n)) fun e w'' => e = .returned v ∧ ∃ m, w'' = w.drewN (a + m) :=
  h.mono fun _ _ ⟨he, m, hm⟩ => ⟨he, n + m, by rw [hm, World.drewN_drewN, Nat.add_assoc]⟩
theorem quiet_add_same {P : Program} {f : FuncId} {args : Array Value} {w : World} {a n : Nat} {v : Value}
    (h : Calls P f args (w.drewN (a + n)) fun e w' => e = .returned v ∧ w' = w.drewN (a + n)) :
    Calls P f args (w.drewN (a + n)) fun e w'' => e = .returned v ∧ ∃ m, w'' = w.drewN (a + m) :=
  h.mono fun _ _ ⟨he, hm⟩ => ⟨he, n, hm⟩
theorem quiet_add_left {P : Program} {f : FuncId} {args : Array Value} {w : World} {a n : Nat} {v : Value}
    (h : Calls P f args (w.drewN (a + n)) fun e w' => e = .returned v ∧ w.drewN (a + n) = w') :
    Calls P f args (w.drewN (a + n)) fun e w'' => e = .returned v ∧ ∃ m, w'' = w.drewN (a + m) :=
  h.mono fun _ _ ⟨he, hm⟩ => ⟨he, n, hm.symm⟩
theorem quiet_left {P : Program} {f : FuncId} {args : Array Value} {w : World} {n : Nat} {v : Value}
    (h : Calls P f args (w.drewN n) fun e w' => e = .returned v ∧ w.drewN n = w') : Calls P f args (w.drewN n) fun e w'' => e = .returned v ∧ ∃ m, w'' = w.drewN m :=
  h.mono fun _ _ ⟨he, hm⟩ => ⟨he, n, hm.symm⟩

section
variable {H : Type} {enc : TypeId × Value → H} {P : Program}
theorem post_of_below {f : Func} {s : ChangeSpec} {apart fresh handsOn again : Bool} {W W' : World} {args : Array Value} {v : Value} {ds gs : List (DataW H)} {before pa pv : List MemPlace}
    (hW : DataW.Whole enc P f.params.toList s.vars apart W args.toList ds gs before)
    (hres : ∀ (b : Nat) (sp : Nat → Bool) (hd : Bool), DataW.TrodAll enc P W' b sp hd f.resultTypes.toList (v.resultList f.resultTypes.size) (s.fn H (ds ++ gs)).results [])
    (hargs : ∀ sp : Nat → Bool, (∀ p ∈ before, sp p.block = true) → DataW.TrodAll enc P W' 0 sp true f.params.toList args.toList (s.fn H (ds ++ gs)).args pa)
    (hvars : ∀ sp : Nat → Bool, (∀ p ∈ before, sp p.block = true) → DataW.TrodVars enc P W' sp s.vars (s.fn H (ds ++ gs)).vars pv)
    (hps : before = pa ++ pv) (hb : Below W.heap.size W W')
    (hok : ∀ (j : Nat) (t : TypeId) (r : Value), f.resultTypes[j]? = some t → (v.resultList f.resultTypes.size)[j]? = some r → Value.okWide P W' .any 0 t r) :
    s.post enc P f apart fresh handsOn again W args v W' := by
  have hlt : ∀ p ∈ before, p.block < W.heap.size := fun p hp => hW.lt p hp
  have hold : ∀ p ∈ before, (fun b => decide (b < W.heap.size)) p.block = true := fun p hp => by simpa using hlt p hp
  refine ⟨ds, gs, before, [], pa, pv, hW, hres _ _ _, hargs _ hold, hvars _ hold, World.keptBut_mono (fun p hp => ⟨hp, ?_⟩) (hb.frame (· ∈ before)), fun _ => ?_⟩
  · rw [hps, List.mem_append] at hp
    exact Or.inr hp
  · obtain ⟨_, _, _, _, _, hz, hn⟩ := hW
    refine ⟨hok, _, _, ([] ++ pa) ++ pv, ⟨[] ++ pa, pv, trodAll_append (hargs _ (fun _ _ => rfl)) (hres _ _ _), hvars _ (fun _ _ => rfl), rfl, ?_, ?_⟩, ?_⟩
    · intro b off hp
      have hin : MemPlace.cell b off ∈ before := by rw [hps]; simpa using hp
      rw [hb.frozen (hlt _ hin)]
      exact hz b off hin
    · intro ha
      have := hn ha
      rw [hps] at this
      simpa using this
    · intro p hp _
      rw [hps]
      simpa using hp
end

theorem results_tmp4 {fn : Func} {t u v x : Tmp} (h : fn.results = #[.tmp t, .tmp u, .tmp v, .tmp x]) (tmps : Array Value) (P : Program) (w : World) :
    (results fn tmps).run P w = .ok (.tuple #[tmps.getD t undef, tmps.getD u undef, tmps.getD v undef, tmps.getD x undef]) w := by simp [results, h]
theorem results_tmp5 {fn : Func} {t u v x y : Tmp} (h : fn.results = #[.tmp t, .tmp u, .tmp v, .tmp x, .tmp y]) (tmps : Array Value) (P : Program) (w : World) :
    (results fn tmps).run P w = .ok (.tuple #[tmps.getD t undef, tmps.getD u undef, tmps.getD v undef, tmps.getD x undef, tmps.getD y undef]) w := by simp [results, h]

theorem str_eq {a b : ByteArray} (h : a = b) : (a.toList == b.toList) = true := by rw [h]; simp
theorem str_ne {a b : ByteArray} (h : a ≠ b) : (a.toList == b.toList) = false := by
  rw [beq_eq_false_iff_ne]
  intro e
  apply h
  rw [ByteArray.toList_eq, ByteArray.toList_eq] at e
  exact ByteArray.ext (Array.toList_inj.1 e)
theorem str_beq (a b : ByteArray) : (a.toList == b.toList) = decide (a = b) := by
  by_cases h : a = b
  · rw [str_eq h]; simp [h]
  · rw [str_ne h]; simp [h]
theorem bcell {W w1 : World} {B : Nat} (hb : Below B W w1) : (∀ b o, b < B → w1.cell? ⟨b, o, none⟩ = W.cell? ⟨b, o, none⟩) ∧ (∀ b o, b < B → w1.frozen? ⟨b, o, none⟩ = W.frozen? ⟨b, o, none⟩) :=
  ⟨fun b o h => hb.cell (p := ⟨b, o, none⟩) h, fun b o h => hb.frozen (p := ⟨b, o, none⟩) h⟩
theorem cell_new (w : World) (v : Value) (t : TypeId) : (w.alloc (.cells #[v] t)).cell? ⟨w.heap.size, 0, none⟩ = some v := cell_one_new w v t 0 v rfl
theorem cell_pair (w : World) (a b : Value) (t : TypeId) : ∀ (j : Nat) (u : Value), [a, b][j]? = some u → (w.alloc (.cells #[a, b] t)).cell? ((⟨w.heap.size, 0, none⟩ : Addr).add j) = some u := by
  intro j u hj
  have hb : (w.alloc (.cells #[a, b] t)).heap[w.heap.size]? = some (.cells #[a, b] t (0, 0)) := by
    show (w.heap.push _)[w.heap.size]? = _
    rw [Array.getElem?_push_size]
  have : (⟨w.heap.size, 0, none⟩ : Addr).add j = ⟨w.heap.size, j, none⟩ := by unfold Addr.add; split <;> simp_all
  rw [this]
  unfold World.cell?
  rw [hb]
  rcases j with _ | _ | j
  · simpa using hj
  · simpa using hj
  · simp at hj
/-- Behind a callee that made memory. -/
theorem below_next {B : Nat} {a b c : World} (h : Below B a b) (hB : B ≤ b.heap.size) (k : Below b.heap.size b c) : Below B a c := h.trans (k.mono hB)

theorem cell_lt {w : World} {b o : Nat} {v : Value} (h : w.cell? ⟨b, o, none⟩ = some v) : b < w.heap.size := by
  rcases Nat.lt_or_ge b w.heap.size with h' | h'
  · exact h'
  · simp [World.cell?, Array.getElem?_eq_none h'] at h
theorem below_drewN' {B : Nat} {a w : World} (h : Below B a w) (q : Nat) : Below B a (w.drewN q) := ⟨h.os, h.tape, h.output, h.size, h.block⟩
theorem below_step {a b c : World} (k : Below b.heap.size b c) (h : Below a.heap.size a b) : Below a.heap.size a c := h.trans (k.mono h.size)
theorem below_alloc {a b : World} {o : Obj} (h : Below a.heap.size a b) : Below a.heap.size a (b.alloc o) := h.alloc h.size o
theorem below_drew {B : Nat} {a b : World} (h : Below B a b) : Below B a b.drew := h.drew

end Go.Proofs.YtpaholkmlfaflaaGreatDoor

namespace Go.Proofs.YtpaholkmlfaflaaGreatDoor
open Go.RowKit
set_option linter.unusedVariables false

/-- The world behind some draws. -/
def Drawn (w w' : World) : Prop := ∃ q, w' = w.drewN q
theorem Drawn.refl (w : World) : Drawn w w := ⟨0, rfl⟩
theorem Drawn.twice (w : World) (a b : Nat) : Drawn w ((w.drewN a).drewN b) := ⟨a + b, World.drewN_drewN _ _ _⟩
theorem Drawn.below {w w' : World} (h : Drawn w w') : Below w.heap.size w w' := by obtain ⟨q, rfl⟩ := h; exact ⟨rfl, rfl, rfl, Nat.le_refl _, fun _ _ => rfl⟩
theorem below_drewN {B : Nat} {a w : World} (h : Below B a w) (q : Nat) : Below B a (w.drewN q) := ⟨h.os, h.tape, h.output, h.size, h.block⟩

/-- Byte j of n. -/
def byteAt (n : Int) (j : Nat) : Int := n / 2 ^ (8 * j) % 256
/-- The lowest k bytes of n, the lowest first. -/
def leB (n : Int) (k : Nat) : List UInt8 := (List.range k).map fun t => UInt8.ofNat (byteAt n t).toNat
/-- The string of these bytes. -/
def S (l : List UInt8) : ByteArray := ⟨l.toArray⟩
/-- The cells after j rounds. -/
def putCells (n : Int) (k j : Nat) : List Value := (List.range k).map fun t => .int .u8 (if t < j then byteAt n t else 0)

theorem byteAt_bd (n : Int) (j : Nat) : 0 ≤ byteAt n j ∧ byteAt n j < 256 := by unfold byteAt; omega
theorem leB_length (n : Int) (k : Nat) : (leB n k).length = k := by simp [leB]
theorem putCells_zero (n : Int) (k : Nat) : putCells n k 0 = List.replicate k (.int .u8 0) := by
  apply List.ext_getElem (by simp [putCells])
  intro i h1 h2
  simp [putCells]
theorem putCells_get (n : Int) (k j : Nat) (h : j < k) : (putCells n k j)[j]? = some (.int .u8 0) := by
  simp [putCells, h]
theorem putCells_set (n : Int) (k j : Nat) : (putCells n k j).set j (.int .u8 (n / 2 ^ (8 * j) % 256)) = putCells n k (j + 1) := by
  apply List.ext_getElem (by simp [putCells])
  intro i h1 h2
  simp only [List.getElem_set, putCells, List.getElem_map, List.getElem_range]
  by_cases hij : j = i
  · subst hij; simp [byteAt]
  · by_cases hlt : i < j
    · simp [hij, hlt, Nat.lt_succ_of_lt hlt]
    · have : ¬ i < j + 1 := by omega
      simp [hij, hlt, this]
theorem putCells_all (n : Int) (k t : Nat) (h : t < k) : (putCells n k k)[t]? = some (.int .u8 ((leB n k)[t]'(by rw [leB_length]; exact h)).toNat) := by
  have hb := byteAt_bd n t
  have hm : (byteAt n t).toNat % 256 = (byteAt n t).toNat := by omega
  simp [putCells, leB, h, Int.toNat_of_nonneg hb.1, hm]

/-- The number of bytes, the lowest first. -/
def leN : List UInt8 → Int
  | [] => 0
  | b :: l => b.toNat + 256 * leN l

theorem leN_bd : ∀ l : List UInt8, 0 ≤ leN l ∧ leN l < 256 ^ l.length
  | [] => by simp [leN]
  | b :: l => by
    have h := leN_bd l
    have hb := b.toNat_lt
    simp only [leN, List.length_cons, Int.pow_succ]
    omega
/-- The bytes from a to a + k. -/
def cut (s : ByteArray) (a k : Nat) : List UInt8 := (s.data.toList.drop a).take k
theorem cut_cons (s : ByteArray) (a k : Nat) (h : a < s.size) : cut s a (k + 1) = s[a] :: cut s (a + 1) k := by
  unfold cut
  rw [List.drop_eq_getElem_cons (by simpa using h)]
  rfl
theorem cut_length (s : ByteArray) (a k : Nat) (h : a + k ≤ s.size) : (cut s a k).length = k := by
  simp [cut]; omega
theorem pow_le (j : Nat) (h : j ≤ 7) : (256 : Int) ^ j ≤ 72057594037927936 := by
  rcases j with _ | _ | _ | _ | _ | _ | _ | _ | j <;> first | decide | omega
theorem cut_leN (s : ByteArray) (a k : Nat) (hk : k ≤ 7) : 0 ≤ leN (cut s a k) ∧ leN (cut s a k) < 72057594037927936 := by
  have h := leN_bd (cut s a k)
  have hl : (cut s a k).length ≤ 7 := by unfold cut; simp; omega
  have := pow_le _ hl
  omega
theorem or_byte (x : Int) (b : UInt8) (h0 : 0 ≤ x) (h1 : x < 72057594037927936) : bits .or .u64 (x * 256) (IntKind.u64.wrap b.toNat) = b.toNat + 256 * x := by
  have hb := b.toNat_lt
  rw [IntKind.wrap_u64, Int.emod_eq_of_lt (by omega) (by omega), u64_or _ _ (by omega) (by omega) (by omega) (by omega), nat_join 8 _ _ (by omega) (by omega)]
  omega

/-! Strings as lists of bytes. -/
def nul (n : Nat) : List UInt8 := List.replicate n 0
theorem nul_length (n : Nat) : (nul n).length = n := List.length_replicate
theorem S_append (a b : List UInt8) : S a ++ S b = S (a ++ b) := by
  apply ByteArray.ext; simp [S, ByteArray.data_append]
theorem S_data (s : ByteArray) : S s.data.toList = s := by
  apply ByteArray.ext; simp [S]
theorem data_S (l : List UInt8) : (S l).data.toList = l := by simp [S]
theorem S_size (l : List UInt8) : (S l).size = l.length := by simp [S, ByteArray.size]
theorem S_inj {a b : List UInt8} : S a = S b ↔ a = b := by
  constructor
  · intro h; rw [← data_S a, h, data_S]
  · intro h; rw [h]
theorem append_S (s : ByteArray) (l : List UInt8) : s ++ S l = S (s.data.toList ++ l) := by
  conv => lhs; rw [← S_data s]
  exact S_append _ _
theorem S_append_s (s : ByteArray) (l : List UInt8) : S l ++ s = S (l ++ s.data.toList) := by
  conv => lhs; rw [← S_data s]
  exact S_append _ _

theorem leN_inj : ∀ {a b : List UInt8}, a.length = b.length → leN a = leN b → a = b
  | [], [], _, _ => rfl
  | x :: a, y :: b, hl, h => by
    have hx := x.toNat_lt
    have hy := y.toNat_lt
    simp only [leN] at h
    have h1 : x.toNat = y.toNat := by omega
    have h2 : leN a = leN b := by omega
    rw [leN_inj (by simpa using hl) h2, UInt8.toNat_inj.1 h1]
theorem extract_cut (s : ByteArray) (a b : Nat) : s.extract a b = S (cut s a (b - a)) := by
  apply ByteArray.ext; apply Array.toList_inj.1
  simp [S, cut, ByteArray.data_extract, Array.toList_extract, List.extract_eq_take_drop]

/-! A sector as a mark. -/
def mOk (s : ByteArray) : Bool := decide (s.size = 64 ∧ cut s 0 8 = cut s 56 8)
def mN (s : ByteArray) : Int := if mOk s then leN (cut s 0 8) else 0
def mT (s : ByteArray) : ByteArray := if mOk s then s.extract 8 56 else ⟨#[]⟩
theorem mOk_iff (s : ByteArray) : mOk s = true ↔ s.size = 64 ∧ cut s 0 8 = cut s 56 8 := by simp [mOk]
theorem mOk_size (s : ByteArray) (h : s.size ≠ 64) : mOk s = false := by simp [mOk, h]
theorem mOk_yes (s : ByteArray) (h : s.size = 64) (e : leN (cut s 0 8) = leN (cut s 56 8)) : mOk s = true :=
  (mOk_iff s).2 ⟨h, leN_inj (by rw [cut_length s 0 8 (by omega), cut_length s 56 8 (by omega)]) e⟩
theorem mOk_no (s : ByteArray) (e : leN (cut s 0 8) ≠ leN (cut s 56 8)) : mOk s = false := by
  rw [← Bool.not_eq_true, mOk_iff]; rintro ⟨_, h⟩; exact e (by rw [h])

/-! A number's bytes read again. -/
theorem byteAt_succ (n : Int) (j : Nat) (h : 0 ≤ n) : byteAt n (j + 1) = byteAt (n / 256) j := by
  unfold byteAt
  rw [show 8 * (j + 1) = 8 + 8 * j by omega, Int.pow_add, Int.ediv_ediv_of_nonneg (by decide)]
  rfl
theorem leB_cons (n : Int) (k : Nat) (h : 0 ≤ n) : leB n (k + 1) = UInt8.ofNat (n % 256).toNat :: leB (n / 256) k := by
  unfold leB
  rw [List.range_succ_eq_map]
  simp only [List.map_cons, List.map_map, List.cons.injEq]
  refine ⟨by simp [byteAt], ?_⟩
  apply List.map_congr_left
  intro t _
  simp only [Function.comp, Nat.succ_eq_add_one]
  rw [byteAt_succ n t h]
theorem emod_two (n p : Int) : n % (256 * p) = n % 256 + 256 * (n / 256 % p) := by
  rw [Int.emod_def n (256 * p), Int.emod_def (n / 256) p, Int.ediv_ediv_of_nonneg (by decide), Int.mul_sub, Int.mul_assoc]
  generalize p * (n / (256 * p)) = x
  omega
theorem leN_leB : ∀ (k : Nat) (n : Int), 0 ≤ n → leN (leB n k) = n % 256 ^ k
  | 0, n, h => by simp [leB, leN]
  | k + 1, n, h => by
    rw [leB_cons n k h, leN, leN_leB k (n / 256) (by omega)]
    have h1 : (UInt8.ofNat (n % 256).toNat).toNat = (n % 256).toNat := by simp; omega
    rw [h1, Int.toNat_of_nonneg (by omega), Int.pow_succ, Int.mul_comm (256 ^ k) 256]
    exact (emod_two n (256 ^ k)).symm
theorem leN_leB8 (n : Int) (h : 0 ≤ n) (hu : n ≤ 18446744073709551615) : leN (leB n 8) = n := by
  rw [leN_leB 8 n h, Int.emod_eq_of_lt h (by omega)]

/-! A mark's bytes. -/
def mkL (n : Int) (s : ByteArray) : List UInt8 := leB n 8 ++ s.data.toList ++ nul (48 - s.size) ++ leB n 8
def mkStr (n : Int) (s : ByteArray) : ByteArray := S (mkL n s)
theorem data_length (s : ByteArray) : s.data.toList.length = s.size := by simp
theorem mkL_length (n : Int) (s : ByteArray) (h : s.size ≤ 48) : (mkL n s).length = 64 := by
  unfold mkL; simp only [List.length_append, leB_length, nul_length, data_length]; omega
theorem mkStr_size (n : Int) (s : ByteArray) (h : s.size ≤ 48) : (mkStr n s).size = 64 := by
  unfold mkStr; rw [S_size, mkL_length n s h]
theorem mkStr_cut0 (n : Int) (s : ByteArray) : cut (mkStr n s) 0 8 = leB n 8 := by
  unfold mkStr cut mkL; rw [data_S, List.drop_zero, List.append_assoc, List.append_assoc, List.take_left' (leB_length n 8)]
theorem mkStr_cut56 (n : Int) (s : ByteArray) (h : s.size ≤ 48) : cut (mkStr n s) 56 8 = leB n 8 := by
  unfold mkStr cut mkL
  rw [data_S, List.drop_left' (by simp only [List.length_append, leB_length, nul_length, data_length]; omega), List.take_of_length_le (by rw [leB_length]; omega)]
theorem mkStr_mid (n : Int) (s : ByteArray) (h : s.size ≤ 48) : cut (mkStr n s) 8 48 = s.data.toList ++ nul (48 - s.size) := by
  unfold mkStr cut mkL
  rw [data_S, List.append_assoc, List.append_assoc, List.drop_left' (leB_length n 8), ← List.append_assoc, List.take_left' (by simp only [List.length_append, nul_length, data_length]; omega)]
theorem mkStr_Ok (n : Int) (s : ByteArray) (h : s.size ≤ 48) : mOk (mkStr n s) = true :=
  (mOk_iff _).2 ⟨mkStr_size n s h, by rw [mkStr_cut0, mkStr_cut56 n s h]⟩
theorem mkStr_N (n : Int) (s : ByteArray) (h : s.size ≤ 48) (h0 : 0 ≤ n) (hu : n ≤ 18446744073709551615) : mN (mkStr n s) = n := by
  unfold mN; rw [mkStr_Ok n s h, if_pos rfl, mkStr_cut0, leN_leB8 n h0 hu]
theorem mkStr_T (n : Int) (s : ByteArray) (h : s.size ≤ 48) : mT (mkStr n s) = S (s.data.toList ++ nul (48 - s.size)) := by
  unfold mT; rw [mkStr_Ok n s h, if_pos rfl, extract_cut, mkStr_mid n s h]
theorem mkStr_Tsize (n : Int) (s : ByteArray) (h : s.size ≤ 48) : (mT (mkStr n s)).size = 48 := by
  rw [mkStr_T n s h, S_size]; simp only [List.length_append, nul_length, data_length]; omega
theorem mkStr_Ttext (n : Int) (s : ByteArray) (h : s.size ≤ 48) : (mT (mkStr n s)).extract 0 s.size = s := by
  rw [mkStr_T n s h, extract_cut]
  unfold cut
  rw [data_S, List.drop_zero, Nat.sub_zero, List.take_left' (data_length s), S_data]

/-! Torn between two marks. -/
theorem torn_list {L R : List UInt8} (k : Nat) (hL : L.length = 64) (hR : R.length = 64) (hk : k ≤ 64)
    (sL : ∀ j, j < 8 → L[j]? = L[56 + j]?) (sR : ∀ j, j < 8 → R[j]? = R[56 + j]?) (hne : L.take 8 ≠ R.take 8)
    (hu : ∀ j, j < 8 → (L.take k ++ R.drop k)[j]? = (L.take k ++ R.drop k)[56 + j]?) : L.take k ++ R.drop k = L ∨ L.take k ++ R.drop k = R := by
  have g : ∀ i, (L.take k ++ R.drop k)[i]? = if i < k then L[i]? else R[i]? := by
    intro i
    have hl : (L.take k).length = k := by rw [List.length_take]; omega
    split
    · rename_i h
      rw [List.getElem?_append_left (by omega), List.getElem?_take_of_lt h]
    · rename_i h
      rw [List.getElem?_append_right (by omega), List.getElem?_drop, hl, show k + (i - k) = i by omega]
  by_cases h8 : k ≤ 8
  · right
    apply List.ext_getElem?
    intro i
    rw [g]
    split
    · rename_i h
      have := hu i (by omega)
      rw [g, g, if_pos h, if_neg (by omega)] at this
      rw [this, sR i (by omega)]
    · rfl
  · by_cases h56 : 56 ≤ k
    · left
      apply List.ext_getElem?
      intro i
      rw [g]
      split
      · rfl
      · rename_i h
        by_cases hi : i < 64
        · obtain ⟨j, rfl⟩ : ∃ j, i = 56 + j := ⟨i - 56, by omega⟩
          have := hu j (by omega)
          rw [g, g, if_pos (by omega), if_neg h] at this
          rw [← this, sL j (by omega)]
        · rw [List.getElem?_eq_none (by omega), List.getElem?_eq_none (by omega)]
    · exfalso
      apply hne
      apply List.ext_getElem?
      intro j
      by_cases hj : j < 8
      · rw [List.getElem?_take_of_lt hj, List.getElem?_take_of_lt hj]
        have := hu j hj
        rw [g, g, if_pos (by omega), if_neg (by omega)] at this
        rw [this, sR j hj]
      · rw [List.getElem?_eq_none (by rw [List.length_take]; omega), List.getElem?_eq_none (by rw [List.length_take]; omega)]
theorem ends_of_cut {s : ByteArray} (hs : s.size = 64) (h : cut s 0 8 = cut s 56 8) : ∀ j, j < 8 → s.data.toList[j]? = s.data.toList[56 + j]? := by
  intro j hj
  have h1 : (cut s 0 8)[j]? = s.data.toList[j]? := by unfold cut; rw [List.drop_zero, List.getElem?_take_of_lt hj]
  have h2 : (cut s 56 8)[j]? = s.data.toList[56 + j]? := by unfold cut; rw [List.getElem?_take_of_lt hj, List.getElem?_drop]
  rw [← h1, ← h2, h]
def torn (s t : ByteArray) (k : Nat) : ByteArray := s.extract 0 k ++ t.extract k t.size
theorem torn_data (s t : ByteArray) (k : Nat) : (torn s t k).data.toList = s.data.toList.take k ++ t.data.toList.drop k := by
  unfold torn
  rw [extract_cut, extract_cut, S_append, data_S]
  unfold cut
  rw [List.drop_zero, Nat.sub_zero, List.take_of_length_le (l := List.drop k t.data.toList) (by rw [List.length_drop, data_length]; omega)]
theorem torn_law (m n : Int) (a b : ByteArray) (k : Nat) (ha : a.size ≤ 48) (hb : b.size ≤ 48) (hm : 0 ≤ m) (hm' : m ≤ 18446744073709551615) (hn : 0 ≤ n) (hn' : n ≤ 18446744073709551615) (hk : k ≤ 64) (hne : m ≠ n)
    (h : mOk (torn (mkStr m a) (mkStr n b) k) = true) : torn (mkStr m a) (mkStr n b) k = mkStr m a ∨ torn (mkStr m a) (mkStr n b) k = mkStr n b := by
  obtain ⟨hz, hc⟩ := (mOk_iff _).1 h
  have e1 := ends_of_cut hz hc
  rw [torn_data] at e1
  have e2 := ends_of_cut (mkStr_size m a ha) (((mOk_iff _).1 (mkStr_Ok m a ha)).2)
  have e3 := ends_of_cut (mkStr_size n b hb) (((mOk_iff _).1 (mkStr_Ok n b hb)).2)
  have e4 : (mkStr m a).data.toList.take 8 ≠ (mkStr n b).data.toList.take 8 := by
    have c1 := mkStr_cut0 m a
    have c2 := mkStr_cut0 n b
    unfold cut at c1 c2
    rw [List.drop_zero] at c1 c2
    rw [c1, c2]
    intro e
    apply hne
    rw [← leN_leB8 m hm hm', ← leN_leB8 n hn hn', e]
  have := torn_list k (by rw [data_length, mkStr_size m a ha]) (by rw [data_length, mkStr_size n b hb]) hk e2 e3 e4 e1
  rw [← torn_data] at this
  rcases this with e | e
  · left; rw [← S_data (torn _ _ _), e, S_data]
  · right; rw [← S_data (torn _ _ _), e, S_data]
theorem torn_size (s t : ByteArray) (k : Nat) (hs : s.size = 64) (ht : t.size = 64) (hk : k ≤ 64) : (torn s t k).size = 64 := by
  rw [← data_length, torn_data, List.length_append, List.length_take, List.length_drop, data_length, data_length]; omega

end Go.Proofs.YtpaholkmlfaflaaGreatDoor

namespace Go.Proofs.YtpaholkmlfaflaaGreatDoor
open Go.RowKit
set_option linter.unusedVariables false

theorem Tryz.infoByte : (Tryz.prog.info? 5).map (fun i => (i.zero, i.size, i.bytes)) = some (some (.int .u8 0), 1, 1) := by kernel_rfl

set_option maxRecDepth 100000 in
set_option maxHeartbeats 400000 in
/-- word.Put at a size from 0 to 8. -/
theorem put_any (n : Int) (k : Nat) (w : World) (hk : k ≤ 8) (hn : 0 ≤ n) :
    Calls Tryz.prog 47 #[.int .u64 n, .int .i64 k] w fun e w' => e = .returned (.string (S (leB n k))) ∧ Below w.heap.size w w' := by
  obtain ⟨i0, hi, hz0, hz1, hz2⟩ := info_parts Tryz.infoByte
  go_enter Tryz.func47, Tryz.ntmps47
  go_wp2_with (first
    | (at_make; refine wpList_make_full _ rfl (.tmp 13) (.tmp 13) 115 rfl w.heap.size 5 i0 (.int .u8 0) 1 Tryz.underlying115 hi hz0 hz1 .i64 .i64 k k k rfl rfl rfl rfl (by rw [hz2]; omega) (by unfold maxLen; omega) (Nat.le_refl _) ?_; intro w1 hown hgr))
  have hb : Below w.heap.size w w1 := (Below.refl _ _).grown hgr (Nat.le_refl _) (by intro k h; cases h)
  clear hgr
  go_loopw [6, 16] (fun _ c wr => ∃ j : Nat, j ≤ k ∧ c = .int .i64 j ∧ wr.ownsRow w.heap.size 5 1 (.slice (some ⟨w.heap.size, 0, none⟩) k k) k (putCells n k j) ∧ Below w.heap.size w wr) (fun _ c _ => k - (intOf c).toNat)
  case atStart =>
    refine ⟨0, Nat.zero_le _, rfl, ?_, hb⟩
    rw [putCells_zero]
    have h1 := toList_madeCells_one (Value.int .u8 0) k
    have h2 : (Value.int .u8 0).cells = #[Value.int .u8 0] := rfl
    rw [h2, Nat.mul_one, h1] at hown
    exact hown
  case round =>
    clear hown hb
    obtain ⟨j, hj, rfl, hown, hb⟩ := hrel
    by_cases hlt : j < k
    · have hf := hown.frozenAt j
      have hcell : wr.cell? ⟨w.heap.size, j, none⟩ = some (.int .u8 0) := by rw [hown.cellAt j (by omega), putCells_get n k j hlt]
      go_wp2
      have hs := (hown.stored j (.int .u8 (n / 2 ^ (8 * j) % 256))).1
      rw [putCells_set] at hs
      go_roundw
      case rel => exact ⟨j + 1, by omega, by go_num, hs, hb.setCell (by simp) _⟩
      case measure => simp [intOf]; omega
    · obtain rfl : j = k := by omega
      have hconv := run_convert_bytes_back (P := Tryz.prog) wr 115 9 5 ⟨w.heap.size, 0, none⟩ j (leB n j) Tryz.underlying115 Tryz.underlying5 Tryz.underlying9 (by
        intro t ht
        rw [leB_length] at ht
        have : (⟨w.heap.size, 0, none⟩ : Addr).add t = ⟨w.heap.size, t, none⟩ := by unfold Addr.add; split <;> simp_all
        rw [this, hown.cellAt t (by omega), putCells_all n j t ht])
      rw [leB_length] at hconv
      go_wp2
      go_ret
      exact ⟨rfl, hb⟩

set_option maxRecDepth 100000 in
set_option maxHeartbeats 400000 in
/-- word.Get where the place is within. -/
theorem get_any (s : ByteArray) (a k : Nat) (w : World) (hk : k ≤ 8) (ha : a + k ≤ s.size) (hs : s.size ≤ 9223372036854775807) :
    Calls Tryz.prog 55 #[.string s, .int .i64 a, .int .i64 k] w fun e w' => e = .returned (.tuple #[.int .u64 (leN (cut s a k)), .bool true]) ∧ w = w' := by
  have d1 : decide ((k : Int) < 0) = false := by simp
  have d2 : decide ((8 : Int) < k) = false := by simp; omega
  have d3 : decide ((a : Int) < 0) = false := by simp
  have d4 : decide (s.size < a) = false := by simp; omega
  have d5 : decide ((s.size : Int) - a < k) = false := by simp; omega
  go_enter Tryz.func55, Tryz.ntmps55
  go_wp2
  go_loop [8, 9] (fun n i => ∃ j : Nat, j ≤ k ∧ i = .int .i64 ((j : Int) - 1) ∧ n = .int .u64 (leN (cut s (a + j) (k - j)))) (fun _ i => (intOf i + 1).toNat)
  case atStart =>
    refine ⟨k, Nat.le_refl _, rfl, ?_⟩
    have : cut s (a + k) (k - k) = [] := by rw [Nat.sub_self]; unfold cut; rw [List.take_zero]
    rw [this]; rfl
  case round =>
    obtain ⟨j, hj, rfl, rfl⟩ := hrel
    clear d1 d2 d3 d4 d5
    by_cases h0 : 0 < j
    · obtain ⟨j, rfl⟩ : ∃ q, j = q + 1 := ⟨j - 1, by omega⟩
      clear h0
      have hb := cut_leN s (a + (j + 1)) (k - (j + 1)) (by omega)
      go_wp2
      go_round
      case rel =>
        refine ⟨j, by omega, rfl, ?_⟩
        rw [or_byte _ _ hb.1 hb.2, show k - j = (k - (j + 1)) + 1 by omega, cut_cons s (a + j) _ (by omega)]
        rfl
      case measure => simp [intOf]
    · obtain rfl : j = 0 := by omega
      go_wp2
      go_ret2
      exact ⟨by simp, rfl⟩

end Go.Proofs.YtpaholkmlfaflaaGreatDoor

namespace Go.Proofs
open Go.Shelf
def Tryz.lays170_ren : Go.Shelf.Ren := ⟨fun | 170 => 97 | n => n, fun | 70 => 139 | 3 => 3 | 0 => 0 | 72 => 141 | 37 => 115 | 5 => 5 | n => n, fun | n => n⟩
theorem Tryz.lays170 : Go.Proofs.Lays.n170 Tryz.prog Tryz.lays170_ren := {
  mixed := by kernel_rfl
  f170 := Tryz.func97.trans (congrArg some (by kernel_rfl))
  t0 := Tryz.underlying0
  a0 := Tryz.isAgg0
  z0 := Tryz.sizeOf0
  v0 := Tryz.zeroValue0
  t3 := Tryz.underlying3
  a3 := Tryz.isAgg3
  z3 := Tryz.sizeOf3
  v3 := Tryz.zeroValue3
  t37 := Tryz.underlying115
  a37 := Tryz.isAgg115
  z37 := Tryz.sizeOf115
  v37 := Tryz.zeroValue115
  t70 := Tryz.underlying139
  a70 := Tryz.isAgg139
  z70 := Tryz.sizeOf139
  v70 := Tryz.zeroValue139
  t72 := Tryz.underlying141
  a72 := Tryz.isAgg141
  z72 := Tryz.sizeOf141
  v72 := Tryz.zeroValue141 }
open Go.RowKit in
theorem Tryz.Builder_Len (B b : Nat) (bs : List Value) (w : World) (h : Lib.IsBuilder 141 5 B b bs w) :
    Calls Tryz.prog 97 #[.pointer (some ⟨b, 0, none⟩)] w fun e w' => e = .returned (.int .i64 bs.length) ∧ w' = w := Any.Builder_Len Tryz.lays170 B b bs w h
def Tryz.lays169_ren : Go.Shelf.Ren := ⟨fun | 169 => 92 | n => n, fun | 70 => 139 | 9 => 9 | 0 => 0 | 72 => 141 | 37 => 115 | 127 => 160 | 3 => 3 | 5 => 5 | n => n, fun | n => n⟩
theorem Tryz.lays169 : Go.Proofs.Lays.n169 Tryz.prog Tryz.lays169_ren := {
  mixed := by kernel_rfl
  f169 := Tryz.func92.trans (congrArg some (by kernel_rfl))
  t0 := Tryz.underlying0
  a0 := Tryz.isAgg0
  z0 := Tryz.sizeOf0
  v0 := Tryz.zeroValue0
  t3 := Tryz.underlying3
  a3 := Tryz.isAgg3
  z3 := Tryz.sizeOf3
  v3 := Tryz.zeroValue3
  t9 := Tryz.underlying9
  a9 := Tryz.isAgg9
  z9 := Tryz.sizeOf9
  v9 := Tryz.zeroValue9
  t37 := Tryz.underlying115
  a37 := Tryz.isAgg115
  z37 := Tryz.sizeOf115
  v37 := Tryz.zeroValue115
  t70 := Tryz.underlying139
  a70 := Tryz.isAgg139
  z70 := Tryz.sizeOf139
  v70 := Tryz.zeroValue139
  t72 := Tryz.underlying141
  a72 := Tryz.isAgg141
  z72 := Tryz.sizeOf141
  v72 := Tryz.zeroValue141
  t127 := Tryz.underlying160
  a127 := Tryz.isAgg160
  z127 := Tryz.sizeOf160
  v127 := Tryz.zeroValue160 }
theorem Tryz.Builder_Extra_169 : Builder.Extra Tryz.prog Tryz.lays169_ren := {
  sizeBuilder := by kernel_rfl
  liesBuilder := by kernel_rfl
  t5 := Tryz.underlying5
  a5 := Tryz.isAgg5
  z5 := Tryz.sizeOf5
  v5 := Tryz.zeroValue5
  infoByte := by kernel_rfl
  cellsByte := by kernel_rfl
  sizeByte := by kernel_rfl
  neB5 := by decide }
open Go.RowKit in
theorem Tryz.Builder_String (B b : Nat) (l : List UInt8) (w : World) (h : Lib.IsBuilder 141 5 B b (Lib.byteCells l) w) (h0 : l ≠ []) :
    Calls Tryz.prog 92 #[.pointer (some ⟨b, 0, none⟩)] w fun e w' => e = .returned (.string ⟨l.toArray⟩) ∧ Below B w w' := Any.Builder_String Tryz.lays169 Tryz.Builder_Extra_169 B b l w h h0
open Go.RowKit in
theorem Tryz.Builder_String_empty (B b : Nat) (w : World) (h : Lib.IsBuilder 141 5 B b [] w) (hBw : B ≤ w.heap.size) :
    Calls Tryz.prog 92 #[.pointer (some ⟨b, 0, none⟩)] w fun e w' => e = .returned (.string ⟨#[]⟩) ∧ Below B w w' := Any.Builder_String_empty Tryz.lays169 Tryz.Builder_Extra_169 B b w h hBw
open Go.RowKit in
theorem Tryz.Builder_String_any (B b : Nat) (l : List UInt8) (w : World) (h : Lib.IsBuilder 141 5 B b (Lib.byteCells l) w) (hBw : B ≤ w.heap.size) :
    Calls Tryz.prog 92 #[.pointer (some ⟨b, 0, none⟩)] w fun e w' => e = .returned (.string ⟨l.toArray⟩) ∧ Below B w w' := Any.Builder_String_any Tryz.lays169 Tryz.Builder_Extra_169 B b l w h hBw
def Tryz.lays241_ren : Go.Shelf.Ren := ⟨fun | 241 => 113 | 277 => 128 | n => n, fun | 70 => 139 | 3 => 3 | 0 => 0 | 72 => 141 | 37 => 115 | 5 => 5 | n => n, fun | n => n⟩
theorem Tryz.lays241 : Go.Proofs.Lays.n241 Tryz.prog Tryz.lays241_ren := {
  mixed := by kernel_rfl
  f241 := Tryz.func113.trans (congrArg some (by kernel_rfl))
  f277 := Tryz.func128.trans (congrArg some (by kernel_rfl))
  t0 := Tryz.underlying0
  a0 := Tryz.isAgg0
  z0 := Tryz.sizeOf0
  v0 := Tryz.zeroValue0
  t3 := Tryz.underlying3
  a3 := Tryz.isAgg3
  z3 := Tryz.sizeOf3
  v3 := Tryz.zeroValue3
  t37 := Tryz.underlying115
  a37 := Tryz.isAgg115
  z37 := Tryz.sizeOf115
  v37 := Tryz.zeroValue115
  t70 := Tryz.underlying139
  a70 := Tryz.isAgg139
  z70 := Tryz.sizeOf139
  v70 := Tryz.zeroValue139
  t72 := Tryz.underlying141
  a72 := Tryz.isAgg141
  z72 := Tryz.sizeOf141
  v72 := Tryz.zeroValue141 }
theorem Tryz.Builder_Extra_241 : Builder.Extra Tryz.prog Tryz.lays241_ren := {
  sizeBuilder := by kernel_rfl
  liesBuilder := by kernel_rfl
  t5 := Tryz.underlying5
  a5 := Tryz.isAgg5
  z5 := Tryz.sizeOf5
  v5 := Tryz.zeroValue5
  infoByte := by kernel_rfl
  cellsByte := by kernel_rfl
  sizeByte := by kernel_rfl
  neB5 := by decide }
open Go.RowKit in
theorem Tryz.Builder_grow_fresh (B b n : Nat) (w : World) (hB : B ≤ b) (hbk : w.heap[b]? = some (.cells #[.pointer (some ⟨b, 0, none⟩), .slice none 0 0] 141 (0, 0))) (hBw : B ≤ w.heap.size) (hn : n ≤ 281474976710656) :
    Calls Tryz.prog 113 #[.pointer (some ⟨b, 0, none⟩), .int .i64 n] w fun e w' => e = .returned (.tuple #[]) ∧ (Lib.BuilderAt 141 5 B b (.pointer (some ⟨b, 0, none⟩)) [] w' ∧ Below B w w') := Any.Builder_grow_fresh Tryz.lays241 Tryz.Builder_Extra_241 B b n w hB hbk hBw hn
def Tryz.lays165_ren : Go.Shelf.Ren := ⟨fun | 165 => 90 | 240 => 112 | 241 => 113 | 276 => 127 | 277 => 128 | n => n, fun | 70 => 139 | 3 => 3 | 0 => 0 | 4 => 4 | 9 => 9 | 20 => 20 | 72 => 141 | 37 => 115 | 164 => 174 | 5 => 5 | n => n, fun | n => n⟩
theorem Tryz.lays165 : Go.Proofs.Lays.n165 Tryz.prog Tryz.lays165_ren := {
  mixed := by kernel_rfl
  f165 := Tryz.func90.trans (congrArg some (by kernel_rfl))
  f240 := Tryz.func112.trans (congrArg some (by kernel_rfl))
  f241 := Tryz.func113.trans (congrArg some (by kernel_rfl))
  f276 := Tryz.func127.trans (congrArg some (by kernel_rfl))
  f277 := Tryz.func128.trans (congrArg some (by kernel_rfl))
  t0 := Tryz.underlying0
  a0 := Tryz.isAgg0
  z0 := Tryz.sizeOf0
  v0 := Tryz.zeroValue0
  t3 := Tryz.underlying3
  a3 := Tryz.isAgg3
  z3 := Tryz.sizeOf3
  v3 := Tryz.zeroValue3
  t4 := Tryz.underlying4
  a4 := Tryz.isAgg4
  z4 := Tryz.sizeOf4
  v4 := Tryz.zeroValue4
  t9 := Tryz.underlying9
  a9 := Tryz.isAgg9
  z9 := Tryz.sizeOf9
  v9 := Tryz.zeroValue9
  t20 := Tryz.underlying20
  a20 := Tryz.isAgg20
  z20 := Tryz.sizeOf20
  v20 := Tryz.zeroValue20
  t37 := Tryz.underlying115
  a37 := Tryz.isAgg115
  z37 := Tryz.sizeOf115
  v37 := Tryz.zeroValue115
  t70 := Tryz.underlying139
  a70 := Tryz.isAgg139
  z70 := Tryz.sizeOf139
  v70 := Tryz.zeroValue139
  t72 := Tryz.underlying141
  a72 := Tryz.isAgg141
  z72 := Tryz.sizeOf141
  v72 := Tryz.zeroValue141
  t164 := Tryz.underlying174
  a164 := Tryz.isAgg174
  z164 := Tryz.sizeOf174
  v164 := Tryz.zeroValue174 }
theorem Tryz.Builder_Extra_165 : Builder.Extra Tryz.prog Tryz.lays165_ren := {
  sizeBuilder := by kernel_rfl
  liesBuilder := by kernel_rfl
  t5 := Tryz.underlying5
  a5 := Tryz.isAgg5
  z5 := Tryz.sizeOf5
  v5 := Tryz.zeroValue5
  infoByte := by kernel_rfl
  cellsByte := by kernel_rfl
  sizeByte := by kernel_rfl
  neB5 := by decide }
open Go.RowKit in
theorem Tryz.Builder_Grow_fresh (B b n : Nat) (w : World) (hB : B ≤ b) (hbk : w.heap[b]? = some (.cells #[.pointer none, .slice none 0 0] 141 (0, 0))) (hBw : B ≤ w.heap.size) (hn : n ≤ 281474976710656) :
    Calls Tryz.prog 90 #[.pointer (some ⟨b, 0, none⟩), .int .i64 n] w fun e w' => e = .returned (.tuple #[]) ∧ (Lib.BuilderAt 141 5 B b (.pointer (some ⟨b, 0, none⟩)) [] w' ∧ Below B w w') := Any.Builder_Grow_fresh Tryz.lays165 Tryz.Builder_Extra_165 B b n w hB hbk hBw hn
def Tryz.lays156_ren : Go.Shelf.Ren := ⟨fun | 156 => 62 | 165 => 90 | 166 => 91 | 169 => 92 | 240 => 112 | 241 => 113 | 276 => 127 | 277 => 128 | n => n, fun | 31 => 33 | 9 => 9 | 3 => 3 | 4 => 4 | 0 => 0 | 20 => 20 | 72 => 141 | 76 => 144 | 70 => 139 | 37 => 115 | 75 => 143 | 127 => 160 | 164 => 174 | 5 => 5 | 80 => 47 | n => n, fun | n => n⟩
theorem Tryz.lays156 : Go.Proofs.Lays.n156 Tryz.prog Tryz.lays156_ren := {
  mixed := by kernel_rfl
  f156 := Tryz.func62.trans (congrArg some (by kernel_rfl))
  f165 := Tryz.func90.trans (congrArg some (by kernel_rfl))
  f166 := Tryz.func91.trans (congrArg some (by kernel_rfl))
  f169 := Tryz.func92.trans (congrArg some (by kernel_rfl))
  f240 := Tryz.func112.trans (congrArg some (by kernel_rfl))
  f241 := Tryz.func113.trans (congrArg some (by kernel_rfl))
  f276 := Tryz.func127.trans (congrArg some (by kernel_rfl))
  f277 := Tryz.func128.trans (congrArg some (by kernel_rfl))
  t0 := Tryz.underlying0
  a0 := Tryz.isAgg0
  z0 := Tryz.sizeOf0
  v0 := Tryz.zeroValue0
  t3 := Tryz.underlying3
  a3 := Tryz.isAgg3
  z3 := Tryz.sizeOf3
  v3 := Tryz.zeroValue3
  t4 := Tryz.underlying4
  a4 := Tryz.isAgg4
  z4 := Tryz.sizeOf4
  v4 := Tryz.zeroValue4
  t9 := Tryz.underlying9
  a9 := Tryz.isAgg9
  z9 := Tryz.sizeOf9
  v9 := Tryz.zeroValue9
  t20 := Tryz.underlying20
  a20 := Tryz.isAgg20
  z20 := Tryz.sizeOf20
  v20 := Tryz.zeroValue20
  t31 := Tryz.underlying33
  a31 := Tryz.isAgg33
  z31 := Tryz.sizeOf33
  v31 := Tryz.zeroValue33
  t37 := Tryz.underlying115
  a37 := Tryz.isAgg115
  z37 := Tryz.sizeOf115
  v37 := Tryz.zeroValue115
  t70 := Tryz.underlying139
  a70 := Tryz.isAgg139
  z70 := Tryz.sizeOf139
  v70 := Tryz.zeroValue139
  t72 := Tryz.underlying141
  a72 := Tryz.isAgg141
  z72 := Tryz.sizeOf141
  v72 := Tryz.zeroValue141
  t75 := Tryz.underlying143
  a75 := Tryz.isAgg143
  z75 := Tryz.sizeOf143
  v75 := Tryz.zeroValue143
  t76 := Tryz.underlying144
  a76 := Tryz.isAgg144
  z76 := Tryz.sizeOf144
  v76 := Tryz.zeroValue144
  t127 := Tryz.underlying160
  a127 := Tryz.isAgg160
  z127 := Tryz.sizeOf160
  v127 := Tryz.zeroValue160
  t164 := Tryz.underlying174
  a164 := Tryz.isAgg174
  z164 := Tryz.sizeOf174
  v164 := Tryz.zeroValue174 }
theorem Tryz.Builder_Extra_156 : Builder.Extra Tryz.prog Tryz.lays156_ren := {
  sizeBuilder := by kernel_rfl
  liesBuilder := by kernel_rfl
  t5 := Tryz.underlying5
  a5 := Tryz.isAgg5
  z5 := Tryz.sizeOf5
  v5 := Tryz.zeroValue5
  infoByte := by kernel_rfl
  cellsByte := by kernel_rfl
  sizeByte := by kernel_rfl
  neB5 := by decide }
open Go.RowKit in
theorem Tryz.strings_Join_none (a : Option Addr) (c : Nat) (sep : ByteArray) (w : World) :
    Calls Tryz.prog 62 #[.slice a 0 c, .string sep] w fun e w' => e = .returned (.string ⟨#[]⟩) ∧ w' = w := Any.strings_Join_none Tryz.lays156 Tryz.Builder_Extra_156 a c sep w
open Go.RowKit in
theorem Tryz.strings_Join (bk o c : Nat) (xs : List ByteArray) (sep : ByteArray) (w : World) (hcells : ∀ (j : Nat) x, xs[j]? = some x → w.cell? ⟨bk, o + j, none⟩ = some (.string x)) (hbk : bk < w.heap.size) (hN : xs.length ≤ 140737488355328) (hcap : xs.length ≤ c) (hlen : (Lib.join (xs.map (·.data.toList)) sep.data.toList).length ≤ 140737488355328) :
    Calls Tryz.prog 62 #[.slice (some ⟨bk, o, none⟩) xs.length c, .string sep] w fun e w' => e = .returned (.string ⟨(Lib.join (xs.map (·.data.toList)) sep.data.toList).toArray⟩) ∧ Below w.heap.size w w' := Any.strings_Join Tryz.lays156 Tryz.Builder_Extra_156 bk o c xs sep w hcells hbk hN hcap hlen
def Tryz.lays231_ren : Go.Shelf.Ren := ⟨fun | 231 => 120 | n => n, fun | 9 => 9 | 5 => 5 | 3 => 3 | 4 => 4 | n => n, fun | n => n⟩
theorem Tryz.lays231 : Go.Proofs.Lays.n231 Tryz.prog Tryz.lays231_ren := {
  mixed := by kernel_rfl
  f231 := Tryz.func120.trans (congrArg some (by kernel_rfl))
  t3 := Tryz.underlying3
  a3 := Tryz.isAgg3
  z3 := Tryz.sizeOf3
  v3 := Tryz.zeroValue3
  t4 := Tryz.underlying4
  a4 := Tryz.isAgg4
  z4 := Tryz.sizeOf4
  v4 := Tryz.zeroValue4
  t5 := Tryz.underlying5
  a5 := Tryz.isAgg5
  z5 := Tryz.sizeOf5
  v5 := Tryz.zeroValue5
  t9 := Tryz.underlying9
  a9 := Tryz.isAgg9
  z9 := Tryz.sizeOf9
  v9 := Tryz.zeroValue9 }
open Go.RowKit in
theorem Tryz.strings_trimLeftByte (s : ByteArray) (c : UInt8) (w : World) :
    Calls Tryz.prog 120 #[.string s, .int .u8 c.toNat] w fun e w' => e = .returned (.string ⟨(Lib.trimLeftB s.data.toList c).toArray⟩) ∧ w' = w := Any.strings_trimLeftByte Tryz.lays231 s c w
def Tryz.lays232_ren : Go.Shelf.Ren := ⟨fun | 232 => 121 | n => n, fun | 9 => 9 | 5 => 5 | 3 => 3 | 4 => 4 | n => n, fun | n => n⟩
theorem Tryz.lays232 : Go.Proofs.Lays.n232 Tryz.prog Tryz.lays232_ren := {
  mixed := by kernel_rfl
  f232 := Tryz.func121.trans (congrArg some (by kernel_rfl))
  t3 := Tryz.underlying3
  a3 := Tryz.isAgg3
  z3 := Tryz.sizeOf3
  v3 := Tryz.zeroValue3
  t4 := Tryz.underlying4
  a4 := Tryz.isAgg4
  z4 := Tryz.sizeOf4
  v4 := Tryz.zeroValue4
  t5 := Tryz.underlying5
  a5 := Tryz.isAgg5
  z5 := Tryz.sizeOf5
  v5 := Tryz.zeroValue5
  t9 := Tryz.underlying9
  a9 := Tryz.isAgg9
  z9 := Tryz.sizeOf9
  v9 := Tryz.zeroValue9 }
open Go.RowKit in
theorem Tryz.strings_trimRightByte (s : ByteArray) (c : UInt8) (w : World) (hs : s.size ≤ 9223372036854775807) :
    Calls Tryz.prog 121 #[.string s, .int .u8 c.toNat] w fun e w' => e = .returned (.string ⟨(Lib.trimRightB s.data.toList c).toArray⟩) ∧ w' = w := Any.strings_trimRightByte Tryz.lays232 s c w hs
def Tryz.lays160_ren : Go.Shelf.Ren := ⟨fun | 160 => 111 | 232 => 121 | 231 => 120 | 227 => 122 | 234 => 124 | 233 => 123 | 236 => 126 | 235 => 125 | 228 => 141 | 271 => 144 | 151 => 143 | 197 => 142 | 120 => 153 | 152 => 152 | 260 => 151 | 137 => 155 | 119 => 156 | 224 => 157 | 225 => 158 | 217 => 159 | 266 => 160 | n => n, fun | 9 => 9 | 4 => 4 | 3 => 3 | 5 => 5 | 117 => 170 | 116 => 169 | 0 => 0 | 124 => 173 | 21 => 21 | 105 => 190 | 46 => 129 | 119 => 201 | 139 => 204 | 138 => 203 | n => n, fun | 3 => 1 | 4 => 2 | n => n⟩
theorem Tryz.lays160 : Go.Proofs.Lays.n160 Tryz.prog Tryz.lays160_ren := {
  mixed := by kernel_rfl
  f119 := Tryz.func156.trans (congrArg some (by kernel_rfl))
  f120 := Tryz.func153.trans (congrArg some (by kernel_rfl))
  f137 := Tryz.func155.trans (congrArg some (by kernel_rfl))
  f151 := Tryz.func143.trans (congrArg some (by kernel_rfl))
  f152 := Tryz.func152.trans (congrArg some (by kernel_rfl))
  f160 := Tryz.func111.trans (congrArg some (by kernel_rfl))
  f197 := Tryz.func142.trans (congrArg some (by kernel_rfl))
  f217 := Tryz.func159.trans (congrArg some (by kernel_rfl))
  f224 := Tryz.func157.trans (congrArg some (by kernel_rfl))
  f225 := Tryz.func158.trans (congrArg some (by kernel_rfl))
  f227 := Tryz.func122.trans (congrArg some (by kernel_rfl))
  f228 := Tryz.func141.trans (congrArg some (by kernel_rfl))
  f231 := Tryz.func120.trans (congrArg some (by kernel_rfl))
  f232 := Tryz.func121.trans (congrArg some (by kernel_rfl))
  f233 := Tryz.func123.trans (congrArg some (by kernel_rfl))
  f234 := Tryz.func124.trans (congrArg some (by kernel_rfl))
  f235 := Tryz.func125.trans (congrArg some (by kernel_rfl))
  f236 := Tryz.func126.trans (congrArg some (by kernel_rfl))
  f260 := Tryz.func151.trans (congrArg some (by kernel_rfl))
  f266 := Tryz.func160.trans (congrArg some (by kernel_rfl))
  f271 := Tryz.func144.trans (congrArg some (by kernel_rfl))
  t0 := Tryz.underlying0
  a0 := Tryz.isAgg0
  z0 := Tryz.sizeOf0
  v0 := Tryz.zeroValue0
  t3 := Tryz.underlying3
  a3 := Tryz.isAgg3
  z3 := Tryz.sizeOf3
  v3 := Tryz.zeroValue3
  t4 := Tryz.underlying4
  a4 := Tryz.isAgg4
  z4 := Tryz.sizeOf4
  v4 := Tryz.zeroValue4
  t5 := Tryz.underlying5
  a5 := Tryz.isAgg5
  z5 := Tryz.sizeOf5
  v5 := Tryz.zeroValue5
  t9 := Tryz.underlying9
  a9 := Tryz.isAgg9
  z9 := Tryz.sizeOf9
  v9 := Tryz.zeroValue9
  t21 := Tryz.underlying21
  a21 := Tryz.isAgg21
  z21 := Tryz.sizeOf21
  v21 := Tryz.zeroValue21
  t46 := Tryz.underlying129
  a46 := Tryz.isAgg129
  z46 := Tryz.sizeOf129
  v46 := Tryz.zeroValue129
  t105 := Tryz.underlying190
  a105 := Tryz.isAgg190
  z105 := Tryz.sizeOf190
  v105 := Tryz.zeroValue190
  t116 := Tryz.underlying169
  a116 := Tryz.isAgg169
  z116 := Tryz.sizeOf169
  t117 := Tryz.underlying170
  a117 := Tryz.isAgg170
  z117 := Tryz.sizeOf170
  v117 := Tryz.zeroValue170
  t119 := Tryz.underlying201
  a119 := Tryz.isAgg201
  z119 := Tryz.sizeOf201
  t124 := Tryz.underlying173
  a124 := Tryz.isAgg173
  z124 := Tryz.sizeOf173
  v124 := Tryz.zeroValue173
  t138 := Tryz.underlying203
  a138 := Tryz.isAgg203
  z138 := Tryz.sizeOf203
  v138 := Tryz.zeroValue203
  t139 := Tryz.underlying204
  a139 := Tryz.isAgg204
  z139 := Tryz.sizeOf204
  v139 := Tryz.zeroValue204
  g3 := by kernel_rfl
  g4 := by kernel_rfl }
open Go.RowKit in
theorem Tryz.strings_Trim_one (s : ByteArray) (c : UInt8) (hc : c.toNat < 128) (w : World) (hs : s.size ≤ 9223372036854775807) :
    Calls Tryz.prog 111 #[.string s, .string ⟨#[c]⟩] w fun e w' => e = .returned (.string ⟨(Lib.trimB s.data.toList c).toArray⟩) ∧ (w' = w ∨ w' = w.drew) := Any.strings_Trim_one Tryz.lays160 s c hc w hs
def Tryz.lays119_ren : Go.Shelf.Ren := ⟨fun | 119 => 156 | n => n, fun | 21 => 21 | 4 => 4 | n => n, fun | n => n⟩
theorem Tryz.lays119 : Go.Proofs.Lays.n119 Tryz.prog Tryz.lays119_ren := {
  mixed := by kernel_rfl
  f119 := Tryz.func156.trans (congrArg some (by kernel_rfl))
  t4 := Tryz.underlying4
  a4 := Tryz.isAgg4
  z4 := Tryz.sizeOf4
  v4 := Tryz.zeroValue4
  t21 := Tryz.underlying21
  a21 := Tryz.isAgg21
  z21 := Tryz.sizeOf21
  v21 := Tryz.zeroValue21 }
theorem Tryz.utf8_ValidRune (r : Int) (w : World) :
    Calls Tryz.prog 156 #[.int .i32 r] w fun e w' => e = .returned (.bool (Lib.validRune r)) ∧ w' = w := Any.utf8_ValidRune Tryz.lays119 r w
def Tryz.lays120_ren : Go.Shelf.Ren := ⟨fun | 120 => 153 | n => n, fun | 5 => 5 | 4 => 4 | n => n, fun | n => n⟩
theorem Tryz.lays120 : Go.Proofs.Lays.n120 Tryz.prog Tryz.lays120_ren := {
  mixed := by kernel_rfl
  f120 := Tryz.func153.trans (congrArg some (by kernel_rfl))
  t4 := Tryz.underlying4
  a4 := Tryz.isAgg4
  z4 := Tryz.sizeOf4
  v4 := Tryz.zeroValue4
  t5 := Tryz.underlying5
  a5 := Tryz.isAgg5
  z5 := Tryz.sizeOf5
  v5 := Tryz.zeroValue5 }
theorem Tryz.utf8_RuneStart (b : Int) (w : World) (h0 : 0 ≤ b) (h1 : b < 256) :
    Calls Tryz.prog 153 #[.int .u8 b] w fun e w' => e = .returned (.bool (Lib.runeStart b)) ∧ w' = w := Any.utf8_RuneStart Tryz.lays120 b w h0 h1
def Tryz.lays137_ren : Go.Shelf.Ren := ⟨fun | 137 => 155 | 217 => 159 | 266 => 160 | n => n, fun | 9 => 9 | 5 => 5 | 3 => 3 | n => n, fun | n => n⟩
theorem Tryz.lays137 : Go.Proofs.Lays.n137 Tryz.prog Tryz.lays137_ren := {
  mixed := by kernel_rfl
  f137 := Tryz.func155.trans (congrArg some (by kernel_rfl))
  f217 := Tryz.func159.trans (congrArg some (by kernel_rfl))
  f266 := Tryz.func160.trans (congrArg some (by kernel_rfl))
  t3 := Tryz.underlying3
  a3 := Tryz.isAgg3
  z3 := Tryz.sizeOf3
  v3 := Tryz.zeroValue3
  t5 := Tryz.underlying5
  a5 := Tryz.isAgg5
  z5 := Tryz.sizeOf5
  v5 := Tryz.zeroValue5
  t9 := Tryz.underlying9
  a9 := Tryz.isAgg9
  z9 := Tryz.sizeOf9
  v9 := Tryz.zeroValue9 }
open Go.RowKit in
theorem Tryz.strings_IndexByte (s : ByteArray) (c : Int) (w : World) :
    Calls Tryz.prog 155 #[.string s, .int .u8 c] w fun e w' => e = .returned (.int .i64 (Lib.indexByte s.data.toList c.toNat.toUInt8)) ∧ w' = w := Any.strings_IndexByte Tryz.lays137 s c w
open Go.RowKit in
theorem Tryz.Builder_Len_f (B b : Nat) (bs : List Value) (w : World) (h : Lib.IsBuilderF 141 5 B b bs w) :
    Calls Tryz.prog 97 #[.pointer (some ⟨b, 0, none⟩)] w fun e w' => e = .returned (.int .i64 bs.length) ∧ w' = w := Any.Builder_Len_f Tryz.lays170 B b bs w h
open Go.RowKit in
theorem Tryz.Builder_String_f (B b : Nat) (l : List UInt8) (w : World) (h : Lib.IsBuilderF 141 5 B b (Lib.byteCells l) w) (h0 : l ≠ []) :
    Calls Tryz.prog 92 #[.pointer (some ⟨b, 0, none⟩)] w fun e w' => e = .returned (.string ⟨l.toArray⟩) ∧ (Lib.IsBuilderF 141 5 B b (Lib.byteCells l) w' ∧ Below B w w') := Any.Builder_String_f Tryz.lays169 Tryz.Builder_Extra_169 B b l w h h0
open Go.RowKit in
theorem Tryz.Builder_String_empty_f (B b : Nat) (w : World) (h : Lib.IsBuilderF 141 5 B b [] w) (hBw : B ≤ w.heap.size) :
    Calls Tryz.prog 92 #[.pointer (some ⟨b, 0, none⟩)] w fun e w' => e = .returned (.string ⟨#[]⟩) ∧ (Lib.IsBuilderF 141 5 B b [] w' ∧ Below B w w') := Any.Builder_String_empty_f Tryz.lays169 Tryz.Builder_Extra_169 B b w h hBw
open Go.RowKit in
theorem Tryz.Builder_String_any_f (B b : Nat) (l : List UInt8) (w : World) (h : Lib.IsBuilderF 141 5 B b (Lib.byteCells l) w) (hBw : B ≤ w.heap.size) :
    Calls Tryz.prog 92 #[.pointer (some ⟨b, 0, none⟩)] w fun e w' => e = .returned (.string ⟨l.toArray⟩) ∧ (Lib.IsBuilderF 141 5 B b (Lib.byteCells l) w' ∧ Below B w w') := Any.Builder_String_any_f Tryz.lays169 Tryz.Builder_Extra_169 B b l w h hBw
def Tryz.lays217_ren : Go.Shelf.Ren := ⟨fun | 217 => 159 | 266 => 160 | n => n, fun | 9 => 9 | 5 => 5 | 3 => 3 | n => n, fun | n => n⟩
theorem Tryz.lays217 : Go.Proofs.Lays.n217 Tryz.prog Tryz.lays217_ren := {
  mixed := by kernel_rfl
  f217 := Tryz.func159.trans (congrArg some (by kernel_rfl))
  f266 := Tryz.func160.trans (congrArg some (by kernel_rfl))
  t3 := Tryz.underlying3
  a3 := Tryz.isAgg3
  z3 := Tryz.sizeOf3
  v3 := Tryz.zeroValue3
  t5 := Tryz.underlying5
  a5 := Tryz.isAgg5
  z5 := Tryz.sizeOf5
  v5 := Tryz.zeroValue5
  t9 := Tryz.underlying9
  a9 := Tryz.isAgg9
  z9 := Tryz.sizeOf9
  v9 := Tryz.zeroValue9 }
open Go.RowKit Go.Lib in
theorem Tryz.stringslite_IndexByte (s : ByteArray) (c : Int) (w : World) :
    Calls Tryz.prog 159 #[.string s, .int .u8 c] w fun e w' => e = .returned (.int .i64 (Lib.indexByte s.data.toList c.toNat.toUInt8)) ∧ w' = w := Any.stringslite_IndexByte Tryz.lays217 s c w
def Tryz.lays224_ren : Go.Shelf.Ren := ⟨fun | 224 => 157 | n => n, fun | 3 => 3 | n => n, fun | n => n⟩
theorem Tryz.lays224 : Go.Proofs.Lays.n224 Tryz.prog Tryz.lays224_ren := {
  mixed := by kernel_rfl
  f224 := Tryz.func157.trans (congrArg some (by kernel_rfl))
  t3 := Tryz.underlying3
  a3 := Tryz.isAgg3
  z3 := Tryz.sizeOf3
  v3 := Tryz.zeroValue3 }
open Go.RowKit Go.Lib in
theorem Tryz.bytealg_Cutover (n : Int) (h0 : 0 ≤ n) (h1 : n < 4611686018427387904) (w : World) :
    Calls Tryz.prog 157 #[.int .i64 n] w fun e w' => e = .returned (.int .i64 ((n + 16) / 8)) ∧ w' = w := Any.bytealg_Cutover Tryz.lays224 n h0 h1 w
def Tryz.lays189_ren : Go.Shelf.Ren := ⟨fun | 189 => 99 | 125 => 119 | 257 => 118 | 128 => 139 | 129 => 140 | 294 => 130 | 295 => 131 | 296 => 132 | 297 => 133 | 298 => 134 | 299 => 135 | 216 => 136 | 300 => 137 | 301 => 138 | 328 => 145 | 329 => 146 | 330 => 147 | 331 => 148 | 332 => 149 | 215 => 150 | 343 => 154 | n => n, fun | 28 => 32 | 3 => 3 | 46 => 129 | 0 => 0 | 51 => 122 | 53 => 34 | 4 => 4 | 183 => 180 | 182 => 179 | 131 => 185 | 5 => 5 | 9 => 9 | 218 => 193 | 222 => 196 | 228 => 199 | 229 => 61 | n => n, fun | n => n⟩
theorem Tryz.lays189 : Go.Proofs.Lays.n189 Tryz.prog Tryz.lays189_ren := {
  mixed := by kernel_rfl
  f125 := Tryz.func119.trans (congrArg some (by kernel_rfl))
  f128 := Tryz.func139.trans (congrArg some (by kernel_rfl))
  f129 := Tryz.func140.trans (congrArg some (by kernel_rfl))
  f189 := Tryz.func99.trans (congrArg some (by kernel_rfl))
  f215 := Tryz.func150.trans (congrArg some (by kernel_rfl))
  f216 := Tryz.func136.trans (congrArg some (by kernel_rfl))
  f257 := Tryz.func118.trans (congrArg some (by kernel_rfl))
  f294 := Tryz.func130.trans (congrArg some (by kernel_rfl))
  f295 := Tryz.func131.trans (congrArg some (by kernel_rfl))
  f296 := Tryz.func132.trans (congrArg some (by kernel_rfl))
  f297 := Tryz.func133.trans (congrArg some (by kernel_rfl))
  f298 := Tryz.func134.trans (congrArg some (by kernel_rfl))
  f299 := Tryz.func135.trans (congrArg some (by kernel_rfl))
  f300 := Tryz.func137.trans (congrArg some (by kernel_rfl))
  f301 := Tryz.func138.trans (congrArg some (by kernel_rfl))
  f328 := Tryz.func145.trans (congrArg some (by kernel_rfl))
  f329 := Tryz.func146.trans (congrArg some (by kernel_rfl))
  f330 := Tryz.func147.trans (congrArg some (by kernel_rfl))
  f331 := Tryz.func148.trans (congrArg some (by kernel_rfl))
  f332 := Tryz.func149.trans (congrArg some (by kernel_rfl))
  f343 := Tryz.func154.trans (congrArg some (by kernel_rfl))
  t0 := Tryz.underlying0
  a0 := Tryz.isAgg0
  z0 := Tryz.sizeOf0
  v0 := Tryz.zeroValue0
  t3 := Tryz.underlying3
  a3 := Tryz.isAgg3
  z3 := Tryz.sizeOf3
  v3 := Tryz.zeroValue3
  t4 := Tryz.underlying4
  a4 := Tryz.isAgg4
  z4 := Tryz.sizeOf4
  v4 := Tryz.zeroValue4
  t5 := Tryz.underlying5
  a5 := Tryz.isAgg5
  z5 := Tryz.sizeOf5
  v5 := Tryz.zeroValue5
  t9 := Tryz.underlying9
  a9 := Tryz.isAgg9
  z9 := Tryz.sizeOf9
  v9 := Tryz.zeroValue9
  t28 := Tryz.underlying32
  a28 := Tryz.isAgg32
  z28 := Tryz.sizeOf32
  v28 := Tryz.zeroValue32
  t46 := Tryz.underlying129
  a46 := Tryz.isAgg129
  z46 := Tryz.sizeOf129
  v46 := Tryz.zeroValue129
  t51 := Tryz.underlying122
  a51 := Tryz.isAgg122
  z51 := Tryz.sizeOf122
  v51 := Tryz.zeroValue122
  t53 := Tryz.underlying34
  a53 := Tryz.isAgg34
  z53 := Tryz.sizeOf34
  v53 := Tryz.zeroValue34
  t131 := Tryz.underlying185
  a131 := Tryz.isAgg185
  z131 := Tryz.sizeOf185
  v131 := Tryz.zeroValue185
  t182 := Tryz.underlying179
  a182 := Tryz.isAgg179
  z182 := Tryz.sizeOf179
  v182 := Tryz.zeroValue179
  t183 := Tryz.underlying180
  a183 := Tryz.isAgg180
  z183 := Tryz.sizeOf180
  v183 := Tryz.zeroValue180
  t218 := Tryz.underlying193
  a218 := Tryz.isAgg193
  z218 := Tryz.sizeOf193
  v218 := Tryz.zeroValue193
  t222 := Tryz.underlying196
  a222 := Tryz.isAgg196
  z222 := Tryz.sizeOf196
  v222 := Tryz.zeroValue196
  t228 := Tryz.underlying199
  a228 := Tryz.isAgg199
  z228 := Tryz.sizeOf199
  v228 := Tryz.zeroValue199
  t229 := Tryz.underlying61
  a229 := Tryz.isAgg61
  z229 := Tryz.sizeOf61
  v229 := Tryz.zeroValue61 }
open Go.Sort Go.RowKit in
theorem Tryz.slices_Sort_int (blk off cap : Nat) (zs : List Int) (w : World) (hH : Holds (Value.int .i64) w blk off zs.toArray) (hblk : blk < w.heap.size) (hsz : zs.length < 4611686018427387904) :
    Calls Tryz.prog 99 #[.slice (some ⟨blk, off, none⟩) zs.length cap] w fun e w' =>
      e = .returned (.tuple #[]) ∧ ∃ n os, w' = grow (putRow (Value.int .i64) (Sort.ahead w n) blk off (zs.mergeSort fun x y => decide (x ≤ y)).toArray) os := Any.slices_Sort_int Tryz.lays189 blk off cap zs w hH hblk hsz
def Tryz.lays206_ren : Go.Shelf.Ren := ⟨fun | 206 => 117 | n => n, fun | 9 => 9 | 4 => 4 | 3 => 3 | n => n, fun | n => n⟩
theorem Tryz.lays206 : Go.Proofs.Lays.n206 Tryz.prog Tryz.lays206_ren := {
  mixed := by kernel_rfl
  f206 := Tryz.func117.trans (congrArg some (by kernel_rfl))
  t3 := Tryz.underlying3
  a3 := Tryz.isAgg3
  z3 := Tryz.sizeOf3
  v3 := Tryz.zeroValue3
  t4 := Tryz.underlying4
  a4 := Tryz.isAgg4
  z4 := Tryz.sizeOf4
  v4 := Tryz.zeroValue4
  t9 := Tryz.underlying9
  a9 := Tryz.isAgg9
  z9 := Tryz.sizeOf9
  v9 := Tryz.zeroValue9 }
open Go.RowKit Go.Lib in
theorem Tryz.stringslite_HasPrefix (s p : ByteArray) (w : World) :
    Calls Tryz.prog 117 #[.string s, .string p] w fun e w' => e = .returned (.bool (Lib.hasPrefix s.data.toList p.data.toList)) ∧ w' = w := Any.stringslite_HasPrefix Tryz.lays206 s p w
def Tryz.lays99_ren : Go.Shelf.Ren := ⟨fun | 99 => 96 | 206 => 117 | n => n, fun | 9 => 9 | 4 => 4 | 3 => 3 | n => n, fun | n => n⟩
theorem Tryz.lays99 : Go.Proofs.Lays.n99 Tryz.prog Tryz.lays99_ren := {
  mixed := by kernel_rfl
  f99 := Tryz.func96.trans (congrArg some (by kernel_rfl))
  f206 := Tryz.func117.trans (congrArg some (by kernel_rfl))
  t3 := Tryz.underlying3
  a3 := Tryz.isAgg3
  z3 := Tryz.sizeOf3
  v3 := Tryz.zeroValue3
  t4 := Tryz.underlying4
  a4 := Tryz.isAgg4
  z4 := Tryz.sizeOf4
  v4 := Tryz.zeroValue4
  t9 := Tryz.underlying9
  a9 := Tryz.isAgg9
  z9 := Tryz.sizeOf9
  v9 := Tryz.zeroValue9 }
open Go.RowKit Go.Lib in
theorem Tryz.strings_HasPrefix (s p : ByteArray) (w : World) :
    Calls Tryz.prog 96 #[.string s, .string p] w fun e w' => e = .returned (.bool (Lib.hasPrefix s.data.toList p.data.toList)) ∧ w' = w := Any.strings_HasPrefix Tryz.lays99 s p w
def Tryz.lays152_ren : Go.Shelf.Ren := ⟨fun | 152 => 152 | 137 => 155 | 119 => 156 | 224 => 157 | 225 => 158 | 217 => 159 | 266 => 160 | n => n, fun | 9 => 9 | 21 => 21 | 3 => 3 | 4 => 4 | 5 => 5 | 0 => 0 | 46 => 129 | n => n, fun | n => n⟩
theorem Tryz.lays152 : Go.Proofs.Lays.n152 Tryz.prog Tryz.lays152_ren := {
  mixed := by kernel_rfl
  f119 := Tryz.func156.trans (congrArg some (by kernel_rfl))
  f137 := Tryz.func155.trans (congrArg some (by kernel_rfl))
  f152 := Tryz.func152.trans (congrArg some (by kernel_rfl))
  f217 := Tryz.func159.trans (congrArg some (by kernel_rfl))
  f224 := Tryz.func157.trans (congrArg some (by kernel_rfl))
  f225 := Tryz.func158.trans (congrArg some (by kernel_rfl))
  f266 := Tryz.func160.trans (congrArg some (by kernel_rfl))
  t0 := Tryz.underlying0
  a0 := Tryz.isAgg0
  z0 := Tryz.sizeOf0
  v0 := Tryz.zeroValue0
  t3 := Tryz.underlying3
  a3 := Tryz.isAgg3
  z3 := Tryz.sizeOf3
  v3 := Tryz.zeroValue3
  t4 := Tryz.underlying4
  a4 := Tryz.isAgg4
  z4 := Tryz.sizeOf4
  v4 := Tryz.zeroValue4
  t5 := Tryz.underlying5
  a5 := Tryz.isAgg5
  z5 := Tryz.sizeOf5
  v5 := Tryz.zeroValue5
  t9 := Tryz.underlying9
  a9 := Tryz.isAgg9
  z9 := Tryz.sizeOf9
  v9 := Tryz.zeroValue9
  t21 := Tryz.underlying21
  a21 := Tryz.isAgg21
  z21 := Tryz.sizeOf21
  v21 := Tryz.zeroValue21
  t46 := Tryz.underlying129
  a46 := Tryz.isAgg129
  z46 := Tryz.sizeOf129
  v46 := Tryz.zeroValue129 }
open Go.RowKit Go.Lib in
theorem Tryz.strings_IndexRune_ascii (s : ByteArray) (r : Int) (w : World) (h0 : 0 ≤ r) (h1 : r < 128) :
    Calls Tryz.prog 152 #[.string s, .int .i32 r] w fun e w' => e = .returned (.int .i64 (Lib.indexByte s.data.toList r.toNat.toUInt8)) ∧ w' = w := Any.strings_IndexRune_ascii Tryz.lays152 s r w h0 h1
def Tryz.lays151_ren : Go.Shelf.Ren := ⟨fun | 151 => 143 | 152 => 152 | 137 => 155 | 119 => 156 | 224 => 157 | 225 => 158 | 217 => 159 | 266 => 160 | n => n, fun | 9 => 9 | 21 => 21 | 4 => 4 | 3 => 3 | 5 => 5 | 0 => 0 | 46 => 129 | n => n, fun | n => n⟩
theorem Tryz.lays151 : Go.Proofs.Lays.n151 Tryz.prog Tryz.lays151_ren := {
  mixed := by kernel_rfl
  f119 := Tryz.func156.trans (congrArg some (by kernel_rfl))
  f137 := Tryz.func155.trans (congrArg some (by kernel_rfl))
  f151 := Tryz.func143.trans (congrArg some (by kernel_rfl))
  f152 := Tryz.func152.trans (congrArg some (by kernel_rfl))
  f217 := Tryz.func159.trans (congrArg some (by kernel_rfl))
  f224 := Tryz.func157.trans (congrArg some (by kernel_rfl))
  f225 := Tryz.func158.trans (congrArg some (by kernel_rfl))
  f266 := Tryz.func160.trans (congrArg some (by kernel_rfl))
  t0 := Tryz.underlying0
  a0 := Tryz.isAgg0
  z0 := Tryz.sizeOf0
  v0 := Tryz.zeroValue0
  t3 := Tryz.underlying3
  a3 := Tryz.isAgg3
  z3 := Tryz.sizeOf3
  v3 := Tryz.zeroValue3
  t4 := Tryz.underlying4
  a4 := Tryz.isAgg4
  z4 := Tryz.sizeOf4
  v4 := Tryz.zeroValue4
  t5 := Tryz.underlying5
  a5 := Tryz.isAgg5
  z5 := Tryz.sizeOf5
  v5 := Tryz.zeroValue5
  t9 := Tryz.underlying9
  a9 := Tryz.isAgg9
  z9 := Tryz.sizeOf9
  v9 := Tryz.zeroValue9
  t21 := Tryz.underlying21
  a21 := Tryz.isAgg21
  z21 := Tryz.sizeOf21
  v21 := Tryz.zeroValue21
  t46 := Tryz.underlying129
  a46 := Tryz.isAgg129
  z46 := Tryz.sizeOf129
  v46 := Tryz.zeroValue129 }
open Go.RowKit Go.Lib in
theorem Tryz.strings_ContainsRune_ascii (s : ByteArray) (r : Int) (w : World) (h0 : 0 ≤ r) (h1 : r < 128) :
    Calls Tryz.prog 143 #[.string s, .int .i32 r] w fun e w' => e = .returned (.bool (decide (0 ≤ Lib.indexByte s.data.toList r.toNat.toUInt8))) ∧ w' = w := Any.strings_ContainsRune_ascii Tryz.lays151 s r w h0 h1
def Tryz.lays227_ren : Go.Shelf.Ren := ⟨fun | 227 => 122 | n => n, fun | 9 => 9 | 116 => 169 | 4 => 4 | 0 => 0 | 3 => 3 | 5 => 5 | n => n, fun | n => n⟩
theorem Tryz.lays227 : Go.Proofs.Lays.n227 Tryz.prog Tryz.lays227_ren := {
  mixed := by kernel_rfl
  f227 := Tryz.func122.trans (congrArg some (by kernel_rfl))
  t0 := Tryz.underlying0
  a0 := Tryz.isAgg0
  z0 := Tryz.sizeOf0
  v0 := Tryz.zeroValue0
  t3 := Tryz.underlying3
  a3 := Tryz.isAgg3
  z3 := Tryz.sizeOf3
  v3 := Tryz.zeroValue3
  t4 := Tryz.underlying4
  a4 := Tryz.isAgg4
  z4 := Tryz.sizeOf4
  v4 := Tryz.zeroValue4
  t5 := Tryz.underlying5
  a5 := Tryz.isAgg5
  z5 := Tryz.sizeOf5
  v5 := Tryz.zeroValue5
  t9 := Tryz.underlying9
  a9 := Tryz.isAgg9
  z9 := Tryz.sizeOf9
  v9 := Tryz.zeroValue9
  t116 := Tryz.underlying169
  a116 := Tryz.isAgg169
  z116 := Tryz.sizeOf169 }
open Go.RowKit Go.Lib in
theorem Tryz.strings_makeASCIISet (hv116 : ∀ w, (zeroValue 169).run Tryz.prog w = .ok (.agg (Array.replicate 256 (.bool false))) w) (chars : ByteArray) (w : World) (hs : chars.size < 4294967281) (hascii : ∀ (j : Nat) b, chars.data.toList[j]? = some b → b.toNat < 128) :
    Calls Tryz.prog 122 #[.string chars] w fun e w' => e = .returned (.tuple #[.agg (Lib.setCells chars.data.toList), .bool true]) ∧ w' = w.alloc (.cells (Lib.setCells chars.data.toList) 169) := Any.strings_makeASCIISet Tryz.lays227 hv116 (by kernel_rfl) chars w hs hascii
def Tryz.lays228_ren : Go.Shelf.Ren := ⟨fun | 228 => 141 | n => n, fun | 124 => 173 | 5 => 5 | 4 => 4 | 0 => 0 | 116 => 169 | n => n, fun | n => n⟩
theorem Tryz.lays228 : Go.Proofs.Lays.n228 Tryz.prog Tryz.lays228_ren := {
  mixed := by kernel_rfl
  f228 := Tryz.func141.trans (congrArg some (by kernel_rfl))
  t0 := Tryz.underlying0
  a0 := Tryz.isAgg0
  z0 := Tryz.sizeOf0
  v0 := Tryz.zeroValue0
  t4 := Tryz.underlying4
  a4 := Tryz.isAgg4
  z4 := Tryz.sizeOf4
  v4 := Tryz.zeroValue4
  t5 := Tryz.underlying5
  a5 := Tryz.isAgg5
  z5 := Tryz.sizeOf5
  v5 := Tryz.zeroValue5
  t116 := Tryz.underlying169
  a116 := Tryz.isAgg169
  z116 := Tryz.sizeOf169
  t124 := Tryz.underlying173
  a124 := Tryz.isAgg173
  z124 := Tryz.sizeOf173
  v124 := Tryz.zeroValue173 }
open Go.RowKit Go.Lib in
theorem Tryz.asciiSet_contains (b : Nat) (x : UInt8) (v : Bool) (w : World) (hc : w.cell? ⟨b, x.toNat, none⟩ = some (.bool v)) :
    Calls Tryz.prog 141 #[.pointer (some ⟨b, 0, none⟩), .int .u8 x.toNat] w fun e w' => e = .returned (.bool v) ∧ w' = w := Any.asciiSet_contains Tryz.lays228 b x v w hc
def Tryz.lays264_ren : Go.Shelf.Ren := ⟨fun | 264 => 116 | n => n, fun | 53 => 34 | 46 => 129 | n => n, fun | n => n⟩
theorem Tryz.lays264 : Go.Proofs.Lays.n264 Tryz.prog Tryz.lays264_ren := {
  mixed := by kernel_rfl
  f264 := Tryz.func116.trans (congrArg some (by kernel_rfl))
  t46 := Tryz.underlying129
  a46 := Tryz.isAgg129
  z46 := Tryz.sizeOf129
  v46 := Tryz.zeroValue129
  t53 := Tryz.underlying34
  a53 := Tryz.isAgg34
  z53 := Tryz.sizeOf34
  v53 := Tryz.zeroValue34 }
open Go.RowKit Go.Lib in
theorem Tryz.bits_Mul64 (x y : Nat) (hx : x < 18446744073709551616) (hy : y < 18446744073709551616) (w : World) :
    Calls Tryz.prog 116 #[.int .u64 x, .int .u64 y] w fun e w' => e = .returned (.tuple #[.int .u64 ((x * y / 18446744073709551616 : Nat) : Int), .int .u64 ((x * y % 18446744073709551616 : Nat) : Int)]) ∧ w' = w := Any.bits_Mul64 Tryz.lays264 x y hx hy w
def Tryz.lays212_ren : Go.Shelf.Ren := ⟨fun | 212 => 95 | 263 => 115 | 264 => 116 | n => n, fun | 46 => 129 | 51 => 122 | 146 => 161 | 53 => 34 | 148 => 163 | n => n, fun | n => n⟩
theorem Tryz.lays212 : Go.Proofs.Lays.n212 Tryz.prog Tryz.lays212_ren := {
  mixed := by kernel_rfl
  f212 := Tryz.func95.trans (congrArg some (by kernel_rfl))
  f263 := Tryz.func115.trans (congrArg some (by kernel_rfl))
  f264 := Tryz.func116.trans (congrArg some (by kernel_rfl))
  t46 := Tryz.underlying129
  a46 := Tryz.isAgg129
  z46 := Tryz.sizeOf129
  v46 := Tryz.zeroValue129
  t51 := Tryz.underlying122
  a51 := Tryz.isAgg122
  z51 := Tryz.sizeOf122
  v51 := Tryz.zeroValue122
  t53 := Tryz.underlying34
  a53 := Tryz.isAgg34
  z53 := Tryz.sizeOf34
  v53 := Tryz.zeroValue34
  t146 := Tryz.underlying161
  a146 := Tryz.isAgg161
  z146 := Tryz.sizeOf161
  v146 := Tryz.zeroValue161
  t148 := Tryz.underlying163
  a148 := Tryz.isAgg163
  z148 := Tryz.sizeOf163
  v148 := Tryz.zeroValue163 }
open Go.RowKit Go.Lib in
theorem Tryz.bits_Mul (x y : Nat) (hx : x < 18446744073709551616) (hy : y < 18446744073709551616) (w : World) :
    Calls Tryz.prog 95 #[.int .u64 x, .int .u64 y] w fun e w' => e = .returned (.tuple #[.int .u64 ((x * y / 18446744073709551616 : Nat) : Int), .int .u64 ((x * y % 18446744073709551616 : Nat) : Int)]) ∧ w' = w := Any.bits_Mul Tryz.lays212 x y hx hy w
def Tryz.lays105_ren : Go.Shelf.Ren := ⟨fun | 105 => 65 | 212 => 95 | 99 => 96 | 165 => 90 | 166 => 91 | 170 => 97 | 169 => 92 | 263 => 115 | 264 => 116 | 206 => 117 | 240 => 112 | 241 => 113 | 276 => 127 | 277 => 128 | n => n, fun | 9 => 9 | 3 => 3 | 4 => 4 | 20 => 20 | 0 => 0 | 46 => 129 | 109 => 147 | 5 => 5 | 72 => 141 | 76 => 144 | 51 => 122 | 146 => 161 | 53 => 34 | 148 => 163 | 70 => 139 | 37 => 115 | 75 => 143 | 127 => 160 | 164 => 174 | 80 => 47 | n => n, fun | n => n⟩
theorem Tryz.lays105 : Go.Proofs.Lays.n105 Tryz.prog Tryz.lays105_ren := {
  mixed := by kernel_rfl
  f99 := Tryz.func96.trans (congrArg some (by kernel_rfl))
  f105 := Tryz.func65.trans (congrArg some (by kernel_rfl))
  f165 := Tryz.func90.trans (congrArg some (by kernel_rfl))
  f166 := Tryz.func91.trans (congrArg some (by kernel_rfl))
  f169 := Tryz.func92.trans (congrArg some (by kernel_rfl))
  f170 := Tryz.func97.trans (congrArg some (by kernel_rfl))
  f206 := Tryz.func117.trans (congrArg some (by kernel_rfl))
  f212 := Tryz.func95.trans (congrArg some (by kernel_rfl))
  f240 := Tryz.func112.trans (congrArg some (by kernel_rfl))
  f241 := Tryz.func113.trans (congrArg some (by kernel_rfl))
  f263 := Tryz.func115.trans (congrArg some (by kernel_rfl))
  f264 := Tryz.func116.trans (congrArg some (by kernel_rfl))
  f276 := Tryz.func127.trans (congrArg some (by kernel_rfl))
  f277 := Tryz.func128.trans (congrArg some (by kernel_rfl))
  t0 := Tryz.underlying0
  a0 := Tryz.isAgg0
  z0 := Tryz.sizeOf0
  v0 := Tryz.zeroValue0
  t3 := Tryz.underlying3
  a3 := Tryz.isAgg3
  z3 := Tryz.sizeOf3
  v3 := Tryz.zeroValue3
  t4 := Tryz.underlying4
  a4 := Tryz.isAgg4
  z4 := Tryz.sizeOf4
  v4 := Tryz.zeroValue4
  t5 := Tryz.underlying5
  a5 := Tryz.isAgg5
  z5 := Tryz.sizeOf5
  v5 := Tryz.zeroValue5
  t9 := Tryz.underlying9
  a9 := Tryz.isAgg9
  z9 := Tryz.sizeOf9
  v9 := Tryz.zeroValue9
  t20 := Tryz.underlying20
  a20 := Tryz.isAgg20
  z20 := Tryz.sizeOf20
  v20 := Tryz.zeroValue20
  t37 := Tryz.underlying115
  a37 := Tryz.isAgg115
  z37 := Tryz.sizeOf115
  v37 := Tryz.zeroValue115
  t46 := Tryz.underlying129
  a46 := Tryz.isAgg129
  z46 := Tryz.sizeOf129
  v46 := Tryz.zeroValue129
  t51 := Tryz.underlying122
  a51 := Tryz.isAgg122
  z51 := Tryz.sizeOf122
  v51 := Tryz.zeroValue122
  t53 := Tryz.underlying34
  a53 := Tryz.isAgg34
  z53 := Tryz.sizeOf34
  v53 := Tryz.zeroValue34
  t70 := Tryz.underlying139
  a70 := Tryz.isAgg139
  z70 := Tryz.sizeOf139
  v70 := Tryz.zeroValue139
  t72 := Tryz.underlying141
  a72 := Tryz.isAgg141
  z72 := Tryz.sizeOf141
  v72 := Tryz.zeroValue141
  t75 := Tryz.underlying143
  a75 := Tryz.isAgg143
  z75 := Tryz.sizeOf143
  v75 := Tryz.zeroValue143
  t76 := Tryz.underlying144
  a76 := Tryz.isAgg144
  z76 := Tryz.sizeOf144
  v76 := Tryz.zeroValue144
  t109 := Tryz.underlying147
  a109 := Tryz.isAgg147
  z109 := Tryz.sizeOf147
  v109 := Tryz.zeroValue147
  t127 := Tryz.underlying160
  a127 := Tryz.isAgg160
  z127 := Tryz.sizeOf160
  v127 := Tryz.zeroValue160
  t146 := Tryz.underlying161
  a146 := Tryz.isAgg161
  z146 := Tryz.sizeOf161
  v146 := Tryz.zeroValue161
  t148 := Tryz.underlying163
  a148 := Tryz.isAgg163
  z148 := Tryz.sizeOf163
  v148 := Tryz.zeroValue163
  t164 := Tryz.underlying174
  a164 := Tryz.isAgg174
  z164 := Tryz.sizeOf174
  v164 := Tryz.zeroValue174 }
theorem Tryz.Builder_Extra_105 : Builder.Extra Tryz.prog Tryz.lays105_ren := {
  sizeBuilder := by kernel_rfl
  liesBuilder := by kernel_rfl
  t5 := Tryz.underlying5
  a5 := Tryz.isAgg5
  z5 := Tryz.sizeOf5
  v5 := Tryz.zeroValue5
  infoByte := by kernel_rfl
  cellsByte := by kernel_rfl
  sizeByte := by kernel_rfl
  neB5 := by decide }
open Go.RowKit Go.Lib in
theorem Tryz.strings_Repeat_main (s : ByteArray) (c : Nat) (w : World) (hc2 : 2 ≤ c) (hc : c ≤ 9223372036854775807) (hlen : s.size * c ≤ 140737488355328) (h0 : 0 < s.size) :
    Calls Tryz.prog 65 #[.string s, .int .i64 c] w fun e w' => e = .returned (.string ⟨(Lib.repeatL s.data.toList c).toArray⟩) ∧ Below w.heap.size w w' := Any.strings_Repeat_main Tryz.lays105 Tryz.Builder_Extra_105 s c w hc2 hc hlen h0
open Go.RowKit Go.Lib in
theorem Tryz.strings_Repeat_zero (s : ByteArray) (w : World) :
    Calls Tryz.prog 65 #[.string s, .int .i64 0] w fun e w' => e = .returned (.string ⟨#[]⟩) ∧ w' = w := Any.strings_Repeat_zero Tryz.lays105 s w
open Go.RowKit Go.Lib in
theorem Tryz.strings_Repeat_one (s : ByteArray) (w : World) :
    Calls Tryz.prog 65 #[.string s, .int .i64 1] w fun e w' => e = .returned (.string s) ∧ w' = w := Any.strings_Repeat_one Tryz.lays105 s w
open Go.RowKit Go.Lib in
theorem Tryz.strings_Repeat_empty (s : ByteArray) (c : Nat) (w : World) (hc2 : 2 ≤ c) (hc : c ≤ 9223372036854775807) (h0 : s.size = 0) :
    Calls Tryz.prog 65 #[.string s, .int .i64 c] w fun e w' => e = .returned (.string ⟨#[]⟩) ∧ w' = w := Any.strings_Repeat_empty Tryz.lays105 s c w hc2 hc h0
open Go.RowKit Go.Lib in
theorem Tryz.strings_Repeat (s : ByteArray) (c : Nat) (w : World) (hc : c ≤ 9223372036854775807) (hlen : s.size * c ≤ 140737488355328) :
    Calls Tryz.prog 65 #[.string s, .int .i64 c] w fun e w' => e = .returned (.string ⟨(Lib.repeatL s.data.toList c).toArray⟩) ∧ Below w.heap.size w w' := Any.strings_Repeat Tryz.lays105 Tryz.Builder_Extra_105 s c w hc hlen
def Tryz.lays260_ren : Go.Shelf.Ren := ⟨fun | 260 => 151 | n => n, fun | 9 => 9 | 21 => 21 | 3 => 3 | 4 => 4 | 5 => 5 | 119 => 201 | 0 => 0 | 46 => 129 | 139 => 204 | 138 => 203 | n => n, fun | 3 => 1 | 4 => 2 | n => n⟩
theorem Tryz.lays260 : Go.Proofs.Lays.n260 Tryz.prog Tryz.lays260_ren := {
  mixed := by kernel_rfl
  f260 := Tryz.func151.trans (congrArg some (by kernel_rfl))
  t0 := Tryz.underlying0
  a0 := Tryz.isAgg0
  z0 := Tryz.sizeOf0
  v0 := Tryz.zeroValue0
  t3 := Tryz.underlying3
  a3 := Tryz.isAgg3
  z3 := Tryz.sizeOf3
  v3 := Tryz.zeroValue3
  t4 := Tryz.underlying4
  a4 := Tryz.isAgg4
  z4 := Tryz.sizeOf4
  v4 := Tryz.zeroValue4
  t5 := Tryz.underlying5
  a5 := Tryz.isAgg5
  z5 := Tryz.sizeOf5
  v5 := Tryz.zeroValue5
  t9 := Tryz.underlying9
  a9 := Tryz.isAgg9
  z9 := Tryz.sizeOf9
  v9 := Tryz.zeroValue9
  t21 := Tryz.underlying21
  a21 := Tryz.isAgg21
  z21 := Tryz.sizeOf21
  v21 := Tryz.zeroValue21
  t46 := Tryz.underlying129
  a46 := Tryz.isAgg129
  z46 := Tryz.sizeOf129
  v46 := Tryz.zeroValue129
  t119 := Tryz.underlying201
  a119 := Tryz.isAgg201
  z119 := Tryz.sizeOf201
  t138 := Tryz.underlying203
  a138 := Tryz.isAgg203
  z138 := Tryz.sizeOf203
  v138 := Tryz.zeroValue203
  t139 := Tryz.underlying204
  a139 := Tryz.isAgg204
  z139 := Tryz.sizeOf204
  v139 := Tryz.zeroValue204
  g3 := by kernel_rfl
  g4 := by kernel_rfl }
open Go.RowKit Go.Lib in
theorem Tryz.utf8_decodeRuneInStringSlow (s : ByteArray) (w : World) (hT : Lib.Utf8Tabs 1 2 w) :
    Calls Tryz.prog 151 #[.string s] w fun e w' => e = .returned (.tuple #[.int .i32 (Lib.decodeGo s).1, .int .i64 (Lib.decodeGo s).2]) ∧ Below w.heap.size w w' := Any.utf8_decodeRuneInStringSlow Tryz.lays260 s w hT
open Go.RowKit Go.Sort in
theorem Tryz.slices_Sort_int_none (p : Option Addr) (cap : Nat) (w : World) :
    Calls Tryz.prog 99 #[.slice p 0 cap] w fun e w' => e = .returned (.tuple #[]) ∧ w' = w := Any.slices_Sort_int_none Tryz.lays189 p cap w
end Go.Proofs

namespace Go.Proofs.YtpaholkmlfaflaaGreatDoor
open Go.RowKit
set_option linter.unusedVariables false

theorem repeat_nul_list (c : Nat) : Lib.repeatL [0] c = List.replicate c (0 : UInt8) := by
  induction c with
  | zero => rfl
  | succ c ih => rw [Lib.repeatL, ih]; rfl
/-- strings.Repeat of one nought. -/
theorem repeat_nul (c : Int) (w : World) (h0 : 0 ≤ c) (h1 : c ≤ 1000000) :
    Calls Tryz.prog 65 #[.string ⟨#[0]⟩, .int .i64 c] w fun e w' => e = .returned (.string (S (nul c.toNat))) ∧ Below w.heap.size w w' := by
  obtain ⟨c, rfl⟩ := Int.eq_ofNat_of_zero_le h0
  refine (Tryz.strings_Repeat ⟨#[0]⟩ c w (by omega) (by show 1 * c ≤ _; omega)).mono ?_
  rintro e w' ⟨rfl, hb⟩
  refine ⟨?_, hb⟩
  have : (ByteArray.mk #[0]).data.toList = [0] := rfl
  rw [this, repeat_nul_list]; rfl

end Go.Proofs.YtpaholkmlfaflaaGreatDoor

namespace Go.Proofs.YtpaholkmlfaflaaGreatDoor
open Go.RowKit
set_option linter.unusedVariables false

/-- One bit. -/
def crcBit (r : Nat) : Nat := if r % 2 = 1 then (r / 2) ^^^ 3988292384 else r / 2
/-- k bits. -/
def crcN : Nat → Nat → Nat
  | 0, r => r
  | k + 1, r => crcBit (crcN k r)
/-- A byte. -/
def crcByte (r : Nat) (b : UInt8) : Nat := crcN 8 (r ^^^ b.toNat)
def crcL (l : List UInt8) : Nat := l.foldl crcByte 4294967295
/-- What has been reckoned behind i bytes. -/
def crcTo (s : ByteArray) (i : Nat) : Nat := crcL (s.data.toList.take i)
/-- The sum. -/
def crcV (s : ByteArray) : Int := 4294967295 - (crcL s.data.toList : Nat)

theorem crcBit_lt (r : Nat) (h : r < 4294967296) : crcBit r < 4294967296 := by
  unfold crcBit
  split
  · exact Nat.xor_lt_two_pow (n := 32) (by omega) (by omega)
  · omega
theorem crcN_lt (k r : Nat) (h : r < 4294967296) : crcN k r < 4294967296 := by
  induction k with
  | zero => exact h
  | succ k ih => exact crcBit_lt _ ih
theorem xor_byte_lt (r : Nat) (b : UInt8) (h : r < 4294967296) : r ^^^ b.toNat < 4294967296 :=
  Nat.xor_lt_two_pow (n := 32) h (by have := b.toNat_lt; omega)
theorem crcByte_lt (r : Nat) (b : UInt8) (h : r < 4294967296) : crcByte r b < 4294967296 := crcN_lt _ _ (xor_byte_lt r b h)
theorem foldl_crc_lt : ∀ (l : List UInt8) (r : Nat), r < 4294967296 → l.foldl crcByte r < 4294967296
  | [], r, h => h
  | b :: l, r, h => foldl_crc_lt l _ (crcByte_lt r b h)
theorem crcL_lt (l : List UInt8) : crcL l < 4294967296 := foldl_crc_lt l _ (by decide)
theorem crcTo_lt (s : ByteArray) (i : Nat) : crcTo s i < 4294967296 := crcL_lt _
theorem crcTo_zero (s : ByteArray) : crcTo s 0 = 4294967295 := rfl
theorem crcTo_all (s : ByteArray) : crcTo s s.size = crcL s.data.toList := by
  unfold crcTo; rw [List.take_of_length_le (by rw [data_length]; omega)]
theorem crcTo_step (s : ByteArray) (i : Nat) (h : i < s.size) : crcN 8 (crcTo s i ^^^ s[i].toNat) = crcTo s (i + 1) := by
  unfold crcTo crcL
  rw [List.take_succ_eq_append_getElem (by simpa using h), List.foldl_append]
  rfl
theorem crcV_bd (s : ByteArray) : 0 ≤ crcV s ∧ crcV s ≤ 4294967295 := by
  have := crcL_lt s.data.toList
  unfold crcV; omega

/-! The walk's own spelling. -/
theorem xor_u32 (r : Nat) (b : UInt8) (h : r < 4294967296) : bits .xor .u32 (r : Int) ((b.toNat : Int) % 4294967296) = ((r ^^^ b.toNat : Nat) : Int) := by
  have hb := b.toNat_lt
  rw [Int.emod_eq_of_lt (by omega) (by omega), u32_xor_nat _ _ h (by omega)]
theorem and_one_u32 (r : Nat) (h : r < 4294967296) : bits .and .u32 (r : Int) 1 = ((r % 2 : Nat) : Int) := by
  have := u32_and_nat r 1 h (by decide)
  rw [show ((1 : Nat) : Int) = 1 from rfl] at this
  rw [this, nat_mask1]
theorem and_full (x : Nat) (h : x < 4294967296) : x &&& 4294967295 = x := by
  have := Nat.and_two_pow_sub_one_eq_mod x 32
  rw [show 2 ^ 32 - 1 = 4294967295 from rfl] at this
  rw [this]; omega
theorem crcBit_step (r : Nat) (h : r < 4294967296) :
    bits .xor .u32 ((r : Int) / 2) (bits .and .u32 3988292384 (-(bits .and .u32 (r : Int) 1) % 4294967296)) = (crcBit r : Nat) := by
  rw [and_one_u32 r h]
  unfold crcBit
  have h2 : (r : Int) / 2 = ((r / 2 : Nat) : Int) := by omega
  rw [h2]
  by_cases h1 : r % 2 = 1
  · rw [h1, if_pos rfl, show -((1 : Nat) : Int) % 4294967296 = ((4294967295 : Nat) : Int) from by decide]
    have := u32_and_nat 3988292384 4294967295 (by decide) (by decide)
    rw [show ((3988292384 : Nat) : Int) = 3988292384 from rfl] at this
    rw [this, and_full _ (by decide), u32_xor_nat _ _ (by omega) (by decide)]
  · rw [show r % 2 = 0 by omega, if_neg (by decide), show -((0 : Nat) : Int) % 4294967296 = ((0 : Nat) : Int) from by decide]
    have := u32_and_nat 3988292384 0 (by decide) (by decide)
    rw [show ((3988292384 : Nat) : Int) = 3988292384 from rfl] at this
    rw [this, Nat.and_zero, u32_xor_nat _ _ (by omega) (by decide), Nat.xor_zero]

theorem not_u32 (x : Nat) (h : x < 4294967296) : 4294967295 ^^^ x = 4294967295 - x := by
  apply Nat.eq_of_testBit_eq; intro i
  have h1 := Nat.testBit_two_pow_sub_succ (n := 32) (show x < 2 ^ 32 by omega) i
  rw [show 2 ^ 32 - (x + 1) = 4294967295 - x by omega] at h1
  have h2 := Nat.testBit_two_pow_sub_one 32 i
  rw [show 2 ^ 32 - 1 = 4294967295 from rfl] at h2
  rw [h1, Nat.testBit_xor, h2]
  by_cases hi : i < 32
  · simp [hi]
  · have : x.testBit i = false := Nat.testBit_lt_two_pow (Nat.lt_of_lt_of_le (show x < 2 ^ 32 by omega) (Nat.pow_le_pow_right (by decide) (by omega)))
    simp [hi, this]
theorem crc_end (s : ByteArray) : bits .xor .u32 IntKind.u32.max (crcL s.data.toList : Nat) = crcV s := by
  have h := crcL_lt s.data.toList
  have := u32_xor_nat 4294967295 _ (by decide) h
  rw [show ((4294967295 : Nat) : Int) = IntKind.u32.max from rfl] at this
  rw [this, not_u32 _ h]
  unfold crcV; omega

end Go.Proofs.YtpaholkmlfaflaaGreatDoor

namespace Go.Proofs.YtpaholkmlfaflaaGreatDoor
open Go.RowKit
set_option linter.unusedVariables false

/-- What has been reckoned behind j parts. -/
def crcPart (s : ByteArray) (j : Nat) : Nat := if j = 0 then 4294967295 else crcL s.data.toList

set_option maxHeartbeats 1000000 in
/-- crc.Sum of one part. -/
theorem crcSum_any (s : ByteArray) (b : Nat) (w : World) (hc : w.cell? ⟨b, 0, none⟩ = some (.string s)) (hs : s.size ≤ 9223372036854775807) :
    Calls Tryz.prog 82 #[.slice (some ⟨b, 0, none⟩) 1 1] w fun e w' => e = .returned (.int .u32 (crcV s)) ∧ w = w' := by
  go_enter Tryz.func82, Tryz.ntmps82
  go_wp2
  go_loop [3, 10] (fun r c => ∃ j : Nat, j ≤ 1 ∧ c = .int .i64 j ∧ r = .int .u32 (crcPart s j : Nat)) (fun _ c => 1 - (intOf c).toNat)
  case atStart => exact ⟨0, Nat.zero_le _, rfl, rfl⟩
  case round =>
    obtain ⟨j, hj, rfl, rfl⟩ := hrel
    by_cases h0 : j = 0
    · subst h0
      go_wp2
      go_loop [3, 16] (fun r c => ∃ i : Nat, i ≤ s.size ∧ c = .int .i64 i ∧ r = .int .u32 (crcTo s i : Nat)) (fun _ c => s.size - (intOf c).toNat)
      case atStart => exact ⟨0, Nat.zero_le _, rfl, rfl⟩
      case round =>
        obtain ⟨i, hi, rfl, rfl⟩ := hrel
        have ht := crcTo_lt s i
        by_cases hlt : i < s.size
        · have x1 := xor_u32 (crcTo s i) s[i] ht
          have X1 := Lib.hid x1
          have X2 := Lib.hid (crcTo_step s i hlt)
          have ht' := xor_byte_lt (crcTo s i) s[i] ht
          clear x1 ht
          go_wp2
          go_loop [3, 25] (fun r c => ∃ k : Nat, k ≤ 8 ∧ c = .int .i64 k ∧ r = .int .u32 (crcN k (crcTo s i ^^^ s[i].toNat) : Nat)) (fun _ c => 8 - (intOf c).toNat)
          case atStart => exact ⟨0, Nat.zero_le _, rfl, by rw [X1.out]; rfl⟩
          case round =>
            obtain ⟨k, hk, rfl, rfl⟩ := hrel
            have hkt := crcN_lt k _ ht'
            have K1 := Lib.hid (crcBit_step _ hkt)
            by_cases hkl : k < 8
            · clear hkt ht'
              go_wp2
              go_round
              case rel => exact ⟨k + 1, by omega, by go_num, by rw [K1.out]; rfl⟩
              case measure => simp [intOf]; omega
            · obtain rfl : k = 8 := by omega
              clear hkt ht'
              go_wp2
              go_round
              case rel => exact ⟨i + 1, by omega, by go_num, by rw [X2.out]⟩
              case measure => simp [intOf]; omega
        · obtain rfl : i = s.size := by omega
          go_wp2
          go_round
          case rel => exact ⟨1, by omega, by go_num, by rw [crcTo_all]; rfl⟩
          case measure => simp [intOf]
    · obtain rfl : j = 1 := by omega
      have E := Lib.hid (crc_end s)
      go_wp2
      go_ret
      exact ⟨by rw [← E.out]; rfl, rfl⟩

end Go.Proofs.YtpaholkmlfaflaaGreatDoor

namespace Go.Proofs.YtpaholkmlfaflaaGreatDoor
open Go.RowKit
set_option linter.unusedVariables false

/-- What stands behind a page's sum. -/
def pgBody (kind no : Int) (room : ByteArray) : ByteArray := S (leB kind 1 ++ leB no 4 ++ nul 7 ++ room.data.toList ++ nul (496 - room.size))
/-- A page. -/
def pgStr (kind no : Int) (room : ByteArray) : ByteArray := S (leB (crcV (pgBody kind no room)) 4 ++ (pgBody kind no room).data.toList)
/-- May these be? -/
def pgArg (kind no : Int) : Bool := decide (1 ≤ kind ∧ kind ≤ 255 ∧ 0 ≤ no ∧ no ≤ 2147483647)
theorem pgBody_size (kind no : Int) (room : ByteArray) (h : room.size ≤ 496) : (pgBody kind no room).size = 508 := by
  unfold pgBody; rw [S_size]; simp only [List.length_append, leB_length, nul_length, data_length]; omega
theorem pgStr_size (kind no : Int) (room : ByteArray) (h : room.size ≤ 496) : (pgStr kind no room).size = 512 := by
  have := pgBody_size kind no room h
  unfold pgStr; rw [S_size]; simp only [List.length_append, leB_length, data_length]; omega
theorem u64_int (x : Int) (h : 0 ≤ x) (hu : x ≤ 9223372036854775807) : IntKind.u64.wrap x = x := by
  rw [IntKind.wrap_u64]; omega
/-- The four ways in which kind and number are refused. -/
theorem pgArg_no (kind no : Int) (h : pgArg kind no = false) : kind < 1 ∨ (1 ≤ kind ∧ 255 < kind) ∨ (1 ≤ kind ∧ kind ≤ 255 ∧ no < 0) ∨ (1 ≤ kind ∧ kind ≤ 255 ∧ 0 ≤ no ∧ 2147483647 < no) := by
  simp [pgArg] at h; omega
theorem pgArg_yes (kind no : Int) (h : pgArg kind no = true) : 1 ≤ kind ∧ kind ≤ 255 ∧ 0 ≤ no ∧ no ≤ 2147483647 := by
  simpa [pgArg] using h

set_option maxHeartbeats 1000000 in
theorem pack_arg (kind no : Int) (room : ByteArray) (w : World) (h : pgArg kind no = false) :
    Calls Tryz.prog 46 #[.int .i64 kind, .int .i64 no, .string room] w fun e w' => e = .returned (.tuple #[.string ⟨#[]⟩, .int .i64 1]) ∧ w = w' := by
  rcases pgArg_no kind no h with h | ⟨h1, h⟩ | ⟨h1, h2, h⟩ | ⟨h1, h2, h3, h⟩
  all_goals
    go_enter Tryz.func46, Tryz.ntmps46
    go_wp2_with fail
    go_ret2
    exact ⟨rfl, rfl⟩

set_option maxHeartbeats 1000000 in
theorem pack_large (kind no : Int) (room : ByteArray) (w : World) (h : pgArg kind no = true) (hr : 496 < room.size) :
    Calls Tryz.prog 46 #[.int .i64 kind, .int .i64 no, .string room] w fun e w' => e = .returned (.tuple #[.string ⟨#[]⟩, .int .i64 3]) ∧ w = w' := by
  obtain ⟨h1, h2, h3, h4⟩ := pgArg_yes kind no h
  clear h
  go_enter Tryz.func46, Tryz.ntmps46
  go_wp2_with fail
  go_ret2
  exact ⟨rfl, rfl⟩

set_option maxHeartbeats 1000000 in
theorem pack_any (kind no : Int) (room : ByteArray) (w : World) (h : pgArg kind no = true) (hr : room.size ≤ 496) :
    Calls Tryz.prog 46 #[.int .i64 kind, .int .i64 no, .string room] w fun e w' => e = .returned (.tuple #[.string (pgStr kind no room), .int .i64 0]) ∧ Below w.heap.size w w' := by
  obtain ⟨h1, h2, h3, h4⟩ := pgArg_yes kind no h
  clear h
  have u1 := u64_int kind (by omega) (by omega)
  have u2 := u64_int no (by omega) (by omega)
  have z1 : (S (leB kind 1)).size ≤ 1 := by rw [S_size, leB_length]; omega
  have z2 : (S (leB no 4)).size ≤ 4 := by rw [S_size, leB_length]; omega
  have z3 : (S (nul (496 - room.size))).size ≤ 496 := by rw [S_size, nul_length]; omega
  have z4 : (S (nul 7)).size ≤ 7 := by rw [S_size, nul_length]; omega
  have zb := pgBody_size kind no room hr
  have zb' : (pgBody kind no room).size ≤ 508 := by omega
  have T : S (leB kind 1) ++ S (leB no 4) ++ S (nul 7) ++ room ++ S (nul (496 - room.size)) = pgBody kind no room := by
    unfold pgBody; rw [S_append, S_append, S_append_s, S_append]
  have T2 : S (leB (crcV (pgBody kind no room)) 4) ++ pgBody kind no room = pgStr kind no room := by
    unfold pgStr; rw [S_append_s]
  have u3 := u64_int (crcV (pgBody kind no room)) (crcV_bd _).1 (by have := (crcV_bd (pgBody kind no room)).2; omega)
  have cb := crcV_bd (pgBody kind no room)
  have z5 : (S (leB (crcV (pgBody kind no room)) 4)).size ≤ 4 := by rw [S_size, leB_length]; omega
  clear zb
  go_enter Tryz.func46, Tryz.ntmps46
  go_wp2_with fail
  refine (put_any kind 1 _ (by omega) (by omega)).mono ?_
  rintro e w1 ⟨rfl, hb1⟩
  go_wp2_with fail
  refine (put_any no 4 _ (by omega) (by omega)).mono ?_
  rintro e w2 ⟨rfl, hb2⟩
  go_wp2_with fail
  refine (repeat_nul _ _ (by omega) (by omega)).mono ?_
  rintro e w3 ⟨rfl, hb3⟩
  go_wp2_with fail
  refine (repeat_nul _ _ (by omega) (by omega)).mono ?_
  rintro e w4 ⟨rfl, hb4⟩
  go_wp2_with fail
  refine (crcSum_any (pgBody kind no room) _ _ (cell_new _ _ _) (by omega)).mono ?_
  rintro e w5 ⟨rfl, rfl⟩
  go_wp2_with fail
  refine (put_any _ 4 _ (by omega) cb.1).mono ?_
  rintro e w6 ⟨rfl, hb6⟩
  go_wp2_with fail
  go_ret2
  refine ⟨rfl, ?_⟩
  have hb := below_next (below_next (below_next hb1 hb1.size hb2) (Nat.le_trans hb1.size hb2.size) hb3) (Nat.le_trans hb1.size (Nat.le_trans hb2.size hb3.size)) hb4
  have hb' := hb.alloc hb.size (.cells #[.string (pgBody kind no room)] 9)
  exact below_next hb' hb'.size hb6

end Go.Proofs.YtpaholkmlfaflaaGreatDoor

