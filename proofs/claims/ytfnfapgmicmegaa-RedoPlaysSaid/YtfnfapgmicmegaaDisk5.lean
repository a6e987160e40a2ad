/- The contract of Crash. -/
import Derived.Test.YtfnfapgmicmegaaDisk4
namespace Go.Proofs.Ytfnfapgmicmegaa
open Go.RowKit Go.Maps Go.Joins
set_option linter.unusedVariables false

/-- What a crash leaves. -/
def crM (m : DM) (kn : Nat) (kf : Nat → Bool) (torn b : Int) : DM :=
  { sure := crN torn (min (max b 0) 64).toNat kn kf m.wait m.sure m.wait.length, wait := [], fuse := -1, down := false }

def four (w : World) (a b c e : Value) (t1 t2 t3 t4 : TypeId) : World := (((w.alloc (.cells #[a] t1)).alloc (.cells #[b] t2)).alloc (.cells #[c] t3)).alloc (.cells #[e] t4)
theorem four_cells (w : World) (a b c e : Value) (t1 t2 t3 t4 : TypeId) :
    (four w a b c e t1 t2 t3 t4).cell? ⟨w.heap.size, 0, none⟩ = some a ∧ (four w a b c e t1 t2 t3 t4).cell? ⟨w.heap.size + 1, 0, none⟩ = some b ∧
    (four w a b c e t1 t2 t3 t4).cell? ⟨w.heap.size + 1 + 1, 0, none⟩ = some c ∧ (four w a b c e t1 t2 t3 t4).cell? ⟨w.heap.size + 1 + 1 + 1, 0, none⟩ = some e := by
  unfold four
  have s1 : (w.alloc (.cells #[a] t1)).heap.size = w.heap.size + 1 := by simp
  have s2 : ((w.alloc (.cells #[a] t1)).alloc (.cells #[b] t2)).heap.size = w.heap.size + 1 + 1 := by simp
  have s3 : (((w.alloc (.cells #[a] t1)).alloc (.cells #[b] t2)).alloc (.cells #[c] t3)).heap.size = w.heap.size + 1 + 1 + 1 := by simp
  have c1 := cell_new w a t1
  have c2 := cell_new (w.alloc (.cells #[a] t1)) b t2
  have c3 := cell_new ((w.alloc (.cells #[a] t1)).alloc (.cells #[b] t2)) c t3
  have c4 := cell_new (((w.alloc (.cells #[a] t1)).alloc (.cells #[b] t2)).alloc (.cells #[c] t3)) e t4
  rw [s1] at c2; rw [s2] at c3; rw [s3] at c4
  exact ⟨keep_alloc (keep_alloc (keep_alloc c1 _ 0) _ 0) _ 0, keep_alloc (keep_alloc c2 _ 0) _ 0, keep_alloc c3 _ 0, c4⟩
theorem four_touch (w : World) (a b c e : Value) (t1 t2 t3 t4 : TypeId) (F : List Nat) : Touch F w (four w a b c e t1 t2 t3 t4) := ((((Touch.refl F w).alloc _).alloc _).alloc _).alloc _

set_option maxRecDepth 100000 in
set_option maxHeartbeats 2000000 in
theorem crash_any {w : World} {d sb sc M : Nat} {wv : Value} {D : DataW Unit} {m : DM} (h : DiskAt w d sb sc M wv D m) (hok : WaitOk m) (hz : SizeOk m) (hl : m.wait.length ≤ 1000000000)
    {kc kn : Nat} {a0 : Option Addr} {kf : Nat → Bool} (torn b : Int) (hkeep : KeepAt w a0 kn kf) (n5 : ∀ b off, a0 = some ⟨b, off, none⟩ → 0 < kn → b ∉ diskB d sb M wv)
    (b1 : -9223372036854775808 ≤ b) (b2 : b ≤ 9223372036854775807) :
    Calls Try.prog 23 #[.pointer (some ⟨d, 0, none⟩), .slice a0 kn kc, .int .i64 torn, .int .i64 b] w fun e w' => e = .returned (.tuple #[]) ∧ Goes w w' d (diskB d sb M wv) (crM m kn kf torn b) := by
  have hlt := h.lt
  obtain ⟨n, hn⟩ : ∃ n : Nat, min (max b 0) 64 = n := ⟨(min (max b 0) 64).toNat, by omega⟩
  have hn64 : n ≤ 64 := by omega
  have hm : crM m kn kf torn b = { sure := crN torn n kn kf m.wait m.sure m.wait.length, wait := [], fuse := -1, down := false } := by
    unfold crM; rw [hn]; rfl
  have F := Lib.hid hm
  have H := Lib.hid h
  have HK := Lib.hid hkeep
  have HN := Lib.hid n5
  have HL := Lib.hid hlt
  clear hm h hkeep n5 hlt
  have hmf : ∀ (x y z u : Value) (W : World), (Instr.makeFunc (Fn.func 41) #[] #[x, y, z, u]).run Try.prog W = .ok (.func (Fn.func 41) #[] #[x, y, z, u]) W := fun x y z u W => by kernel_rfl
  go_enter Try.func23, Try.ntmps23
  go_wp2_with fail
  obtain ⟨k1, k2, k3, k4⟩ := four_cells w (.pointer (some ⟨d, 0, none⟩)) (.slice a0 kn kc) (.int .i64 torn) (.int .i64 n) 24 49 3 3
  have T4 := four_touch w (.pointer (some ⟨d, 0, none⟩)) (.slice a0 kn kc) (.int .i64 torn) (.int .i64 n) 24 49 3 3
  have hkeep' : KeepAt (four w (.pointer (some ⟨d, 0, none⟩)) (.slice a0 kn kc) (.int .i64 torn) (.int .i64 n) 24 49 3 3) a0 kn kf := keepAt_alloc (keepAt_alloc (keepAt_alloc (keepAt_alloc HK.out _ 0) _ 0) _ 0) _ 0
  have hnot : ∀ j, w.heap.size ≤ j → j ∉ diskB d sb M wv := fun j hj hm => by have := HL.out j hm; omega
  refine (settle_crash (H.out.touch (T4 []) (fun _ _ h => by cases h)) hok hz hl k3 k4 k1 k2 hkeep' (hnot _ (by omega)) (hnot _ (by omega)) (hnot _ (by omega)) (hnot _ (by omega)) HN.out hn64).mono ?_
  rintro e w5 ⟨rfl, F', ⟨sb', sc', M', wv', D', hD5, rfl⟩, hT5, hF5⟩
  have k1' : w5.cell? ⟨w.heap.size, 0, none⟩ = some (.pointer (some ⟨d, 0, none⟩)) := (hT5.cell (p := ⟨w.heap.size, 0, none⟩) (cell_lt k1) (hnot _ (Nat.le_refl _))).trans k1
  obtain ⟨_, _, _, q3, q4⟩ := hD5.cell
  have f3 := hD5.frozen 3
  have f4 := hD5.frozen 4
  have R := (hD5.setDown false).setFuse (-1)
  clear k1 k2 k3 k4
  go_wp2_with fail
  go_region
  all_goals (try go_wp2_with fail)
  go_end0
  rw [F.out]
  have hW : Touch (diskB d sb M wv) w w5 := (T4 _).trans hT5 (fun b hb => .inl hb)
  refine ⟨rfl, _, ⟨_, _, _, _, _, R.touch (F := []) (Touch.refl [] _).drew (fun _ _ h => by cases h), rfl⟩, ?_, ?_⟩
  · have hd : d ∈ diskB d sb' M' wv' := by simp [diskB]
    have hdd : d ∈ diskB d sb M wv := by simp [diskB]
    exact ((hW.setCell (p := ⟨d, 4, none⟩) (.inl hdd) _).setCell (p := ⟨d, 3, none⟩) (.inl hdd) _).drew
  · intro b hb
    exact (hF5 b hb).elim .inl (fun h' => .inr (Nat.le_trans (T4 []).size h'))

end Go.Proofs.Ytfnfapgmicmegaa
