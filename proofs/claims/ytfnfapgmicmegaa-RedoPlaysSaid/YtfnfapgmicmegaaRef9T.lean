/- The walk of the reference's Stands. -/
import Derived.Test.YtfnfapgmicmegaaRef9S
namespace Go.Proofs.Ytfnfapgmicmegaa
open Go.RowKit Go.Joins
set_option linter.unusedVariables false

theorem Try.infoTxnR : (Try.prog.info? 77).map (fun i => (i.zero, i.size, i.bytes)) = some (some (.agg #[.int .u64 0, .slice none 0 0]), 2, 32) := by kernel_rfl
/-- The reference's transactions. -/
def TxRowR (w : World) (base : Nat) (v : Value) (ts : List TxD) : Prop := ∃ vs, w.ownsRow base 77 2 v ts.length (txCells vs) ∧ TxEach w base vs ts
theorem TxEach.touchR {w w' : World} {base : Nat} {vs : List (Int × Value)} {ts : List TxD} {F : List Nat} (h : TxEach w base vs ts) (t : Touch F w w') (hF : ∀ g ∈ F, g < base ∨ ∃ b n s v xs, w.ownsRow b 77 s v n xs ∧ Value.ownBlock v = some g) : TxEach w' base vs ts := by
  refine ⟨h.1, fun j x y hx hy => ?_⟩
  obtain ⟨e, ho⟩ := h.2 j x y hx hy
  refine ⟨e, ownsRow_touch ho t (fun g hg hm => ?_)⟩
  rcases hF g hm with h' | ⟨b, n, s, v, xs, hv, hb⟩
  · have := (ho.lt g hg).1; omega
  · exact own_ne ho hv (by decide) hg hb
theorem TxRowR.below {w w' : World} {base : Nat} {v : Value} {ts : List TxD} (h : TxRowR w base v ts) (t : Below w.heap.size w w') : TxRowR w' base v ts := by
  obtain ⟨vs, h1, h2⟩ := h
  exact ⟨vs, ownsRow_touch h1 (F := []) (Touch.of_below t) (by simp), h2.touch (F := []) (Touch.of_below t) (fun _ h => by cases h)⟩
theorem TxRowR.nil (w : World) (base : Nat) : TxRowR w base (.slice none 0 0) [] := ⟨[], World.ownsRow_nil _ _ _ _, rfl, fun j x y hx => by simp at hx⟩
def txRF (a b : Value) : Nat → Value
  | 0 => a
  | 1 => b
  | _ => undef
theorem txRF_new (w : World) (a b : Value) : (w.alloc (.cells #[a, b] 77)).rowIs w.heap.size 77 2 (txRF a b) :=
  World.rowIs_alloc w #[a, b] 77 (txRF a b) (fun i hi => by
    rcases i with _ | _ | i
    · rfl
    · rfl
    · simp at hi; omega)

def allK (m : DM) (p k : Nat) : Bool := (List.range k).all fun i => joinOk (pgSecs m p i)
theorem allK_succ (m : DM) (p k : Nat) : allK m p (k + 1) = (allK m p k && joinOk (pgSecs m p k)) := by
  unfold allK; rw [List.range_succ, List.all_append]; simp
theorem txOk_all {m : DM} {p left n : Nat} {q : Int} (hn : txN m p = (n : Nat)) : txOk m p q left = (txHead m p q left && allK m p n) := by
  unfold txOk allK; rw [hn, Int.toNat_natCast]
def StdPost (w : World) (m : DM) (frm size : Nat) (q0 : Int) (e : Ending) (w' : World) : Prop :=
  ∃ v, e = .returned (.tuple #[v, .int .i64 ((stM m frm size q0).2 : Nat)]) ∧ TxRowR w' w.heap.size v (stM m frm size q0).1 ∧ Below w.heap.size w w'
structure StdIn (w : World) (m : DM) (frm size : Nat) (q0 : Int) (f : Nat) (u : Value) (wr : World) (a : Nat) (q : Int) (ts : List TxD) : Prop where
  le : a ≤ size
  row : TxRowR wr w.heap.size u ts
  done : ts ++ (stF m frm size f a q).1 = (stM m frm size q0).1
  ends : (stF m frm size f a q).2 = (stM m frm size q0).2
  fuel : size < a + f
  len : ts.length ≤ a
  n0 : 0 ≤ q
  n1 : q ≤ 18446744073709551615
  below : Below w.heap.size w wr
theorem StdIn.move {w wr w' : World} {m : DM} {frm size f a : Nat} {q0 q : Int} {u : Value} {ts : List TxD} (h : StdIn w m frm size q0 f u wr a q ts) (hb : Below wr.heap.size wr w') : StdIn w m frm size q0 f u w' a q ts :=
  { h with row := h.row.below hb, below := below_step hb h.below }
theorem StdIn.finish {w wr : World} {m : DM} {frm size f a : Nat} {q0 q : Int} {u : Value} {ts : List TxD} (h : StdIn w m frm size q0 f u wr a q ts) (hend : ¬ (a < size ∧ txOk m (frm + a) q (size - a) = true)) :
    a = (stM m frm size q0).2 ∧ TxRowR wr w.heap.size u (stM m frm size q0).1 := by
  have e := stF_end (f := f) hend
  have h1 := h.done
  have h2 := h.ends
  rw [e] at h1 h2
  simp only [List.append_nil] at h1
  rw [← h1]
  exact ⟨h2, h.row⟩
theorem StdIn.next {w wr w' : World} {m : DM} {frm size f a n : Nat} {q0 q : Int} {u v : Value} {ts : List TxD} (h : StdIn w m frm size q0 (f + 1) u wr a q ts) (hlt : a < size) (hok : txOk m (frm + a) q (size - a) = true) (hn : txN m (frm + a) = (n : Int)) (h3 : 9 * n + 1 ≤ size - a)
    (hrow : TxRowR w' w.heap.size v (ts ++ [(q, txPages m (frm + a) n)])) (hb : Below w.heap.size w w') :
    StdIn w m frm size q0 f v w' (a + 1 + 9 * n) ((q + 1) % 18446744073709551616) (ts ++ [(q, txPages m (frm + a) n)]) := by
  have e := stF_step (f := f) hlt hok hn
  have h1 := h.done
  have h2 := h.ends
  rw [e] at h1 h2
  have h4 := h.fuel
  have h6 := h.len
  exact ⟨by omega, hrow, by rw [← h1]; simp, h2, by omega, by simp; omega, by omega, by omega, hb⟩
theorem StdIn.out {w wr : World} {m : DM} {frm size f a : Nat} {q0 q : Int} {u : Value} {ts : List TxD} (h : StdIn w m frm size q0 f u wr a q ts) (hend : ¬ (a < size ∧ txOk m (frm + a) q (size - a) = true)) :
    StdPost w m frm size q0 (.returned (.tuple #[u, .int .i64 (a : Nat)])) wr := by
  obtain ⟨h1, h2⟩ := h.finish hend
  exact ⟨u, by rw [← h1], h2, h.below⟩

set_option maxRecDepth 100000 in
set_option maxHeartbeats 8000000 in
theorem stands_any {w : World} {all : ByteArray} {m : DM} {frm size : Nat} (hS : StIn all m frm size) (q0 : Int) (h0 : 0 ≤ q0) (h1 : q0 ≤ 18446744073709551615) :
    Calls Try.prog 16 #[.string all, .int .u64 q0] w (StdPost w m frm size q0) := by
  have hsz := hS.bytes
  have hsm := hS.small
  have HS := Lib.hid hS
  obtain ⟨L, hL⟩ : ∃ L, L = all.size := ⟨_, rfl⟩
  have HL := Lib.hid hL
  have HSZ := Lib.hid hsz
  have hLs : L ≤ 4194304 := by omega
  have hal1 : all.size ≤ 4194304 := by omega
  clear hS hsz hL
  go_enter Try.func16, Try.ntmps16
  go_wp2_with fail
  go_loopg [1, 6, 7] (size + 1) (fun f sq u c wr => ∃ a q ts, ∃ p : Nat, c = .int .i64 p ∧ p = 64 * a ∧ sq = .int .u64 q ∧ StdIn w m frm size q0 f u wr a q ts)
  case atStart => exact ⟨0, q0, [], 0, rfl, rfl, rfl, Nat.zero_le _, TxRowR.nil _ _, rfl, rfl, by omega, Nat.zero_le _, h0, h1, Below.refl _ _⟩
  case round =>
    obtain ⟨a, q, ts, p, rfl, hp, rfl, hI⟩ := hrel
    have HI := Lib.hid hI
    have HP := Lib.hid hp
    have hn0 := hI.n0
    have hn1 := hI.n1
    have hale := hI.le
    have hps : p ≤ 4194304 := by omega
    clear hI
    obtain ⟨wo, rfl⟩ : ∃ wo : World, wo = wr := ⟨_, rfl⟩
    by_cases hlt : a < size
    · have hlp : p < all.size := by rw [HSZ.out]; omega
      have hlp2 : p + 64 ≤ all.size := by rw [HSZ.out]; omega
      have hsec : all.extract p (p + 64) = secM m (frm + a) := by rw [hp]; exact HS.out.sec a hlt
      have hz64 := HS.out.secz a hlt
      have HSEC := Lib.hid hsec
      have HZ := Lib.hid hz64
      clear hp hsec hz64
      go_wp2_with fail
      go_loopw [8, 9] (fun n c wr => ∃ k : Nat, 1 ≤ k ∧ k ≤ 65 ∧ c = .int .i64 k ∧ n = .int .i64 (hitN (secM m (frm + a)) q k : Nat) ∧ Below wo.heap.size wo wr) (fun _ c _ => 65 - (intOf c).toNat)
      case atStart => exact ⟨1, Nat.le_refl _, by omega, rfl, by rw [hitN_one]; rfl, Below.refl _ _⟩
      case round =>
        obtain ⟨k, hk1, hk2, rfl, rfl, hb⟩ := hrel
        have HB := Lib.hid hb
        clear hb
        by_cases hk : k < 65
        · have HMK := Lib.hid (fun W => refMarkS_any q k W hn0 hn1 (by omega) (by omega))
          obtain ⟨p64, hp64⟩ : ∃ p64 : Nat, p64 = p + 64 := ⟨_, rfl⟩
          have y1 : IntKind.i64.wrap ((p : Int) + 64) = (p64 : Int) := by rw [IntKind.wrap_i64]; omega
          have b1 : (0 : Int) ≤ (p : Int) := by omega
          have b2 : (p : Int) ≤ (p64 : Int) := by omega
          have b3 : (p64 : Int) ≤ (all.size : Int) := by omega
          have hx : all.extract p p64 = secM m (frm + a) := by rw [hp64]; exact HSEC.out
          by_cases he : secM m (frm + a) = markS q k
          · have st := str_eq (hx.trans he)
            have HH := Lib.hid (hitN_yes HZ.out hn0 hn1 hk1 (by omega) he)
            clear he hx hp64
            go_wp2_with fail
            refine wp_region_later (by kernel_rfl) (by kernel_rfl) ?_
            repeat (first | go_big_quiet_step ((go_at_call 37; refine Later.call (HMK.out _))) | quiet_step ((go_at_call 37; refine Later.call (HMK.out _))))
            refine wpQuiet_nil ?_
            rintro w3 ⟨y3, hw3⟩
            have HB3 : Hid (Below wo.heap.size wo w3) := Lib.hid (by rw [hw3]; exact below_step y3.2 HB.out)
            clear hw3
            go_wp2_with fail
            go_roundw
            case rel => exact ⟨k + 1, by omega, by omega, by go_num, by rw [HH.out], HB3.out⟩
            case measure => simp [intOf]; omega
          · have st := str_ne (fun h => he (hx.symm.trans h))
            have HH := Lib.hid (hitN_no HZ.out hn0 hn1 he)
            clear he hx hp64
            go_wp2_with fail
            refine wp_region_later (by kernel_rfl) (by kernel_rfl) ?_
            repeat (first | go_big_quiet_step ((go_at_call 37; refine Later.call (HMK.out _))) | quiet_step ((go_at_call 37; refine Later.call (HMK.out _))))
            refine wpQuiet_nil ?_
            rintro w3 ⟨y3, hw3⟩
            have HB3 : Hid (Below wo.heap.size wo w3) := Lib.hid (by rw [hw3]; exact below_step y3.2 HB.out)
            clear hw3
            go_wp2_with fail
            go_roundw
            case rel => exact ⟨k + 1, by omega, by omega, by go_num, by rw [HH.out], HB3.out⟩
            case measure => simp [intOf]; omega
        · obtain rfl : k = 65 := by omega
          rw [show ((65 : Nat) : Int) = 65 from rfl]
          have HI2 := Lib.hid (HI.out.move HB.out)
          have hh := head_hit m (frm + a) (size - a) q
          have hle := hitN_le (secM m (frm + a)) q 65
          have hnum := hit_num (m := m) (p := frm + a) (q := q)
          generalize hn : hitN (secM m (frm + a)) q 65 = n at hh hle hnum
          have HHD := Lib.hid hh
          have HNUM := Lib.hid hnum
          have HN := Lib.hid hn
          clear hh hnum hn
          have ediv : (p : Int).tdiv 64 = (a : Int) := by rw [Int.tdiv_eq_ediv_of_nonneg (by omega)]; have := HP.out; omega
          have ediv2 : (p : Int) / 64 = (a : Int) := by have := HP.out; omega
          by_cases hnz : n = 0
          · subst hnz
            have FIN := Lib.hid (HI2.out.out (fun h => by
              have h' := h.2
              rw [txOk_head (by rw [HHD.out]; simp)] at h'
              cases h'))
            go_wp2_with fail
            go_ret2
            exact FIN.out
          · have t0 : ((n : Int) == 0) = false := by rw [beq_eq_false_iff_ne]; omega
            have t0' : (n == 0) = false := by rw [beq_eq_false_iff_ne]; omega
            have HNM := Lib.hid (HNUM.out hnz)
            by_cases hroom : 9 * n + 1 ≤ size - a
            · have hrm : (p : Int) + 64 + 576 * (n : Int) ≤ (all.size : Int) := by rw [HSZ.out]; have := HP.out; omega
              have hrm2 : p + 64 + 576 * n ≤ all.size := by omega
              have HHT : Hid (txHead m (frm + a) q (size - a) = true) := Lib.hid (by rw [HHD.out, decide_eq_true_eq]; exact ⟨hnz, hroom⟩)
              have HRM := Lib.hid hroom
              have hn1' : 1 ≤ n := by omega
              obtain ⟨i0, hi, hz0, hz1, hz2⟩ := info_parts Try.infoStr
              obtain ⟨wb, rfl⟩ : ∃ wb : World, wb = wr := ⟨_, rfl⟩
              clear hnz hroom
              go_wp2_with fail
              clear hrm t0 t0'
              go_loopw [11, 12] (fun o c wr => ∃ k : Nat, k ≤ n ∧ c = .int .i64 k ∧ o = .bool (allK m (frm + a) k) ∧ ∃ v, wr.rowIs wb.heap.size 77 2 (txRF (.int .u64 q) v) ∧
                wr.ownsRow (wb.heap.size + 1) 9 1 v k (pgRow m (frm + a) k) ∧ Below wb.heap.size wb wr) (fun _ c _ => n - (intOf c).toNat)
              case atStart => exact ⟨0, Nat.zero_le _, rfl, rfl, _, txRF_new _ _ _, World.ownsRow_nil _ _ _ _, below_alloc (Below.refl _ _)⟩
              case round =>
                obtain ⟨k, hkn, rfl, rfl, v, hrow, hown, hb⟩ := hrel
                have HROW := Lib.hid hrow
                have HOWN := Lib.hid hown
                have HBB := Lib.hid hb
                have htl := World.rowIs.lt hrow
                have hszr := hb.size
                clear hrow hown hb
                by_cases hkl : k < n
                · have hpage := HS.out.page a k (by have := HRM.out; omega)
                  have hzs := pgSecs_size HS.out a k (by have := HRM.out; omega)
                  have HPG := fun W => Lib.hid (refPage_secs (pgSecs m (frm + a) k) W (pgSecs_length _ _ _) hzs)
                  rw [← HP.out] at hpage
                  have HPA := Lib.hid hpage
                  have HAS := Lib.hid (allK_succ m (frm + a) k)
                  have bb1 : p + 64 + 576 * k ≤ p + 64 + 576 * (k + 1) := by omega
                  have bb2 : p + 64 + 576 * (k + 1) ≤ all.size := by omega
                  clear hpage hzs
                  go_wp2_with fail
                  rw [HPA.out]
                  refine (HPG _).out.mono ?_
                  rintro e w1 ⟨rfl, rfl⟩
                  cases hak : allK m (frm + a) k
                  · have HAV : Hid (allK m (frm + a) (k + 1) = false) := Lib.hid (by rw [HAS.out, hak]; rfl)
                    clear hak
                    have k1 := World.rowIs.cell HROW.out (i := 1) (by decide)
                    simp only [txRF] at k1
                    have HPS := Lib.hid (pgRow_snoc m (frm + a) k)
                    have hbv : ∀ q, Value.ownBlock v = some q → wb.heap.size + 1 ≤ q := fun q hq => (HOWN.out.lt q hq).1
                    have HBV := Lib.hid hbv
                    have hrow6a := rowIs_touch HROW.out (F := []) ((Touch.refl _ _).alloc (.cells #[.string (joinP (pgSecs m (frm + a) k))] 9)) (by simp)
                    have HR6A := Lib.hid hrow6a
                    clear hbv hrow6a
                    go_wp2_with (at_builtin; refine wpList_append_own _ rfl (.tmp 74) (.tmp 76) 22 rfl (wb.heap.size + 1) 9 i0 (.string ⟨#[]⟩) 1 16 Try.underlying22 hi hz0 hz1 hz2 rfl (by decide) v k (pgRow m (frm + a) k) rfl (HOWN.out.alloc _) ⟨wr.heap.size, 0, none⟩ 1 1 [.string (joinP (pgSecs m (frm + a) k))] rfl rfl (cell_one_new _ _ _) (by intro u hu; simp at hu; subst hu; rfl) (by unfold maxLen; omega) (by omega) (by simp; omega) ?_; intro v' w7 hown' hgrow _; obtain ⟨g2, cap2, rfl⟩ := ownsRow_form hown' (by omega); rw [HPS.out] at hown'; have hrow7 := rowIs_touch HR6A.out (Touch.of_grown hgrow) (fun hm => by (have := HBV.out _ (Option.mem_toList.1 hm)); omega); have k1 := World.rowIs.cell hrow7 (i := 1) (by decide); have f1 := World.rowIs.frozen hrow7 1; simp only [txRF] at k1; have HOW := Lib.hid hown'; have HGR := Lib.hid hgrow; have HR7 := Lib.hid hrow7; clear hown' hgrow hrow7)
                    go_roundw
                    case rel =>
                      refine ⟨k + 1, by omega, by go_num, by rw [HAV.out], .slice (some ⟨g2, 0, none⟩) (k + 1) cap2, ?_, ?_, ?_⟩
                      · refine World.rowIs.congr (World.rowIs.set HR7.out 1 _) (fun t ht => ?_)
                        rcases t with _ | _ | t
                        · rfl
                        · rfl
                        · omega
                      · refine ownsRow_touch HOW.out ((Touch.refl [wb.heap.size] _).setCell (.inl (by simp)) _) (fun q hq => ?_)
                        have := (HOW.out.lt q hq).1
                        simp; omega
                      · refine Below.setCell ?_ (by simp) _
                        refine Below.grown (below_alloc HBB.out) HGR.out (by simp; omega) (fun q hq => ?_)
                        have := HBV.out q hq
                        omega
                    case measure => simp [intOf]; omega
                  · cases hjk : joinOk (pgSecs m (frm + a) k)
                    · have HAV : Hid (allK m (frm + a) (k + 1) = false) := Lib.hid (by rw [HAS.out, hak, hjk]; rfl)
                      clear hak hjk
                      have k1 := World.rowIs.cell HROW.out (i := 1) (by decide)
                      simp only [txRF] at k1
                      have HPS := Lib.hid (pgRow_snoc m (frm + a) k)
                      have hbv : ∀ q, Value.ownBlock v = some q → wb.heap.size + 1 ≤ q := fun q hq => (HOWN.out.lt q hq).1
                      have HBV := Lib.hid hbv
                      have hrow6a := rowIs_touch HROW.out (F := []) ((Touch.refl _ _).alloc (.cells #[.string (joinP (pgSecs m (frm + a) k))] 9)) (by simp)
                      have HR6A := Lib.hid hrow6a
                      clear hbv hrow6a
                      go_wp2_with (at_builtin; refine wpList_append_own _ rfl (.tmp 74) (.tmp 76) 22 rfl (wb.heap.size + 1) 9 i0 (.string ⟨#[]⟩) 1 16 Try.underlying22 hi hz0 hz1 hz2 rfl (by decide) v k (pgRow m (frm + a) k) rfl (HOWN.out.alloc _) ⟨wr.heap.size, 0, none⟩ 1 1 [.string (joinP (pgSecs m (frm + a) k))] rfl rfl (cell_one_new _ _ _) (by intro u hu; simp at hu; subst hu; rfl) (by unfold maxLen; omega) (by omega) (by simp; omega) ?_; intro v' w7 hown' hgrow _; obtain ⟨g2, cap2, rfl⟩ := ownsRow_form hown' (by omega); rw [HPS.out] at hown'; have hrow7 := rowIs_touch HR6A.out (Touch.of_grown hgrow) (fun hm => by (have := HBV.out _ (Option.mem_toList.1 hm)); omega); have k1 := World.rowIs.cell hrow7 (i := 1) (by decide); have f1 := World.rowIs.frozen hrow7 1; simp only [txRF] at k1; have HOW := Lib.hid hown'; have HGR := Lib.hid hgrow; have HR7 := Lib.hid hrow7; clear hown' hgrow hrow7)
                      go_roundw
                      case rel =>
                        refine ⟨k + 1, by omega, by go_num, by rw [HAV.out], .slice (some ⟨g2, 0, none⟩) (k + 1) cap2, ?_, ?_, ?_⟩
                        · refine World.rowIs.congr (World.rowIs.set HR7.out 1 _) (fun t ht => ?_)
                          rcases t with _ | _ | t
                          · rfl
                          · rfl
                          · omega
                        · refine ownsRow_touch HOW.out ((Touch.refl [wb.heap.size] _).setCell (.inl (by simp)) _) (fun q hq => ?_)
                          have := (HOW.out.lt q hq).1
                          simp; omega
                        · refine Below.setCell ?_ (by simp) _
                          refine Below.grown (below_alloc HBB.out) HGR.out (by simp; omega) (fun q hq => ?_)
                          have := HBV.out q hq
                          omega
                      case measure => simp [intOf]; omega
                    · have HAV : Hid (allK m (frm + a) (k + 1) = true) := Lib.hid (by rw [HAS.out, hak, hjk]; rfl)
                      clear hak hjk
                      have k1 := World.rowIs.cell HROW.out (i := 1) (by decide)
                      simp only [txRF] at k1
                      have HPS := Lib.hid (pgRow_snoc m (frm + a) k)
                      have hbv : ∀ q, Value.ownBlock v = some q → wb.heap.size + 1 ≤ q := fun q hq => (HOWN.out.lt q hq).1
                      have HBV := Lib.hid hbv
                      have hrow6a := rowIs_touch HROW.out (F := []) ((Touch.refl _ _).alloc (.cells #[.string (joinP (pgSecs m (frm + a) k))] 9)) (by simp)
                      have HR6A := Lib.hid hrow6a
                      clear hbv hrow6a
                      go_wp2_with (at_builtin; refine wpList_append_own _ rfl (.tmp 74) (.tmp 76) 22 rfl (wb.heap.size + 1) 9 i0 (.string ⟨#[]⟩) 1 16 Try.underlying22 hi hz0 hz1 hz2 rfl (by decide) v k (pgRow m (frm + a) k) rfl (HOWN.out.alloc _) ⟨wr.heap.size, 0, none⟩ 1 1 [.string (joinP (pgSecs m (frm + a) k))] rfl rfl (cell_one_new _ _ _) (by intro u hu; simp at hu; subst hu; rfl) (by unfold maxLen; omega) (by omega) (by simp; omega) ?_; intro v' w7 hown' hgrow _; obtain ⟨g2, cap2, rfl⟩ := ownsRow_form hown' (by omega); rw [HPS.out] at hown'; have hrow7 := rowIs_touch HR6A.out (Touch.of_grown hgrow) (fun hm => by (have := HBV.out _ (Option.mem_toList.1 hm)); omega); have k1 := World.rowIs.cell hrow7 (i := 1) (by decide); have f1 := World.rowIs.frozen hrow7 1; simp only [txRF] at k1; have HOW := Lib.hid hown'; have HGR := Lib.hid hgrow; have HR7 := Lib.hid hrow7; clear hown' hgrow hrow7)
                      go_roundw
                      case rel =>
                        refine ⟨k + 1, by omega, by go_num, by rw [HAV.out], .slice (some ⟨g2, 0, none⟩) (k + 1) cap2, ?_, ?_, ?_⟩
                        · refine World.rowIs.congr (World.rowIs.set HR7.out 1 _) (fun t ht => ?_)
                          rcases t with _ | _ | t
                          · rfl
                          · rfl
                          · omega
                        · refine ownsRow_touch HOW.out ((Touch.refl [wb.heap.size] _).setCell (.inl (by simp)) _) (fun q hq => ?_)
                          have := (HOW.out.lt q hq).1
                          simp; omega
                        · refine Below.setCell ?_ (by simp) _
                          refine Below.grown (below_alloc HBB.out) HGR.out (by simp; omega) (fun q hq => ?_)
                          have := HBV.out q hq
                          omega
                      case measure => simp [intOf]; omega
                · obtain rfl : k = n := by omega
                  have HI3 := Lib.hid (HI2.out.move HBB.out)
                  cases hak : allK m (frm + a) k
                  · have FIN := Lib.hid (HI3.out.out (fun h => by
                      have h' := h.2
                      rw [txOk_all HNM.out, hak, Bool.and_false] at h'
                      cases h'))
                    clear hak
                    go_wp2_with fail
                    go_ret2
                    exact FIN.out
                  · have HOK : Hid (txOk m (frm + a) q (size - a) = true) := Lib.hid (by rw [txOk_all HNM.out, HHT.out, hak]; rfl)
                    obtain ⟨g, cap, hv⟩ := ownsRow_form HOWN.out (by omega)
                    subst hv
                    have k2 := World.rowIs.cell HROW.out (i := 0) (by decide)
                    have k3 := World.rowIs.cell HROW.out (i := 1) (by decide)
                    simp only [txRF] at k2 k3
                    obtain ⟨j0, hj, hj0, hj1, hj2⟩ := info_parts Try.infoTxnR
                    obtain ⟨vs, hrw, heach⟩ := HI3.out.row
                    have HRW := Lib.hid hrw
                    have HEACH := Lib.hid heach
                    have hlen := HI.out.len
                    have hbw := HI3.out.below.size
                    obtain ⟨f, rfl⟩ : ∃ f, gk = f + 1 := ⟨gk - 1, by have := HI.out.fuel; omega⟩
                    clear hak hrw heach
                    go_wp2_with (at_builtin; refine wpList_append_own _ rfl (.tmp 81) (.tmp 83) 40 rfl w.heap.size 77 j0 (.agg #[.int .u64 0, .slice none 0 0]) 2 32 Try.underlying40 hj hj0 hj1 hj2 rfl (by decide) _ ts.length (txCells vs) rfl (HRW.out.alloc _) ⟨wr.heap.size, 0, none⟩ 1 1 [.int .u64 q, .slice (some ⟨g, 0, none⟩) k cap] rfl rfl (cell_pair wr _ _ _) (by intro u hu; simp at hu; rcases hu with rfl | rfl <;> rfl) (by unfold maxLen; omega) (by omega) (by simp; omega) ?_; intro v' w5 hown' hgrow _; rw [txCells_snoc] at hown'; have HOW := Lib.hid hown'; have HGR := Lib.hid hgrow; clear hown' hgrow)
                    have HHW := Lib.hid (HOW.out)
                    go_wp2_with fail
                    go_roundg f
                    case measure => omega
                    case rel =>
                      refine ⟨_, _, _, p + 64 + 576 * k, by go_num, ?_, by rw [IntKind.wrap_u64], HI.out.next (w' := w5) (v := v') hlt HOK.out HNM.out HRM.out ?_ ?_⟩
                      · have := HP.out; omega
                      · have hrowL := ownsRow_le HOWN.out (show w.heap.size ≤ wb.heap.size + 1 by have := HI2.out.below.size; omega)
                        have hea : TxEach (wr.alloc (.cells #[.int .u64 q, .slice (some ⟨g, 0, none⟩) k cap] 77)) w.heap.size (vs ++ [(q, .slice (some ⟨g, 0, none⟩) k cap)]) (ts ++ [(q, txPages m (frm + a) k)]) :=
                          (HEACH.out.snoc (q := q) (pg := txPages m (frm + a) k) (by simpa [txPages, pgRow] using hrowL)).touch (F := []) (Touch.of_below (below_alloc (Below.refl _ _))) (fun _ h => by cases h)
                        have hea5 := hea.touchR (Touch.of_grown HGR.out) (fun q hq => .inr ⟨_, _, _, _, _, HRW.out.alloc _, Option.mem_toList.1 hq⟩)
                        exact ⟨_, by rw [List.length_append]; exact HOW.out, hea5⟩
                      · exact (below_alloc HI3.out.below).grown HGR.out (by simp; omega) (fun q hq => (HRW.out.lt q hq).1)
            · have hrm : (all.size : Int) < (p : Int) + 64 + 576 * (n : Int) := by rw [HSZ.out]; have := HP.out; omega
              have hrm2 : all.size < p + 64 + 576 * n := by omega
              have FIN := Lib.hid (HI2.out.out (fun h => by
                have h' := h.2
                rw [txOk_head (by rw [HHD.out, decide_eq_false_iff_not]; exact fun h => hroom h.2)] at h'
                cases h'))
              clear hnz hroom
              go_wp2_with fail
              go_ret2
              exact FIN.out
    · have FIN := Lib.hid (HI.out.out (fun h => hlt h.1))
      have e : (p : Int).tdiv 64 = (a : Int) := by rw [Int.tdiv_eq_ediv_of_nonneg (by omega)]; omega
      have e2 : (p : Int) / 64 = (a : Int) := by omega
      have hge : all.size ≤ p := by rw [HSZ.out]; omega
      clear hp
      go_wp2_with fail
      go_ret2
      exact FIN.out

end Go.Proofs.Ytfnfapgmicmegaa
