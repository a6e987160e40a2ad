/- Lemmas on the way to the statement: PagerFormatsWalk. -/
import Derived.Test.YtpaholkmlfaflaaGreatDoorJ14
import Derived.Test.YtpaholkmlfaflaaGreatDoorJ10
import Derived.Deep.RegionHeld3
set_option linter.unusedSimpArgs false
set_option linter.unusedVariables false
namespace Go.Proofs.YtpaholkmlfaflaaGreatDoor
open Go.RowKit Go.Maps Go.Joins
set_option linter.unusedVariables false
theorem mostI_no {n : Nat} {log : Int} (h : log < 10 ∨ (n : Int) < log ∨ (n : Int) - log < 10) : mostI n log < 1 := by
  unfold mostI
  by_cases c : log < 10 ∨ (n : Int) < log
  · rw [if_pos c]; omega
  · rw [if_neg c]
    have : (n : Int) - log < 10 := by omega
    omega
theorem mostI_yes {n log : Nat} (h1 : 10 ≤ log) (h2 : log ≤ n) (h3 : 10 ≤ n - log) : mostI n (log : Int) = (n - 2 - log) / 8 ∧ 1 ≤ (n - 2 - log) / 8 := by
  unfold mostI
  rw [if_neg (by omega), Int.toNat_natCast]
  exact ⟨rfl, by omega⟩
set_option maxRecDepth 1000000 in
set_option maxHeartbeats 16000000 in
theorem pagerFormats_walk (s : ByteArray) (log : Int) (w : World) (hs0 : s.size ≤ 140737488351232) (r1 : -9223372036854775808 ≤ log) (r2 : log ≤ 9223372036854775807) :
    Calls Tryz.prog 3 #[.string s, .int .i64 log] w fun e w' => e = .returned (.bool true) ∧ Below w.heap.size w w' := by
  have HAW := Lib.hid (fun W => awake11_any W)
  by_cases hbig : 40000 < s.size
  · go_enter Tryz.func3, Tryz.ntmps3
    go_wp2_with fail
    refine (HAW.out _).mono ?_
    rintro e w1 ⟨rfl, hb1⟩
    have HB1 := Lib.hid hb1
    clear hb1
    go_wp2_with fail
    refine (HAW.out _).mono ?_
    rintro e w2 ⟨rfl, hb2⟩
    go_wp2_with fail
    go_ret
    exact ⟨rfl, below_step hb2 HB1.out⟩
  by_cases hbad : s.size = 0 ∨ s.size % 64 ≠ 0
  · have HLB := Lib.hid (fun W => load_bad s W hs0 (hbad.elim .inl (fun h => .inr (.inr h))))
    clear hbad
    go_enter Tryz.func3, Tryz.ntmps3
    go_wp2_with fail
    refine (HAW.out _).mono ?_
    rintro e w1 ⟨rfl, hb1⟩
    have HB1 := Lib.hid hb1
    clear hb1
    go_wp2_with fail
    refine (HLB.out _).mono ?_
    rintro e w2 ⟨rfl, rfl⟩
    go_wp2_with fail
    refine (Format_nil _ _).mono ?_
    rintro e w2 ⟨rfl, hb2⟩
    go_wp2_with fail
    go_ret
    exact ⟨rfl, below_step hb2 HB1.out⟩
  have d0 : decide ((40000 : Int) < (s.size : Int)) = false := by simp; omega
  obtain ⟨n, hn⟩ : ∃ n, s.size = n * 64 := ⟨s.size / 64, by omega⟩
  have HLA := Lib.hid (fun W => load_any s n W (by omega) (by omega) hn)
  have hup : UpM (newM (cutSu s n)) n := ⟨rfl, rfl, cutSu_length s n⟩
  have hk0 : DOk (newM (cutSu s n)) 0 := DOk.new (cutSu_size s n hn) (by rw [cutSu_length]; omega) (by rw [cutSu_length]; omega)
  have hlen : (newM (cutSu s n)).sure.length = n := cutSu_length s n
  have hnn : n ≤ 625 := by omega
  by_cases hlog : log < 10 ∨ (n : Int) < log ∨ (n : Int) - log < 10
  · have hfp : formatP (newM (cutSu s n)) log = (1, newM (cutSu s n)) := by
      unfold formatP
      rw [hlen, if_pos (mostI_no hlog)]
    have HK := Lib.hid (And.intro hk0 (And.intro hfp hlen))
    clear hup hk0 hlen hfp hn hbad
    by_cases q1 : log < 10
    · go_enter Tryz.func3, Tryz.ntmps3
      go_wp2_with fail
      refine (HAW.out _).mono ?_
      rintro e w1 ⟨rfl, hb1⟩
      have HB1 := Lib.hid hb1
      clear hb1
      go_wp2_with fail
      refine (HLA.out _).mono ?_
      rintro e w2 ⟨d, rfl, F, hd, hb2, hF⟩
      have HB2 := Lib.hid (below_step hb2 HB1.out)
      have HF2 := Lib.hid (show ∀ x ∈ F, w.heap.size ≤ x from fun x hx => Nat.le_trans HB1.out.size (hF x hx))
      have HFM := Lib.hid (Format_any hd HK.out.1 (by omega) log r1 r2)
      rw [HK.out.2.1] at HFM
      clear hd hb2 hF
      go_wp2_with fail
      refine HFM.out.mono ?_
      rintro e w3 ⟨rfl, F2, hd3, t3, g3⟩
      have HB3 := Lib.hid (HB2.out.trans (t3.below HB2.out.size HF2.out))
      have HLN := Lib.hid (is_len hd3)
      rw [HK.out.2.2] at HLN
      clear hd3 t3 g3
      go_wp2_with fail
      go_ret
      exact ⟨rfl, HB3.out⟩
    · by_cases q2 : (n : Int) < log
      · go_enter Tryz.func3, Tryz.ntmps3
        go_wp2_with fail
        refine (HAW.out _).mono ?_
        rintro e w1 ⟨rfl, hb1⟩
        have HB1 := Lib.hid hb1
        clear hb1
        go_wp2_with fail
        refine (HLA.out _).mono ?_
        rintro e w2 ⟨d, rfl, F, hd, hb2, hF⟩
        have HB2 := Lib.hid (below_step hb2 HB1.out)
        have HF2 := Lib.hid (show ∀ x ∈ F, w.heap.size ≤ x from fun x hx => Nat.le_trans HB1.out.size (hF x hx))
        have HFM := Lib.hid (Format_any hd HK.out.1 (by omega) log r1 r2)
        rw [HK.out.2.1] at HFM
        clear hd hb2 hF
        go_wp2_with fail
        refine HFM.out.mono ?_
        rintro e w3 ⟨rfl, F2, hd3, t3, g3⟩
        have HB3 := Lib.hid (HB2.out.trans (t3.below HB2.out.size HF2.out))
        have HLN := Lib.hid (is_len hd3)
        rw [HK.out.2.2] at HLN
        clear hd3 t3 g3
        go_wp2_with fail
        refine HLN.out.mono ?_
        rintro e w4 ⟨rfl, rfl⟩
        go_wp2_with fail
        go_ret
        exact ⟨rfl, HB3.out⟩
      · have q3 : (n : Int) - log < 10 := by omega
        go_enter Tryz.func3, Tryz.ntmps3
        go_wp2_with fail
        refine (HAW.out _).mono ?_
        rintro e w1 ⟨rfl, hb1⟩
        have HB1 := Lib.hid hb1
        clear hb1
        go_wp2_with fail
        refine (HLA.out _).mono ?_
        rintro e w2 ⟨d, rfl, F, hd, hb2, hF⟩
        have HB2 := Lib.hid (below_step hb2 HB1.out)
        have HF2 := Lib.hid (show ∀ x ∈ F, w.heap.size ≤ x from fun x hx => Nat.le_trans HB1.out.size (hF x hx))
        have HFM := Lib.hid (Format_any hd HK.out.1 (by omega) log r1 r2)
        rw [HK.out.2.1] at HFM
        clear hd hb2 hF
        go_wp2_with fail
        refine HFM.out.mono ?_
        rintro e w3 ⟨rfl, F2, hd3, t3, g3⟩
        have HB3 := Lib.hid (HB2.out.trans (t3.below HB2.out.size HF2.out))
        have HLN := Lib.hid (is_len hd3)
        rw [HK.out.2.2] at HLN
        clear hd3 t3 g3
        go_wp2_with fail
        refine HLN.out.mono ?_
        rintro e w4 ⟨rfl, rfl⟩
        go_wp2_with fail
        refine HLN.out.mono ?_
        rintro e w4 ⟨rfl, rfl⟩
        go_wp2_with fail
        go_ret
        exact ⟨rfl, HB3.out⟩
  obtain ⟨lg, rfl⟩ : ∃ lg : Nat, log = lg := ⟨log.toNat, by omega⟩
  obtain ⟨hm1, hm2⟩ := mostI_yes (n := n) (log := lg) (by omega) (by omega) (by omega)
  have hmm : 1 ≤ mostI n (lg : Int) := by rw [hm1]; exact hm2
  have hfp := formatP_yes (log := lg) hup hmm
  obtain ⟨f1, f2, f3⟩ := format_rel (log := lg) hup hk0 (by omega) 2 hmm
  have hk1 := formatX_ok (log := lg) hup hk0 hmm
  rw [hm1] at f2 f3
  obtain ⟨X, hX⟩ : ∃ X, X = formatX (newM (cutSu s n)) lg := ⟨_, rfl⟩
  rw [← hX] at f1 f2 f3 hk1 hfp
  obtain ⟨mo, hmo⟩ : ∃ mo, mo = (n - 2 - lg) / 8 := ⟨_, rfl⟩
  rw [← hmo] at f2 f3 hm2
  obtain ⟨M0, hM0⟩ : ∃ M0, M0 = newP X.2 lg mo 2 := ⟨_, rfl⟩
  rw [← hM0] at f2 f3
  have hmost : M0.most = mo := f3.most
  have hM0m : M0.m = X.2 := by rw [hM0]; rfl
  have hwt : M0.m.wait = [] := f3.log.elim fun _ h => h.elim fun _ h => h.wait
  have hln : M0.m.sure.length = n := f3.up.len
  have q1 : ¬ (lg : Int) < 10 := by omega
  have q2 : ¬ (n : Int) < lg := by omega
  have q3 : ¬ (n : Int) - lg < 10 := by omega
  have q4 : (((n : Int) - 2 - lg).tdiv 8) = (mo : Int) := by rw [Int.tdiv_eq_ediv_of_nonneg (by omega)]; omega
  have q5 : ((n : Int) - 2 - lg) / 8 = (mo : Int) := by omega
  have HK := Lib.hid (And.intro hk0 (And.intro hk1 (And.intro hfp (And.intro f1 (And.intro f2 f3)))))
  have HM := Lib.hid (And.intro hmost (And.intro hM0m (And.intro hwt hln)))
  have hmo8 : mo ≤ 65536 := by omega
  clear hlog hm1 hmm hfp f1 f2 f3 hk1 hX hmo hM0 hup hk0 hlen hn hbad hmost hM0m hwt hln
  go_enter Tryz.func3, Tryz.ntmps3
  go_wp2_with fail
  refine (HAW.out _).mono ?_
  rintro e w1 ⟨rfl, hb1⟩
  have HB1 := Lib.hid hb1
  clear hb1
  go_wp2_with fail
  refine (HLA.out _).mono ?_
  rintro e w2 ⟨d, rfl, F, hd, hb2, hF⟩
  have HB2 := Lib.hid (below_step hb2 HB1.out)
  have HF2 := Lib.hid (show ∀ x ∈ F, w.heap.size ≤ x from fun x hx => Nat.le_trans HB1.out.size (hF x hx))
  have HFM := Lib.hid (Format_any hd HK.out.1 (by omega) (lg : Int) r1 r2)
  rw [HK.out.2.2.1] at HFM
  clear hd hb2 hF
  go_wp2_with fail
  refine HFM.out.mono ?_
  rintro e w3 ⟨rfl, F3, hd3, t3, g3⟩
  have HB3 := Lib.hid (HB2.out.trans (t3.below HB2.out.size HF2.out))
  have HF3 := Lib.hid (show ∀ x ∈ F3, w.heap.size ≤ x from fun x hx => (g3 x hx).elim (HF2.out x) (fun h => Nat.le_trans HB2.out.size h))
  have HLN := Lib.hid (is_len hd3)
  rw [show X.2.sure.length = n by rw [← HM.out.2.1]; exact HM.out.2.2.2] at HLN
  have HOP := Lib.hid (Open_any hd3 HK.out.2.1 2 (by omega) (by omega))
  rw [HK.out.2.2.2.2.1] at HOP
  clear hd3 t3 g3 HFM
  rw [HK.out.2.2.2.1]
  go_wp2_with fail
  refine HLN.out.mono ?_
  rintro e w4 ⟨rfl, rfl⟩
  go_wp2_with fail
  refine HLN.out.mono ?_
  rintro e w4 ⟨rfl, rfl⟩
  go_wp2_with fail
  refine HOP.out.mono ?_
  rintro e w5 ⟨hb5, v, rfl, hn5⟩
  obtain ⟨b, lb, pb, hb, FP, rfl, hpl⟩ := play_new hn5 HF3.out HB3.out hb5
  have HS := Lib.hid hpl
  have HTD := Lib.hid (told_any hpl.pin HK.out.2.2.2.2.2 (by omega))
  clear hb5 hn5 hpl HOP HLN
  go_wp2_with fail
  refine HTD.out.mono ?_
  rintro e w6 ⟨k, r, FP6, rfl, ho⟩
  have hst6 := ho.st
  obtain ⟨a1, c1, hk⟩ := hst6.kf
  replace hk : k = .slice a1 1 c1 := hk
  obtain ⟨a2, c2, hr⟩ := hst6.rf
  replace hr : r = .slice a2 1 c2 := hr
  subst hk hr
  rw [show stV (.slice a1 1 c1) (.slice a2 1 c2) (.slice none 0 0) (newR mo 2).way = .agg #[.slice a1 1 c1, .slice a2 1 c2, .slice none 0 0, .int .u64 0, .int .u64 0, .int .u64 0, .int .u64 0, .int .u64 0, .int .u64 0, .int .u64 0, .int .u64 0] from rfl]
  have HO := Lib.hid ho
  have hszz := HS.out.below.size
  have HB6 := Lib.hid (show Below w.heap.size w w6 from HS.out.below.trans (ho.t.below HS.out.below.size HS.out.fp))
  clear ho hst6 HTD
  go_wp2_with fail
  refine wp_name (fun W7 hW7 => ?_)
  have HB7 := Lib.hid (show Below w6.heap.size w6 W7 from by rw [← hW7]; exact below_alloc (Below.refl _ _))
  have ht7 : W7.rowIs w6.heap.size 37 11 (stCF (.slice a1 1 c1) (.slice a2 1 c2) (.slice none 0 0) newS) := by
    rw [← hW7]
    exact stCF_new w6 (.slice a1 1 c1) (.slice a2 1 c2) (.slice none 0 0) newS
  have hlt7 := World.rowIs.lt ht7
  have u0 := World.rowIs.cell ht7 (i := 0) (by decide)
  have u1 := World.rowIs.cell ht7 (i := 1) (by decide)
  have u2 := World.rowIs.cell ht7 (i := 2) (by decide)
  have u3 := World.rowIs.cell ht7 (i := 3) (by decide)
  have u4 := World.rowIs.cell ht7 (i := 4) (by decide)
  have u5 := World.rowIs.cell ht7 (i := 5) (by decide)
  have u6 := World.rowIs.cell ht7 (i := 6) (by decide)
  have u7 := World.rowIs.cell ht7 (i := 7) (by decide)
  have u8 := World.rowIs.cell ht7 (i := 8) (by decide)
  have u9 := World.rowIs.cell ht7 (i := 9) (by decide)
  have u10 := World.rowIs.cell ht7 (i := 10) (by decide)
  simp only [stCF] at u0 u1 u2 u3 u4 u5 u6 u7 u8 u9 u10
  rw [show x8 newS 0 = .int .u64 0 from rfl] at u3
  rw [show x8 newS 1 = .int .u64 0 from rfl] at u4
  rw [show x8 newS 2 = .int .u64 0 from rfl] at u5
  rw [show x8 newS 3 = .int .u64 0 from rfl] at u6
  rw [show x8 newS 4 = .int .u64 0 from rfl] at u7
  rw [show x8 newS 5 = .int .u64 0 from rfl] at u8
  rw [show x8 newS 6 = .int .u64 0 from rfl] at u9
  rw [show x8 newS 7 = .int .u64 0 from rfl] at u10
  have HCS := Lib.hid (show ∀ w', Below W7.heap.size W7 w' → w'.cell? ⟨w6.heap.size, 0, none⟩ = some (.slice a1 1 c1) ∧ w'.cell? ⟨w6.heap.size, 1, none⟩ = some (.slice a2 1 c2) ∧ w'.cell? ⟨w6.heap.size, 2, none⟩ = some (.slice none 0 0) ∧ w'.cell? ⟨w6.heap.size, 3, none⟩ = some (.int .u64 0) ∧ w'.cell? ⟨w6.heap.size, 4, none⟩ = some (.int .u64 0) ∧ w'.cell? ⟨w6.heap.size, 5, none⟩ = some (.int .u64 0) ∧ w'.cell? ⟨w6.heap.size, 6, none⟩ = some (.int .u64 0) ∧ w'.cell? ⟨w6.heap.size, 7, none⟩ = some (.int .u64 0) ∧ w'.cell? ⟨w6.heap.size, 8, none⟩ = some (.int .u64 0) ∧ w'.cell? ⟨w6.heap.size, 9, none⟩ = some (.int .u64 0) ∧ w'.cell? ⟨w6.heap.size, 10, none⟩ = some (.int .u64 0) from fun w' hb => by
    have kk : ∀ {o : Nat} {v : Value}, W7.cell? ⟨w6.heap.size, o, none⟩ = some v → w'.cell? ⟨w6.heap.size, o, none⟩ = some v := fun e => (hb.cell (p := ⟨w6.heap.size, _, none⟩) hlt7).trans e
    exact ⟨kk u0, kk u1, kk u2, kk u3, kk u4, kk u5, kk u6, kk u7, kk u8, kk u9, kk u10⟩)
  have hpin7 := HO.out.pin.below HB7.out
  have hst7 := HO.out.st.below HB7.out
  have hd7 := hpin7.disk
  have HMO := Lib.hid (fun W (hb : Below W7.heap.size W7 W) => most_any (hpin7.below hb))
  have HLE := Lib.hid (fun W (hb : Below W7.heap.size W7 W) => is_len (hd7.below hb))
  have HPE := Lib.hid (fun W (hb : Below W7.heap.size W7 W) => is_pending (hd7.below hb))
  rw [HM.out.1] at HMO
  rw [HM.out.2.2.2] at HLE
  rw [HM.out.2.2.1] at HPE
  have HSA := Lib.hid (fun (W : World) (hb : Below W7.heap.size W7 W) (kS rS fS : Value) (B2 : Nat) (h2 : StRow W B2 kS rS fS newS) =>
    show Calls Tryz.prog 13 #[.agg #[.slice a1 1 c1, .slice a2 1 c2, .slice none 0 0, .int .u64 0, .int .u64 0, .int .u64 0, .int .u64 0, .int .u64 0, .int .u64 0, .int .u64 0, .int .u64 0], .agg #[kS, rS, fS, .int .u64 0, .int .u64 0, .int .u64 0, .int .u64 0, .int .u64 0, .int .u64 0, .int .u64 0, .int .u64 0]] W fun e w' => e = .returned (.bool true) ∧ Below W.heap.size W w' from
      same11_any (s1 := { (newR mo 2).way with free := [] }) (s2 := newS) (hst7.below hb) h2 rfl rfl rfl rfl (by decide) (by decide))
  have HBZ := Lib.hid (Below.refl W7.heap.size W7)
  clear hW7 ht7 u0 u1 u2 u3 u4 u5 u6 u7 u8 u9 u10 hpin7 hst7 hd7
  obtain ⟨z0, z1, z2, z3, z4, z5, z6, z7, z8, z9, z10⟩ := HCS.out _ HBZ.out
  have j1 : IntKind.i64.wrap ((n : Int) - 2) = (n : Int) - 2 := IntWalk.i64_in _ (by omega)
  have j2 : IntKind.i64.wrap ((n : Int) - 2 - (lg : Int)) = (n : Int) - 2 - (lg : Int) := IntWalk.i64_in _ (by omega)
  have j3 : IntKind.i64.wrap (mo : Int) = (mo : Int) := IntWalk.i64_in _ (by omega)
  try clear HAW
  try clear HLA
  try clear HK
  try clear HM
  try clear HB1
  try clear HF2
  try clear HB2
  try clear HB3
  try clear HF3
  try clear HS
  try clear HO
  try clear hszz
  try clear hbig
  try clear d0
  try clear hnn
  try clear hm2
  try clear hmo8
  try clear hlt7
  go_region_with
    (first
      | (go_at_call 14; refine (new11_any _ 1 2 (by decide) (by decide) (by decide)).mono ?_; rintro e w8 ⟨v, rfl, b8, F8, rfl, ⟨kS, rS, fS, kW, rW, fW, dv, hat, hF8⟩, hb8, hx8⟩; have HBZ := Lib.hid (show Below W7.heap.size W7 w8 from below_step hb8 (by repeat (first | exact HBZ.out | refine below_drew ?_))); have p2 := World.rowIs.cell hat.cells (i := 2) (by decide); have p3 := World.rowIs.cell hat.cells (i := 3) (by decide); have p4 := World.rowIs.cell hat.cells (i := 4) (by decide); have p5 := World.rowIs.cell hat.cells (i := 5) (by decide); have p6 := World.rowIs.cell hat.cells (i := 6) (by decide); have p7 := World.rowIs.cell hat.cells (i := 7) (by decide); have p8 := World.rowIs.cell hat.cells (i := 8) (by decide); have p9 := World.rowIs.cell hat.cells (i := 9) (by decide); have p10 := World.rowIs.cell hat.cells (i := 10) (by decide); have p11 := World.rowIs.cell hat.cells (i := 11) (by decide); have p12 := World.rowIs.cell hat.cells (i := 12) (by decide); simp only [rmF] at p2 p3 p4 p5 p6 p7 p8 p9 p10 p11 p12; rw [show x8 (newR 1 2).sure 0 = .int .u64 0 from rfl] at p5; rw [show x8 (newR 1 2).sure 1 = .int .u64 0 from rfl] at p6; rw [show x8 (newR 1 2).sure 2 = .int .u64 0 from rfl] at p7; rw [show x8 (newR 1 2).sure 3 = .int .u64 0 from rfl] at p8; rw [show x8 (newR 1 2).sure 4 = .int .u64 0 from rfl] at p9; rw [show x8 (newR 1 2).sure 5 = .int .u64 0 from rfl] at p10; rw [show x8 (newR 1 2).sure 6 = .int .u64 0 from rfl] at p11; rw [show x8 (newR 1 2).sure 7 = .int .u64 0 from rfl] at p12; have HRM := Lib.hid hat.sure; clear z0 z1 z2 z3 z4 z5 z6 z7 z8 z9 z10; obtain ⟨z0, z1, z2, z3, z4, z5, z6, z7, z8, z9, z10⟩ := HCS.out _ HBZ.out; clear hat hF8 hx8 hb8)
      | (go_at_call 13; refine (HSA.out _ (by repeat (first | exact HBZ.out | refine below_drew ?_)) _ _ _ _ (StRow.below HRM.out (by repeat (first | exact Below.refl _ _ | refine below_drew ?_)))).mono ?_; rintro e w9 ⟨rfl, hb9⟩; have HBZ := Lib.hid (show Below W7.heap.size W7 w9 from below_step hb9 (by repeat (first | exact HBZ.out | refine below_drew ?_))); clear hb9)
      | (go_at_call 15; refine (HMO.out _ (by repeat (first | exact HBZ.out | refine below_drew ?_))).mono ?_; rintro e w9 ⟨rfl, rfl⟩)
      | (go_at_call 10; refine (HLE.out _ (by repeat (first | exact HBZ.out | refine below_drew ?_))).mono ?_; rintro e w9 ⟨rfl, rfl⟩)
      | (go_at_call 16; refine (HPE.out _ (by repeat (first | exact HBZ.out | refine below_drew ?_))).mono ?_; rintro e w9 ⟨rfl, rfl⟩))
  all_goals (try go_wp2_with fail)
  all_goals go_ret
  all_goals (refine ⟨rfl, below_step ?_ (below_step HB7.out HB6.out)⟩; repeat (first | exact HBZ.out | refine below_drew ?_))
end Go.Proofs.YtpaholkmlfaflaaGreatDoor

