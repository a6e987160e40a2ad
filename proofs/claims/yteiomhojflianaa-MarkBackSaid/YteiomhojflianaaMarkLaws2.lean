/- The walks of the laws MarkBack and MarkTorn. -/
import Derived.Test.YteiomhojflianaaMarkLaws
namespace Go.Proofs.Yteiomhojflianaa
open Go.RowKit
set_option linter.unusedVariables false

set_option maxHeartbeats 1000000 in
theorem markBack_walk (n : Int) (s : ByteArray) (w : World) (hn : 0 ≤ n) (hu : n ≤ 18446744073709551615) (hs0 : s.size ≤ 140737488351232) :
    Calls Try.prog 5 #[.int .u64 n, .string s] w fun e w' => e = .returned (.bool true) ∧ Below w.heap.size w w' := by
  by_cases h : s.size ≤ 48
  · have z := mkStr_size n s h
    have h1 := mkStr_Ok n s h
    have h2 := mkStr_N n s h hn hu
    have h3 := mkStr_Tsize n s h
    have h4 := mkStr_Ttext n s h
    have Z := Lib.hid z
    have z1 : (mkStr n s).size ≤ 9223372036854775807 := by omega
    clear z
    go_enter Try.func5, Try.ntmps5
    go_wp2_with fail
    refine (markPut_any n s _ hn h).mono ?_
    rintro e w1 ⟨rfl, hb1⟩
    go_wp2_with fail
    refine (markGet_any (mkStr n s) _ z1).mono ?_
    rintro e w2 ⟨rfl, q, rfl⟩
    go_wp2_with fail
    refine (awake07_any _).mono ?_
    rintro e w3 ⟨rfl, hb3⟩
    go_wp2_with fail
    refine (refMarkPut_any n s _ hn hu h).mono ?_
    rintro e w4 ⟨rfl, hb4⟩
    go_wp2_with fail
    go_ret
    exact ⟨rfl, below_next (below_next (below_drewN hb1 q) hb1.size hb3) (Nat.le_trans hb1.size hb3.size) hb4⟩
  · have h' : 48 < s.size := by omega
    go_enter Try.func5, Try.ntmps5
    go_wp2_with fail
    refine (markPut_large n s _ h').mono ?_
    rintro e w1 ⟨rfl, rfl⟩
    go_wp2_with fail
    refine (awake07_any _).mono ?_
    rintro e w3 ⟨rfl, hb3⟩
    go_wp2_with fail
    go_ret
    exact ⟨rfl, hb3⟩

set_option maxHeartbeats 2000000 in
theorem markTorn_walk (m n : Int) (a b : ByteArray) (c : Int) (w : World) (hm : 0 ≤ m) (hm' : m ≤ 18446744073709551615) (hn : 0 ≤ n) (hn' : n ≤ 18446744073709551615) (ha0 : a.size ≤ 140737488351232) (hb0 : b.size ≤ 140737488351232) (hc : 0 ≤ c) (hc' : c ≤ 255) :
    Calls Try.prog 4 #[.int .u64 m, .int .u64 n, .string a, .string b, .int .u8 c] w fun e w' => e = .returned (.bool true) ∧ Below w.heap.size w w' := by
  by_cases ha : a.size ≤ 48
  · by_cases hb : b.size ≤ 48
    · by_cases hne : m = n
      · subst hne
        go_enter Try.func4, Try.ntmps4
        go_wp2_with fail
        refine (markPut_any m a _ hm ha).mono ?_
        rintro e w1 ⟨rfl, hb1⟩
        go_wp2_with fail
        refine (markPut_any m b _ hm hb).mono ?_
        rintro e w2 ⟨rfl, hb2⟩
        go_wp2_with fail
        refine (awake07_any _).mono ?_
        rintro e w3 ⟨rfl, hb3⟩
        go_wp2_with fail
        go_ret
        exact ⟨rfl, below_next (below_next hb1 hb1.size hb2) (Nat.le_trans hb1.size hb2.size) hb3⟩
      · obtain ⟨k, hk⟩ : ∃ k : Nat, c % 65 = k := ⟨(c % 65).toNat, by omega⟩
        have hk64 : k ≤ 64 := by omega
        have z1 := mkStr_size m a ha
        have z2 := mkStr_size n b hb
        have z3 := torn_size _ _ k z1 z2 hk64
        have z4 : (torn (mkStr m a) (mkStr n b) k).size ≤ 9223372036854775807 := by omega
        have z5 : (mkStr m a).size ≤ 64 := by omega
        have z6 : (mkStr n b).size ≤ 64 := by omega
        have z7 : ((mkStr m a).size : Int) = 64 := by omega
        have z8 : ((mkStr n b).size : Int) = 64 := by omega
        have law := torn_law m n a b k ha hb hm hm' hn hn' hk64 hne
        have hne' : (m == n) = false := by simp [hne]
        have T : (mkStr m a).extract 0 k ++ (mkStr n b).extract k 64 = torn (mkStr m a) (mkStr n b) k := by unfold torn; rw [z2]
        clear hne
        cases ho : mOk (torn (mkStr m a) (mkStr n b) k)
        · clear law
          go_enter Try.func4, Try.ntmps4
          go_wp2_with fail
          refine (markPut_any m a _ hm ha).mono ?_
          rintro e w1 ⟨rfl, hb1⟩
          go_wp2_with fail
          refine (markPut_any n b _ hn hb).mono ?_
          rintro e w2 ⟨rfl, hb2⟩
          go_wp2_with fail
          go_quiet (fail)
          go_wp2_with fail
          refine (markGet_any (torn (mkStr m a) (mkStr n b) k) _ z4).mono ?_
          rintro e w3 ⟨rfl, q, rfl⟩
          go_wp2_with fail
          refine (awake07_any _).mono ?_
          rintro e w4 ⟨rfl, hb4⟩
          go_wp2_with fail
          go_ret
          exact ⟨rfl, below_next (below_drewN (below_next hb1 hb1.size hb2) _) (Nat.le_trans hb1.size hb2.size) hb4⟩
        · have e1 : ((torn (mkStr m a) (mkStr n b) k).toList == (mkStr m a).toList) = true ∨ ((torn (mkStr m a) (mkStr n b) k).toList == (mkStr m a).toList) = false ∧ ((torn (mkStr m a) (mkStr n b) k).toList == (mkStr n b).toList) = true := by
            rcases law ho with e | e
            · exact .inl (str_eq e)
            · by_cases e' : torn (mkStr m a) (mkStr n b) k = mkStr m a
              · exact .inl (str_eq e')
              · exact .inr ⟨str_ne e', str_eq e⟩
          clear law
          rcases e1 with e1 | ⟨e1, e2⟩
          · go_enter Try.func4, Try.ntmps4
            go_wp2_with fail
            refine (markPut_any m a _ hm ha).mono ?_
            rintro e w1 ⟨rfl, hb1⟩
            go_wp2_with fail
            refine (markPut_any n b _ hn hb).mono ?_
            rintro e w2 ⟨rfl, hb2⟩
            go_wp2_with fail
            go_quiet (fail)
            go_wp2_with fail
            refine (markGet_any (torn (mkStr m a) (mkStr n b) k) _ z4).mono ?_
            rintro e w3 ⟨rfl, q, rfl⟩
            go_wp2_with fail
            refine (awake07_any _).mono ?_
            rintro e w4 ⟨rfl, hb4⟩
            go_wp2_with fail
            go_ret
            exact ⟨rfl, below_next (below_drewN (below_next hb1 hb1.size hb2) _) (Nat.le_trans hb1.size hb2.size) hb4⟩
          · go_enter Try.func4, Try.ntmps4
            go_wp2_with fail
            refine (markPut_any m a _ hm ha).mono ?_
            rintro e w1 ⟨rfl, hb1⟩
            go_wp2_with fail
            refine (markPut_any n b _ hn hb).mono ?_
            rintro e w2 ⟨rfl, hb2⟩
            go_wp2_with fail
            go_quiet (fail)
            go_wp2_with fail
            refine (markGet_any (torn (mkStr m a) (mkStr n b) k) _ z4).mono ?_
            rintro e w3 ⟨rfl, q, rfl⟩
            go_wp2_with fail
            refine (awake07_any _).mono ?_
            rintro e w4 ⟨rfl, hb4⟩
            go_wp2_with fail
            go_ret
            exact ⟨rfl, below_next (below_drewN (below_next hb1 hb1.size hb2) _) (Nat.le_trans hb1.size hb2.size) hb4⟩
    · have hb' : 48 < b.size := by omega
      go_enter Try.func4, Try.ntmps4
      go_wp2_with fail
      refine (markPut_any m a _ hm ha).mono ?_
      rintro e w1 ⟨rfl, hb1⟩
      go_wp2_with fail
      refine (markPut_large n b _ hb').mono ?_
      rintro e w2 ⟨rfl, rfl⟩
      go_wp2_with fail
      refine (awake07_any _).mono ?_
      rintro e w3 ⟨rfl, hb3⟩
      go_wp2_with fail
      go_ret
      exact ⟨rfl, below_next hb1 hb1.size hb3⟩
  · have ha' : 48 < a.size := by omega
    by_cases hb : b.size ≤ 48
    · go_enter Try.func4, Try.ntmps4
      go_wp2_with fail
      refine (markPut_large m a _ ha').mono ?_
      rintro e w1 ⟨rfl, rfl⟩
      go_wp2_with fail
      refine (markPut_any n b _ hn hb).mono ?_
      rintro e w2 ⟨rfl, hb2⟩
      go_wp2_with fail
      refine (awake07_any _).mono ?_
      rintro e w3 ⟨rfl, hb3⟩
      go_wp2_with fail
      go_ret
      exact ⟨rfl, below_next hb2 hb2.size hb3⟩
    · have hb' : 48 < b.size := by omega
      go_enter Try.func4, Try.ntmps4
      go_wp2_with fail
      refine (markPut_large m a _ ha').mono ?_
      rintro e w1 ⟨rfl, rfl⟩
      go_wp2_with fail
      refine (markPut_large n b _ hb').mono ?_
      rintro e w2 ⟨rfl, rfl⟩
      go_wp2_with fail
      refine (awake07_any _).mono ?_
      rintro e w3 ⟨rfl, hb3⟩
      go_wp2_with fail
      go_ret
      exact ⟨rfl, hb3⟩

end Go.Proofs.Yteiomhojflianaa
