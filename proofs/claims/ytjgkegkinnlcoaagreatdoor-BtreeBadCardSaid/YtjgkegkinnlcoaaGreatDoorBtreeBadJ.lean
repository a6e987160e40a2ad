/- 'BtreeBad': for every input the law returns true, and each argument reads behind the call as it read before; the tied card. -/
import Derived.Test.YtjgkegkinnlcoaaGreatDoorRows
import Derived.Test.YtjgkegkinnlcoaaGreatDoorCards
import Derived.Test.YtjgkegkinnlcoaaGreatDoorTie
import Derived.WalkKit
import Derived.ProofKit
import Derived.OpenShut
import Derived.ShutString
import Derived.SizedLaws
import Derived.LaidLaws
import Derived.SevenTiedAt
import Derived.Test.YtjgkegkinnlcoaaGreatDoorJ36
namespace Go.Proofs.YtjgkegkinnlcoaaGreatDoor.btreeBad
open Go.ChangeShapes Go.WideShapes Go.ChangeAt Go.RowKit
open Go.ChangeMaps (open_string shut_string)

theorem own : ownKnob Tryz.prog.godebug = none := by kernel_rfl
theorem laidOut : laidOutB Tryz.prog = true := by kernel_rfl

theorem bd_u64 {x : Int} (h : (Lit.int .u64 x).wf = true) : 0 ≤ x ∧ x ≤ 18446744073709551615 := by
  simp [Lit.wf, IntKind.min, IntKind.max, IntKind.signed, IntKind.bits] at h
  omega

set_option linter.unusedVariables false
set_option maxRecDepth 100000 in
theorem lifted (os : Os) (started : os.Started) (H : Type) (enc : TypeId × Value → H) :
    ReturnsInHanded {} Tryz.checked os 4 .any (fun w args => (Rows.btreeBadSpec.pre enc Tryz.prog Tryz.f4 Rows.btreeBadRow.domain false w args ∧ laidMet Tryz.prog Rows.btreeBadRow.laid w) ∧ sizedMet enc Tryz.prog Tryz.f4 (OpenSpec.ofChange Rows.btreeBadSpec) false w args)
      (Rows.btreeBadSpec.post enc Tryz.prog Tryz.f4 false true false false) := by
  refine returnsInHanded_of_change_and (C := Tryz.checked) (X := fun w _ => laidMet Tryz.prog Rows.btreeBadRow.laid w) (fun _ _ _ hh h => h.of_heap hh) own started (by kernel_rfl) Tryz.func4
    (ChangeSpec.witness_at (enc := enc) (C := Tryz.checked) (os := os) (X := fun w _ => laidMet Tryz.prog Rows.btreeBadRow.laid w) false (laidWorld os) #[.slice none 0 0, .slice none 0 0, .int .u64 0, .int .u64 0] 8 rfl (by kernel_rfl) (by kernel_rfl) (by kernel_rfl) (by kernel_rfl) (by kernel_rfl) (laid_met os _)) ?_
  intro W base args ds gs before hval0 hW _ hsz0 _ _
  have hsz : (DataW.weightsEach Tryz.prog (Tryz.f4.params.toList ++ Rows.btreeBadSpec.plain.varTypes Tryz.prog) (ds ++ gs)).all (· ≤ reachBytes) = true := hsz0
  clear hsz0
  have hval : ∀ (j : Nat) t v, Tryz.f4.params[j]? = some t → args[j]? = some v → Value.okWide Tryz.prog W .any base t v := hval0
  have hval' : ∀ (j : Nat) t v, Tryz.f4.params[j]? = some t → args[j]? = some v → Value.okWide Tryz.prog W .any 0 t v := fun j t v h1 h2 => Value.okWide_any_base (hval0 j t v h1 h2)
  have hW' := hW
  obtain ⟨p, q, hA0, hV, rfl, hfz, hnd⟩ := hW
  have hA : DataW.TrodAll enc Tryz.prog W 0 (fun _ => true) true Tryz.f4.params.toList args.toList ds p := hA0
  rw [Tryz.params4] at hA hval hval' hsz
  have hA1 := hA
  have hlt : ∀ x ∈ p, x.block < W.heap.size := fun x hx => hW'.lt x (by simp [hx])
  obtain ⟨v0, vs0, d0, ds0, p0, q0, hargs, rfl, hp0, h0, r0⟩ := trodAll_cons hA
  obtain ⟨v1, vs1, d1, ds1, p1, q1, rfl, rfl, hp1, h1, r1⟩ := trodAll_cons r0
  obtain ⟨v2, vs2, d2, ds2, p2, q2, rfl, rfl, hp2, h2, r2⟩ := trodAll_cons r1
  obtain ⟨v3, vs3, d3, ds3, p3, q3, rfl, rfl, hp3, h3, r3⟩ := trodAll_cons r2
  obtain ⟨rfl, rfl, hp4⟩ := trodAll_nil r3
  obtain rfl : args = #[v0, v1, v2, v3] := by cases args; simp_all
  obtain ⟨rfl, rfl⟩ := trodVars_none hV
  obtain ⟨a0, n0, c0, l0, rfl, F0⟩ := open_strs (hval' 0 47 v0 rfl rfl) h0
  obtain ⟨b1, m1, e1, k1, rfl, F1⟩ := open_u8s (hval' 1 48 v1 rfl rfl) h1
  obtain ⟨a2, rfl, _, _, w2⟩ := open_int Tryz.underlying28 (hval 2 28 v2 rfl rfl) h2
  have L2 := (bd_u64 w2).1
  have U2 := (bd_u64 w2).2
  obtain ⟨a3, rfl, _, _, w3⟩ := open_int Tryz.underlying28 (hval 3 28 v3 rfl rfl) h3
  have L3 := (bd_u64 w3).1
  have U3 := (bd_u64 w3).2
  refine (btreeBad_walk F0 F1 a2 a3 L2 U2 L3 U3).mono fun e W' ⟨he, hg⟩ => ?_
  subst he
  exact ⟨_, rfl, post_of_below (pa := p) (pv := []) hW' (fun _ _ _ => (trodAll_cons_mk (shut_bool Tryz.underlying4 _) trodAll_mk0)) (fun sp hsp => trodAll_keep laidOut hg _ _ _ _ (by kernel_rfl) hA1 hlt (fun x hx => hsp x (by simp [hx]))) (fun _ _ => rfl) (by simp)
    hg (ok_one (by kernel_rfl) rfl (okWide_bool_mk Tryz.underlying4 _))⟩
end Go.Proofs.YtjgkegkinnlcoaaGreatDoor.btreeBad

namespace Go.Proofs.YtjgkegkinnlcoaaGreatDoor
open Go.ChangeShapes Go.WideShapes Go.ChangeAt Go.RowKit
theorem btreeBad_row : Rows.BtreeBadSaid :=
  OpenClaim.holds_of_wide 4 Tryz.f4 rfl rfl rfl rfl rfl rfl rfl ⟨rfl, rfl, rfl, rfl, rfl⟩ rfl rfl rfl rfl rfl (by kernel_rfl) Tryz.func4 (by kernel_rfl)
    (of_decide_eq_true (by kernel_rfl)) (by unfold Func.isWrapper; rw [if_neg (of_decide_eq_false (by kernel_rfl))]; exact ⟨rfl, rfl⟩)
    (fun os started H enc _ => btreeBad.lifted os started H enc)
theorem btreeBad_holds : Rows.BtreeBadCardSaid :=
  Claim7.holds_tied_plain_at .later [] Rows.btreeBadCard.laidKinds true Rows.btreeBadCard.stood.harness true
    btreeBad_row (fun _ h => by cases h) (by kernel_rfl) (fun _ h => by cases h) btreeBad_row_tie rfl ⟨rfl, rfl⟩ (by kernel_rfl) rfl
    (fun f fn hf hfn => by
      obtain rfl : f = 4 := Option.some.inj ((show Tryz.prog.funcNamed Rows.btreeBadRow.func = some 4 by kernel_rfl).symm.trans hf) |>.symm
      obtain rfl : fn = Tryz.f4 := (Option.some.inj (Tryz.func4.symm.trans hfn)).symm
      exact ⟨by kernel_rfl, fun j t ht => by
        rw [Tryz.params4] at ht
        have hm : t ∈ [47, 48, 28, 28] := by
          have := Array.mem_of_getElem? ht
          simpa using this
        exact (show ∀ t ∈ [47, 48, 28, 28], Tryz.prog.wantsStandIn t = false from of_decide_eq_true (by kernel_rfl)) t hm⟩)
    (by kernel_rfl)
#print axioms btreeBad_holds
end Go.Proofs.YtjgkegkinnlcoaaGreatDoor
