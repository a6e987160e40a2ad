/- 'BtreeFlat': for every input the law returns true, and each argument reads behind the call as it read before; the tied card. -/
import Derived.Test.YtjgkegkinnlcoaaGreatDoorRows
import Derived.Test.YtjgkegkinnlcoaaGreatDoorCards
import Derived.Test.YtjgkegkinnlcoaaGreatDoorTie
import Derived.WalkKit
import Derived.ProofKit
import Derived.OpenShut
import Derived.ShutString
import Derived.SizedLaws
import Derived.LaidLaws
import Derived.SevenTiedAt
import Derived.Test.YtjgkegkinnlcoaaGreatDoorJ38
namespace Go.Proofs.YtjgkegkinnlcoaaGreatDoor.btreeFlat
open Go.ChangeShapes Go.WideShapes Go.ChangeAt Go.RowKit
open Go.ChangeMaps (open_string shut_string)
theorem own:ownKnob Tryz.prog.godebug=none:=by kernel_rfl
theorem laidOut:laidOutB Tryz.prog=true:=by kernel_rfl
set_option linter.unusedVariables false
set_option maxRecDepth 100000 in
theorem lifted (os:Os) (started:os.Started) (H:Type) (enc:TypeId × Value→H):
  ReturnsInHanded {} Tryz.checked os 6 .any (fun w args=>(Rows.btreeFlatSpec.pre enc Tryz.prog Tryz.f6 Rows.btreeFlatRow.domain false w args∧laidMet Tryz.prog Rows.btreeFlatRow.laid w)∧sizedMet enc Tryz.prog Tryz.f6 (OpenSpec.ofChange Rows.btreeFlatSpec) false w args)
   (Rows.btreeFlatSpec.post enc Tryz.prog Tryz.f6 false true false false):=by
 refine returnsInHanded_of_change_and (C:=Tryz.checked) (X:=fun w _=>laidMet Tryz.prog Rows.btreeFlatRow.laid w) (fun _ _ _ hh h=>h.of_heap hh) own started (by kernel_rfl) Tryz.func6
  (ChangeSpec.witness_at (enc:=enc) (C:=Tryz.checked) (os:=os) (X:=fun w _=>laidMet Tryz.prog Rows.btreeFlatRow.laid w) false (laidWorld os) #[.slice none 0 0] 8 rfl (by kernel_rfl) (by kernel_rfl) (by kernel_rfl) (by kernel_rfl) (by kernel_rfl) (laid_met os _)) ?_
 intro W base args ds gs before hval0 hW _ hsz0 _ _
 have hsz:(DataW.weightsEach Tryz.prog (Tryz.f6.params.toList++Rows.btreeFlatSpec.plain.varTypes Tryz.prog) (ds++gs)).all (· ≤reachBytes)=true:=hsz0
 clear hsz0
 have hval: ∀(j:Nat) t v,Tryz.f6.params[j]? =some t→args[j]? =some v→Value.okWide Tryz.prog W .any base t v:=hval0
 have hval': ∀(j:Nat) t v,Tryz.f6.params[j]? =some t→args[j]? =some v→Value.okWide Tryz.prog W .any 0 t v:=fun j t v h1 h2=>Value.okWide_any_base (hval0 j t v h1 h2)
 have hW':=hW
 obtain⟨p,q,hA0,hV,rfl,hfz,hnd⟩:=hW
 have hA:DataW.TrodAll enc Tryz.prog W 0 (fun _=>true) true Tryz.f6.params.toList args.toList ds p:=hA0
 rw[Tryz.params6] at hA hval hval' hsz
 have hA1:=hA
 have hlt: ∀x∈p,x.block<W.heap.size:=fun x hx=>hW'.lt x (by simp[hx])
 obtain⟨v0,vs0,d0,ds0,p0,q0,hargs,rfl,hp0,h0,r0⟩:=trodAll_cons hA
 obtain⟨rfl,rfl,hp1⟩:=trodAll_nil r0
 obtain rfl:args= #[v0]:=by cases args;simp_all
 obtain⟨rfl,rfl⟩:=trodVars_none hV
 obtain⟨a0,n0,c0,l0,rfl,F0⟩:=open_acts (hval' 0 22 v0 rfl rfl) h0
 refine(btreeFlat_walk F0).mono fun e W' ⟨he,hg⟩=> ?_
 subst he
 exact⟨_,rfl,post_of_below (pa:=p) (pv:=[]) hW' (fun _ _ _=>(trodAll_cons_mk (shut_bool Tryz.underlying4 _) trodAll_mk0)) (fun sp hsp=>trodAll_keep laidOut hg _ _ _ _ (by kernel_rfl) hA1 hlt (fun x hx=>hsp x (by simp[hx]))) (fun _ _=>rfl) (by simp)
  hg (ok_one (by kernel_rfl) rfl (okWide_bool_mk Tryz.underlying4 _))⟩
end Go.Proofs.YtjgkegkinnlcoaaGreatDoor.btreeFlat
namespace Go.Proofs.YtjgkegkinnlcoaaGreatDoor
open Go.ChangeShapes Go.WideShapes Go.ChangeAt Go.RowKit
theorem btreeFlat_row:Rows.BtreeFlatSaid:=
 OpenClaim.holds_of_wide 6 Tryz.f6 rfl rfl rfl rfl rfl rfl rfl ⟨rfl,rfl,rfl,rfl,rfl⟩ rfl rfl rfl rfl rfl (by kernel_rfl) Tryz.func6 (by kernel_rfl)
  (of_decide_eq_true (by kernel_rfl)) (by unfold Func.isWrapper;rw[if_neg (of_decide_eq_false (by kernel_rfl))];exact⟨rfl,rfl⟩)
  (fun os started H enc _=>btreeFlat.lifted os started H enc)
theorem btreeFlat_holds:Rows.BtreeFlatCardSaid:=
 Claim7.holds_tied_plain_at .later [] Rows.btreeFlatCard.laidKinds true Rows.btreeFlatCard.stood.harness true
  btreeFlat_row (fun _ h=>by cases h) (by kernel_rfl) (fun _ h=>by cases h) btreeFlat_row_tie rfl ⟨rfl,rfl⟩ (by kernel_rfl) rfl
  (fun f fn hf hfn=>by
   obtain rfl:f=6:=Option.some.inj ((show Tryz.prog.funcNamed Rows.btreeFlatRow.func=some 6 by kernel_rfl).symm.trans hf) |>.symm
   obtain rfl:fn=Tryz.f6:=(Option.some.inj (Tryz.func6.symm.trans hfn)).symm
   exact⟨by kernel_rfl,fun j t ht=>by
    rw[Tryz.params6] at ht
    have hm:t∈[22]:=by
     have:=Array.mem_of_getElem? ht
     simpa using this
    exact(show∀t∈[22],Tryz.prog.wantsStandIn t=false from of_decide_eq_true (by kernel_rfl)) t hm⟩)
  (by kernel_rfl)
#print axioms btreeFlat_holds
end Go.Proofs.YtjgkegkinnlcoaaGreatDoor
