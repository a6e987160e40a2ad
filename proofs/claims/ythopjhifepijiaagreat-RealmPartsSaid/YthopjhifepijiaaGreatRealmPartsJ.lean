/- 'RealmParts': for every input the law returns true, and each argument reads behind the call as it read before. -/
import Derived.Test.YthopjhifepijiaaGreatRows
import Derived.WalkKit
import Derived.ProofKit
import Derived.OpenShut
import Derived.ShutString
import Derived.SizedLaws
import Derived.Test.YthopjhifepijiaaGreatJ22
import Derived.Test.YthopjhifepijiaaGreatJ23
namespace Go.Proofs.YthopjhifepijiaaGreat.realmParts
open Go.ChangeShapes Go.WideShapes Go.ChangeAt Go.RowKit
open Go.ChangeMaps (open_string)
set_option linter.unusedVariables false
theorem own:ownKnob Tryz.prog.godebug=none:=by kernel_rfl
theorem laidOut:laidOutB Tryz.prog=true:=by kernel_rfl
set_option maxRecDepth 100000 in
theorem lifted (os:Os) (started:os.Started) (H:Type) (enc:TypeId × Value→H):
  ReturnsInHanded {} Tryz.checked os 3 .any (Rows.realmPartsSpec.pre6 enc Tryz.prog Tryz.f3 Rows.realmPartsRow.domain false) (Rows.realmPartsSpec.post enc Tryz.prog Tryz.f3 false true false false):=by
 refine returnsInHanded_of_change_sized (C:=Tryz.checked) own started (by kernel_rfl) Tryz.func3
  (ChangeSpec.witness6 (enc:=enc) (C:=Tryz.checked) false ⟨#[], #[.agg #[.slice none 0 0, .slice none 0 0]],[]⟩ 8 (by kernel_rfl) (by kernel_rfl) (by kernel_rfl) (by kernel_rfl)) ?_
 intro W base args ds gs before hval0 hW _ hsz0 _
 have hsz:(DataW.weightsEach Tryz.prog (Tryz.f3.params.toList++Rows.realmPartsSpec.plain.varTypes Tryz.prog) (ds++gs)).all (· ≤reachBytes)=true:=hsz0
 clear hsz0
 have hval: ∀(j:Nat) t v,Tryz.f3.params[j]? =some t→args[j]? =some v→Value.okWide Tryz.prog W .any base t v:=hval0
 have hval': ∀(j:Nat) t v,Tryz.f3.params[j]? =some t→args[j]? =some v→Value.okWide Tryz.prog W .any 0 t v:=fun j t v h1 h2=>Value.okWide_any_base (hval0 j t v h1 h2)
 have hW':=hW
 obtain⟨p,q,hA0,hV,rfl,hfz,hnd⟩:=hW
 have hA:DataW.TrodAll enc Tryz.prog W 0 (fun _=>true) true Tryz.f3.params.toList args.toList ds p:=hA0
 rw[Tryz.params3] at hA hval hval' hsz
 have hA1:=hA
 have hlt: ∀x∈p,x.block<W.heap.size:=fun x hx=>hW'.lt x (by simp[hx])
 obtain⟨v0,vs0,d0,ds0,p0,q0,hargs,rfl,hp0,h0,r0⟩:=trodAll_cons hA
 obtain⟨rfl,rfl,hp2⟩:=trodAll_nil r0
 obtain rfl:args= #[v0]:=by cases args;simp_all
 obtain⟨rfl,rfl⟩:=trodVars_none hV
 obtain⟨va0,ea0,vn0,vc0,en0,ec0,pl0,rfl,F0⟩:=open_plan (hval' 0 25 v0 rfl rfl) h0
 refine(realmParts_walk F0.vs F0.es (Nat.le_refl _) F0.cap F0.fit).mono fun e W' ⟨he,hg⟩=> ?_
 subst he
 exact⟨_,rfl,post_of_below (pa:=p) (pv:=[]) hW' (fun _ _ _=>(trodAll_cons_mk (shut_bool Tryz.underlying4 _) trodAll_mk0)) (fun sp hsp=>trodAll_keep laidOut hg _ _ _ _ (by kernel_rfl) hA1 hlt (fun x hx=>hsp x (by simp[hx]))) (fun _ _=>rfl) (by simp)
  hg (ok_one (by kernel_rfl) rfl (okWide_bool_mk Tryz.underlying4 _))⟩
end Go.Proofs.YthopjhifepijiaaGreat.realmParts
namespace Go.Proofs.YthopjhifepijiaaGreat
open Go.ChangeShapes Go.WideShapes Go.ChangeAt Go.RowKit
theorem realmParts_holds:Rows.RealmPartsSaid:=
 OpenClaim.holds_of_wide 3 Tryz.f3 rfl rfl rfl rfl rfl rfl rfl ⟨rfl,rfl,rfl,rfl,rfl⟩ rfl rfl rfl rfl rfl (by kernel_rfl) Tryz.func3 (by kernel_rfl)
  (of_decide_eq_true (by kernel_rfl)) (by unfold Func.isWrapper;rw[if_neg (of_decide_eq_false (by kernel_rfl))];exact⟨rfl,rfl⟩)
  (fun os started H enc _=>realmParts.lifted os started H enc)
#print axioms realmParts_holds
end Go.Proofs.YthopjhifepijiaaGreat
