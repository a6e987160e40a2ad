/- 'RealmFinds': for every input the law returns true, and each argument reads behind the call as it read before. -/
import Derived.Test.YthopjhifepijiaaGreatRows
import Derived.WalkKit
import Derived.ProofKit
import Derived.OpenShut
import Derived.ShutString
import Derived.SizedLaws
import Derived.Test.YthopjhifepijiaaGreatJ20
import Derived.Test.YthopjhifepijiaaGreatJ21
namespace Go.Proofs.YthopjhifepijiaaGreat.realmFinds
open Go.ChangeShapes Go.WideShapes Go.ChangeAt Go.RowKit
open Go.ChangeMaps (open_string)
set_option linter.unusedVariables false
theorem own:ownKnob Tryz.prog.godebug=none:=by kernel_rfl
theorem laidOut:laidOutB Tryz.prog=true:=by kernel_rfl
set_option maxRecDepth 100000 in
theorem lifted (os:Os) (started:os.Started) (H:Type) (enc:TypeId × Value→H):
  ReturnsInHanded {} Tryz.checked os 4 .any (Rows.realmFindsSpec.pre6 enc Tryz.prog Tryz.f4 Rows.realmFindsRow.domain false) (Rows.realmFindsSpec.post enc Tryz.prog Tryz.f4 false true false false):=by
 refine returnsInHanded_of_change_sized (C:=Tryz.checked) own started (by kernel_rfl) Tryz.func4
  (ChangeSpec.witness6 (enc:=enc) (C:=Tryz.checked) false ⟨#[], #[.agg #[.slice none 0 0, .slice none 0 0], .agg #[.int .i64 0, .int .i64 0]],[]⟩ 8 (by kernel_rfl) (by kernel_rfl) (by kernel_rfl) (by kernel_rfl)) ?_
 intro W base args ds gs before hval0 hW _ hsz0 _
 have hsz:(DataW.weightsEach Tryz.prog (Tryz.f4.params.toList++Rows.realmFindsSpec.plain.varTypes Tryz.prog) (ds++gs)).all (· ≤reachBytes)=true:=hsz0
 clear hsz0
 have hval: ∀(j:Nat) t v,Tryz.f4.params[j]? =some t→args[j]? =some v→Value.okWide Tryz.prog W .any base t v:=hval0
 have hval': ∀(j:Nat) t v,Tryz.f4.params[j]? =some t→args[j]? =some v→Value.okWide Tryz.prog W .any 0 t v:=fun j t v h1 h2=>Value.okWide_any_base (hval0 j t v h1 h2)
 have hW':=hW
 obtain⟨p,q,hA0,hV,rfl,hfz,hnd⟩:=hW
 have hA:DataW.TrodAll enc Tryz.prog W 0 (fun _=>true) true Tryz.f4.params.toList args.toList ds p:=hA0
 rw[Tryz.params4] at hA hval hval' hsz
 have hA1:=hA
 have hlt: ∀x∈p,x.block<W.heap.size:=fun x hx=>hW'.lt x (by simp[hx])
 obtain⟨v0,vs0,d0,ds0,p0,q0,hargs,rfl,hp0,h0,r0⟩:=trodAll_cons hA
 obtain⟨v1,vs1,d1,ds1,p1,q1,rfl,rfl,hp1,h1,r1⟩:=trodAll_cons r0
 obtain⟨rfl,rfl,hp2⟩:=trodAll_nil r1
 obtain rfl:args= #[v0,v1]:=by cases args;simp_all
 obtain⟨rfl,rfl⟩:=trodVars_none hV
 obtain⟨va0,ea0,vn0,vc0,en0,ec0,pl0,rfl,F0⟩:=open_plan (hval' 0 25 v0 rfl rfl) h0
 obtain⟨z1,rfl,F1⟩:=open_point (hval' 1 42 v1 rfl rfl) h1
 refine(realmFinds_walk z1 F0.vs F0.es (Nat.le_refl _) F0.cap F0.fit).mono fun e W' ⟨he,hg⟩=> ?_
 subst he
 exact⟨_,rfl,post_of_below (pa:=p) (pv:=[]) hW' (fun _ _ _=>(trodAll_cons_mk (shut_bool Tryz.underlying4 _) trodAll_mk0)) (fun sp hsp=>trodAll_keep laidOut hg _ _ _ _ (by kernel_rfl) hA1 hlt (fun x hx=>hsp x (by simp[hx]))) (fun _ _=>rfl) (by simp)
  hg (ok_one (by kernel_rfl) rfl (okWide_bool_mk Tryz.underlying4 _))⟩
end Go.Proofs.YthopjhifepijiaaGreat.realmFinds
namespace Go.Proofs.YthopjhifepijiaaGreat
open Go.ChangeShapes Go.WideShapes Go.ChangeAt Go.RowKit
theorem realmFinds_holds:Rows.RealmFindsSaid:=
 OpenClaim.holds_of_wide 4 Tryz.f4 rfl rfl rfl rfl rfl rfl rfl ⟨rfl,rfl,rfl,rfl,rfl⟩ rfl rfl rfl rfl rfl (by kernel_rfl) Tryz.func4 (by kernel_rfl)
  (of_decide_eq_true (by kernel_rfl)) (by unfold Func.isWrapper;rw[if_neg (of_decide_eq_false (by kernel_rfl))];exact⟨rfl,rfl⟩)
  (fun os started H enc _=>realmFinds.lifted os started H enc)
#print axioms realmFinds_holds
end Go.Proofs.YthopjhifepijiaaGreat
