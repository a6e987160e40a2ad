/- 'RealmWalks': for every input the law returns true, and each argument reads behind the call as it read before. -/
import Derived.Test.YthopjhifepijiaaRows
import Derived.WalkKit
import Derived.ProofKit
import Derived.OpenShut
import Derived.ShutString
import Derived.SizedLaws
import Derived.Test.YthopjhifepijiaaJ20
import Derived.Test.YthopjhifepijiaaJ22
namespace Go.Proofs.Ythopjhifepijiaa.realmWalks
open Go.ChangeShapes Go.WideShapes Go.ChangeAt Go.RowKit
open Go.ChangeMaps (open_string)
set_option linter.unusedVariables false
theorem own:ownKnob Try.prog.godebug=none:=by kernel_rfl
theorem laidOut:laidOutB Try.prog=true:=by kernel_rfl
set_option maxRecDepth 100000 in
theorem lifted (os:Os) (started:os.Started) (H:Type) (enc:TypeId × Value→H):
  ReturnsInHanded {} Try.checked os 5 .any (Rows.realmWalksSpec.pre6 enc Try.prog Try.f5 Rows.realmWalksRow.domain false) (Rows.realmWalksSpec.post enc Try.prog Try.f5 false true false false):=by
 refine returnsInHanded_of_change_sized (C:=Try.checked) own started (by kernel_rfl) Try.func5
  (ChangeSpec.witness6 (enc:=enc) (C:=Try.checked) false ⟨#[], #[.agg #[.slice none 0 0, .slice none 0 0], .agg #[.int .i64 0, .int .i64 0], .agg #[.int .i64 0, .int .i64 0]],[]⟩ 8 (by kernel_rfl) (by kernel_rfl) (by kernel_rfl) (by kernel_rfl)) ?_
 intro W base args ds gs before hval0 hW _ hsz0 _
 have hsz:(DataW.weightsEach Try.prog (Try.f5.params.toList++Rows.realmWalksSpec.plain.varTypes Try.prog) (ds++gs)).all (· ≤reachBytes)=true:=hsz0
 clear hsz0
 have hval: ∀(j:Nat) t v,Try.f5.params[j]? =some t→args[j]? =some v→Value.okWide Try.prog W .any base t v:=hval0
 have hval': ∀(j:Nat) t v,Try.f5.params[j]? =some t→args[j]? =some v→Value.okWide Try.prog W .any 0 t v:=fun j t v h1 h2=>Value.okWide_any_base (hval0 j t v h1 h2)
 have hW':=hW
 obtain⟨p,q,hA0,hV,rfl,hfz,hnd⟩:=hW
 have hA:DataW.TrodAll enc Try.prog W 0 (fun _=>true) true Try.f5.params.toList args.toList ds p:=hA0
 rw[Try.params5] at hA hval hval' hsz
 have hA1:=hA
 have hlt: ∀x∈p,x.block<W.heap.size:=fun x hx=>hW'.lt x (by simp[hx])
 obtain⟨v0,vs0,d0,ds0,p0,q0,hargs,rfl,hp0,h0,r0⟩:=trodAll_cons hA
 obtain⟨v1,vs1,d1,ds1,p1,q1,rfl,rfl,hp1,h1,r1⟩:=trodAll_cons r0
 obtain⟨v2,vs2,d2,ds2,p2,q2,rfl,rfl,hp2,h2,r2⟩:=trodAll_cons r1
 obtain⟨rfl,rfl,hp3⟩:=trodAll_nil r2
 obtain rfl:args= #[v0,v1,v2]:=by cases args;simp_all
 obtain⟨rfl,rfl⟩:=trodVars_none hV
 obtain⟨va0,ea0,vn0,vc0,en0,ec0,pl0,rfl,F0⟩:=open_plan (hval' 0 25 v0 rfl rfl) h0
 obtain⟨z1,rfl,F1⟩:=open_point (hval' 1 51 v1 rfl rfl) h1
 obtain⟨z2,rfl,F2⟩:=open_point (hval' 2 51 v2 rfl rfl) h2
 refine(realmWalks_walk z1 z2 F0.vs F0.es (Nat.le_refl _) F0.cap F0.fit).mono fun e W' ⟨he,hg⟩=> ?_
 subst he
 exact⟨_,rfl,post_of_below (pa:=p) (pv:=[]) hW' (fun _ _ _=>(trodAll_cons_mk (shut_bool Try.underlying4 _) trodAll_mk0)) (fun sp hsp=>trodAll_keep laidOut hg _ _ _ _ (by kernel_rfl) hA1 hlt (fun x hx=>hsp x (by simp[hx]))) (fun _ _=>rfl) (by simp)
  hg (ok_one (by kernel_rfl) rfl (okWide_bool_mk Try.underlying4 _))⟩
end Go.Proofs.Ythopjhifepijiaa.realmWalks
namespace Go.Proofs.Ythopjhifepijiaa
open Go.ChangeShapes Go.WideShapes Go.ChangeAt Go.RowKit
theorem realmWalks_holds:Rows.RealmWalksSaid:=
 OpenClaim.holds_of_wide 5 Try.f5 rfl rfl rfl rfl rfl rfl rfl ⟨rfl,rfl,rfl,rfl,rfl⟩ rfl rfl rfl rfl rfl (by kernel_rfl) Try.func5 (by kernel_rfl)
  (of_decide_eq_true (by kernel_rfl)) (by unfold Func.isWrapper;rw[if_neg (of_decide_eq_false (by kernel_rfl))];exact⟨rfl,rfl⟩)
  (fun os started H enc _=>realmWalks.lifted os started H enc)
#print axioms realmWalks_holds
end Go.Proofs.Ythopjhifepijiaa
