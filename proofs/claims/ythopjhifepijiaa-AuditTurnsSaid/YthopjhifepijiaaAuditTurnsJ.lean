/- 'AuditTurns': for every input the law returns true, and each argument reads behind the call as it read before. -/
import Derived.Test.YthopjhifepijiaaRows
import Derived.WalkKit
import Derived.ProofKit
import Derived.OpenShut
import Derived.ShutString
import Derived.SizedLaws
import Derived.Test.YthopjhifepijiaaJ18
import Derived.Test.YthopjhifepijiaaJ19
namespace Go.Proofs.Ythopjhifepijiaa.auditTurns
open Go.ChangeShapes Go.WideShapes Go.ChangeAt Go.RowKit
open Go.ChangeMaps (open_string)
set_option linter.unusedVariables false
theorem own:ownKnob Try.prog.godebug=none:=by kernel_rfl
theorem laidOut:laidOutB Try.prog=true:=by kernel_rfl
theorem bd_int {x:Int} (h:(Lit.int .i64 x).wf=true): -9223372036854775808≤x∧x≤9223372036854775807:=by
 simp[Lit.wf,IntKind.min,IntKind.max,IntKind.signed,IntKind.bits] at h
 omega
theorem bd_u8 {x:Int} (h:(Lit.int .u8 x).wf=true):0≤x∧x≤255:=by
 simp[Lit.wf,IntKind.min,IntKind.max,IntKind.signed,IntKind.bits] at h
 omega
set_option maxRecDepth 100000 in
theorem lifted (os:Os) (started:os.Started) (H:Type) (enc:TypeId × Value→H):
  ReturnsInHanded {} Try.checked os 6 .any (Rows.auditTurnsSpec.pre6 enc Try.prog Try.f6 Rows.auditTurnsRow.domain false) (Rows.auditTurnsSpec.post enc Try.prog Try.f6 false true false false):=by
 refine returnsInHanded_of_change_sized (C:=Try.checked) own started (by kernel_rfl) Try.func6
  (ChangeSpec.witness6 (enc:=enc) (C:=Try.checked) false ⟨#[], #[.agg #[.slice none 0 0, .slice none 0 0], .int .u8 0, .int .i64 0, .int .i64 0],[]⟩ 8 (by kernel_rfl) (by kernel_rfl) (by kernel_rfl) (by kernel_rfl)) ?_
 intro W base args ds gs before hval0 hW _ hsz0 _
 have hsz:(DataW.weightsEach Try.prog (Try.f6.params.toList++Rows.auditTurnsSpec.plain.varTypes Try.prog) (ds++gs)).all (· ≤reachBytes)=true:=hsz0
 clear hsz0
 have hval: ∀(j:Nat) t v,Try.f6.params[j]? =some t→args[j]? =some v→Value.okWide Try.prog W .any base t v:=hval0
 have hval': ∀(j:Nat) t v,Try.f6.params[j]? =some t→args[j]? =some v→Value.okWide Try.prog W .any 0 t v:=fun j t v h1 h2=>Value.okWide_any_base (hval0 j t v h1 h2)
 have hW':=hW
 obtain⟨p,q,hA0,hV,rfl,hfz,hnd⟩:=hW
 have hA:DataW.TrodAll enc Try.prog W 0 (fun _=>true) true Try.f6.params.toList args.toList ds p:=hA0
 rw[Try.params6] at hA hval hval' hsz
 have hA1:=hA
 have hlt: ∀x∈p,x.block<W.heap.size:=fun x hx=>hW'.lt x (by simp[hx])
 obtain⟨v0,vs0,d0,ds0,p0,q0,hargs,rfl,hp0,h0,r0⟩:=trodAll_cons hA
 obtain⟨v1,vs1,d1,ds1,p1,q1,rfl,rfl,hp1,h1,r1⟩:=trodAll_cons r0
 obtain⟨v2,vs2,d2,ds2,p2,q2,rfl,rfl,hp2,h2,r2⟩:=trodAll_cons r1
 obtain⟨v3,vs3,d3,ds3,p3,q3,rfl,rfl,hp3,h3,r3⟩:=trodAll_cons r2
 obtain⟨rfl,rfl,hp4⟩:=trodAll_nil r3
 obtain rfl:args= #[v0,v1,v2,v3]:=by cases args;simp_all
 obtain⟨rfl,rfl⟩:=trodVars_none hV
 obtain⟨va0,ea0,vn0,vc0,en0,ec0,pl0,rfl,F0⟩:=open_plan (hval' 0 25 v0 rfl rfl) h0
 obtain⟨a1,rfl,_,_,w1⟩:=open_int Try.underlying5 (hval 1 5 v1 rfl rfl) h1
 have L1:=(bd_u8 w1).1
 have U1:=(bd_u8 w1).2
 obtain⟨a2,rfl,_,_,w2⟩:=open_int Try.underlying3 (hval 2 3 v2 rfl rfl) h2
 have L2:=(bd_int w2).1
 have U2:=(bd_int w2).2
 obtain⟨a3,rfl,_,_,w3⟩:=open_int Try.underlying3 (hval 3 3 v3 rfl rfl) h3
 have L3:=(bd_int w3).1
 have U3:=(bd_int w3).2
 refine(auditTurns_walk F0.vs F0.es (Nat.le_refl _) F0.cap F0.fit ⟨L1,U1⟩ ⟨L2,U2⟩ ⟨L3,U3⟩).mono fun e W' ⟨he,hg⟩=> ?_
 subst he
 exact⟨_,rfl,post_of_below (pa:=p) (pv:=[]) hW' (fun _ _ _=>(trodAll_cons_mk (shut_bool Try.underlying4 _) trodAll_mk0)) (fun sp hsp=>trodAll_keep laidOut hg _ _ _ _ (by kernel_rfl) hA1 hlt (fun x hx=>hsp x (by simp[hx]))) (fun _ _=>rfl) (by simp)
  hg (ok_one (by kernel_rfl) rfl (okWide_bool_mk Try.underlying4 _))⟩
end Go.Proofs.Ythopjhifepijiaa.auditTurns
namespace Go.Proofs.Ythopjhifepijiaa
open Go.ChangeShapes Go.WideShapes Go.ChangeAt Go.RowKit
theorem auditTurns_holds:Rows.AuditTurnsSaid:=
 OpenClaim.holds_of_wide 6 Try.f6 rfl rfl rfl rfl rfl rfl rfl ⟨rfl,rfl,rfl,rfl,rfl⟩ rfl rfl rfl rfl rfl (by kernel_rfl) Try.func6 (by kernel_rfl)
  (of_decide_eq_true (by kernel_rfl)) (by unfold Func.isWrapper;rw[if_neg (of_decide_eq_false (by kernel_rfl))];exact⟨rfl,rfl⟩)
  (fun os started H enc _=>auditTurns.lifted os started H enc)
#print axioms auditTurns_holds
end Go.Proofs.Ythopjhifepijiaa
