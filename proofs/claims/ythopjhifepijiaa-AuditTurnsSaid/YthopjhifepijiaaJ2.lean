/- Lemmas on the way to the statement. -/
import Derived.Test.YthopjhifepijiaaJ1
import Derived.Sort.Grow
import Derived.WalkLawsBesides
set_option linter.unusedSimpArgs false
set_option linter.unusedVariables false
namespace Go.Proofs.Ythopjhifepijiaa
open Go.RowKit
open Go.Maps (Keyed int_keyed)
theorem laid17:laidOutB Try.prog=true:=by kernel_rfl
theorem Try.keyInt:Keyed Try.prog 3:=int_keyed Try.underlying3
theorem Try.keyHalf:Keyed Try.prog 45:=Keyed.of_law (deep_law_laid laid17 (m:=2) (by omega) (of_decide_eq_true (by kernel_rfl)) (by kernel_rfl) (by kernel_rfl))
theorem Try.keyPoint:Keyed Try.prog 51:=Keyed.of_law (deep_law_laid laid17 (m:=2) (by omega) (of_decide_eq_true (by kernel_rfl)) (by kernel_rfl) (by kernel_rfl))
theorem Try.keyPair:Keyed Try.prog 79:=Keyed.of_law (deep_law_laid laid17 (m:=2) (by omega) (of_decide_eq_true (by kernel_rfl)) (by kernel_rfl) (by kernel_rfl))
theorem types_pos: ∃m,Try.prog.types.size=m+1:=⟨Try.prog.types.size - 1,by have:0<Try.prog.types.size:=of_decide_eq_true (by kernel_rfl);omega⟩
theorem cells_half:Try.prog.cellsOf 45=2:=by kernel_rfl
theorem cells_int:Try.prog.cellsOf 3=1:=by kernel_rfl
theorem cells_bool:Try.prog.cellsOf 4=1:=by kernel_rfl
theorem cells_pt:Try.prog.cellsOf 51=2:=by kernel_rfl
theorem cells_pair:Try.prog.cellsOf 79=2:=by kernel_rfl
theorem key_half (e:Int) (b:Bool) (he:(Lit.int .i64 e).wf=true):keyOf Try.prog 45 (.agg #[.int .i64 e, .bool b])=some (.string (keyBytes [.int .i64 e, .bool b])):=by
 have h1:Try.prog.keyType 45=true:=by kernel_rfl
 have h2:(Value.agg #[Value.int .i64 e, .bool b]).formed Try.prog 45=true:=by simp[Value.formed,Try.underlying45,cells_half]
 obtain⟨m,hm⟩:=types_pos
 unfold keyOf
 rw[Try.underlying45,h1,h2,hm]
 simp[Program.keyLits,Try.underlying45,Try.underlying3,Try.underlying4,Value.cells,cells_half,cells_int,cells_bool,he]
theorem key_point (x y:Int) (hx:(Lit.int .i64 x).wf=true) (hy:(Lit.int .i64 y).wf=true):keyOf Try.prog 51 (.agg #[.int .i64 x, .int .i64 y])=some (.string (keyBytes [.int .i64 x, .int .i64 y])):=by
 have h1:Try.prog.keyType 51=true:=by kernel_rfl
 have h2:(Value.agg #[Value.int .i64 x, .int .i64 y]).formed Try.prog 51=true:=by simp[Value.formed,Try.underlying51,cells_pt]
 obtain⟨m,hm⟩:=types_pos
 unfold keyOf
 rw[Try.underlying51,h1,h2,hm]
 simp[Program.keyLits,Try.underlying51,Try.underlying3,Value.cells,cells_pt,cells_int,hx,hy]
theorem key_pair (x y:Int) (hx:(Lit.int .i64 x).wf=true) (hy:(Lit.int .i64 y).wf=true):keyOf Try.prog 79 (.agg #[.int .i64 x, .int .i64 y])=some (.string (keyBytes [.int .i64 x, .int .i64 y])):=by
 have h1:Try.prog.keyType 79=true:=by kernel_rfl
 have h2:(Value.agg #[Value.int .i64 x, .int .i64 y]).formed Try.prog 79=true:=by simp[Value.formed,Try.underlying79,cells_pair]
 obtain⟨m,hm⟩:=types_pos
 unfold keyOf
 rw[Try.underlying79,h1,h2,hm]
 simp[Program.keyLits,Try.underlying79,Try.underlying3,Value.cells,cells_pair,cells_int,hx,hy,List.range_succ,List.range_zero]
theorem key_int (x:Int) (hx:(Lit.int .i64 x).wf=true):keyOf Try.prog 3 (.int .i64 x)=some (.int .i64 x):=Go.Maps.keyOf_int_mk Try.underlying3 hx
end Go.Proofs.Ythopjhifepijiaa
namespace Go.Proofs.Ythopjhifepijiaa
open Go.RowKit
def VsIn (w:World) (B:Nat) (a:Option Addr) (n:Nat) (l:List Vx):Prop:=n=l.length∧(n=0∨ ∃b off,a=some ⟨b,off,none⟩∧b<B∧ ∀(i:Nat) (v:Vx),l[i]? =some v→
 w.cell? ⟨b,off+i*3,none⟩=some (.int .i64 v.id)∧w.cell? ⟨b,off+i*3+1,none⟩=some (.int .i64 v.at_.x)∧w.cell? ⟨b,off+i*3+1+1,none⟩=some (.int .i64 v.at_.y))
def EsIn (w:World) (B:Nat) (a:Option Addr) (n:Nat) (l:List Ed):Prop:=n=l.length∧(n=0∨ ∃b off,a=some ⟨b,off,none⟩∧b<B∧ ∀(i:Nat) (v:Ed),l[i]? =some v→
 w.cell? ⟨b,off+i*3,none⟩=some (.int .i64 v.id)∧w.cell? ⟨b,off+i*3+1,none⟩=some (.int .i64 v.a)∧w.cell? ⟨b,off+i*3+1+1,none⟩=some (.int .i64 v.b))
theorem VsIn.below {w w':World} {B:Nat} {a:Option Addr} {n:Nat} {l:List Vx} (h:VsIn w B a n l) (hb:Below B w w'):VsIn w' B a n l:=by
 obtain⟨h1,h2|⟨b,off,ha,hlt,hc⟩⟩:=h
 ·exact⟨h1, .inl h2⟩
 ·exact⟨h1, .inr ⟨b,off,ha,hlt,fun i v hv=>⟨(hb.cell (p:=⟨b,_,none⟩) hlt).trans (hc i v hv).1,(hb.cell (p:=⟨b,_,none⟩) hlt).trans (hc i v hv).2.1,(hb.cell (p:=⟨b,_,none⟩) hlt).trans (hc i v hv).2.2⟩⟩⟩
theorem EsIn.below {w w':World} {B:Nat} {a:Option Addr} {n:Nat} {l:List Ed} (h:EsIn w B a n l) (hb:Below B w w'):EsIn w' B a n l:=by
 obtain⟨h1,h2|⟨b,off,ha,hlt,hc⟩⟩:=h
 ·exact⟨h1, .inl h2⟩
 ·exact⟨h1, .inr ⟨b,off,ha,hlt,fun i v hv=>⟨(hb.cell (p:=⟨b,_,none⟩) hlt).trans (hc i v hv).1,(hb.cell (p:=⟨b,_,none⟩) hlt).trans (hc i v hv).2.1,(hb.cell (p:=⟨b,_,none⟩) hlt).trans (hc i v hv).2.2⟩⟩⟩
theorem VsIn.at_ {w:World} {B:Nat} {a:Option Addr} {n:Nat} {l:List Vx} (h:VsIn w B a n l) {k:Nat} (hk:k<n): ∃b off v,a=some ⟨b,off,none⟩∧b<B∧l[k]? =some v∧
  w.cell? ⟨b,off+k*3,none⟩=some (.int .i64 v.id)∧w.cell? ⟨b,off+k*3+1,none⟩=some (.int .i64 v.at_.x)∧w.cell? ⟨b,off+k*3+1+1,none⟩=some (.int .i64 v.at_.y):=by
 obtain⟨h1,h2|⟨b,off,ha,hlt,hc⟩⟩:=h
 ·omega
 ·have hv:=List.getElem?_eq_getElem (l:=l) (i:=k) (by omega)
  exact⟨b,off,_,ha,hlt,hv,hc k _ hv⟩
theorem EsIn.at_ {w:World} {B:Nat} {a:Option Addr} {n:Nat} {l:List Ed} (h:EsIn w B a n l) {k:Nat} (hk:k<n): ∃b off v,a=some ⟨b,off,none⟩∧b<B∧l[k]? =some v∧
  w.cell? ⟨b,off+k*3,none⟩=some (.int .i64 v.id)∧w.cell? ⟨b,off+k*3+1,none⟩=some (.int .i64 v.a)∧w.cell? ⟨b,off+k*3+1+1,none⟩=some (.int .i64 v.b):=by
 obtain⟨h1,h2|⟨b,off,ha,hlt,hc⟩⟩:=h
 ·omega
 ·have hv:=List.getElem?_eq_getElem (l:=l) (i:=k) (by omega)
  exact⟨b,off,_,ha,hlt,hv,hc k _ hv⟩
theorem EsIn.take {w:World} {B:Nat} {a:Option Addr} {n:Nat} {l:List Ed} (h:EsIn w B a n l) {k:Nat} (hk:k≤n):EsIn w B a k (l.take k):=by
 obtain⟨h1,h2|⟨b,off,ha,hlt,hc⟩⟩:=h
 ·exact⟨by rw[List.length_take];omega, .inl (by omega)⟩
 ·refine⟨by rw[List.length_take];omega, .inr ⟨b,off,ha,hlt,fun i v hv=>hc i v ?_⟩⟩
  have:=(List.getElem?_eq_some_iff.1 hv).1
  rw[List.length_take] at this
  rwa [List.getElem?_take_of_lt (by omega)] at hv
set_option maxRecDepth 100000 in
theorem pends_any (e:Ed) (w:World):Calls Try.prog 40 #[.agg #[.int .i64 e.id, .int .i64 e.a, .int .i64 e.b]] w fun x w'=>x= .returned (.agg #[.int .i64 (ends e).1, .int .i64 (ends e).2])∧Below w.heap.size w w':=by
 obtain⟨lo,hi,hlo,hhi,hc⟩: ∃lo hi,(ends e).1=lo∧(ends e).2=hi∧((e.a<e.b∧lo=e.a∧hi=e.b)∨(e.b<e.a∧lo=e.b∧hi=e.a)∨(e.a=e.b∧lo=e.a∧hi=e.a)):=by
  unfold ends
  refine⟨_,_,rfl,rfl, ?_⟩
  simp only
  rcases Int.lt_trichotomy e.a e.b with h|h|h
  ·exact .inl ⟨h,by omega,by omega⟩
  ·refine .inr (.inr ⟨h, ?_, ?_⟩)<;>(rw[h];simp)
  ·exact .inr (.inl ⟨h,by omega,by omega⟩)
 rw[hlo,hhi]
 clear hlo hhi
 obtain⟨id,a,b⟩:=e
 simp only at hc ⊢
 rcases hc with ⟨h,rfl,rfl⟩|⟨h,rfl,rfl⟩|⟨rfl,rfl,rfl⟩
 all_goals
  go_enter Try.func40,Try.ntmps40
  go_wp2_with fail
 ·exact bodyPost_ret (v:= .agg #[.int .i64 lo, .int .i64 hi]) (by simp[results,Try.results40,go_sem]<;>omega) rfl ⟨rfl,below_alloc (below_alloc (Below.refl _ _))⟩
 ·exact bodyPost_ret (v:= .agg #[.int .i64 lo, .int .i64 hi]) (by simp[results,Try.results40,go_sem]<;>omega) rfl ⟨rfl,below_alloc (below_alloc (Below.refl _ _))⟩
 ·exact bodyPost_ret (v:= .agg #[.int .i64 hi, .int .i64 hi]) (by simp[results,Try.results40,go_sem]<;>omega) rfl ⟨rfl,below_alloc (below_alloc (Below.refl _ _))⟩
set_option maxRecDepth 100000 in
set_option maxHeartbeats 2000000 in
theorem onWay_any {w:World} {B vn vc:Nat} {va:Option Addr} {vs:List Vx} (hv:VsIn w B va vn vs) (hB:B≤w.heap.size) (hn:vn≤100000) (es:Value) (hes: ∃a n c,es= .slice a n c) (a b:Pt):
  Calls Try.prog 41 #[.agg #[.slice va vn vc,es], .agg #[.int .i64 a.x, .int .i64 a.y], .agg #[.int .i64 b.x, .int .i64 b.y]] w fun e w'=>e= .returned (.bool (vs.any fun v=>onB v.at_ a b))∧Below w.heap.size w w':=by
 obtain⟨ea,en,ec,rfl⟩:=hes
 have HV:=Lib.hid hv
 clear hv
 go_enter Try.func41,Try.ntmps41
 go_wp2_with fail
 first|refine wp_name (fun W hW=> ?_)|refine calls_name (fun W hW=> ?_)
 have HW:Hid (Below w.heap.size w W):=Lib.hid (by rw[←hW];repeat (first|exact Below.refl _ _|refine below_alloc ?_))
 have HWs:Hid (W.heap.size=w.heap.size+1+1+1):=Lib.hid (by rw[←hW];simp)
 have HBW:Hid (W.heap.size≤W.heap.size):=Lib.hid (by have:=HWs.out;omega)
 have HC:=fun(W1:World) (hb:Below (W.heap.size) W W1)=>Lib.hid (show W1.cell? ⟨w.heap.size,0,none⟩=some (.slice va vn vc)∧W1.cell? ⟨w.heap.size,1,none⟩=some (.slice ea en ec)∧W1.cell? ⟨w.heap.size+1,0,none⟩=some (.int .i64 a.x)∧W1.cell? ⟨w.heap.size+1,1,none⟩=some (.int .i64 a.y)∧W1.cell? ⟨w.heap.size+1+1,0,none⟩=some (.int .i64 b.x)∧W1.cell? ⟨w.heap.size+1+1,1,none⟩=some (.int .i64 b.y) from by have hs:=HWs.out;refine⟨?_, ?_, ?_, ?_, ?_, ?_⟩<;>(refine(hb.cell (by dsimp only;omega)).trans ?_;rw[←hW];clear hW;go_simp))
 have HB:=Lib.hid (Below.refl (W.heap.size) W)
 clear hW
 have HZ:=fun(W1:World) (hb:W.heap.size≤W1.heap.size)=>Lib.hid (show w.heap.size<W1.heap.size∧w.heap.size+1<W1.heap.size∧w.heap.size+1+1<W1.heap.size from by have:=HWs.out;refine⟨?_, ?_, ?_⟩<;>omega)
 obtain⟨qx0,qx1,qx2,qx3,qx4,qx5⟩:=(HC _ HB.out).out
 obtain⟨rx0,rx1,rx2⟩:=(HZ _ HB.out.size).out
 clear qx0 qx1 qx2 qx3 qx4 qx5 rx0 rx1 rx2
 go_loopw [12] (fun v wr=> ∃k:Nat,k≤vn∧v= .int .i64 k∧(∀(j:Nat) (u:Vx),j<k→vs[j]? =some u→onB u.at_ a b=false)∧Below W.heap.size W wr) (fun v _=>vn - (intOf v).toNat)
 case atStart=>exact⟨0,Nat.zero_le _,rfl,fun j u hj=>absurd hj (by omega),HB.out⟩
 case round=>
  obtain⟨k,hk,rfl,hall,hb⟩:=hrel
  have HB:=Lib.hid hb
  have HA:=Lib.hid hall
  clear hb hall
  obtain⟨qx0,qx1,qx2,qx3,qx4,qx5⟩:=(HC _ HB.out).out
  obtain⟨rx0,rx1,rx2⟩:=(HZ _ HB.out.size).out
  by_cases hlt:k<vn
  ·obtain⟨vb,off,v,rfl,hvb,hv,e0,e1,e2⟩:=(HV.out.below (args_below HW.out HB.out hB (by have:=HWs.out;omega))).at_ hlt
   have HVK:=Lib.hid hv
   have HON:=fun w=>Lib.hid (on_any v.at_ a b w)
   have hov:=HON w
   clear hv hov
   cases hon:onB v.at_ a b
   ·rw[hon] at HON
    go_wp2_with fail
    refine((HON _).out).mono ?_
    rintro e w3 ⟨rfl,hb3⟩
    have HB:=bnx HB HBW hb3
    clear qx0 qx1 qx2 qx3 qx4 qx5 rx0 rx1 rx2
    obtain⟨qx0,qx1,qx2,qx3,qx4,qx5⟩:=(HC _ HB.out).out
    clear hb3
    obtain⟨rx0,rx1,rx2⟩:=(HZ _ HB.out.size).out
    go_wp2_with fail
    go_roundw
    case rel=>
     refine⟨k+1,by omega,by go_num,fun j u hj hu=> ?_,HB.out⟩
     by_cases e:j=k
     ·subst e;rw[HVK.out] at hu;cases hu;exact hon
     ·exact HA.out j u (by omega) hu
    case measure=>simp[intOf];omega
   ·rw[hon] at HON
    have F:=Lib.hid (show(vs.any fun v=>onB v.at_ a b)=true from List.any_eq_true.2 ⟨v,List.mem_of_getElem? HVK.out,hon⟩)
    clear hon
    go_wp2_with fail
    refine((HON _).out).mono ?_
    rintro e w4 ⟨rfl,hb4⟩
    have HB:=bnx HB HBW hb4
    clear qx0 qx1 qx2 qx3 qx4 qx5 rx0 rx1 rx2
    obtain⟨qx0,qx1,qx2,qx3,qx4,qx5⟩:=(HC _ HB.out).out
    clear hb4
    obtain⟨rx0,rx1,rx2⟩:=(HZ _ HB.out.size).out
    go_wp2_with fail
    go_ret
    exact⟨by rw[F.out];rfl,bfn HW HB⟩
  ·obtain rfl:k=vn:=by omega
   have F:=Lib.hid (show(vs.any fun v=>onB v.at_ a b)=false by
    rw[List.any_eq_false]
    intro v hv
    obtain⟨j,hj⟩:=List.mem_iff_getElem?.1 hv
    rw[HA.out j v (by have:=(List.getElem?_eq_some_iff.1 hj).1;have:=HV.out.1;omega) hj]
    decide)
   go_wp2_with fail
   go_ret
   exact⟨by rw[F.out];rfl,bfn HW HB⟩
end Go.Proofs.Ythopjhifepijiaa
namespace Go.Proofs.Ythopjhifepijiaa
open Go.RowKit
structure FR where
 id:Int
 at_:Int
deriving DecidableEq
def VRIn (w:World) (B:Nat) (a:Option Addr) (n:Nat) (l:List VR):Prop:=n=l.length∧(n=0∨ ∃b off,a=some ⟨b,off,none⟩∧b<B∧ ∀(i:Nat) (v:VR),l[i]? =some v→
 w.cell? ⟨b,off+i*4,none⟩=some (.int .i64 v.id)∧w.cell? ⟨b,off+i*4+1,none⟩=some (.int .i64 v.x)∧w.cell? ⟨b,off+i*4+1+1,none⟩=some (.int .i64 v.y)∧w.cell? ⟨b,off+i*4+1+1+1,none⟩=some (.int .i64 v.f))
theorem VRIn.below {w w':World} {B:Nat} {a:Option Addr} {n:Nat} {l:List VR} (h:VRIn w B a n l) (hb:Below B w w'):VRIn w' B a n l:=by
 obtain⟨h1,h2|⟨b,off,ha,hlt,hc⟩⟩:=h
 ·exact⟨h1, .inl h2⟩
 ·exact⟨h1, .inr ⟨b,off,ha,hlt,fun i v hv=>⟨(hb.cell (p:=⟨b,_,none⟩) hlt).trans (hc i v hv).1,(hb.cell (p:=⟨b,_,none⟩) hlt).trans (hc i v hv).2.1,(hb.cell (p:=⟨b,_,none⟩) hlt).trans (hc i v hv).2.2.1,(hb.cell (p:=⟨b,_,none⟩) hlt).trans (hc i v hv).2.2.2⟩⟩⟩
theorem VRIn.mono {w:World} {B B':Nat} {a:Option Addr} {n:Nat} {l:List VR} (h:VRIn w B a n l) (hb:B≤B'):VRIn w B' a n l:=by
 obtain⟨h1,h2|⟨b,off,ha,hlt,hc⟩⟩:=h
 ·exact⟨h1, .inl h2⟩
 ·exact⟨h1, .inr ⟨b,off,ha,by omega,hc⟩⟩
theorem VRIn.at_ {w:World} {B:Nat} {a:Option Addr} {n:Nat} {l:List VR} (h:VRIn w B a n l) {k:Nat} (hk:k<n): ∃b off v,a=some ⟨b,off,none⟩∧b<B∧l[k]? =some v∧
  w.cell? ⟨b,off+k*4,none⟩=some (.int .i64 v.id)∧w.cell? ⟨b,off+k*4+1,none⟩=some (.int .i64 v.x)∧w.cell? ⟨b,off+k*4+1+1,none⟩=some (.int .i64 v.y)∧w.cell? ⟨b,off+k*4+1+1+1,none⟩=some (.int .i64 v.f):=by
 obtain⟨h1,h2|⟨b,off,ha,hlt,hc⟩⟩:=h
 ·omega
 ·have hv:=List.getElem?_eq_getElem (l:=l) (i:=k) (by omega)
  exact⟨b,off,_,ha,hlt,hv,hc k _ hv⟩
def ERIn (w:World) (B:Nat) (a:Option Addr) (n:Nat) (l:List ER):Prop:=n=l.length∧(n=0∨ ∃b off,a=some ⟨b,off,none⟩∧b<B∧ ∀(i:Nat) (v:ER),l[i]? =some v→
 w.cell? ⟨b,off+i*13,none⟩=some (.int .i64 v.id)∧w.cell? ⟨b,off+i*13+1,none⟩=some (.int .i64 v.a)∧w.cell? ⟨b,off+i*13+1+1,none⟩=some (.int .i64 v.b)∧w.cell? ⟨b,off+i*13+1+1+1,none⟩=some (.int .i64 v.n0)∧w.cell? ⟨b,off+i*13+1+1+1+1,none⟩=some (.bool v.m0)∧w.cell? ⟨b,off+i*13+1+1+1+1+1,none⟩=some (.int .i64 v.n1)∧w.cell? ⟨b,off+i*13+1+1+1+1+1+1,none⟩=some (.bool v.m1)∧w.cell? ⟨b,off+i*13+1+1+1+1+1+1+1,none⟩=some (.int .i64 v.p0)∧w.cell? ⟨b,off+i*13+1+1+1+1+1+1+1+1,none⟩=some (.bool v.q0)∧w.cell? ⟨b,off+i*13+1+1+1+1+1+1+1+1+1,none⟩=some (.int .i64 v.p1)∧w.cell? ⟨b,off+i*13+1+1+1+1+1+1+1+1+1+1,none⟩=some (.bool v.q1)∧w.cell? ⟨b,off+i*13+1+1+1+1+1+1+1+1+1+1+1,none⟩=some (.int .i64 v.f0)∧w.cell? ⟨b,off+i*13+1+1+1+1+1+1+1+1+1+1+1+1,none⟩=some (.int .i64 v.f1))
theorem ERIn.below {w w':World} {B:Nat} {a:Option Addr} {n:Nat} {l:List ER} (h:ERIn w B a n l) (hb:Below B w w'):ERIn w' B a n l:=by
 obtain⟨h1,h2|⟨b,off,ha,hlt,hc⟩⟩:=h
 ·exact⟨h1, .inl h2⟩
 ·exact⟨h1, .inr ⟨b,off,ha,hlt,fun i v hv=>⟨(hb.cell (p:=⟨b,_,none⟩) hlt).trans (hc i v hv).1,(hb.cell (p:=⟨b,_,none⟩) hlt).trans (hc i v hv).2.1,(hb.cell (p:=⟨b,_,none⟩) hlt).trans (hc i v hv).2.2.1,(hb.cell (p:=⟨b,_,none⟩) hlt).trans (hc i v hv).2.2.2.1,(hb.cell (p:=⟨b,_,none⟩) hlt).trans (hc i v hv).2.2.2.2.1,(hb.cell (p:=⟨b,_,none⟩) hlt).trans (hc i v hv).2.2.2.2.2.1,(hb.cell (p:=⟨b,_,none⟩) hlt).trans (hc i v hv).2.2.2.2.2.2.1,(hb.cell (p:=⟨b,_,none⟩) hlt).trans (hc i v hv).2.2.2.2.2.2.2.1,(hb.cell (p:=⟨b,_,none⟩) hlt).trans (hc i v hv).2.2.2.2.2.2.2.2.1,(hb.cell (p:=⟨b,_,none⟩) hlt).trans (hc i v hv).2.2.2.2.2.2.2.2.2.1,(hb.cell (p:=⟨b,_,none⟩) hlt).trans (hc i v hv).2.2.2.2.2.2.2.2.2.2.1,(hb.cell (p:=⟨b,_,none⟩) hlt).trans (hc i v hv).2.2.2.2.2.2.2.2.2.2.2.1,(hb.cell (p:=⟨b,_,none⟩) hlt).trans (hc i v hv).2.2.2.2.2.2.2.2.2.2.2.2⟩⟩⟩
theorem ERIn.mono {w:World} {B B':Nat} {a:Option Addr} {n:Nat} {l:List ER} (h:ERIn w B a n l) (hb:B≤B'):ERIn w B' a n l:=by
 obtain⟨h1,h2|⟨b,off,ha,hlt,hc⟩⟩:=h
 ·exact⟨h1, .inl h2⟩
 ·exact⟨h1, .inr ⟨b,off,ha,by omega,hc⟩⟩
theorem ERIn.at_ {w:World} {B:Nat} {a:Option Addr} {n:Nat} {l:List ER} (h:ERIn w B a n l) {k:Nat} (hk:k<n): ∃b off v,a=some ⟨b,off,none⟩∧b<B∧l[k]? =some v∧
  w.cell? ⟨b,off+k*13,none⟩=some (.int .i64 v.id)∧w.cell? ⟨b,off+k*13+1,none⟩=some (.int .i64 v.a)∧w.cell? ⟨b,off+k*13+1+1,none⟩=some (.int .i64 v.b)∧w.cell? ⟨b,off+k*13+1+1+1,none⟩=some (.int .i64 v.n0)∧w.cell? ⟨b,off+k*13+1+1+1+1,none⟩=some (.bool v.m0)∧w.cell? ⟨b,off+k*13+1+1+1+1+1,none⟩=some (.int .i64 v.n1)∧w.cell? ⟨b,off+k*13+1+1+1+1+1+1,none⟩=some (.bool v.m1)∧w.cell? ⟨b,off+k*13+1+1+1+1+1+1+1,none⟩=some (.int .i64 v.p0)∧w.cell? ⟨b,off+k*13+1+1+1+1+1+1+1+1,none⟩=some (.bool v.q0)∧w.cell? ⟨b,off+k*13+1+1+1+1+1+1+1+1+1,none⟩=some (.int .i64 v.p1)∧w.cell? ⟨b,off+k*13+1+1+1+1+1+1+1+1+1+1,none⟩=some (.bool v.q1)∧w.cell? ⟨b,off+k*13+1+1+1+1+1+1+1+1+1+1+1,none⟩=some (.int .i64 v.f0)∧w.cell? ⟨b,off+k*13+1+1+1+1+1+1+1+1+1+1+1+1,none⟩=some (.int .i64 v.f1):=by
 obtain⟨h1,h2|⟨b,off,ha,hlt,hc⟩⟩:=h
 ·omega
 ·have hv:=List.getElem?_eq_getElem (l:=l) (i:=k) (by omega)
  exact⟨b,off,_,ha,hlt,hv,hc k _ hv⟩
def FRIn (w:World) (B:Nat) (a:Option Addr) (n:Nat) (l:List FR):Prop:=n=l.length∧(n=0∨ ∃b off,a=some ⟨b,off,none⟩∧b<B∧ ∀(i:Nat) (v:FR),l[i]? =some v→
 w.cell? ⟨b,off+i*2,none⟩=some (.int .i64 v.id)∧w.cell? ⟨b,off+i*2+1,none⟩=some (.int .i64 v.at_))
theorem FRIn.below {w w':World} {B:Nat} {a:Option Addr} {n:Nat} {l:List FR} (h:FRIn w B a n l) (hb:Below B w w'):FRIn w' B a n l:=by
 obtain⟨h1,h2|⟨b,off,ha,hlt,hc⟩⟩:=h
 ·exact⟨h1, .inl h2⟩
 ·exact⟨h1, .inr ⟨b,off,ha,hlt,fun i v hv=>⟨(hb.cell (p:=⟨b,_,none⟩) hlt).trans (hc i v hv).1,(hb.cell (p:=⟨b,_,none⟩) hlt).trans (hc i v hv).2⟩⟩⟩
theorem FRIn.mono {w:World} {B B':Nat} {a:Option Addr} {n:Nat} {l:List FR} (h:FRIn w B a n l) (hb:B≤B'):FRIn w B' a n l:=by
 obtain⟨h1,h2|⟨b,off,ha,hlt,hc⟩⟩:=h
 ·exact⟨h1, .inl h2⟩
 ·exact⟨h1, .inr ⟨b,off,ha,by omega,hc⟩⟩
theorem FRIn.at_ {w:World} {B:Nat} {a:Option Addr} {n:Nat} {l:List FR} (h:FRIn w B a n l) {k:Nat} (hk:k<n): ∃b off v,a=some ⟨b,off,none⟩∧b<B∧l[k]? =some v∧
  w.cell? ⟨b,off+k*2,none⟩=some (.int .i64 v.id)∧w.cell? ⟨b,off+k*2+1,none⟩=some (.int .i64 v.at_):=by
 obtain⟨h1,h2|⟨b,off,ha,hlt,hc⟩⟩:=h
 ·omega
 ·have hv:=List.getElem?_eq_getElem (l:=l) (i:=k) (by omega)
  exact⟨b,off,_,ha,hlt,hv,hc k _ hv⟩
end Go.Proofs.Ythopjhifepijiaa
namespace Go.Proofs.Ythopjhifepijiaa.D
open Go.RowKit
structure Below (B:Nat) (w w':World):Prop where
 b:Go.RowKit.Below B w w'
 drawn:w.drawn≤w'.drawn
theorem Below.refl (B:Nat) (w:World):Below B w w:=⟨Go.RowKit.Below.refl _ _,Nat.le_refl _⟩
theorem Below.trans {B:Nat} {a b c:World} (h:Below B a b) (k:Below B b c):Below B a c:=⟨h.b.trans k.b,Nat.le_trans h.drawn k.drawn⟩
theorem Below.mono {B B':Nat} {w w':World} (h:Below B w w') (hB:B'≤B):Below B' w w':=⟨h.b.mono hB,h.drawn⟩
theorem Below.drew {B:Nat} {a w:World} (h:Below B a w):Below B a w.drew:=⟨h.b.drew,Nat.le_succ_of_le h.drawn⟩
theorem Below.alloc {B:Nat} {a w:World} (h:Below B a w) (hB:B≤w.heap.size) (o:Obj):Below B a (w.alloc o):=⟨h.b.alloc hB o,h.drawn⟩
theorem Below.setCell {B:Nat} {a w:World} (h:Below B a w) {p:Addr} (hp:B≤p.block) (u:Value):Below B a (w.setCell p u):=⟨h.b.setCell hp u,h.drawn⟩
theorem Below.size {B:Nat} {w w':World} (h:Below B w w'):w.heap.size≤w'.heap.size:=h.b.size
theorem Below.cell {B:Nat} {w w':World} (h:Below B w w') {p:Addr} (hp:p.block<B):w'.cell? p=w.cell? p:=h.b.cell hp
theorem Below.frozen {B:Nat} {w w':World} (h:Below B w w') {p:Addr} (hp:p.block<B):w'.frozen? p=w.frozen? p:=h.b.frozen hp
theorem Below.grows {w w':World} (h:Below w.heap.size w w'): ∃q os,w'=Sort.grow (w.drewN q) os:=by
 refine⟨w'.drawn - w.drawn,w'.heap.extract w.heap.size w'.heap.size, ?_⟩
 obtain⟨⟨h1,h2,h3,h4,h5⟩,h6⟩:=h
 obtain⟨hp,tp,dr,os,ou⟩:=w
 obtain⟨hp',tp',dr',os',ou'⟩:=w'
 simp only[World.drewN,Sort.grow] at*
 subst h1 h2 h3
 have e1:dr+(dr' - dr)=dr':=by omega
 have e2:hp++hp'.extract hp.size hp'.size=hp':=by
  apply Array.ext_getElem?
  intro i
  by_cases hi:i<hp.size
  ·rw[Array.getElem?_append_left hi,h5 i hi]
  ·rw[Array.getElem?_append_right (by omega),Array.getElem?_extract]
   split
   ·congr 1;omega
   ·rw[Array.getElem?_eq_none (by omega)]
 rw[e1,e2]
section
variable {P:Program}
theorem below_next {B:Nat} {a b c:World} (h:Below B a b) (hB:B≤b.heap.size) (k:Below b.heap.size b c):Below B a c:=h.trans (k.mono hB)
theorem below_step {a b c:World} (k:Below b.heap.size b c) (h:Below a.heap.size a b):Below a.heap.size a c:=h.trans (k.mono h.size)
theorem below_alloc {a b:World} {o:Obj} (h:Below a.heap.size a b):Below a.heap.size a (b.alloc o):=h.alloc h.size o
def Later (w:World):= { w':World // Below w.heap.size w w' }
instance laterSome (w:World):Nonempty (Later w):=⟨⟨w,Below.refl _ _⟩⟩
theorem Later.cell {w:World} (x:Later w) {b o:Nat} (h:b<w.heap.size):x.1.cell? ⟨b,o,none⟩=w.cell? ⟨b,o,none⟩:=x.2.cell (p:=⟨b,o,none⟩) h
theorem Later.frozen {w:World} (x:Later w) {b o:Nat} (h:b<w.heap.size):x.1.frozen? ⟨b,o,none⟩=w.frozen? ⟨b,o,none⟩:=x.2.frozen (p:=⟨b,o,none⟩) h
theorem Later.self (w:World): ∃x:Later w, { w with drawn:=w.drawn+1 }=x.1:=⟨⟨w.drew,(Below.refl _ _).drew⟩,rfl⟩
theorem Later.call {f:FuncId} {args:Array Value} {w:World} {x:Later w} {v:Value} (h:Calls P f args x.1 fun e w'=>e= .returned v∧Below x.1.heap.size x.1 w'):
  Calls P f args x.1 fun e w'=>e= .returned v∧ ∃y:Later w,w'=y.1:=h.mono fun e w' ⟨he,hb⟩=>⟨he,⟨w',x.2.trans (hb.mono x.2.size)⟩,rfl⟩
theorem wp_region_later {id:Nat} {Q:Exit→Act→World→Prop} {a:Act} {w:World} {l:List Oper} (hm:P.follows .mixedOrders=true) (hB:Region.lexB .any l.toArray=true)
  (h:wpQuiet P l.toArray (fun w'=> ∃x:Later w,w'=x.1) (fun a'=> ∀w',(∃x:Later w,w'=x.1)→Q .normal a' w') l a):(Code.region id l.toArray true).wp P Q a w:=
 wp_region_quiet (C:=fun w'=> ∃x:Later w,w'=x.1) hm hB (Later.self w) (by simpa using h)
end
theorem box_end {w W W':World} (hb:Below W.heap.size W W') (h:Below w.heap.size w W):Below w.heap.size w W':=below_step hb h
theorem in_of {B B2:Nat} {W wr W2 W1:World} (h:Below B W wr) (h2:Below wr.heap.size wr W2) (h3:Below B2 W2 W1) (s1:B≤wr.heap.size) (s2:B≤B2):Below B W W1:=(h.trans (h2.mono s1)).trans (h3.mono s2)
theorem later_below {w w':World} (h: ∃x:Later w,w'=x.1):Below w.heap.size w w':=h.elim fun x e=>e▸x.2
theorem args_below {B B0:Nat} {w W W1:World} (hW:Below w.heap.size w W) (hb:Below B0 W W1) (h1:B≤w.heap.size) (h2:w.heap.size≤B0):Below B w W1:=(hW.mono h1).trans (hb.mono (Nat.le_trans h1 h2))
theorem bnx {a:Nat} {W w1 w2 w3:World} (h:Hid (Below a W w1)) (s:Hid (a≤W.heap.size)) (hb:Below w2.heap.size w2 w3) (k:Below w1.heap.size w1 w2:=by repeat (first|exact Below.refl _ _|refine below_alloc ?_)):Hid (Below a W w3):=
 below_next (below_next h (Nat.le_trans s h.size) k) (Nat.le_trans (Nat.le_trans s h.size) k.size) hb
theorem bnm {a:Nat} {W w1 w2 w3:World} (h:Hid (Below a W w1)) (s:Hid (a≤W.heap.size)) (e:w2=w3) (k:Below w1.heap.size w1 w2:=by repeat (first|exact Below.refl _ _|refine below_alloc ?_)):Hid (Below a W w3):=
 e▸below_next h (Nat.le_trans s h.size) k
theorem bnl {a:Nat} {W w1 w2:World} (h:Hid (Below a W w1)) (s:Hid (a≤W.heap.size)) (hb:Below w1.heap.size w1 w2):Below a W w2:=below_next h (Nat.le_trans s h.size) hb
theorem bfn {w W w':World} (h:Hid (Below w.heap.size w W)) (k:Hid (Below W.heap.size W w')):Below w.heap.size w w':=below_step k h
theorem box3_start (w:World) (a b c:Pt):Below (boxW3 w a b c).heap.size (boxW3 w a b c) (boxW3 w a b c):=Below.refl _ _
theorem box1 (w:World) (a:Pt) {W:World} (hb:Below (boxW1 w a).heap.size (boxW1 w a) W):W.cell? ⟨w.heap.size,0,none⟩=some (.int .i64 a.x)∧W.cell? ⟨w.heap.size,1,none⟩=some (.int .i64 a.y):=by
 refine⟨(hb.cell (p:=⟨w.heap.size,0,none⟩) (by simp)).trans ?_,(hb.cell (p:=⟨w.heap.size,1,none⟩) (by simp)).trans ?_⟩
 all_goals simp[boxW1,World.cell?_alloc_new]
theorem box2 (w:World) (a b:Pt) {W:World} (hb:Below (boxW2 w a b).heap.size (boxW2 w a b) W):W.cell? ⟨w.heap.size,0,none⟩=some (.int .i64 a.x)∧W.cell? ⟨w.heap.size,1,none⟩=some (.int .i64 a.y)∧W.cell? ⟨w.heap.size+1,0,none⟩=some (.int .i64 b.x)∧W.cell? ⟨w.heap.size+1,1,none⟩=some (.int .i64 b.y):=by
 have h1:=box1 (w.alloc (ptC a)) b hb
 have e:(w.alloc (ptC a)).heap.size=w.heap.size+1:=by simp
 rw[e] at h1
 have h0:=box1 w a (W:=W) ((below_alloc (Below.refl _ _)).trans (hb.mono (by simp)))
 exact⟨h0.1,h0.2,h1.1,h1.2⟩
theorem box3 (w:World) (a b c:Pt) {W:World} (hb:Below (boxW3 w a b c).heap.size (boxW3 w a b c) W):W.cell? ⟨w.heap.size,0,none⟩=some (.int .i64 a.x)∧W.cell? ⟨w.heap.size,1,none⟩=some (.int .i64 a.y)∧W.cell? ⟨w.heap.size+1,0,none⟩=some (.int .i64 b.x)∧W.cell? ⟨w.heap.size+1,1,none⟩=some (.int .i64 b.y)∧
  W.cell? ⟨w.heap.size+1+1,0,none⟩=some (.int .i64 c.x)∧W.cell? ⟨w.heap.size+1+1,1,none⟩=some (.int .i64 c.y):=by
 have h1:=box2 (w.alloc (ptC a)) b c hb
 have e:(w.alloc (ptC a)).heap.size=w.heap.size+1:=by simp
 rw[e] at h1
 have h0:=box1 w a (W:=W) ((below_alloc (below_alloc (Below.refl _ _))).trans (hb.mono (by simp)))
 exact⟨h0.1,h0.2,h1.1,h1.2.1,h1.2.2.1,h1.2.2.2⟩
theorem in_any (p:Pt) (w:World):Calls Try.prog 39 #[.agg #[.int .i64 p.x, .int .i64 p.y]] w fun e w'=>e= .returned (.bool (inB p))∧Below w.heap.size w w':=by
 obtain⟨v,hv⟩: ∃v,v=inB p:=⟨_,rfl⟩
 rw[←hv]
 have hc:(v=true∧ -268435456≤p.x∧p.x≤268435456∧ -268435456≤p.y∧p.y≤268435456)∨(v=false∧ ¬ -268435456≤p.x)∨(v=false∧ -268435456≤p.x∧ ¬p.x≤268435456)∨(v=false∧ -268435456≤p.x∧p.x≤268435456∧ ¬ -268435456≤p.y)∨
   (v=false∧ -268435456≤p.x∧p.x≤268435456∧ -268435456≤p.y∧ ¬p.y≤268435456):=by
  cases v
  ·have:=hv.symm
   rw[Bool.eq_false_iff,ne_eq,inB_iff] at this
   simp only[true_and,Bool.false_eq_true,false_and,false_or]
   omega
  ·exact .inl ⟨rfl,inB_iff.1 hv.symm⟩
 clear hv
 rcases hc with ⟨rfl,h1,h2,h3,h4⟩|⟨rfl,h1⟩|⟨rfl,h1,h2⟩|⟨rfl,h1,h2,h3⟩|⟨rfl,h1,h2,h3,h4⟩
 all_goals
  go_enter Try.func39,Try.ntmps39
  go_wp2_with fail
  go_ret
  exact⟨rfl,below_alloc (Below.refl _ _)⟩
theorem turn_in (a b c:Pt) (w:World) (ha:inB a=true) (hb:inB b=true) (hc:inB c=true):
  Calls Try.prog 87 #[.agg #[.int .i64 a.x, .int .i64 a.y], .agg #[.int .i64 b.x, .int .i64 b.y], .agg #[.int .i64 c.x, .int .i64 c.y]] w fun e w'=>e= .returned (.int .i64 (trn a b c))∧Below w.heap.size w w':=by
 obtain⟨h1,h2⟩:=crs_bd ha hb hc
 have hd:=inB_iff.1 ha
 have he:=inB_iff.1 hb
 have hf:=inB_iff.1 hc
 rw[show trn a b c=((b.x - a.x)*(c.y - a.y) - (b.y - a.y)*(c.x - a.x)).sign from rfl]
 generalize hP:(b.x - a.x)*(c.y - a.y)=X at*
 generalize hQ:(b.y - a.y)*(c.x - a.x)=Y at*
 have w1:wrap64 ((b.x - a.x)*(c.y - a.y))=X:=by rw[hP];exact IntWalk.wrap64_in _ ⟨by omega,by omega⟩
 have w2:wrap64 ((b.y - a.y)*(c.x - a.x))=Y:=by rw[hQ];exact IntWalk.wrap64_in _ ⟨by omega,by omega⟩
 clear hP hQ ha hb hc
 go_enter Try.func87,Try.ntmps87
 go_wp2_with fail
 refine(sign_any _ _).mono ?_
 rintro e w' ⟨rfl,rfl⟩
 go_wp2_with fail
 go_ret
 exact⟨rfl,below_alloc (below_alloc (below_alloc (Below.refl _ _)))⟩
theorem below_alloc' {B:Nat} {a b:World} {o:Obj} (h:Below B a b) (hB:B≤a.heap.size):Below B a (b.alloc o):=h.alloc (Nat.le_trans hB h.size) o
theorem all_any {w:World} {b off n c:Nat} {l:List Pt} (h:PtsAt w b off l) (hn:n=l.length) (hl:l.length≤1000) (hb:b<w.heap.size):
  Calls Try.prog 86 #[.slice (some ⟨b,off,none⟩) n c] w fun e w'=>e= .returned (.bool (l.all inB))∧Below w.heap.size w w':=by
 have H:=Lib.hid h
 have HN:=Lib.hid hn
 have hn1:n≤1000:=by omega
 clear h hn hl
 go_enter Try.func86,Try.ntmps86
 go_wp2_with fail
 go_loopw [7] (fun v wr=> ∃k:Nat,k≤n∧v= .int .i64 k∧(∀(j:Nat) (p:Pt),j<k→l[j]? =some p→inB p=true)∧Below w.heap.size w wr) (fun v _=>n - (intOf v).toNat)
 case atStart=>exact⟨0,Nat.zero_le _,rfl,fun j p hj=>absurd hj (by omega),Below.refl _ _⟩
 case round=>
  obtain⟨k,hk,rfl,hall,hbw⟩:=hrel
  have HA:=Lib.hid hall
  have HB:=Lib.hid hbw
  by_cases hlt:k<n
  ·obtain⟨p,hp⟩: ∃p,l[k]? =some p:=⟨l[k]'(by rw[←HN.out];exact hlt),List.getElem?_eq_getElem _⟩
   obtain⟨c0,c1⟩:=(H.out.below hbw.b hb) k p hp
   have HP:=Lib.hid hp
   clear hp hall hbw
   cases hv:inB p
   ·have F:=Lib.hid (show l.all inB=false by rw[List.all_eq_false];exact⟨p,List.mem_of_getElem? HP.out,by rw[hv];decide⟩)
    have HC:=fun(w:World)=>Lib.hid (hv▸in_any p w)
    clear hv
    go_wp2_with fail
    refine(HC _).out.mono ?_
    rintro e w' ⟨rfl,hb1⟩
    go_wp2_with fail
    go_ret
    exact⟨by rw[F.out];rfl,below_next (below_alloc' HB.out (Nat.le_refl _)) (by have:=HB.out.size;simp;omega) hb1⟩
   ·have HC:=fun(w:World)=>Lib.hid (hv▸in_any p w)
    have HV:=Lib.hid hv
    clear hv
    go_wp2_with fail
    refine(HC _).out.mono ?_
    rintro e w' ⟨rfl,hb1⟩
    have HB1:=Lib.hid (below_next (below_alloc' HB.out (Nat.le_refl _)) (by have:=HB.out.size;simp;omega) hb1)
    clear hb1
    go_wp2_with fail
    go_roundw
    case rel=>
     refine⟨k+1,by omega,by go_num,fun j q hj hq=> ?_,HB1.out⟩
     by_cases e:j=k
     ·subst e;rw[HP.out] at hq;cases hq;exact HV.out
     ·exact HA.out j q (by omega) hq
    case measure=>simp[intOf];omega
  ·obtain rfl:k=n:=by omega
   have F:=Lib.hid (show l.all inB=true by
    rw[List.all_eq_true]
    intro p hp
    obtain⟨j,hj⟩:=List.mem_iff_getElem?.1 hp
    exact hall j p (by have:=(List.getElem?_eq_some_iff.1 hj).1;have:=HN.out;omega) hj)
   clear hall hbw
   go_wp2_with fail
   go_ret
   exact⟨by rw[F.out];rfl,HB.out⟩
theorem half_any (o a:Pt) (w:World):Calls Try.prog 95 #[.agg #[.int .i64 o.x, .int .i64 o.y], .agg #[.int .i64 a.x, .int .i64 a.y]] w fun e w'=>e= .returned (.int .i64 (halfI o a))∧Below w.heap.size w w':=by
 obtain⟨v,hv⟩: ∃v,v=halfI o a:=⟨_,rfl⟩
 rw[←hv]
 have hc:(v=0∧o.y<a.y)∨(v=0∧ ¬o.y<a.y∧(a.y==o.y)=true∧o.x<a.x)∨(v=1∧ ¬o.y<a.y∧(a.y==o.y)=true∧ ¬o.x<a.x)∨(v=1∧ ¬o.y<a.y∧(a.y==o.y)=false):=by
  rw[hv]
  simp only[beq_iff_eq,beq_eq_false_iff_ne]
  unfold halfI
  split<;>omega
 clear hv
 rcases hc with ⟨rfl,h1⟩|⟨rfl,h1,h2,h3⟩|⟨rfl,h1,h2,h3⟩|⟨rfl,h1,h2⟩
 all_goals
  go_enter Try.func95,Try.ntmps95
  go_wp2_with fail
  go_ret
  exact⟨rfl,below_alloc (below_alloc (Below.refl _ _))⟩
set_option maxRecDepth 100000 in
set_option maxHeartbeats 4000000 in
theorem around_any (o a b:Pt) (w:World):Calls Try.prog 76 #[.agg #[.int .i64 o.x, .int .i64 o.y], .agg #[.int .i64 a.x, .int .i64 a.y], .agg #[.int .i64 b.x, .int .i64 b.y]] w fun e w'=>e= .returned (.int .i64 (arnd o a b))∧Below w.heap.size w w':=by
 have HALL:=fun(W:World) (blk:Nat) (h:PtsAt W blk 0 [o,a,b]) (hb:blk<W.heap.size)=>Lib.hid (all_any (c:=3) h (n:=3) rfl (by simp) hb)
 have e:[o,a,b].all inB=(inB o&&inB a&&inB b):=by simp[Bool.and_assoc]
 rw[e] at HALL
 clear e
 unfold arnd
 cases hv:inB o&&inB a&&inB b
 ·rw[hv] at HALL
  simp only[Bool.not_false,Bool.true_or,if_true]
  clear hv
  go_enter Try.func76,Try.ntmps76
  go_wp2_with fail
  have HC:=fun(W:World) hb=>Lib.hid (box3 w o a b (W:=W) hb)
  have HB:=Lib.hid (box3_start w o a b)
  refine((HALL _ _ (pts3 _ o a b (by simp)) (by simp)).out).mono ?_
  rintro e w1 ⟨rfl,hb1⟩
  have HB:=bnx HB (Lib.hid (Nat.le_refl _)) hb1
  obtain⟨qx0,qx1,qx2,qx3,qx4,qx5⟩:=(HC _ HB.out).out
  clear hb1
  go_wp2_with fail
  go_ret
  exact⟨rfl,box_end HB.out (by repeat (first|exact Below.refl _ _|refine below_alloc ?_))⟩
 ·rw[hv] at HALL
  simp only[Bool.and_eq_true] at hv
  obtain⟨⟨io,ia⟩,ib⟩:=hv
  simp only[Bool.not_true,Bool.false_or]
  cases hab:decide (a=o)
  ·have r1:=eq_pt_f hab
   cases hcd:decide (b=o)
   ·have r2:=eq_pt_f hcd
    simp only[Bool.or_false,Bool.false_eq_true,if_false]
    have hh1:=half_bd o a
    have hh2:=half_bd o b
    have hh3:=trn_bd o a b
    have H1:=fun w=>Lib.hid (half_any o a w)
    have H2:=fun w=>Lib.hid (half_any o b w)
    have T1:=fun w=>Lib.hid (turn_in o a b w io ia ib)
    generalize halfI o a=h1 at*
    generalize halfI o b=h2 at*
    generalize trn o a b=t at*
    clear io ia ib hab hcd
    have e0:IntKind.i64.wrap (h1 - h2)=h1 - h2:=IntWalk.i64_in _ (by omega)
    by_cases hz:h1 - h2=0
    ·rw[if_neg (by simp[hz])]
     have z1:((h1 - h2) != 0)=false:=by simp[hz]
     have z2:((h1 - h2)==0)=true:=by simp[hz]
     clear hz
     go_enter Try.func76,Try.ntmps76
     go_wp2_with fail
     have HC:=fun(W:World) hb=>Lib.hid (box3 w o a b (W:=W) hb)
     have HB:=Lib.hid (box3_start w o a b)
     refine((HALL _ _ (pts3 _ o a b (by simp)) (by simp)).out).mono ?_
     rintro e w3 ⟨rfl,hb3⟩
     have HB:=bnx HB (Lib.hid (Nat.le_refl _)) hb3
     obtain⟨qx0,qx1,qx2,qx3,qx4,qx5⟩:=(HC _ HB.out).out
     clear hb3
     go_wp2_with fail
     refine wp_name (fun c4 hc4=> ?_)
     have HB:=bnm HB (Lib.hid (Nat.le_refl _)) hc4
     clear hc4
     have xx:=fun(x:Later c4)=>(HC _ (bnl HB (Lib.hid (Nat.le_refl _)) x.2)).out
     simp only[forall_and] at xx
     obtain⟨xx0,xx1,xx2,xx3,xx4,xx5⟩:=xx
     refine wp_region_later (by kernel_rfl) (by kernel_rfl) ?_
     repeat (first|go_big_quiet_step (((first|(go_at_call 95;with_reducible refine Later.call (H1 _).out)|(go_at_call 95;with_reducible refine Later.call (H2 _).out))))|quiet_step (((first|(go_at_call 95;with_reducible refine Later.call (H1 _).out)|(go_at_call 95;with_reducible refine Later.call (H2 _).out)))))
     refine wpQuiet_nil ?_
     intro w4 hw4
     have hb4:=later_below hw4
     clear hw4
     have HB:=Lib.hid (bnl HB (Lib.hid (Nat.le_refl _)) hb4)
     clear xx0 xx1 xx2 xx3 xx4 xx5
     clear qx0 qx1 qx2 qx3 qx4 qx5
     obtain⟨qx0,qx1,qx2,qx3,qx4,qx5⟩:=(HC _ HB.out).out
     clear hb4
     go_wp2_with fail
     refine((T1 _).out).mono ?_
     rintro e w5 ⟨rfl,hb5⟩
     have HB:=bnx HB (Lib.hid (Nat.le_refl _)) hb5
     clear qx0 qx1 qx2 qx3 qx4 qx5
     obtain⟨qx0,qx1,qx2,qx3,qx4,qx5⟩:=(HC _ HB.out).out
     clear hb5
     go_wp2_with fail
     go_ret
     exact⟨rfl,box_end HB.out (by repeat (first|exact Below.refl _ _|refine below_alloc ?_))⟩
    ·rw[if_pos (by simpa using hz)]
     have z1:((h1 - h2) != 0)=true:=by simp[hz]
     have z2:((h1 - h2)==0)=false:=by simp[hz]
     clear hz
     go_enter Try.func76,Try.ntmps76
     go_wp2_with fail
     have HC:=fun(W:World) hb=>Lib.hid (box3 w o a b (W:=W) hb)
     have HB:=Lib.hid (box3_start w o a b)
     refine((HALL _ _ (pts3 _ o a b (by simp)) (by simp)).out).mono ?_
     rintro e w7 ⟨rfl,hb7⟩
     have HB:=bnx HB (Lib.hid (Nat.le_refl _)) hb7
     obtain⟨qx0,qx1,qx2,qx3,qx4,qx5⟩:=(HC _ HB.out).out
     clear hb7
     go_wp2_with fail
     refine wp_name (fun c8 hc8=> ?_)
     have HB:=bnm HB (Lib.hid (Nat.le_refl _)) hc8
     clear hc8
     have xx:=fun(x:Later c8)=>(HC _ (bnl HB (Lib.hid (Nat.le_refl _)) x.2)).out
     simp only[forall_and] at xx
     obtain⟨xx0,xx1,xx2,xx3,xx4,xx5⟩:=xx
     refine wp_region_later (by kernel_rfl) (by kernel_rfl) ?_
     repeat (first|go_big_quiet_step (((first|(go_at_call 95;with_reducible refine Later.call (H1 _).out)|(go_at_call 95;with_reducible refine Later.call (H2 _).out))))|quiet_step (((first|(go_at_call 95;with_reducible refine Later.call (H1 _).out)|(go_at_call 95;with_reducible refine Later.call (H2 _).out)))))
     refine wpQuiet_nil ?_
     intro w8 hw8
     have hb8:=later_below hw8
     clear hw8
     have HB:=Lib.hid (bnl HB (Lib.hid (Nat.le_refl _)) hb8)
     clear xx0 xx1 xx2 xx3 xx4 xx5
     clear qx0 qx1 qx2 qx3 qx4 qx5
     obtain⟨qx0,qx1,qx2,qx3,qx4,qx5⟩:=(HC _ HB.out).out
     clear hb8
     go_wp2_with fail
     go_ret
     exact⟨rfl,box_end HB.out (by repeat (first|exact Below.refl _ _|refine below_alloc ?_))⟩
   ·have r2:=eq_pt_t hcd
    simp only[Bool.or_true,if_true]
    clear hab hcd
    go_enter Try.func76,Try.ntmps76
    go_wp2_with fail
    have HC:=fun(W:World) hb=>Lib.hid (box3 w o a b (W:=W) hb)
    have HB:=Lib.hid (box3_start w o a b)
    refine((HALL _ _ (pts3 _ o a b (by simp)) (by simp)).out).mono ?_
    rintro e w10 ⟨rfl,hb10⟩
    have HB:=bnx HB (Lib.hid (Nat.le_refl _)) hb10
    obtain⟨qx0,qx1,qx2,qx3,qx4,qx5⟩:=(HC _ HB.out).out
    clear hb10
    go_wp2_with fail
    go_ret
    exact⟨rfl,box_end HB.out (by repeat (first|exact Below.refl _ _|refine below_alloc ?_))⟩
  ·have r1:=eq_pt_t hab
   simp only[Bool.true_or,if_true]
   clear hab
   go_enter Try.func76,Try.ntmps76
   go_wp2_with fail
   have HC:=fun(W:World) hb=>Lib.hid (box3 w o a b (W:=W) hb)
   have HB:=Lib.hid (box3_start w o a b)
   refine((HALL _ _ (pts3 _ o a b (by simp)) (by simp)).out).mono ?_
   rintro e w12 ⟨rfl,hb12⟩
   have HB:=bnx HB (Lib.hid (Nat.le_refl _)) hb12
   obtain⟨qx0,qx1,qx2,qx3,qx4,qx5⟩:=(HC _ HB.out).out
   clear hb12
   go_wp2_with fail
   go_ret
   exact⟨rfl,box_end HB.out (by repeat (first|exact Below.refl _ _|refine below_alloc ?_))⟩
end Go.Proofs.Ythopjhifepijiaa.D
namespace Go.Proofs.Ythopjhifepijiaa
def upB (q u:Pt):Bool:=decide (q.y<u.y)
def rayB (u v q:Pt):Bool:=(!upB q u&&upB q v&&decide (0<crs u v q))||(upB q u&& !upB q v&&decide (crs u v q<0))
theorem crs_swap (a b c:Pt):crs b a c= - crs a b c:=by unfold crs;grind
section
variable {a b u v:Pt}
theorem ea (a b u v:Pt):crs u v a*(b.y - a.y)=crs a b v*(u.y - a.y) - crs a b u*(v.y - a.y):=by unfold crs;grind
theorem eb (a b u v:Pt):crs u v b*(b.y - a.y)=crs a b v*(u.y - b.y) - crs a b u*(v.y - b.y):=by unfold crs;grind
theorem ev (a b u v:Pt):crs a b v*(v.y - u.y)=crs u v b*(a.y - v.y) - crs u v a*(b.y - v.y):=by unfold crs;grind
theorem sp {x y:Int} (h:0<x) (k:0<y):0<x*y:=Int.mul_pos h k
theorem wpp {x y:Int} (h:0≤x) (k:0≤y):0≤x*y:=Int.mul_nonneg h k
theorem wnp {x y:Int} (h:x≤0) (k:0≤y):x*y≤0:=by have:=Int.mul_nonneg (show 0≤ -x by omega) k;rw[Int.neg_mul] at this;omega
theorem snp {x y:Int} (h:x<0) (k:0<y):x*y<0:=by have:=Int.mul_pos (show 0< -x by omega) k;rw[Int.neg_mul] at this;omega
theorem spn {x y:Int} (h:0<x) (k:y<0):x*y<0:=by rw[Int.mul_comm];exact snp k h
theorem snn {x y:Int} (h:x<0) (k:y<0):0<x*y:=by have:=Int.mul_pos (show 0< -x by omega) (show 0< -y by omega);rw[Int.neg_mul_neg] at this;exact this
theorem cp {x k:Int} (hk:0<k) (h:0<x*k):0<x:=by
 by_cases hx:0<x
 ·exact hx
 ·have:=wnp (show x≤0 by omega) (show 0≤k by omega);omega
theorem cn {x k:Int} (hk:0<k) (h:x*k<0):x<0:=by
 by_cases hx:x<0
 ·exact hx
 ·have:=wpp (show 0≤x by omega) (show 0≤k by omega);omega
end
def oddB (l:List (Pt × Pt)) (q:Pt):Bool:=l.foldl (fun o x=>o ^^ rayB x.1 x.2 q) false
def Chain (s:Pt):List (Pt × Pt)→Pt→Prop
 | [],e=>s=e
 |x::l,e=>x.1=s∧Chain x.2 l e
end Go.Proofs.Ythopjhifepijiaa
namespace Go.Proofs.Ythopjhifepijiaa
def areaR (a b c:Pt):Int:=a.x*b.y - a.y*b.x+b.x*c.y - b.y*c.x+c.x*a.y - c.y*a.x
theorem areaR_eq (a b c:Pt):areaR a b c=crs a b c:=by unfold areaR crs;grind
def wthR (p a b:Pt):Bool:=decide (trn a b p=0)&&(decide (a.x≤p.x∧p.x≤b.x∨b.x≤p.x∧p.x≤a.x)&&decide (a.y≤p.y∧p.y≤b.y∨b.y≤p.y∧p.y≤a.y))
def onR (p a b:Pt):Bool:=wthR p a b&&(decide (p≠a)&&decide (p≠b))
def meetR (a b c d:Pt):Bool:=
 if trn a b c=0∧trn a b d=0 then onR a c d||onR b c d||onR c a b||onR d a b||(wthR a c d&&wthR b c d)
 else if a=c∨a=d∨b=c∨b=d then false
 else !(decide (trn a b c=trn a b d)||decide (trn c d a=trn c d b))
theorem trn_zero {a b c:Pt}:trn a b c=0↔crs a b c=0:=by unfold trn;exact Int.sign_eq_zero_iff_zero
theorem pt_ext {a b:Pt} (h1:a.x=b.x) (h2:a.y=b.y):a=b:=by
 obtain⟨a1,a2⟩:=a
 obtain⟨b1,b2⟩:=b
 simp only at h1 h2
 subst h1 h2
 rfl
theorem pt_ne {a b:Pt} (h:a≠b):a.x≠b.x∨a.y≠b.y:=by
 by_cases h1:a.x=b.x
 ·right;intro h2;exact h (pt_ext h1 h2)
 ·exact .inl h1
theorem mul_zero {x y:Int} (h:x*y=0) (hx:x≠0):y=0:=(Int.mul_eq_zero.1 h).resolve_left hx
theorem on_wide {a b u:Pt} (h:crs a b u=0) (h1:a.x<b.x) (h2:a.x≤u.x) (h3:u.x≤b.x):a.y≤u.y∧u.y≤b.y∨b.y≤u.y∧u.y≤a.y:=by
 unfold crs at h
 have hd:0<b.x - a.x:=by omega
 rcases Int.le_total a.y b.y with hx|hx
 ·left
  have e1:0≤(b.y - a.y)*(u.x - a.x):=Int.mul_nonneg (by omega) (by omega)
  have e2:0≤(b.y - a.y)*(b.x - u.x):=Int.mul_nonneg (by omega) (by omega)
  refine⟨?_, ?_⟩
  ·have:0≤(b.x - a.x)*(u.y - a.y):=by omega
   have:=Int.nonneg_of_mul_nonneg_right this hd
   omega
  ·have:0≤(b.x - a.x)*(b.y - u.y):=by grind
   have:=Int.nonneg_of_mul_nonneg_right this hd
   omega
 ·right
  have e1:0≤(a.y - b.y)*(u.x - a.x):=Int.mul_nonneg (by omega) (by omega)
  have e2:0≤(a.y - b.y)*(b.x - u.x):=Int.mul_nonneg (by omega) (by omega)
  refine⟨?_, ?_⟩
  ·have:0≤(b.x - a.x)*(u.y - b.y):=by grind
   have:=Int.nonneg_of_mul_nonneg_right this hd
   omega
  ·have:0≤(b.x - a.x)*(a.y - u.y):=by grind
   have:=Int.nonneg_of_mul_nonneg_right this hd
   omega
theorem on_edge {a b u:Pt} (h:crs a b u=0) (h1:a.x≠b.x) (h2:u.x=a.x):u=a:=by
 refine pt_ext h2 ?_
 unfold crs at h
 rw[h2,Int.sub_self,Int.mul_zero,Int.sub_zero] at h
 have:=mul_zero h (by omega)
 omega
theorem btw_iff {p a b:Pt} (h:crs a b p=0):btwB p a b=true↔(((a.x≤p.x∧p.x≤b.x∨b.x≤p.x∧p.x≤a.x)∧(a.y≤p.y∧p.y≤b.y∨b.y≤p.y∧p.y≤a.y))∧p≠a∧p≠b):=by
 have h':crs b a p=0:=by rw[crs_swap];omega
 have hb:btwB p a b=true↔((a.x<p.x∨(a.x=p.x∧a.y<p.y))∧(p.x<b.x∨(p.x=b.x∧p.y<b.y)))∨((b.x<p.x∨(b.x=p.x∧b.y<p.y))∧(p.x<a.x∨(p.x=a.x∧p.y<a.y))):=by
  unfold btwB lessB
  simp only[Bool.or_eq_true,Bool.and_eq_true,decide_eq_true_eq]
 rw[hb]
 constructor
 ·intro hq
  have hna:p≠a:=fun e=>by subst e;omega
  have hnb:p≠b:=fun e=>by subst e;omega
  refine⟨⟨by omega, ?_⟩,hna,hnb⟩
  rcases Int.lt_trichotomy a.x b.x with hx|hx|hx
  ·exact on_wide h hx (by omega) (by omega)
  ·omega
  ·have:=on_wide h' hx (by omega) (by omega)
   omega
 ·rintro ⟨⟨h1,h2⟩,hna,hnb⟩
  rcases Int.lt_trichotomy a.x b.x with hx|hx|hx
  ·have n1:p.x≠a.x:=fun e=>hna (on_edge h (by omega) e)
   have n2:p.x≠b.x:=fun e=>hnb (on_edge h' (by omega) e)
   omega
  ·have n1:=pt_ne hna
   have n2:=pt_ne hnb
   omega
  ·have n1:p.x≠a.x:=fun e=>hna (on_edge h (by omega) e)
   have n2:p.x≠b.x:=fun e=>hnb (on_edge h' (by omega) e)
   omega
theorem onR_eq {p a b:Pt} (hp:inB p=true) (ha:inB a=true) (hb:inB b=true):onR p a b=onB p a b:=by
 unfold onR wthR onB
 rw[hp,ha,hb]
 by_cases h:trn a b p=0
 ·have hc:=trn_zero.1 h
  rw[Bool.eq_iff_iff]
  have:=btw_iff hc
  simp only[h,decide_true,Bool.true_and,Bool.and_eq_true,decide_eq_true_eq,this,Bool.and_self]
 ·simp[h]
end Go.Proofs.Ythopjhifepijiaa
namespace Go.Proofs.Ythopjhifepijiaa
section
variable {a b c d:Pt}
theorem kx (h:crs a b c=0):crs a b d*(c.x - a.x)=crs c d a*(b.x - a.x):=by
 have:crs a b d*(c.x - a.x) - crs c d a*(b.x - a.x)=crs a b c*(d.x - a.x):=by unfold crs;grind
 rw[h,Int.zero_mul] at this;omega
theorem ky (h:crs a b c=0):crs a b d*(c.y - a.y)=crs c d a*(b.y - a.y):=by
 have:crs a b d*(c.y - a.y) - crs c d a*(b.y - a.y)=crs a b c*(d.y - a.y):=by unfold crs;grind
 rw[h,Int.zero_mul] at this;omega
theorem lx (h:crs a b c=0):crs a b d*(c.x - b.x)=crs c d b*(b.x - a.x):=by
 have:crs a b d*(c.x - b.x) - crs c d b*(b.x - a.x)=crs a b c*(d.x - b.x):=by unfold crs;grind
 rw[h,Int.zero_mul] at this;omega
theorem ly (h:crs a b c=0):crs a b d*(c.y - b.y)=crs c d b*(b.y - a.y):=by
 have:crs a b d*(c.y - b.y) - crs c d b*(b.y - a.y)=crs a b c*(d.y - b.y):=by unfold crs;grind
 rw[h,Int.zero_mul] at this;omega
theorem btw_cases {p q r:Pt}:btwB p q r=true↔((q.x<p.x∨(q.x=p.x∧q.y<p.y))∧(p.x<r.x∨(p.x=r.x∧p.y<r.y)))∨((r.x<p.x∨(r.x=p.x∧r.y<p.y))∧(p.x<q.x∨(p.x=q.x∧p.y<q.y))):=by
 unfold btwB lessB
 simp only[Bool.or_eq_true,Bool.and_eq_true,decide_eq_true_eq]
theorem sgn_pos {x:Int} (h:0<x):x.sign=1:=Int.sign_eq_one_of_pos h
theorem sgn_neg {x:Int} (h:x<0):x.sign= -1:=Int.sign_eq_neg_one_of_neg h
theorem sgn_eq {x y k m:Int} (e:x*k=y*m) (hk:0<k) (hm:0<m):x.sign=y.sign:=by
 rcases Int.lt_trichotomy x 0 with h|h|h
 ·have:=snp h hk
  rw[sgn_neg h,sgn_neg (cn hm (by omega))]
 ·subst h
  rw[Int.zero_mul] at e
  have:y=0:=(Int.mul_eq_zero.1 e.symm).resolve_right (by omega)
  rw[this]
 ·have:=sp h hk
  rw[sgn_pos h,sgn_pos (cp hm (by omega))]
theorem part1 (h:crs a b c=0) (hd:crs a b d≠0) (hb:btwB c a b=true):(crs c d a).sign≠(crs c d b).sign:=by
 have k1:=kx (d:=d) h
 have k2:=ky (d:=d) h
 have l1:=lx (d:=d) h
 have l2:=ly (d:=d) h
 rw[btw_cases] at hb
 have key: ∀p q r:Int,p<r→r<q→crs a b d*(r - p)=crs c d a*(q - p)→crs a b d*(r - q)=crs c d b*(q - p)→(crs c d a).sign≠(crs c d b).sign:=fun p q r h1 h2 e1 e2=>by
  have s1:=sgn_eq e1 (by omega) (by omega)
  have e3:(- crs a b d)*(q - r)=crs c d b*(q - p):=by rw[←e2];grind
  have s2:=sgn_eq e3 (by omega) (by omega)
  rw[Int.sign_neg] at s2
  rcases sign_cases (crs a b d) with g|g|g<;>omega
 have key2: ∀p q r:Int,q<r→r<p→crs a b d*(r - p)=crs c d a*(q - p)→crs a b d*(r - q)=crs c d b*(q - p)→(crs c d a).sign≠(crs c d b).sign:=fun p q r h1 h2 e1 e2=>by
  have e1':crs a b d*(p - r)=crs c d a*(p - q):=by grind
  have s1:=sgn_eq e1' (by omega) (by omega)
  have e3:(- crs a b d)*(r - q)=crs c d b*(p - q):=by grind
  have s2:=sgn_eq e3 (by omega) (by omega)
  rw[Int.sign_neg] at s2
  rcases sign_cases (crs a b d) with g|g|g<;>omega
 rcases Int.lt_trichotomy a.x b.x with hx|hx|hx
 ·have e:a.x<c.x∧c.x<b.x:=by
   have h':crs b a c=0:=by rw[crs_swap];omega
   have n1:c.x=a.x→c=a:=on_edge h (by omega)
   have n2:c.x=b.x→c=b:=on_edge h' (by omega)
   have m1:c≠a:=fun e=>by subst e;omega
   have m2:c≠b:=fun e=>by subst e;omega
   have n3:c.x≠a.x:=fun e=>m1 (n1 e)
   have n4:c.x≠b.x:=fun e=>m2 (n2 e)
   omega
  exact key _ _ _ e.1 e.2 k1 l1
 ·rcases Int.lt_trichotomy a.y b.y with hy|hy|hy
  ·exact key a.y b.y c.y (by omega) (by omega) k2 l2
  ·omega
  ·exact key2 a.y b.y c.y (by omega) (by omega) k2 l2
 ·have e:b.x<c.x∧c.x<a.x:=by
   have h':crs b a c=0:=by rw[crs_swap];omega
   have n1:c.x=a.x→c=a:=on_edge h (by omega)
   have n2:c.x=b.x→c=b:=on_edge h' (by omega)
   have m1:c≠a:=fun e=>by subst e;omega
   have m2:c≠b:=fun e=>by subst e;omega
   have n3:c.x≠a.x:=fun e=>m1 (n1 e)
   have n4:c.x≠b.x:=fun e=>m2 (n2 e)
   omega
  exact key2 _ _ _ e.1 e.2 k1 l1
theorem part2 (h:crs a b c=0) (hd:crs a b d≠0) (ha:c≠a) (hb:c≠b) (hs:(crs c d a).sign≠(crs c d b).sign):btwB c a b=true:=by
 have k1:=kx (d:=d) h
 have k2:=ky (d:=d) h
 have l1:=lx (d:=d) h
 have l2:=ly (d:=d) h
 have e0:crs a b d=crs c d a - crs c d b+crs a b c:=by unfold crs;grind
 rw[h] at e0
 have nA:crs c d a≠0:=fun e=>by
  rw[e,Int.zero_mul] at k1 k2
  exact ha (pt_ext (by have:=mul_zero k1 hd;omega) (by have:=mul_zero k2 hd;omega))
 have nB:crs c d b≠0:=fun e=>by
  rw[e,Int.zero_mul] at l1 l2
  exact hb (pt_ext (by have:=mul_zero l1 hd;omega) (by have:=mul_zero l2 hd;omega))
 have one: ∀p q r:Int,p<q→crs a b d*(r - p)=crs c d a*(q - p)→crs a b d*(r - q)=crs c d b*(q - p)→p<r∧r<q:=fun p q r h1 e1 e2=>by
  rcases sign_cases (crs c d a) with ⟨g,g'⟩|⟨g,g'⟩|⟨g,g'⟩
  ·rcases sign_cases (crs c d b) with ⟨f,f'⟩|⟨f,f'⟩|⟨f,f'⟩
   ·omega
   ·omega
   ·have hD:0< - crs a b d:=by omega
    have p1:=snp g (show 0<q - p by omega)
    have p2:=sp f (show 0<q - p by omega)
    have q1:0<(r - p)*(- crs a b d):=by grind
    have q2:(r - q)*(- crs a b d)<0:=by grind
    have:=cp hD q1
    have:=cn hD q2
    omega
  ·omega
  ·rcases sign_cases (crs c d b) with ⟨f,f'⟩|⟨f,f'⟩|⟨f,f'⟩
   ·have hD:0<crs a b d:=by omega
    have p1:=sp g (show 0<q - p by omega)
    have p2:=snp f (show 0<q - p by omega)
    have q1:0<(r - p)*crs a b d:=by grind
    have q2:(r - q)*crs a b d<0:=by grind
    have:=cp hD q1
    have:=cn hD q2
    omega
   ·omega
   ·omega
 have two: ∀p q r:Int,q<p→crs a b d*(r - p)=crs c d a*(q - p)→crs a b d*(r - q)=crs c d b*(q - p)→q<r∧r<p:=fun p q r h1 e1 e2=>by
  have:=one (-p) (-q) (-r) (by omega) (by grind) (by grind)
  omega
 have zero: ∀p q r:Int,p=q→crs a b d*(r - p)=crs c d a*(q - p)→r=p:=fun p q r h1 e1=>by
  subst h1
  rw[Int.sub_self,Int.mul_zero] at e1
  have:=mul_zero e1 hd
  omega
 rw[btw_cases]
 rcases Int.lt_trichotomy a.x b.x with hx|hx|hx
 ·have:=one _ _ _ hx k1 l1;omega
 ·have z:=zero _ _ _ hx k1
  rcases Int.lt_trichotomy a.y b.y with hy|hy|hy
  ·have:=one _ _ _ hy k2 l2;omega
  ·exact absurd (pt_ext z (zero _ _ _ hy k2)) ha
  ·have:=two _ _ _ hy k2 l2;omega
 ·have:=two _ _ _ hx k1 l1;omega
theorem crs_cyc (a b c:Pt):crs b c a=crs a b c:=by unfold crs;grind
theorem crs_aab (a b:Pt):crs a b a=0:=by unfold crs;grind
theorem crs_abb (a b:Pt):crs a b b=0:=by unfold crs;grind
theorem line4 (hab:a≠b) (h1:crs a b c=0) (h2:crs a b d=0):crs c d a=0∧crs c d b=0:=by
 have k1:=kx (d:=d) h1
 have k2:=ky (d:=d) h1
 have l1:=lx (d:=d) h1
 have l2:=ly (d:=d) h1
 rw[h2,Int.zero_mul] at k1 k2 l1 l2
 have hne:=pt_ne hab
 rcases hne with h|h
 ·exact⟨(Int.mul_eq_zero.1 k1.symm).resolve_right (by omega),(Int.mul_eq_zero.1 l1.symm).resolve_right (by omega)⟩
 ·exact⟨(Int.mul_eq_zero.1 k2.symm).resolve_right (by omega),(Int.mul_eq_zero.1 l2.symm).resolve_right (by omega)⟩
theorem wth_end {p a b:Pt} (h:wthR p a b=true) (ho:onR p a b=false):p=a∨p=b:=by
 unfold onR at ho
 rw[h] at ho
 by_cases e:p=a
 ·exact .inl e
 ·right
  by_cases e2:p=b
  ·exact e2
  ·simp[e,e2] at ho
theorem wth_l (a b:Pt):wthR a a b=true:=by
 have:trn a b a=0:=trn_zero.2 (crs_aab a b)
 unfold wthR
 rw[this]
 simp
 omega
theorem wth_r (a b:Pt):wthR b a b=true:=by
 have:trn a b b=0:=trn_zero.2 (crs_abb a b)
 unfold wthR
 rw[this]
 simp
 omega
theorem onB_iff {p a b:Pt} (hp:inB p=true) (ha:inB a=true) (hb:inB b=true):onB p a b=true↔crs a b p=0∧btwB p a b=true:=by
 unfold onB
 rw[hp,ha,hb]
 simp[trn_zero]
theorem btw_ne {p a b:Pt} (h:btwB p a b=true):p≠a∧p≠b:=by
 rw[btw_cases] at h
 exact⟨fun e=>by subst e;omega,fun e=>by subst e;omega⟩
theorem mul_neg_iff {x y:Int} (hx:x= -1∨x=0∨x=1) (hy:y= -1∨y=0∨y=1):x*y<0↔(x≠0∧y≠0∧x≠y):=by
 rcases hx with rfl|rfl|rfl<;>rcases hy with rfl|rfl|rfl<;>simp
theorem meetR_eq (ha:inB a=true) (hb:inB b=true) (hc:inB c=true) (hd:inB d=true) (hab:a≠b) (hcd:c≠d):meetR a b c d=meetB a b c d:=by
 have o1:=onB_iff ha hc hd
 have o2:=onB_iff hb hc hd
 have o3:=onB_iff hc ha hb
 have o4:=onB_iff hd ha hb
 unfold meetR meetB
 rw[ha,hb,hc,hd,onR_eq ha hc hd,onR_eq hb hc hd,onR_eq hc ha hb,onR_eq hd ha hb]
 have e0:(!(true&&true&&true&&true)||decide (a=b)||decide (c=d))=false:=by simp[hab,hcd]
 simp only[Bool.and_self,Bool.not_true,Bool.false_or]
 rw[if_neg (show¬(decide (a=b)||decide (c=d))=true by simp[hab,hcd])]
 by_cases hcol:trn a b c=0∧trn a b d=0
 ·rw[if_pos hcol]
  by_cases hon:(onB a c d||onB b c d||onB c a b||onB d a b)=true
  ·rw[if_pos hon,hon,Bool.true_or]
  ·rw[if_neg hon]
   have hon':(onB a c d||onB b c d||onB c a b||onB d a b)=false:=by simpa using hon
   rw[hon',Bool.false_or]
   simp only[Bool.or_eq_false_iff] at hon'
   obtain⟨⟨⟨n1,n2⟩,n3⟩,n4⟩:=hon'
   rw[hcol.1,hcol.2]
   simp only[Int.zero_mul,Int.lt_irrefl,decide_false,Bool.false_and]
   by_cases hs:(decide (a=c)&&decide (b=d)||decide (a=d)&&decide (b=c))=true
   ·rw[if_pos hs]
    simp only[Bool.or_eq_true,Bool.and_eq_true,decide_eq_true_eq] at hs
    rcases hs with ⟨rfl,rfl⟩|⟨rfl,rfl⟩
    ·rw[wth_l,wth_r];rfl
    ·rw[wth_l,wth_r];rfl
   ·rw[if_neg hs]
    by_cases w1:wthR a c d=true
    ·by_cases w2:wthR b c d=true
     ·exfalso
      have q1:=wth_end w1 (by rw[onR_eq ha hc hd];exact n1)
      have q2:=wth_end w2 (by rw[onR_eq hb hc hd];exact n2)
      apply hs
      simp only[Bool.or_eq_true,Bool.and_eq_true,decide_eq_true_eq]
      rcases q1 with rfl|rfl<;>rcases q2 with rfl|rfl
      ·exact absurd rfl hab
      ·exact .inl ⟨rfl,rfl⟩
      ·exact .inr ⟨rfl,rfl⟩
      ·exact absurd rfl hab
     ·simp[w2]
    ·simp[w1]
 ·rw[if_neg hcol]
  have hcol': ¬(crs a b c=0∧crs a b d=0):=fun⟨h1,h2⟩=>hcol ⟨trn_zero.2 h1,trn_zero.2 h2⟩
  by_cases hsh:a=c∨a=d∨b=c∨b=d
  ·rw[if_pos hsh]
   have z1:crs a b c=0∨crs a b d=0:=by
    rcases hsh with rfl|rfl|rfl|rfl
    ·exact .inl (crs_aab _ _)
    ·exact .inr (crs_aab _ _)
    ·exact .inl (crs_abb _ _)
    ·exact .inr (crs_abb _ _)
   have n1:onB a c d=false:=by
    rw[Bool.eq_false_iff]
    intro h
    obtain⟨h1,h2⟩:=o1.1 h
    obtain⟨m1,m2⟩:=btw_ne h2
    rcases hsh with e|e|e|e
    ·exact m1 e
    ·exact m2 e
    ·subst e
     exact hcol' ⟨crs_abb _ _,by rw[←crs_cyc];exact h1⟩
    ·subst e
     have hq:crs c b a= - crs a b c:=by unfold crs;grind
     exact hcol' ⟨by omega,crs_abb _ _⟩
   have n2:onB b c d=false:=by
    rw[Bool.eq_false_iff]
    intro h
    obtain⟨h1,h2⟩:=o2.1 h
    obtain⟨m1,m2⟩:=btw_ne h2
    rcases hsh with e|e|e|e
    ·subst e
     exact hcol' ⟨crs_aab _ _,by have:=crs_cyc d a b;have:=crs_cyc b d a;have:=crs_swap a b d;have:=crs_swap a d b;have:=crs_cyc a b d;have:=crs_swap b d a;omega⟩
    ·subst e
     exact hcol' ⟨by have:=crs_cyc c a b;have:=crs_cyc b c a;have:=crs_cyc a b c;omega,crs_aab _ _⟩
    ·exact m1 e
    ·exact m2 e
   have n3:onB c a b=false:=by
    rw[Bool.eq_false_iff]
    intro h
    obtain⟨h1,h2⟩:=o3.1 h
    obtain⟨m1,m2⟩:=btw_ne h2
    rcases hsh with e|e|e|e
    ·exact m1 e.symm
    ·subst e;exact hcol' ⟨h1,crs_aab _ _⟩
    ·exact m2 e.symm
    ·subst e;exact hcol' ⟨h1,crs_abb _ _⟩
   have n4:onB d a b=false:=by
    rw[Bool.eq_false_iff]
    intro h
    obtain⟨h1,h2⟩:=o4.1 h
    obtain⟨m1,m2⟩:=btw_ne h2
    rcases hsh with e|e|e|e
    ·subst e;exact hcol' ⟨crs_aab _ _,h1⟩
    ·exact m1 e.symm
    ·subst e;exact hcol' ⟨crs_abb _ _,h1⟩
    ·exact m2 e.symm
   rw[n1,n2,n3,n4]
   have hns: ¬((decide (a=c)&&decide (b=d)||decide (a=d)&&decide (b=c))=true):=fun hs=>by
    simp only[Bool.or_eq_true,Bool.and_eq_true,decide_eq_true_eq] at hs
    rcases hs with ⟨rfl,rfl⟩|⟨rfl,rfl⟩
    ·exact hcol' ⟨crs_aab _ _,crs_abb _ _⟩
    ·exact hcol' ⟨crs_abb _ _,crs_aab _ _⟩
   rw[if_neg (by simp),if_neg hns]
   have hz:trn a b c*trn a b d=0:=by
    rcases z1 with z|z
    ·rw[trn_zero.2 z,Int.zero_mul]
    ·rw[trn_zero.2 z,Int.mul_zero]
   rw[hz]
   simp
  ·rw[if_neg hsh]
   have n1:a≠c:=fun e=>hsh (.inl e)
   have n2:a≠d:=fun e=>hsh (.inr (.inl e))
   have n3:b≠c:=fun e=>hsh (.inr (.inr (.inl e)))
   have n4:b≠d:=fun e=>hsh (.inr (.inr (.inr e)))
   have hns: ¬((decide (a=c)&&decide (b=d)||decide (a=d)&&decide (b=c))=true):=by simp[n1,n2]
   rw[if_neg hns]
   have hcol2: ¬(crs c d a=0∧crs c d b=0):=fun⟨h1,h2⟩=>hcol' (line4 hcd h1 h2)
   rw[Bool.eq_iff_iff]
   have hL:(!(decide (trn a b c=trn a b d)||decide (trn c d a=trn c d b)))=true↔(trn a b c≠trn a b d∧trn c d a≠trn c d b):=by simp
   rw[hL]
   constructor
   ·rintro ⟨h1,h2⟩
    by_cases hon:(onB a c d||onB b c d||onB c a b||onB d a b)=true
    ·rw[if_pos hon]
    ·rw[if_neg hon]
     simp only[Bool.or_eq_true,not_or] at hon
     obtain⟨⟨⟨m1,m2⟩,m3⟩,m4⟩:=hon
     have z1:trn a b c≠0:=fun e=>by
      have e':=trn_zero.1 e
      exact m3 (o3.2 ⟨e',part2 (d:=d) e' (fun e2=>hcol' ⟨e',e2⟩) n1.symm n3.symm h2⟩)
     have z2:trn a b d≠0:=fun e=>by
      have e':=trn_zero.1 e
      refine m4 (o4.2 ⟨e',part2 (d:=c) e' (fun e2=>hcol' ⟨e2,e'⟩) n2.symm n4.symm ?_⟩)
      rw[crs_swap c d a,crs_swap c d b,Int.sign_neg,Int.sign_neg]
      intro h;apply h2;unfold trn;omega
     have z3:trn c d a≠0:=fun e=>by
      have e':=trn_zero.1 e
      exact m1 (o1.2 ⟨e',part2 (d:=b) e' (fun e2=>hcol2 ⟨e',e2⟩) n1 n2 h1⟩)
     have z4:trn c d b≠0:=fun e=>by
      have e':=trn_zero.1 e
      refine m2 (o2.2 ⟨e',part2 (d:=a) e' (fun e2=>hcol2 ⟨e2,e'⟩) n3 n4 ?_⟩)
      rw[crs_swap a b c,crs_swap a b d,Int.sign_neg,Int.sign_neg]
      intro h;apply h1;unfold trn;omega
     rw[Bool.and_eq_true,decide_eq_true_iff,decide_eq_true_iff,mul_neg_iff (trn_cases _ _ _) (trn_cases _ _ _),mul_neg_iff (trn_cases _ _ _) (trn_cases _ _ _)]
     exact⟨⟨z1,z2,h1⟩,z3,z4,h2⟩
   ·intro h
    by_cases hon:(onB a c d||onB b c d||onB c a b||onB d a b)=true
    ·simp only[Bool.or_eq_true] at hon
     rcases hon with ((h1|h1)|h1)|h1
     ·obtain⟨e,hb1⟩:=o1.1 h1
      have hne:crs c d b≠0:=fun e2=>hcol2 ⟨e,e2⟩
      refine⟨part1 e hne hb1,fun e3=>hne (trn_zero.1 (by rw[←e3];exact trn_zero.2 e))⟩
     ·obtain⟨e,hb1⟩:=o2.1 h1
      have hne:crs c d a≠0:=fun e2=>hcol2 ⟨e2,e⟩
      have:=part1 e hne hb1
      rw[crs_swap a b c,crs_swap a b d,Int.sign_neg,Int.sign_neg] at this
      refine⟨fun e3=>this (by unfold trn at e3;omega),fun e3=>hne (trn_zero.1 (by rw[e3];exact trn_zero.2 e))⟩
     ·obtain⟨e,hb1⟩:=o3.1 h1
      have hne:crs a b d≠0:=fun e2=>hcol' ⟨e,e2⟩
      exact⟨fun e3=>hne (trn_zero.1 (by rw[←e3];exact trn_zero.2 e)),part1 e hne hb1⟩
     ·obtain⟨e,hb1⟩:=o4.1 h1
      have hne:crs a b c≠0:=fun e2=>hcol' ⟨e2,e⟩
      have:=part1 e hne hb1
      rw[crs_swap c d a,crs_swap c d b,Int.sign_neg,Int.sign_neg] at this
      refine⟨fun e3=>hne (trn_zero.1 (by rw[e3];exact trn_zero.2 e)),fun e3=>this (by unfold trn at e3;omega)⟩
    ·rw[if_neg hon] at h
     rw[Bool.and_eq_true,decide_eq_true_iff,decide_eq_true_iff,mul_neg_iff (trn_cases _ _ _) (trn_cases _ _ _),mul_neg_iff (trn_cases _ _ _) (trn_cases _ _ _)] at h
     exact⟨h.1.2.2,h.2.2.2⟩
end
end Go.Proofs.Ythopjhifepijiaa
namespace Go.Proofs.Ythopjhifepijiaa
def dirLt (o a b:Pt):Prop:=halfI o a<halfI o b∨(halfI o a=halfI o b∧0<crs o a b)
theorem half_cases (o a:Pt):(halfI o a=0∧(o.y<a.y∨(a.y=o.y∧o.x<a.x)))∨(halfI o a=1∧ ¬(o.y<a.y∨(a.y=o.y∧o.x<a.x))):=by
 unfold halfI
 split
 ·exact .inl ⟨rfl,by assumption⟩
 ·exact .inr ⟨rfl,by assumption⟩
theorem trn_cs (a b c:Pt):(trn a b c=1∧0<crs a b c)∨(trn a b c=0∧crs a b c=0)∨(trn a b c= -1∧crs a b c<0):=by
 unfold trn
 rcases sign_cases (crs a b c) with ⟨h,k⟩|⟨h,k⟩|⟨h,k⟩
 ·exact .inr (.inr ⟨k,h⟩)
 ·exact .inr (.inl ⟨k,h⟩)
 ·exact .inl ⟨k,h⟩
theorem arnd_neg {o a b:Pt} (ho:inB o=true) (ha:inB a=true) (hb:inB b=true) (na:a≠o) (nb:b≠o):arnd o a b<0↔dirLt o a b:=by
 unfold arnd dirLt
 rw[ho,ha,hb,if_neg (by simp[na,nb])]
 have h1:=half_bd o a
 have h2:=half_bd o b
 have h3:=trn_cs o a b
 split<;>omega
theorem dir_irrefl (o a:Pt): ¬dirLt o a a:=by
 unfold dirLt
 have:crs o a a=0:=crs_abb o a
 omega
theorem dir_asymm {o a b:Pt} (h:dirLt o a b): ¬dirLt o b a:=by
 unfold dirLt at*
 have h4:crs o b a= - crs o a b:=by unfold crs;grind
 omega
theorem crs_trans {o a b c:Pt} (ha:o.y<a.y∨(a.y=o.y∧o.x<a.x)) (hb:o.y<b.y∨(b.y=o.y∧o.x<b.x)) (hc:o.y<c.y∨(c.y=o.y∧o.x<c.x)) (h1:0<crs o a b) (h2:0<crs o b c):0<crs o a c:=by
 have e:crs o a b*(c.y - o.y)+crs o b c*(a.y - o.y)=crs o a c*(b.y - o.y):=by unfold crs;grind
 have p1:=wpp (show 0≤crs o a b by omega) (show 0≤c.y - o.y by omega)
 have p2:=wpp (show 0≤crs o b c by omega) (show 0≤a.y - o.y by omega)
 rcases hb with hb|⟨hb1,hb2⟩
 ·have hk:0<b.y - o.y:=by omega
  by_cases hca:o.y<c.y∨o.y<a.y
  ·refine cp hk ?_
   rcases hca with h|h
   ·have:=sp h1 (show 0<c.y - o.y by omega);omega
   ·have:=sp h2 (show 0<a.y - o.y by omega);omega
  ·exfalso
   have hc':c.y=o.y∧o.x<c.x:=by omega
   have:crs o b c= - ((b.y - o.y)*(c.x - o.x)):=by unfold crs;rw[hc'.1];grind
   have:=sp hk (show 0<c.x - o.x by omega)
   omega
 ·exfalso
  have e2:crs o a b= - ((a.y - o.y)*(b.x - o.x)):=by unfold crs;rw[hb1];grind
  have:=wpp (show 0≤a.y - o.y by omega) (show 0≤b.x - o.x by omega)
  omega
def negP (o a:Pt):Pt:=⟨2*o.x - a.x,2*o.y - a.y⟩
theorem crs_negP (o a b:Pt):crs o (negP o a) (negP o b)=crs o a b:=by unfold crs negP;grind
theorem dir_trans {o a b c:Pt} (na:a≠o) (nb:b≠o) (nc:c≠o) (h1:dirLt o a b) (h2:dirLt o b c):dirLt o a c:=by
 unfold dirLt at*
 rcases half_cases o a with ⟨a1,a2⟩|⟨a1,a2⟩<;>rcases half_cases o b with ⟨b1,b2⟩|⟨b1,b2⟩<;>rcases half_cases o c with ⟨c1,c2⟩|⟨c1,c2⟩
 ·right
  exact⟨by omega,crs_trans a2 b2 c2 (by omega) (by omega)⟩
 ·left;omega
 ·left;omega
 ·left;omega
 ·omega
 ·omega
 ·omega
 ·right
  refine⟨by omega, ?_⟩
  have q:=pt_ne na
  have r:=pt_ne nb
  have s:=pt_ne nc
  rw[←crs_negP]
  refine crs_trans (b:=negP o b) ?_ ?_ ?_ (by rw[crs_negP];omega) (by rw[crs_negP];omega)
  ·show o.y<2*o.y - a.y∨(2*o.y - a.y=o.y∧o.x<2*o.x - a.x);omega
  ·show o.y<2*o.y - b.y∨(2*o.y - b.y=o.y∧o.x<2*o.x - b.x);omega
  ·show o.y<2*o.y - c.y∨(2*o.y - c.y=o.y∧o.x<2*o.x - c.x);omega
theorem dir_tie {o a b:Pt} (h1: ¬dirLt o a b) (h2: ¬dirLt o b a):halfI o a=halfI o b∧crs o a b=0:=by
 unfold dirLt at*
 have h4:crs o b a= - crs o a b:=by unfold crs;grind
 omega
theorem sgn_mul (x y:Int):((0<x∧0<y∨x<0∧y<0)∧0<x*y)∨((0<x∧y<0∨x<0∧0<y)∧x*y<0)∨((x=0∨y=0)∧x*y=0):=by
 rcases Int.lt_trichotomy x 0 with h|h|h<;>rcases Int.lt_trichotomy y 0 with k|k|k
 ·exact .inl ⟨.inr ⟨h,k⟩,snn h k⟩
 ·exact .inr (.inr ⟨.inr k,by rw[k,Int.mul_zero]⟩)
 ·exact .inr (.inl ⟨.inr ⟨h,k⟩,snp h k⟩)
 ·exact .inr (.inr ⟨.inl h,by rw[h,Int.zero_mul]⟩)
 ·exact .inr (.inr ⟨.inl h,by rw[h,Int.zero_mul]⟩)
 ·exact .inr (.inr ⟨.inl h,by rw[h,Int.zero_mul]⟩)
 ·exact .inr (.inl ⟨.inl ⟨h,k⟩,spn h k⟩)
 ·exact .inr (.inr ⟨.inr k,by rw[k,Int.mul_zero]⟩)
 ·exact .inl ⟨.inl ⟨h,k⟩,sp h k⟩
end Go.Proofs.Ythopjhifepijiaa
namespace Go.Proofs.Ythopjhifepijiaa
section
variable {α:Type}
def Link (f:α→α):α→List α→α→Prop
 |h,[],x=>x=h
 |h,y::l,x=>y=h∧Link f (f h) l x
variable {f:α→α}
theorem link_app: ∀ {P Q:List α} {h x:α},Link f h (P++Q) x↔ ∃m,Link f h P m∧Link f m Q x
 | [],Q,h,x=>⟨fun e=>⟨h,rfl,e⟩,fun⟨m,e,e2⟩=>by have e:m=h:=e;subst e;exact e2⟩
 |y::P,Q,h,x=>by
  show(y=h∧Link f (f h) (P++Q) x)↔ ∃m,(y=h∧Link f (f h) P m)∧Link f m Q x
  rw[link_app]
  exact⟨fun⟨a,m,b,c⟩=>⟨m,⟨a,b⟩,c⟩,fun⟨m,⟨a,b⟩,c⟩=>⟨a,m,b,c⟩⟩
theorem link_snoc {P:List α} {h x y:α}:Link f h (P++[y]) x↔Link f h P y∧x=f y:=by
 rw[link_app]
 constructor
 ·rintro ⟨m,a,b,c⟩
  have b:y=m:=b
  subst b
  exact⟨a,c⟩
 ·rintro ⟨a,rfl⟩
  exact⟨y,a,rfl,rfl⟩
theorem nodup_len {all P:List α} (hn:P.Nodup) (ha: ∀y∈P,y∈all):P.length≤all.length:=hn.length_le_of_subset ha
theorem Link.mem_next: ∀ {L:List α} {h x y:α},Link f h L x→y∈L→f y∈L∨f y=x
 | [],h,x,y,_,hy=>by cases hy
 |z::L,h,x,y,⟨h1,h2⟩,hy=>by
  rcases List.mem_cons.1 hy with rfl|hy
  ·subst h1
   cases L with
   |nil=>right;exact h2.symm
   |cons w L=>left;have:=h2.1;rw[this];simp
  ·rcases Link.mem_next h2 hy with h3|h3
   ·exact .inl (List.mem_cons_of_mem _ h3)
   ·exact .inr h3
theorem link_back {all:List α} (inj: ∀x∈all, ∀y∈all,f x=f y→x=y) {P:List α} {h x:α} (hl:Link f h P x) (hn:P.Nodup) (ha: ∀y∈P,y∈all) (hx:x∈P):x=h:=by
 obtain⟨A,B,rfl⟩:=List.append_of_mem hx
 rcases List.eq_nil_or_concat A with rfl|⟨A',z,rfl⟩
 ·exact hl.1
 ·exfalso
  obtain⟨m,h1,h2⟩:=link_app.1 hl
  rw[List.concat_eq_append] at*
  obtain⟨h3,h4⟩:=link_snoc.1 h1
  have hm:x=m:=h2.1
  rcases List.eq_nil_or_concat (x::B) with e|⟨B',y,e⟩
  ·cases e
  ·rw[List.concat_eq_append] at e
   rw[e] at hl hn ha
   rw[←List.append_assoc] at hl
   obtain⟨h5,h6⟩:=link_snoc.1 hl
   have:z=y:=inj z (ha z (by simp)) y (ha y (by simp)) (by rw[←h4, ←h6,hm])
   rw[List.nodup_append] at hn
   exact hn.2.2 z (by simp) y (by simp) this
structure Ring (f:α→α) (all met:List α) (h:α) (L:List α):Prop where
 link:Link f h L h
 ne:L≠ []
 nd:L.Nodup
 mem: ∀y∈L,y∈all∧y∉met
theorem Ring.closed {all met:List α} {h:α} {L:List α} (r:Ring f all met h L): ∀y∈L,f y∈L:=fun y hy=>by
 rcases r.link.mem_next hy with h1|h1
 ·exact h1
 ·rw[h1]
  cases L with
  |nil=>exact absurd rfl r.ne
  |cons z L=>have:=r.link.1;rw[this];simp
theorem Ring.back {all met:List α} {h:α} {L:List α} (inj: ∀x∈all, ∀y∈all,f x=f y→x=y) (r:Ring f all met h L): ∀x∈all,f x∈L→x∈L:=fun x hx hfx=>by
 have h1: ∀ {P:List α} {g e:α},Link f g P e→ ∀y∈P,y=g∨ ∃z∈P,f z=y:=by
  intro P
  induction P with
  |nil=>intro g e _ y hy;cases hy
  |cons w P ih=>
   intro g e ⟨a,b⟩ y hy
   rcases List.mem_cons.1 hy with rfl|hy
   ·exact .inl a
   ·rcases ih b y hy with h|⟨z,hz,h⟩
    ·right;exact⟨w,by simp,by rw[a];exact h.symm⟩
    ·right;exact⟨z,by simp[hz],h⟩
 have h2: ∀y∈L, ∃z∈L,f z=y:=fun y hy=>by
  rcases h1 r.link y hy with h|h
  ·rcases List.eq_nil_or_concat L with e|⟨Q,z,e⟩
   ·exact absurd e r.ne
   ·rw[List.concat_eq_append] at e
    have hl:=r.link
    rw[e] at hl
    obtain⟨-,h3⟩:=link_snoc.1 hl
    exact⟨z,by rw[e];simp,by rw[←h3,h]⟩
  ·exact h
 obtain⟨z,hz,e⟩:=h2 _ hfx
 rw[←inj z (r.mem z hz).1 x hx e]
 exact hz
end
section
variable {α:Type} [DecidableEq α]
def orbF (f:α→α):Nat→List α→α→List α
 |0,_,_=>[]
 |n+1,met,h=>if h∈met then [] else h::orbF f n (met++[h]) (f h)
variable {f:α→α}
theorem orb_go {all met:List α} (hf: ∀x∈all,f x∈all) (inj: ∀x∈all, ∀y∈all,f x=f y→x=y) (hm: ∀x∈all,f x∈met→x∈met) {h0:α}:
  ∀(n:Nat) (P:List α) (x:α),P≠ []→Link f h0 P x→P.Nodup→(∀y∈P,y∈all∧y∉met)→all.length<P.length+n→
   ∃L,orbF f n (met++P) x=L∧Link f h0 (P++L) h0∧(P++L).Nodup∧ ∀y∈P++L,y∈all∧y∉met
 |0,P,x,hne,hl,hn,ha,hlen=>by
  have:=nodup_len hn (fun y hy=>(ha y hy).1)
  omega
 |n+1,P,x,hne,hl,hn,ha,hlen=>by
  unfold orbF
  rcases List.eq_nil_or_concat P with rfl|⟨Q,y,rfl⟩
  ·exact absurd rfl hne
  rw[List.concat_eq_append] at*
  obtain⟨h1,h2⟩:=link_snoc.1 hl
  have hy:=ha y (by simp)
  have hxall:x∈all:=by rw[h2];exact hf y hy.1
  by_cases hx:x∈met++(Q++[y])
  ·rw[if_pos hx]
   rcases List.mem_append.1 hx with hx|hx
   ·exact absurd (hm y hy.1 (by rw[←h2];exact hx)) hy.2
   ·have e:=link_back inj hl hn (fun z hz=>(ha z hz).1) hx
    rw[e] at hl
    exact⟨[],rfl,by rw[List.append_nil];exact hl,by rw[List.append_nil];exact hn,by rw[List.append_nil];exact ha⟩
  ·rw[if_neg hx]
   have hxm:x∉met:=fun h=>hx (List.mem_append_left _ h)
   have hxp:x∉Q++[y]:=fun h=>hx (List.mem_append_right _ h)
   obtain⟨L,e1,e2,e3,e4⟩:=orb_go hf inj hm n ((Q++[y])++[x]) (f x) (by simp) (link_snoc.2 ⟨hl,rfl⟩) (by
    rw[List.nodup_append]
    exact⟨hn,by simp,fun a ha' b hb e=>by simp at hb;subst hb;subst e;exact hxp ha'⟩) (fun z hz=>by
    rcases List.mem_append.1 hz with hz|hz
    ·exact ha z hz
    ·simp at hz;subst hz;exact⟨hxall,hxm⟩) (by simp at hlen ⊢;omega)
   refine⟨x::L, ?_, ?_, ?_, ?_⟩
   ·rw[List.append_assoc,e1]
   ·have:(Q++[y])++(x::L)=((Q++[y])++[x])++L:=by simp
    rw[this];exact e2
   ·have:(Q++[y])++(x::L)=((Q++[y])++[x])++L:=by simp
    rw[this];exact e3
   ·have:(Q++[y])++(x::L)=((Q++[y])++[x])++L:=by simp
    rw[this];exact e4
theorem orb_ring {all met:List α} (hf: ∀x∈all,f x∈all) (inj: ∀x∈all, ∀y∈all,f x=f y→x=y) (hm: ∀x∈all,f x∈met→x∈met) {h:α} (ha:h∈all) (hmet:h∉met) {n:Nat} (hn:all.length<n):Ring f all met h (orbF f n met h):=by
 obtain⟨k,rfl⟩: ∃k,n=k+1:=⟨n - 1,by omega⟩
 unfold orbF
 rw[if_neg hmet]
 obtain⟨L,e1,e2,e3,e4⟩:=orb_go (met:=met) hf inj hm k [h] (f h) (by simp) ⟨rfl,rfl⟩ (by simp) (fun y hy=>by simp at hy;subst hy;exact⟨ha,hmet⟩) (by simp;omega)
 rw[e1]
 exact⟨e2,by simp,e3,e4⟩
def ringsF (f:α→α) (n:Nat):List α→List α→List (List α)
 | [],_=>[]
 |h::l,met=>if h∈met then ringsF f n l met else orbF f n met h::ringsF f n l (met++orbF f n met h)
theorem rings_all {all:List α} (hf: ∀x∈all,f x∈all) (inj: ∀x∈all, ∀y∈all,f x=f y→x=y) {n:Nat} (hn:all.length<n):
  ∀(l met:List α),(∀x∈l,x∈all)→met.Nodup→(∀x∈met,x∈all∧f x∈met)→(∀x∈all,f x∈met→x∈met)→
   (∀L∈ringsF f n l met, ∃h m,Ring f all m h L∧ ∀x∈met,x∈m)∧(met++(ringsF f n l met).flatten).Nodup∧(∀x∈l,x∈met++(ringsF f n l met).flatten)∧ ∀x∈met++(ringsF f n l met).flatten,x∈all
 | [],met,hl,hd,hc,hb=>⟨by simp[ringsF],by simpa[ringsF] using hd,by simp,fun x hx=>by simp[ringsF] at hx;exact(hc x hx).1⟩
 |h::l,met,hl,hd,hc,hb=>by
  unfold ringsF
  by_cases hm:h∈met
  ·rw[if_pos hm]
   obtain⟨a,b,c,d⟩:=rings_all hf inj hn l met (fun x hx=>hl x (by simp[hx])) hd hc hb
   exact⟨a,b,fun x hx=>by
    rcases List.mem_cons.1 hx with rfl|hx
    ·exact List.mem_append_left _ hm
    ·exact c x hx,d⟩
  ·rw[if_neg hm]
   have r:=orb_ring (n:=n) hf inj hb (hl h (by simp)) hm hn
   generalize orbF f n met h=L at r ⊢
   have hd2:(met++L).Nodup:=by
    rw[List.nodup_append]
    exact⟨hd,r.nd,fun a ha b hb' e=>by subst e;exact(r.mem a hb').2 ha⟩
   obtain⟨a,b,c,d⟩:=rings_all hf inj hn l (met++L) (fun x hx=>hl x (by simp[hx])) hd2 (fun x hx=>by
    rcases List.mem_append.1 hx with hx|hx
    ·exact⟨(hc x hx).1,List.mem_append_left _ (hc x hx).2⟩
    ·exact⟨(r.mem x hx).1,List.mem_append_right _ (r.closed x hx)⟩) (fun x hx hfx=>by
    rcases List.mem_append.1 hfx with hfx|hfx
    ·exact List.mem_append_left _ (hb x hx hfx)
    ·exact List.mem_append_right _ (r.back inj x hx hfx))
   rw[List.flatten_cons]
   refine⟨fun K hK=> ?_,by rw[←List.append_assoc];exact b,fun x hx=> ?_,fun x hx=>d x (by rw[List.append_assoc];exact hx)⟩
   ·rcases List.mem_cons.1 hK with rfl|hK
    ·exact⟨h,met,r,fun x hx=>hx⟩
    ·obtain⟨g,m,r',hs⟩:=a K hK
     exact⟨g,m,r',fun x hx=>hs x (List.mem_append_left _ hx)⟩
   ·rw[←List.append_assoc]
    rcases List.mem_cons.1 hx with rfl|hx
    ·refine List.mem_append_left _ (List.mem_append_right _ ?_)
     cases L with
     |nil=>exact absurd rfl r.ne
     |cons z L=>have:=r.link.1;rw[this];simp
    ·exact c x hx
end
end Go.Proofs.Ythopjhifepijiaa
