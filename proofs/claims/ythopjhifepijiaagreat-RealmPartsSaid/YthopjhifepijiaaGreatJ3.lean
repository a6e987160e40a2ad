/- Lemmas on the way to the statement. -/
import Derived.Test.YthopjhifepijiaaGreatJ2
import Derived.Carry
import Derived.WalkLawsBesides
set_option linter.unusedSimpArgs false
set_option linter.unusedVariables false
namespace Go.Proofs.YthopjhifepijiaaGreat
open Go.RowKit
open Go.Maps (Keyed int_keyed)
theorem laid17:laidOutB Tryz.prog=true:=by kernel_rfl
theorem Tryz.keyInt:Keyed Tryz.prog 3:=int_keyed Tryz.underlying3
theorem Tryz.keyHalf:Keyed Tryz.prog 91:=Keyed.of_law (deep_law_laid laid17 (m:=2) (by omega) (of_decide_eq_true (by kernel_rfl)) (by kernel_rfl) (by kernel_rfl))
theorem Tryz.keyPoint:Keyed Tryz.prog 42:=Keyed.of_law (deep_law_laid laid17 (m:=2) (by omega) (of_decide_eq_true (by kernel_rfl)) (by kernel_rfl) (by kernel_rfl))
theorem Tryz.keyPair:Keyed Tryz.prog 105:=Keyed.of_law (deep_law_laid laid17 (m:=2) (by omega) (of_decide_eq_true (by kernel_rfl)) (by kernel_rfl) (by kernel_rfl))
theorem types_pos: ∃m,Tryz.prog.types.size=m+1:=⟨Tryz.prog.types.size - 1,by have:0<Tryz.prog.types.size:=of_decide_eq_true (by kernel_rfl);omega⟩
theorem cells_half:Tryz.prog.cellsOf 91=2:=by kernel_rfl
theorem cells_int:Tryz.prog.cellsOf 3=1:=by kernel_rfl
theorem cells_bool:Tryz.prog.cellsOf 4=1:=by kernel_rfl
theorem cells_pt:Tryz.prog.cellsOf 42=2:=by kernel_rfl
theorem cells_pair:Tryz.prog.cellsOf 105=2:=by kernel_rfl
theorem key_half (e:Int) (b:Bool) (he:(Lit.int .i64 e).wf=true):keyOf Tryz.prog 91 (.agg #[.int .i64 e, .bool b])=some (.string (keyBytes [.int .i64 e, .bool b])):=by
 have h1:Tryz.prog.keyType 91=true:=by kernel_rfl
 have h2:(Value.agg #[Value.int .i64 e, .bool b]).formed Tryz.prog 91=true:=by simp[Value.formed,Tryz.underlying91,cells_half]
 obtain⟨m,hm⟩:=types_pos
 unfold keyOf
 rw[Tryz.underlying91,h1,h2,hm]
 simp[Program.keyLits,Tryz.underlying91,Tryz.underlying3,Tryz.underlying4,Value.cells,cells_half,cells_int,cells_bool,he]
theorem key_point (x y:Int) (hx:(Lit.int .i64 x).wf=true) (hy:(Lit.int .i64 y).wf=true):keyOf Tryz.prog 42 (.agg #[.int .i64 x, .int .i64 y])=some (.string (keyBytes [.int .i64 x, .int .i64 y])):=by
 have h1:Tryz.prog.keyType 42=true:=by kernel_rfl
 have h2:(Value.agg #[Value.int .i64 x, .int .i64 y]).formed Tryz.prog 42=true:=by simp[Value.formed,Tryz.underlying42,cells_pt]
 obtain⟨m,hm⟩:=types_pos
 unfold keyOf
 rw[Tryz.underlying42,h1,h2,hm]
 simp[Program.keyLits,Tryz.underlying42,Tryz.underlying3,Value.cells,cells_pt,cells_int,hx,hy]
theorem key_pair (x y:Int) (hx:(Lit.int .i64 x).wf=true) (hy:(Lit.int .i64 y).wf=true):keyOf Tryz.prog 105 (.agg #[.int .i64 x, .int .i64 y])=some (.string (keyBytes [.int .i64 x, .int .i64 y])):=by
 have h1:Tryz.prog.keyType 105=true:=by kernel_rfl
 have h2:(Value.agg #[Value.int .i64 x, .int .i64 y]).formed Tryz.prog 105=true:=by simp[Value.formed,Tryz.underlying105,cells_pair]
 obtain⟨m,hm⟩:=types_pos
 unfold keyOf
 rw[Tryz.underlying105,h1,h2,hm]
 simp[Program.keyLits,Tryz.underlying105,Tryz.underlying3,Value.cells,cells_pair,cells_int,hx,hy,List.range_succ,List.range_zero]
theorem key_int (x:Int) (hx:(Lit.int .i64 x).wf=true):keyOf Tryz.prog 3 (.int .i64 x)=some (.int .i64 x):=Go.Maps.keyOf_int_mk Tryz.underlying3 hx
end Go.Proofs.YthopjhifepijiaaGreat
namespace Go.Proofs.YthopjhifepijiaaGreat
open Go.RowKit
def VsIn (w:World) (B:Nat) (a:Option Addr) (n:Nat) (l:List Vx):Prop:=n=l.length∧(n=0∨ ∃b off,a=some ⟨b,off,none⟩∧b<B∧ ∀(i:Nat) (v:Vx),l[i]? =some v→
 w.cell? ⟨b,off+i*3,none⟩=some (.int .i64 v.id)∧w.cell? ⟨b,off+i*3+1,none⟩=some (.int .i64 v.at_.x)∧w.cell? ⟨b,off+i*3+1+1,none⟩=some (.int .i64 v.at_.y))
def EsIn (w:World) (B:Nat) (a:Option Addr) (n:Nat) (l:List Ed):Prop:=n=l.length∧(n=0∨ ∃b off,a=some ⟨b,off,none⟩∧b<B∧ ∀(i:Nat) (v:Ed),l[i]? =some v→
 w.cell? ⟨b,off+i*3,none⟩=some (.int .i64 v.id)∧w.cell? ⟨b,off+i*3+1,none⟩=some (.int .i64 v.a)∧w.cell? ⟨b,off+i*3+1+1,none⟩=some (.int .i64 v.b))
theorem VsIn.below {w w':World} {B:Nat} {a:Option Addr} {n:Nat} {l:List Vx} (h:VsIn w B a n l) (hb:Below B w w'):VsIn w' B a n l:=by
 obtain⟨h1,h2|⟨b,off,ha,hlt,hc⟩⟩:=h
 ·exact⟨h1, .inl h2⟩
 ·exact⟨h1, .inr ⟨b,off,ha,hlt,fun i v hv=>⟨(hb.cell (p:=⟨b,_,none⟩) hlt).trans (hc i v hv).1,(hb.cell (p:=⟨b,_,none⟩) hlt).trans (hc i v hv).2.1,(hb.cell (p:=⟨b,_,none⟩) hlt).trans (hc i v hv).2.2⟩⟩⟩
theorem EsIn.below {w w':World} {B:Nat} {a:Option Addr} {n:Nat} {l:List Ed} (h:EsIn w B a n l) (hb:Below B w w'):EsIn w' B a n l:=by
 obtain⟨h1,h2|⟨b,off,ha,hlt,hc⟩⟩:=h
 ·exact⟨h1, .inl h2⟩
 ·exact⟨h1, .inr ⟨b,off,ha,hlt,fun i v hv=>⟨(hb.cell (p:=⟨b,_,none⟩) hlt).trans (hc i v hv).1,(hb.cell (p:=⟨b,_,none⟩) hlt).trans (hc i v hv).2.1,(hb.cell (p:=⟨b,_,none⟩) hlt).trans (hc i v hv).2.2⟩⟩⟩
theorem VsIn.at_ {w:World} {B:Nat} {a:Option Addr} {n:Nat} {l:List Vx} (h:VsIn w B a n l) {k:Nat} (hk:k<n): ∃b off v,a=some ⟨b,off,none⟩∧b<B∧l[k]? =some v∧
  w.cell? ⟨b,off+k*3,none⟩=some (.int .i64 v.id)∧w.cell? ⟨b,off+k*3+1,none⟩=some (.int .i64 v.at_.x)∧w.cell? ⟨b,off+k*3+1+1,none⟩=some (.int .i64 v.at_.y):=by
 obtain⟨h1,h2|⟨b,off,ha,hlt,hc⟩⟩:=h
 ·omega
 ·have hv:=List.getElem?_eq_getElem (l:=l) (i:=k) (by omega)
  exact⟨b,off,_,ha,hlt,hv,hc k _ hv⟩
theorem EsIn.at_ {w:World} {B:Nat} {a:Option Addr} {n:Nat} {l:List Ed} (h:EsIn w B a n l) {k:Nat} (hk:k<n): ∃b off v,a=some ⟨b,off,none⟩∧b<B∧l[k]? =some v∧
  w.cell? ⟨b,off+k*3,none⟩=some (.int .i64 v.id)∧w.cell? ⟨b,off+k*3+1,none⟩=some (.int .i64 v.a)∧w.cell? ⟨b,off+k*3+1+1,none⟩=some (.int .i64 v.b):=by
 obtain⟨h1,h2|⟨b,off,ha,hlt,hc⟩⟩:=h
 ·omega
 ·have hv:=List.getElem?_eq_getElem (l:=l) (i:=k) (by omega)
  exact⟨b,off,_,ha,hlt,hv,hc k _ hv⟩
theorem EsIn.take {w:World} {B:Nat} {a:Option Addr} {n:Nat} {l:List Ed} (h:EsIn w B a n l) {k:Nat} (hk:k≤n):EsIn w B a k (l.take k):=by
 obtain⟨h1,h2|⟨b,off,ha,hlt,hc⟩⟩:=h
 ·exact⟨by rw[List.length_take];omega, .inl (by omega)⟩
 ·refine⟨by rw[List.length_take];omega, .inr ⟨b,off,ha,hlt,fun i v hv=>hc i v ?_⟩⟩
  have:=(List.getElem?_eq_some_iff.1 hv).1
  rw[List.length_take] at this
  rwa [List.getElem?_take_of_lt (by omega)] at hv
set_option maxRecDepth 100000 in
theorem pends_any (e:Ed) (w:World):Calls Tryz.prog 69 #[.agg #[.int .i64 e.id, .int .i64 e.a, .int .i64 e.b]] w fun x w'=>x= .returned (.agg #[.int .i64 (ends e).1, .int .i64 (ends e).2])∧Below w.heap.size w w':=by
 obtain⟨lo,hi,hlo,hhi,hc⟩: ∃lo hi,(ends e).1=lo∧(ends e).2=hi∧((e.a<e.b∧lo=e.a∧hi=e.b)∨(e.b<e.a∧lo=e.b∧hi=e.a)∨(e.a=e.b∧lo=e.a∧hi=e.a)):=by
  unfold ends
  refine⟨_,_,rfl,rfl, ?_⟩
  simp only
  rcases Int.lt_trichotomy e.a e.b with h|h|h
  ·exact .inl ⟨h,by omega,by omega⟩
  ·refine .inr (.inr ⟨h, ?_, ?_⟩)<;>(rw[h];simp)
  ·exact .inr (.inl ⟨h,by omega,by omega⟩)
 rw[hlo,hhi]
 clear hlo hhi
 obtain⟨id,a,b⟩:=e
 simp only at hc ⊢
 rcases hc with ⟨h,rfl,rfl⟩|⟨h,rfl,rfl⟩|⟨rfl,rfl,rfl⟩
 all_goals
  go_enter Tryz.func69,Tryz.ntmps69
  go_wp2_with fail
 ·exact bodyPost_ret (v:= .agg #[.int .i64 lo, .int .i64 hi]) (by simp[results,Tryz.results69,go_sem]<;>omega) rfl ⟨rfl,below_alloc (below_alloc (Below.refl _ _))⟩
 ·exact bodyPost_ret (v:= .agg #[.int .i64 lo, .int .i64 hi]) (by simp[results,Tryz.results69,go_sem]<;>omega) rfl ⟨rfl,below_alloc (below_alloc (Below.refl _ _))⟩
 ·exact bodyPost_ret (v:= .agg #[.int .i64 hi, .int .i64 hi]) (by simp[results,Tryz.results69,go_sem]<;>omega) rfl ⟨rfl,below_alloc (below_alloc (Below.refl _ _))⟩
set_option maxRecDepth 100000 in
set_option maxHeartbeats 2000000 in
theorem onWay_any {w:World} {B vn vc:Nat} {va:Option Addr} {vs:List Vx} (hv:VsIn w B va vn vs) (hB:B≤w.heap.size) (hn:vn≤100000) (es:Value) (hes: ∃a n c,es= .slice a n c) (a b:Pt):
  Calls Tryz.prog 70 #[.agg #[.slice va vn vc,es], .agg #[.int .i64 a.x, .int .i64 a.y], .agg #[.int .i64 b.x, .int .i64 b.y]] w fun e w'=>e= .returned (.bool (vs.any fun v=>onB v.at_ a b))∧Below w.heap.size w w':=by
 obtain⟨ea,en,ec,rfl⟩:=hes
 have HV:=Lib.hid hv
 clear hv
 go_enter Tryz.func70,Tryz.ntmps70
 go_wp2_with fail
 first|refine wp_name (fun W hW=> ?_)|refine calls_name (fun W hW=> ?_)
 have HW:Hid (Below w.heap.size w W):=Lib.hid (by rw[←hW];repeat (first|exact Below.refl _ _|refine below_alloc ?_))
 have HWs:Hid (W.heap.size=w.heap.size+1+1+1):=Lib.hid (by rw[←hW];simp)
 have HBW:Hid (W.heap.size≤W.heap.size):=Lib.hid (by have:=HWs.out;omega)
 have HC:=fun(W1:World) (hb:Below (W.heap.size) W W1)=>Lib.hid (show W1.cell? ⟨w.heap.size,0,none⟩=some (.slice va vn vc)∧W1.cell? ⟨w.heap.size,1,none⟩=some (.slice ea en ec)∧W1.cell? ⟨w.heap.size+1,0,none⟩=some (.int .i64 a.x)∧W1.cell? ⟨w.heap.size+1,1,none⟩=some (.int .i64 a.y)∧W1.cell? ⟨w.heap.size+1+1,0,none⟩=some (.int .i64 b.x)∧W1.cell? ⟨w.heap.size+1+1,1,none⟩=some (.int .i64 b.y) from by have hs:=HWs.out;refine⟨?_, ?_, ?_, ?_, ?_, ?_⟩<;>(refine(hb.cell (by dsimp only;omega)).trans ?_;rw[←hW];clear hW;go_simp))
 have HB:=Lib.hid (Below.refl (W.heap.size) W)
 clear hW
 have HZ:=fun(W1:World) (hb:W.heap.size≤W1.heap.size)=>Lib.hid (show w.heap.size<W1.heap.size∧w.heap.size+1<W1.heap.size∧w.heap.size+1+1<W1.heap.size from by have:=HWs.out;refine⟨?_, ?_, ?_⟩<;>omega)
 obtain⟨qx0,qx1,qx2,qx3,qx4,qx5⟩:=(HC _ HB.out).out
 obtain⟨rx0,rx1,rx2⟩:=(HZ _ HB.out.size).out
 clear qx0 qx1 qx2 qx3 qx4 qx5 rx0 rx1 rx2
 go_loopw [12] (fun v wr=> ∃k:Nat,k≤vn∧v= .int .i64 k∧(∀(j:Nat) (u:Vx),j<k→vs[j]? =some u→onB u.at_ a b=false)∧Below W.heap.size W wr) (fun v _=>vn - (intOf v).toNat)
 case atStart=>exact⟨0,Nat.zero_le _,rfl,fun j u hj=>absurd hj (by omega),HB.out⟩
 case round=>
  obtain⟨k,hk,rfl,hall,hb⟩:=hrel
  have HB:=Lib.hid hb
  have HA:=Lib.hid hall
  clear hb hall
  obtain⟨qx0,qx1,qx2,qx3,qx4,qx5⟩:=(HC _ HB.out).out
  obtain⟨rx0,rx1,rx2⟩:=(HZ _ HB.out.size).out
  by_cases hlt:k<vn
  ·obtain⟨vb,off,v,rfl,hvb,hv,e0,e1,e2⟩:=(HV.out.below (args_below HW.out HB.out hB (by have:=HWs.out;omega))).at_ hlt
   have HVK:=Lib.hid hv
   have HON:=fun w=>Lib.hid (on_any v.at_ a b w)
   have hov:=HON w
   clear hv hov
   cases hon:onB v.at_ a b
   ·rw[hon] at HON
    go_wp2_with fail
    refine((HON _).out).mono ?_
    rintro e w3 ⟨rfl,hb3⟩
    have HB:=bnx HB HBW hb3
    clear qx0 qx1 qx2 qx3 qx4 qx5 rx0 rx1 rx2
    obtain⟨qx0,qx1,qx2,qx3,qx4,qx5⟩:=(HC _ HB.out).out
    clear hb3
    obtain⟨rx0,rx1,rx2⟩:=(HZ _ HB.out.size).out
    go_wp2_with fail
    go_roundw
    case rel=>
     refine⟨k+1,by omega,by go_num,fun j u hj hu=> ?_,HB.out⟩
     by_cases e:j=k
     ·subst e;rw[HVK.out] at hu;cases hu;exact hon
     ·exact HA.out j u (by omega) hu
    case measure=>simp[intOf];omega
   ·rw[hon] at HON
    have F:=Lib.hid (show(vs.any fun v=>onB v.at_ a b)=true from List.any_eq_true.2 ⟨v,List.mem_of_getElem? HVK.out,hon⟩)
    clear hon
    go_wp2_with fail
    refine((HON _).out).mono ?_
    rintro e w4 ⟨rfl,hb4⟩
    have HB:=bnx HB HBW hb4
    clear qx0 qx1 qx2 qx3 qx4 qx5 rx0 rx1 rx2
    obtain⟨qx0,qx1,qx2,qx3,qx4,qx5⟩:=(HC _ HB.out).out
    clear hb4
    obtain⟨rx0,rx1,rx2⟩:=(HZ _ HB.out.size).out
    go_wp2_with fail
    go_ret
    exact⟨by rw[F.out];rfl,bfn HW HB⟩
  ·obtain rfl:k=vn:=by omega
   have F:=Lib.hid (show(vs.any fun v=>onB v.at_ a b)=false by
    rw[List.any_eq_false]
    intro v hv
    obtain⟨j,hj⟩:=List.mem_iff_getElem?.1 hv
    rw[HA.out j v (by have:=(List.getElem?_eq_some_iff.1 hj).1;have:=HV.out.1;omega) hj]
    decide)
   go_wp2_with fail
   go_ret
   exact⟨by rw[F.out];rfl,bfn HW HB⟩
end Go.Proofs.YthopjhifepijiaaGreat
namespace Go.Proofs.YthopjhifepijiaaGreat
open Go.RowKit
open Go.Maps (Keyed)
abbrev ekI (i:Int):Value:= .int .i64 i
abbrev ptV (p:Pt):Value:= .agg #[.int .i64 p.x, .int .i64 p.y]
theorem ekI_inj (x y:Int) (h:ekI y=ekI x):y=x:=by injection h
theorem wf_int {x:Int} (h:fitI x):(Lit.int .i64 x).wf=true:=WalkArith.wf_i64 (by unfold fitI at h;omega)
theorem zeroPt (w:World):(zeroValue 42).run Tryz.prog w= .ok (.agg #[.int .i64 0, .int .i64 0]) w:=by kernel_rfl
def AtMap (w:World) (M n:Nat) (vs:List Vx):Prop:=MapT w Tryz.prog 3 M n ekI ptV (ptOf vs)
theorem AtMap.look {w:World} {M n:Nat} {vs:List Vx} (h:AtMap w M n vs) (id:Int) (hid:fitI id):
  (Instr.lookup 146 (.map (some M)) (.int .i64 id) false).run Tryz.prog w= .ok (.agg #[.int .i64 (ptZ vs id).x, .int .i64 (ptZ vs id).y]) w:=by
 have:=MapT.look h Tryz.keyInt Tryz.underlying146 (zeroPt w) (x:=id) (key_int id (wf_int hid))
 rw[this]
 unfold ptZ
 cases ptOf vs id<;>rfl
theorem AtMap.look_ok {w:World} {M n:Nat} {vs:List Vx} (h:AtMap w M n vs) (id:Int) (hid:fitI id):
  (Instr.lookup 146 (.map (some M)) (.int .i64 id) true).run Tryz.prog w= .ok (.tuple #[.agg #[.int .i64 (ptZ vs id).x, .int .i64 (ptZ vs id).y], .bool (ptOf vs id).isSome]) w:=by
 have:=MapT.look_ok h Tryz.keyInt Tryz.underlying146 (zeroPt w) (x:=id) (key_int id (wf_int hid))
 rw[this]
 unfold ptZ
 cases ptOf vs id<;>rfl
theorem below_grown {B b:Nat} {a c d:World} (h:Below B a c) (hg:c.grownBy d (some b)) (hB:B≤c.heap.size) (hb:B≤b):Below B a d:=h.grown hg hB (fun k e=>by injection e with e;omega)
def crossedB (vs:List Vx) (es:List Ed) (a b:Pt):Bool:=es.any fun e=>meetB a b (ptZ vs e.a) (ptZ vs e.b)
set_option maxRecDepth 100000 in
set_option maxHeartbeats 4000000 in
theorem crossed_any {w:World} {B vn vc en ec:Nat} {va ea:Option Addr} {vs:List Vx} {es:List Ed} (hv:VsIn w B va vn vs) (he:EsIn w B ea en es) (hB:B≤w.heap.size) (hn:vn≤100000) (hm:en≤100000)
  (hfit:FitPL ⟨vs,es⟩) (hap:vs.Pairwise (fun u v=>u.id≠v.id)) (a b:Pt):
  Calls Tryz.prog 71 #[.agg #[.slice va vn vc, .slice ea en ec], .agg #[.int .i64 a.x, .int .i64 a.y], .agg #[.int .i64 b.x, .int .i64 b.y]] w fun e w'=>e= .returned (.bool (crossedB vs es a b))∧Below w.heap.size w w':=by
 have HV:=Lib.hid hv
 have HE:=Lib.hid he
 have HF:=Lib.hid hfit
 have HP:=Lib.hid hap
 have hmm:= @run_makeMap Tryz.prog
 clear hv he hfit hap
 go_enter Tryz.func71,Tryz.ntmps71
 go_wp2_with fail
 first|refine wp_name (fun W hW=> ?_)|refine calls_name (fun W hW=> ?_)
 have HW:Hid (Below w.heap.size w W):=Lib.hid (by rw[←hW];repeat (first|exact Below.refl _ _|refine below_alloc ?_))
 have HWs:Hid (W.heap.size=w.heap.size+1+1+1+1):=Lib.hid (by rw[←hW];simp)
 have HBW:Hid (w.heap.size+1+1+1≤W.heap.size):=Lib.hid (by have:=HWs.out;omega)
 have HC:=fun(W1:World) (hb:Below (w.heap.size+1+1+1) W W1)=>Lib.hid (show W1.cell? ⟨w.heap.size,0,none⟩=some (.slice va vn vc)∧W1.cell? ⟨w.heap.size,1,none⟩=some (.slice ea en ec)∧W1.cell? ⟨w.heap.size+1,0,none⟩=some (.int .i64 a.x)∧W1.cell? ⟨w.heap.size+1,1,none⟩=some (.int .i64 a.y)∧W1.cell? ⟨w.heap.size+1+1,0,none⟩=some (.int .i64 b.x)∧W1.cell? ⟨w.heap.size+1+1,1,none⟩=some (.int .i64 b.y) from by have hs:=HWs.out;refine⟨?_, ?_, ?_, ?_, ?_, ?_⟩<;>(refine(hb.cell (by dsimp only;omega)).trans ?_;rw[←hW];clear hW;go_simp))
 have HB:=Lib.hid (Below.refl (w.heap.size+1+1+1) W)
 have HZ:=fun(W1:World) (hb:W.heap.size≤W1.heap.size)=>Lib.hid (show w.heap.size<W1.heap.size∧w.heap.size+1<W1.heap.size∧w.heap.size+1+1<W1.heap.size from by have:=HWs.out;refine⟨?_, ?_, ?_⟩<;>omega)
 obtain⟨qx0,qx1,qx2,qx3,qx4,qx5⟩:=(HC _ HB.out).out
 obtain⟨rx0,rx1,rx2⟩:=(HZ _ HB.out.size).out
 have HMM:Hid (AtMap W (w.heap.size+1+1+1) 0 (vs.take 0)):=Lib.hid (by
  rw[←hW]
  have e:(((w.alloc (.cells #[.slice va vn vc, .slice ea en ec] 30)).alloc (ptC a)).alloc (ptC b)).heap.size=w.heap.size+1+1+1:=by simp
  have:=MapT.made (((w.alloc (.cells #[.slice va vn vc, .slice ea en ec] 30)).alloc (ptC a)).alloc (ptC b)) Tryz.prog 3 ekI ptV
  rw[e] at this
  exact this)
 clear hW
 go_wp2_with fail
 clear qx0 qx1 qx2 qx3 qx4 qx5 rx0 rx1 rx2
 go_loopw [16] (fun v wr=> ∃k:Nat,k≤vn∧v= .int .i64 k∧AtMap wr (w.heap.size+1+1+1) k (vs.take k)∧Below (w.heap.size+1+1+1) W wr) (fun v _=>vn - (intOf v).toNat)
 case atStart=>exact⟨0,Nat.zero_le _,rfl,HMM.out,HB.out⟩
 case round=>
  clear HMM HB
  obtain⟨k,hk,rfl,hmap,hb⟩:=hrel
  have HB:=Lib.hid hb
  have HM:=Lib.hid hmap
  clear hb hmap
  obtain⟨qx0,qx1,qx2,qx3,qx4,qx5⟩:=(HC _ HB.out).out
  obtain⟨rx0,rx1,rx2⟩:=(HZ _ HB.out.size).out
  by_cases hlt:k<vn
  ·obtain⟨vb,off,v,rfl,hvb,hv,e0,e1,e2⟩:=(HV.out.below (args_below HW.out HB.out hB (by have:=HWs.out;omega))).at_ hlt
   have HVK:=Lib.hid hv
   have hwf:=(HF.out.vs v (List.mem_of_getElem? hv)).1
   have hkey:=key_int v.id (wf_int hwf)
   have hnew: ∀u∈vs.take k,u.id≠v.id:=fun u hu=>by
    obtain⟨j,hj⟩:=List.mem_iff_getElem?.1 hu
    have hjk:j<k:=by
     have:=(List.getElem?_eq_some_iff.1 hj).1
     rw[List.length_take] at this;omega
    rw[List.getElem?_take_of_lt hjk] at hj
    have h1:=List.pairwise_iff_getElem.1 HP.out j k (List.getElem?_eq_some_iff.1 hj).1 (List.getElem?_eq_some_iff.1 hv).1 hjk
    rw[(List.getElem?_eq_some_iff.1 hj).2,(List.getElem?_eq_some_iff.1 hv).2] at h1
    exact h1
   have hsn:=ptOf_snoc hnew
   rw[←take_snoc' hv] at hsn
   have HSN:=Lib.hid hsn
   have HKEY:=Lib.hid hkey
   clear hv hwf hnew hsn hkey
   have HM1:=Lib.hid (MapT.alloc HM.out (.cells #[.int .i64 v.id, .int .i64 v.at_.x, .int .i64 v.at_.y] 66))
   have HST:=fun(w2:World) (h:MapT w2 Tryz.prog 3 (w.heap.size+1+1+1) (k+1) ekI ptV (updT (ptOf (vs.take k)) v.id v.at_))=>Lib.hid (show AtMap w2 (w.heap.size+1+1+1) (k+1) (vs.take (k+1)) by unfold AtMap;rw[HSN.out];exact h)
   have HSZ:Hid (w.heap.size+1+1+1≤wr.heap.size+1):=Lib.hid (by have h1:=HBW.out;have h2:=HB.out.size;omega)
   have HB1:=Lib.hid (HB.out.alloc (Nat.le_trans HBW.out HB.out.size) (.cells #[.int .i64 v.id, .int .i64 v.at_.x, .int .i64 v.at_.y] 66))
   go_wp2_with (at_mapUpdate;refine wpList_update_T _ rfl _ _ _ 146 rfl 3 42 Tryz.keyInt Tryz.underlying146 (w.heap.size+1+1+1) k ekI ptV (ptOf (vs.take k)) HM1.out rfl (by unfold maxLen;omega) v.id _ rfl HKEY.out (ekI_inj _) v.at_ rfl ?_;intro w2 hm2 hg2;have HM2:=HST _ hm2;have HB2:=Lib.hid (below_grown HB1.out hg2 (by simpa using HSZ.out) (Nat.le_refl _));clear hm2 hg2)
   go_roundw
   case rel=>exact⟨k+1,by omega,by go_num,HM2.out,HB2.out⟩
   case measure=>simp[intOf];omega
  ·obtain rfl:k=vn:=by omega
   have HM0:=Lib.hid (show AtMap wr (w.heap.size+1+1+1) k vs by have h1:=HM.out;rw[List.take_of_length_le (by have:=HV.out.1;omega)] at h1;exact h1)
   clear HM
   go_wp2_with fail
   go_loopw [29] (fun v wr2=> ∃j:Nat,j≤en∧v= .int .i64 j∧AtMap wr2 (w.heap.size+1+1+1) k vs∧(∀(i:Nat) (u:Ed),i<j→es[i]? =some u→meetB a b (ptZ vs u.a) (ptZ vs u.b)=false)∧Below (w.heap.size+1+1+1) W wr2) (fun v _=>en - (intOf v).toNat)
   case atStart=>exact⟨0,Nat.zero_le _,rfl,HM0.out,fun j u hj=>absurd hj (by omega),HB.out⟩
   case round=>
    clear HM0 HB
    obtain⟨j,hj,rfl,hmap,hall,hb⟩:=hrel
    have HB:=Lib.hid hb
    have HM:=Lib.hid hmap
    have HA:=Lib.hid hall
    clear hb hmap hall
    clear qx0 qx1 qx2 qx3 qx4 qx5 rx0 rx1 rx2
    obtain⟨qx0,qx1,qx2,qx3,qx4,qx5⟩:=(HC _ HB.out).out
    obtain⟨rx0,rx1,rx2⟩:=(HZ _ HB.out.size).out
    by_cases hlj:j<en
    ·obtain⟨eb,off,e,rfl,heb,he,e0,e1,e2⟩:=(HE.out.below (args_below HW.out HB.out hB (by have:=HWs.out;omega))).at_ hlj
     have HEK:=Lib.hid he
     have hfe:=HF.out.es e (List.mem_of_getElem? he)
     have HM1:Hid (AtMap (wr.alloc (.cells #[.int .i64 e.id, .int .i64 e.a, .int .i64 e.b] 68)) (w.heap.size+1+1+1) k vs):=Lib.hid (MapT.alloc HM.out _)
     have l1:=HM1.out.look e.a hfe.2.1
     have l2:=HM1.out.look e.b hfe.2.2
     have HON:=fun w=>Lib.hid (meet_any a b (ptZ vs e.a) (ptZ vs e.b) w)
     clear he hfe
     cases hon:meetB a b (ptZ vs e.a) (ptZ vs e.b)
     ·rw[hon] at HON
      have HON1:=Lib.hid hon
      clear hon
      go_wp2_with fail
      refine((HON _).out).mono ?_
      rintro e w4 ⟨rfl,hb4⟩
      have HB:=bnx HB HBW hb4
      clear qx0 qx1 qx2 qx3 qx4 qx5 rx0 rx1 rx2
      obtain⟨qx0,qx1,qx2,qx3,qx4,qx5⟩:=(HC _ HB.out).out
      have HM2:=Lib.hid (MapT.below HM1.out hb4)
      clear hb4
      obtain⟨rx0,rx1,rx2⟩:=(HZ _ HB.out.size).out
      go_wp2_with fail
      go_roundw
      case rel=>
       refine⟨j+1,by omega,by go_num,HM2.out,fun i u hi hu=> ?_,HB.out⟩
       by_cases e:i=j
       ·subst e;rw[HEK.out] at hu;cases hu;exact HON1.out
       ·exact HA.out i u (by omega) hu
      case measure=>simp[intOf];omega
     ·rw[hon] at HON
      have F:=Lib.hid (show crossedB vs es a b=true from List.any_eq_true.2 ⟨e,List.mem_of_getElem? HEK.out,hon⟩)
      clear hon
      go_wp2_with fail
      refine((HON _).out).mono ?_
      rintro e w5 ⟨rfl,hb5⟩
      have HB:=bnx HB HBW hb5
      clear qx0 qx1 qx2 qx3 qx4 qx5 rx0 rx1 rx2
      obtain⟨qx0,qx1,qx2,qx3,qx4,qx5⟩:=(HC _ HB.out).out
      clear hb5
      obtain⟨rx0,rx1,rx2⟩:=(HZ _ HB.out.size).out
      go_wp2_with fail
      go_ret
      exact⟨by rw[F.out];rfl,(HW.out.trans (HB.out.mono (by have:=HWs.out;omega)))⟩
    ·obtain rfl:j=en:=by omega
     have F:=Lib.hid (show crossedB vs es a b=false by
      unfold crossedB
      rw[List.any_eq_false]
      intro v hv
      obtain⟨i,hi⟩:=List.mem_iff_getElem?.1 hv
      rw[HA.out i v (by have:=(List.getElem?_eq_some_iff.1 hi).1;have:=HE.out.1;omega) hi]
      decide)
     go_wp2_with fail
     go_ret
     exact⟨by rw[F.out];rfl,(HW.out.trans (HB.out.mono (by have:=HWs.out;omega)))⟩
end Go.Proofs.YthopjhifepijiaaGreat
namespace Go.Proofs.YthopjhifepijiaaGreat
open Go.RowKit
def isV (id:Int) (v:Vx):Bool:=v.id==id
def isE (id:Int) (v:Ed):Bool:=v.id==id
def findV (vs:List Vx) (id:Int):Vx:=(vs.find? (isV id)).getD ⟨0,⟨0,0⟩⟩
def hasV (vs:List Vx) (id:Int):Bool:=(vs.find? (isV id)).isSome
def findE (es:List Ed) (id:Int):Ed:=(es.find? (isE id)).getD ⟨0,0,0⟩
def hasE (es:List Ed) (id:Int):Bool:=(es.find? (isE id)).isSome
theorem find_at {α:Type} {l:List α} {p:α→Bool} {k:Nat} {v:α} (hk:l[k]? =some v) (hv:p v=true) (hno: ∀j u,j<k→l[j]? =some u→p u=false):l.find? p=some v:=by
 induction l generalizing k with
 |nil=>simp at hk
 |cons x l ih=>
  rw[List.find?_cons]
  cases k with
  |zero=>simp at hk;subst hk;rw[hv]
  |succ k=>
   have:=hno 0 x (by omega) rfl
   rw[this]
   exact ih (by simpa using hk) (fun j u hj hu=>hno (j+1) u (by omega) (by simpa using hu))
theorem find_not {α:Type} {l:List α} {p:α→Bool} (hno: ∀(j:Nat) u,l[j]? =some u→p u=false):l.find? p=none:=by
 rw[List.find?_eq_none]
 intro x hx
 obtain⟨j,hj⟩:=List.mem_iff_getElem?.1 hx
 rw[hno j x hj];decide
set_option maxRecDepth 100000 in
set_option maxHeartbeats 4000000 in
theorem vertex_any {w:World} {B vn vc:Nat} {va:Option Addr} {vs:List Vx} (hv:VsIn w B va vn vs) (hB:B≤w.heap.size) (hn:vn≤100000) (es:Value) (hes: ∃a n c,es= .slice a n c) (id:Int):
  Calls Tryz.prog 72 #[.agg #[.slice va vn vc,es], .int .i64 id] w fun e w'=>e= .returned (.tuple #[.agg #[.int .i64 (findV vs id).id, .int .i64 (findV vs id).at_.x, .int .i64 (findV vs id).at_.y], .bool (hasV vs id)])∧Below w.heap.size w w':=by
 obtain⟨ea,en,ec,rfl⟩:=hes
 have HV:=Lib.hid hv
 clear hv
 go_enter Tryz.func72,Tryz.ntmps72
 go_wp2_with fail
 first|refine wp_name (fun W hW=> ?_)|refine calls_name (fun W hW=> ?_)
 have HW:Hid (Below w.heap.size w W):=Lib.hid (by rw[←hW];repeat (first|exact Below.refl _ _|refine below_alloc ?_))
 have HWs:Hid (W.heap.size=w.heap.size+1+1):=Lib.hid (by rw[←hW];simp)
 have HBW:Hid (W.heap.size≤W.heap.size):=Lib.hid (by have:=HWs.out;omega)
 have HC:=fun(W1:World) (hb:Below (W.heap.size) W W1)=>Lib.hid (show W1.cell? ⟨w.heap.size,0,none⟩=some (.slice va vn vc)∧W1.cell? ⟨w.heap.size,1,none⟩=some (.slice ea en ec)∧W1.cell? ⟨w.heap.size+1,0,none⟩=some (.int .i64 0)∧W1.cell? ⟨w.heap.size+1,1,none⟩=some (.int .i64 0)∧W1.cell? ⟨w.heap.size+1,2,none⟩=some (.int .i64 0) from by have hs:=HWs.out;refine⟨?_, ?_, ?_, ?_, ?_⟩<;>(refine(hb.cell (by dsimp only;omega)).trans ?_;rw[←hW];clear hW;go_simp))
 have HB:=Lib.hid (Below.refl (W.heap.size) W)
 have HZ:=fun(W1:World) (hb:W.heap.size≤W1.heap.size)=>Lib.hid (show w.heap.size<W1.heap.size∧w.heap.size+1<W1.heap.size from by have:=HWs.out;refine⟨?_, ?_⟩<;>omega)
 obtain⟨qx0,qx1,qx2,qx3,qx4⟩:=(HC _ HB.out).out
 obtain⟨rx0,rx1⟩:=(HZ _ HB.out.size).out
 have HFZ:=fun(W1:World) (hb:Below W.heap.size W W1)=>Lib.hid (show∀j,W1.frozen? ⟨w.heap.size+1,j,none⟩=false from fun j=>(hb.frozen (p:=⟨w.heap.size+1,j,none⟩) (by show w.heap.size+1<W.heap.size;have:=HWs.out;omega)).trans (by rw[←hW];clear hW;go_simp))
 clear hW
 clear qx0 qx1 qx2 qx3 qx4 rx0 rx1
 go_loopw [11] (fun v wr=> ∃k:Nat,k≤vn∧v= .int .i64 k∧(∀(j:Nat) (u:Vx),j<k→vs[j]? =some u→isV id u=false)∧Below W.heap.size W wr) (fun v _=>vn - (intOf v).toNat)
 case atStart=>exact⟨0,Nat.zero_le _,rfl,fun j u hj=>absurd hj (by omega),HB.out⟩
 case round=>
  clear HB
  obtain⟨k,hk,rfl,hall,hb⟩:=hrel
  have HB:=Lib.hid hb
  have HA:=Lib.hid hall
  clear hb hall
  obtain⟨qx0,qx1,qx2,qx3,qx4⟩:=(HC _ HB.out).out
  obtain⟨rx0,rx1⟩:=(HZ _ HB.out.size).out
  have fz:=(HFZ _ HB.out).out
  by_cases hlt:k<vn
  ·obtain⟨vb,off,v,rfl,hvb,hv,e0,e1,e2⟩:=(HV.out.below (args_below HW.out HB.out hB (by have:=HWs.out;omega))).at_ hlt
   have HVK:=Lib.hid hv
   clear hv
   cases hon:isV id v
   ·have hq:(v.id==id)=false:=hon
    have HON:=Lib.hid hon
    clear hon
    have HB1:=Lib.hid (HB.out.alloc HB.out.size (.cells #[.int .i64 v.id, .int .i64 v.at_.x, .int .i64 v.at_.y] 66))
    go_wp2_with fail
    go_roundw
    case rel=>
     refine⟨k+1,by omega,by go_num,fun j u hj hu=> ?_,HB1.out⟩
     by_cases e:j=k
     ·subst e;rw[HVK.out] at hu;cases hu;exact HON.out
     ·exact HA.out j u (by omega) hu
    case measure=>simp[intOf];omega
   ·have hq:(v.id==id)=true:=hon
    have F:=Lib.hid (find_at HVK.out hon HA.out)
    have F1:Hid (findV vs id=v):=Lib.hid (by unfold findV;rw[F.out];rfl)
    have F2:Hid (hasV vs id=true):=Lib.hid (by unfold hasV;rw[F.out];rfl)
    have HB1:=Lib.hid (HB.out.alloc HB.out.size (.cells #[.int .i64 v.id, .int .i64 v.at_.x, .int .i64 v.at_.y] 66))
    clear hon
    go_wp2_with fail
    refine bodyPost_ret (v:= .tuple #[.agg #[.int .i64 v.id, .int .i64 v.at_.x, .int .i64 v.at_.y], .bool true]) (by simp[results,Tryz.results72,go_sem, *]) rfl ⟨by rw[F1.out,F2.out], ?_⟩
    have h3:Below w.heap.size w wr:=HW.out.trans (HB.out.mono HW.out.size)
    exact(((h3.setCell (by simp) _).setCell (by simp) _).setCell (by simp) _).alloc (by simp;exact h3.size) _
  ·obtain rfl:k=vn:=by omega
   have F:=Lib.hid (find_not (p:=isV id) (fun j u hj=>HA.out j u (by have:=(List.getElem?_eq_some_iff.1 hj).1;have:=HV.out.1;omega) hj))
   have F1:Hid (findV vs id=⟨0,⟨0,0⟩⟩):=Lib.hid (by unfold findV;rw[F.out];rfl)
   have F2:Hid (hasV vs id=false):=Lib.hid (by unfold hasV;rw[F.out];rfl)
   go_wp2_with fail
   refine bodyPost_ret (v:= .tuple #[.agg #[.int .i64 0, .int .i64 0, .int .i64 0], .bool false]) (by simp[results,Tryz.results72,go_sem, *]) rfl ⟨by rw[F1.out,F2.out], ?_⟩
   have h3:Below w.heap.size w wr:=HW.out.trans (HB.out.mono HW.out.size)
   exact((h3.setCell (by simp) _).setCell (by simp) _).setCell (by simp) _
set_option maxRecDepth 100000 in
set_option maxHeartbeats 4000000 in
theorem edge_any {w:World} {B en ec:Nat} {ea:Option Addr} {es:List Ed} (hv:EsIn w B ea en es) (hB:B≤w.heap.size) (hn:en≤100000) (vs:Value) (hvs: ∃a n c,vs= .slice a n c) (id:Int):
  Calls Tryz.prog 58 #[.agg #[vs, .slice ea en ec], .int .i64 id] w fun e w'=>e= .returned (.tuple #[.agg #[.int .i64 (findE es id).id, .int .i64 (findE es id).a, .int .i64 (findE es id).b], .bool (hasE es id)])∧Below w.heap.size w w':=by
 obtain⟨va,vn,vc,rfl⟩:=hvs
 have HV:=Lib.hid hv
 clear hv
 go_enter Tryz.func58,Tryz.ntmps58
 go_wp2_with fail
 first|refine wp_name (fun W hW=> ?_)|refine calls_name (fun W hW=> ?_)
 have HW:Hid (Below w.heap.size w W):=Lib.hid (by rw[←hW];repeat (first|exact Below.refl _ _|refine below_alloc ?_))
 have HWs:Hid (W.heap.size=w.heap.size+1+1):=Lib.hid (by rw[←hW];simp)
 have HBW:Hid (W.heap.size≤W.heap.size):=Lib.hid (by have:=HWs.out;omega)
 have HC:=fun(W1:World) (hb:Below (W.heap.size) W W1)=>Lib.hid (show W1.cell? ⟨w.heap.size,0,none⟩=some (.slice va vn vc)∧W1.cell? ⟨w.heap.size,1,none⟩=some (.slice ea en ec)∧W1.cell? ⟨w.heap.size+1,0,none⟩=some (.int .i64 0)∧W1.cell? ⟨w.heap.size+1,1,none⟩=some (.int .i64 0)∧W1.cell? ⟨w.heap.size+1,2,none⟩=some (.int .i64 0) from by have hs:=HWs.out;refine⟨?_, ?_, ?_, ?_, ?_⟩<;>(refine(hb.cell (by dsimp only;omega)).trans ?_;rw[←hW];clear hW;go_simp))
 have HB:=Lib.hid (Below.refl (W.heap.size) W)
 have HZ:=fun(W1:World) (hb:W.heap.size≤W1.heap.size)=>Lib.hid (show w.heap.size<W1.heap.size∧w.heap.size+1<W1.heap.size from by have:=HWs.out;refine⟨?_, ?_⟩<;>omega)
 obtain⟨qx0,qx1,qx2,qx3,qx4⟩:=(HC _ HB.out).out
 obtain⟨rx0,rx1⟩:=(HZ _ HB.out.size).out
 have HFZ:=fun(W1:World) (hb:Below W.heap.size W W1)=>Lib.hid (show∀j,W1.frozen? ⟨w.heap.size+1,j,none⟩=false from fun j=>(hb.frozen (p:=⟨w.heap.size+1,j,none⟩) (by show w.heap.size+1<W.heap.size;have:=HWs.out;omega)).trans (by rw[←hW];clear hW;go_simp))
 clear hW
 clear qx0 qx1 qx2 qx3 qx4 rx0 rx1
 go_loopw [11] (fun v wr=> ∃k:Nat,k≤en∧v= .int .i64 k∧(∀(j:Nat) (u:Ed),j<k→es[j]? =some u→isE id u=false)∧Below W.heap.size W wr) (fun v _=>en - (intOf v).toNat)
 case atStart=>exact⟨0,Nat.zero_le _,rfl,fun j u hj=>absurd hj (by omega),HB.out⟩
 case round=>
  clear HB
  obtain⟨k,hk,rfl,hall,hb⟩:=hrel
  have HB:=Lib.hid hb
  have HA:=Lib.hid hall
  clear hb hall
  obtain⟨qx0,qx1,qx2,qx3,qx4⟩:=(HC _ HB.out).out
  obtain⟨rx0,rx1⟩:=(HZ _ HB.out.size).out
  have fz:=(HFZ _ HB.out).out
  by_cases hlt:k<en
  ·obtain⟨vb,off,v,rfl,hvb,hv,e0,e1,e2⟩:=(HV.out.below (args_below HW.out HB.out hB (by have:=HWs.out;omega))).at_ hlt
   have HVK:=Lib.hid hv
   clear hv
   cases hon:isE id v
   ·have hq:(v.id==id)=false:=hon
    have HON:=Lib.hid hon
    clear hon
    have HB1:=Lib.hid (HB.out.alloc HB.out.size (.cells #[.int .i64 v.id, .int .i64 v.a, .int .i64 v.b] 68))
    go_wp2_with fail
    go_roundw
    case rel=>
     refine⟨k+1,by omega,by go_num,fun j u hj hu=> ?_,HB1.out⟩
     by_cases e:j=k
     ·subst e;rw[HVK.out] at hu;cases hu;exact HON.out
     ·exact HA.out j u (by omega) hu
    case measure=>simp[intOf];omega
   ·have hq:(v.id==id)=true:=hon
    have F:=Lib.hid (find_at HVK.out hon HA.out)
    have F1:Hid (findE es id=v):=Lib.hid (by unfold findE;rw[F.out];rfl)
    have F2:Hid (hasE es id=true):=Lib.hid (by unfold hasE;rw[F.out];rfl)
    have HB1:=Lib.hid (HB.out.alloc HB.out.size (.cells #[.int .i64 v.id, .int .i64 v.a, .int .i64 v.b] 68))
    clear hon
    go_wp2_with fail
    refine bodyPost_ret (v:= .tuple #[.agg #[.int .i64 v.id, .int .i64 v.a, .int .i64 v.b], .bool true]) (by simp[results,Tryz.results58,go_sem, *]) rfl ⟨by rw[F1.out,F2.out], ?_⟩
    have h3:Below w.heap.size w wr:=HW.out.trans (HB.out.mono HW.out.size)
    exact(((h3.setCell (by simp) _).setCell (by simp) _).setCell (by simp) _).alloc (by simp;exact h3.size) _
  ·obtain rfl:k=en:=by omega
   have F:=Lib.hid (find_not (p:=isE id) (fun j u hj=>HA.out j u (by have:=(List.getElem?_eq_some_iff.1 hj).1;have:=HV.out.1;omega) hj))
   have F1:Hid (findE es id=⟨0,0,0⟩):=Lib.hid (by unfold findE;rw[F.out];rfl)
   have F2:Hid (hasE es id=false):=Lib.hid (by unfold hasE;rw[F.out];rfl)
   go_wp2_with fail
   refine bodyPost_ret (v:= .tuple #[.agg #[.int .i64 0, .int .i64 0, .int .i64 0], .bool false]) (by simp[results,Tryz.results58,go_sem, *]) rfl ⟨by rw[F1.out,F2.out], ?_⟩
   have h3:Below w.heap.size w wr:=HW.out.trans (HB.out.mono HW.out.size)
   exact((h3.setCell (by simp) _).setCell (by simp) _).setCell (by simp) _
def degA (es:List Ed) (id:Int):Nat→Int
 |0=>0
 |k+1=>degA es id k+(match es[k]? with|some e=>(if e.a=id then 1 else 0)+(if e.b=id then 1 else 0)|none=>0)
def deg (es:List Ed) (id:Int):Int:=degA es id es.length
theorem degA_succ (es:List Ed) (id:Int) (k:Nat):degA es id (k+1)=degA es id k+(match es[k]? with|some e=>(if e.a=id then 1 else 0)+(if e.b=id then 1 else 0)|none=>0):=rfl
theorem degA_bd (es:List Ed) (id:Int): ∀k,0≤degA es id k∧degA es id k≤2*k
 |0=>⟨by simp[degA],by simp[degA]⟩
 |k+1=>by
  have:=degA_bd es id k
  rw[degA_succ]
  cases es[k]? with
  |none=>simp only;omega
  |some e=>simp only;split<;>split<;>omega
set_option maxRecDepth 100000 in
set_option maxHeartbeats 4000000 in
theorem degree_any {w:World} {B en ec:Nat} {ea:Option Addr} {es:List Ed} (hv:EsIn w B ea en es) (hB:B≤w.heap.size) (hn:en≤100000) (vs:Value) (hvs: ∃a n c,vs= .slice a n c) (id:Int):
  Calls Tryz.prog 51 #[.agg #[vs, .slice ea en ec], .int .i64 id] w fun e w'=>e= .returned (.int .i64 (deg es id))∧Below w.heap.size w w':=by
 obtain⟨va,vn,vc,rfl⟩:=hvs
 have HV:=Lib.hid hv
 clear hv
 go_enter Tryz.func51,Tryz.ntmps51
 go_wp2_with fail
 first|refine wp_name (fun W hW=> ?_)|refine calls_name (fun W hW=> ?_)
 have HW:Hid (Below w.heap.size w W):=Lib.hid (by rw[←hW];repeat (first|exact Below.refl _ _|refine below_alloc ?_))
 have HWs:Hid (W.heap.size=w.heap.size+1):=Lib.hid (by rw[←hW];simp)
 have HBW:Hid (W.heap.size≤W.heap.size):=Lib.hid (by have:=HWs.out;omega)
 have HC:=fun(W1:World) (hb:Below (W.heap.size) W W1)=>Lib.hid (show W1.cell? ⟨w.heap.size,0,none⟩=some (.slice va vn vc)∧W1.cell? ⟨w.heap.size,1,none⟩=some (.slice ea en ec) from by have hs:=HWs.out;refine⟨?_, ?_⟩<;>(refine(hb.cell (by dsimp only;omega)).trans ?_;rw[←hW];clear hW;go_simp))
 have HB:=Lib.hid (Below.refl (W.heap.size) W)
 clear hW
 have HZ:=fun(W1:World) (hb:W.heap.size≤W1.heap.size)=>Lib.hid (show w.heap.size<W1.heap.size from by have:=HWs.out;omega)
 obtain⟨qx0,qx1⟩:=(HC _ HB.out).out
 have rx0:=(HZ _ HB.out.size).out
 clear qx0 qx1 rx0
 go_loopw [5,11] (fun s v wr=> ∃k:Nat,k≤en∧v= .int .i64 k∧s= .int .i64 (degA es id k)∧Below W.heap.size W wr) (fun _ v _=>en - (intOf v).toNat)
 case atStart=>exact⟨0,Nat.zero_le _,rfl,rfl,HB.out⟩
 case round=>
  clear HB
  obtain⟨k,hk,rfl,rfl,hb⟩:=hrel
  have HB:=Lib.hid hb
  clear hb
  obtain⟨qx0,qx1⟩:=(HC _ HB.out).out
  have rx0:=(HZ _ HB.out.size).out
  by_cases hlt:k<en
  ·obtain⟨vb,off,v,rfl,hvb,hv,e0,e1,e2⟩:=(HV.out.below (args_below HW.out HB.out hB (by have:=HWs.out;omega))).at_ hlt
   have HB1:=Lib.hid (HB.out.alloc HB.out.size (.cells #[.int .i64 v.id, .int .i64 v.a, .int .i64 v.b] 68))
   have hbd:=degA_bd es id k
   have hnx:degA es id (k+1)=degA es id k+((if v.a=id then 1 else 0)+(if v.b=id then 1 else 0)):=by rw[degA_succ,hv]
   have HNX:=Lib.hid hnx
   clear hv hnx
   generalize degA es id k=d at*
   have hc:((v.a==id)=true∧(v.b==id)=true∧Hid (degA es id (k+1)=d+2))∨((v.a==id)=true∧(v.b==id)=false∧Hid (degA es id (k+1)=d+1))∨((v.a==id)=false∧(v.b==id)=true∧Hid (degA es id (k+1)=d+1))∨((v.a==id)=false∧(v.b==id)=false∧Hid (degA es id (k+1)=d)):=by
    simp only[beq_iff_eq,beq_eq_false_iff_ne]
    by_cases h1:v.a=id<;>by_cases h2:v.b=id
    ·exact .inl ⟨h1,h2,Lib.hid (by rw[HNX.out,if_pos h1,if_pos h2];omega)⟩
    ·exact .inr (.inl ⟨h1,h2,Lib.hid (by rw[HNX.out,if_pos h1,if_neg h2];omega)⟩)
    ·exact .inr (.inr (.inl ⟨h1,h2,Lib.hid (by rw[HNX.out,if_neg h1,if_pos h2];omega)⟩))
    ·exact .inr (.inr (.inr ⟨h1,h2,Lib.hid (by rw[HNX.out,if_neg h1,if_neg h2];omega)⟩))
   clear HNX
   rcases hc with ⟨q1,q2,HD⟩|⟨q1,q2,HD⟩|⟨q1,q2,HD⟩|⟨q1,q2,HD⟩
   all_goals
    go_wp2_with fail
    go_roundw
    case rel=>exact⟨k+1,by omega,by go_num,by rw[HD.out];try (first|rfl|go_num),HB1.out⟩
    case measure=>simp[intOf];omega
  ·obtain rfl:k=en:=by omega
   have F:Hid (degA es id k=deg es id):=Lib.hid (by unfold deg;rw[←HV.out.1])
   go_wp2_with fail
   go_ret
   exact⟨by rw[←F.out];rfl,bfn HW HB⟩
end Go.Proofs.YthopjhifepijiaaGreat
namespace Go.Proofs.YthopjhifepijiaaGreat
open Go.RowKit
open Go.Maps (Keyed)
abbrev evB (b:Bool):Value:= .bool b
abbrev ekQ (x:Int × Int):Value:= .agg #[.int .i64 x.1, .int .i64 x.2]
theorem ptV_inj (x y:Pt) (h:ptV y=ptV x):y=x:=by
 obtain⟨a,b⟩:=x
 obtain⟨c,d⟩:=y
 simp[ptV] at h
 simp[h]
theorem ekQ_inj (x y:Int × Int) (h:ekQ y=ekQ x):y=x:=by
 obtain⟨a,b⟩:=x
 obtain⟨c,d⟩:=y
 simp[ekQ] at h
 simp[h]
theorem key_pt {p:Pt} (h:fitP p):keyOf Tryz.prog 42 (ptV p)=some (.string (keyBytes [.int .i64 p.x, .int .i64 p.y])):=key_point p.x p.y (WalkArith.wf_i64 (by unfold fitP at h;omega)) (WalkArith.wf_i64 (by unfold fitP at h;omega))
theorem key_q {x:Int × Int} (h1:fitI x.1) (h2:fitI x.2):keyOf Tryz.prog 105 (ekQ x)=some (.string (keyBytes [.int .i64 x.1, .int .i64 x.2])):=key_pair x.1 x.2 (wf_int h1) (wf_int h2)
def metB (l:List Vx) (q:Pt):Bool:=l.any fun u=>decide (u.at_=q)
def metM (l:List Vx) (q:Pt):Option Bool:=if metB l q then some true else none
theorem metM_snoc (l:List Vx) (v:Vx):metM (l++[v])=updT (metM l) v.at_ true:=by
 funext q
 unfold updT metM
 have:metB (l++[v]) q=(metB l q||decide (v.at_=q)):=by simp[metB,List.any_append]
 rw[this]
 by_cases e:q=v.at_
 ·rw[if_pos e,decide_eq_true e.symm,Bool.or_true,if_pos rfl]
 ·rw[if_neg e,decide_eq_false (fun h=>e h.symm),Bool.or_false]
def pairB (l:List Ed) (x:Int × Int):Bool:=l.any fun f=>decide (ends f=x)
def pairM (l:List Ed) (x:Int × Int):Option Bool:=if pairB l x then some true else none
theorem pairM_snoc (l:List Ed) (v:Ed):pairM (l++[v])=updT (pairM l) (ends v) true:=by
 funext q
 unfold updT pairM
 have:pairB (l++[v]) q=(pairB l q||decide (ends v=q)):=by simp[pairB,List.any_append]
 rw[this]
 by_cases e:q=ends v
 ·rw[if_pos e,decide_eq_true e.symm,Bool.or_true,if_pos rfl]
 ·rw[if_neg e,decide_eq_false (fun h=>e h.symm),Bool.or_false]
def MetMap (w:World) (M n:Nat) (l:List Vx):Prop:=MapT w Tryz.prog 42 M n ptV evB (metM l)
def PairMap (w:World) (M n:Nat) (l:List Ed):Prop:=MapT w Tryz.prog 105 M n ekQ evB (pairM l)
theorem zeroBool (w:World):(zeroValue 4).run Tryz.prog w= .ok (.bool false) w:=by kernel_rfl
theorem MetMap.look {w:World} {M n:Nat} {l:List Vx} (h:MetMap w M n l) {q:Pt} (hq:fitP q):
  (Instr.lookup 147 (.map (some M)) (.agg #[.int .i64 q.x, .int .i64 q.y]) false).run Tryz.prog w= .ok (.bool (metB l q)) w:=by
 have:=MapT.look h Tryz.keyPoint Tryz.underlying147 (zeroBool w) (x:=q) (key_pt hq)
 rw[show(Value.agg #[.int .i64 q.x, .int .i64 q.y])=ptV q from rfl,this]
 unfold metM
 cases metB l q<;>rfl
theorem PairMap.look {w:World} {M n:Nat} {l:List Ed} (h:PairMap w M n l) {x:Int × Int} (h1:fitI x.1) (h2:fitI x.2):
  (Instr.lookup 148 (.map (some M)) (.agg #[.int .i64 x.1, .int .i64 x.2]) false).run Tryz.prog w= .ok (.bool (pairB l x)) w:=by
 have:=MapT.look h Tryz.keyPair Tryz.underlying148 (zeroBool w) (x:=x) (key_q h1 h2)
 rw[show(Value.agg #[.int .i64 x.1, .int .i64 x.2])=ekQ x from rfl,this]
 unfold pairM
 cases pairB l x<;>rfl
theorem metB_iff {l:List Vx} {q:Pt}:metB l q=true↔ ∃u∈l,u.at_=q:=by simp[metB]
theorem pairB_iff {l:List Ed} {x:Int × Int}:pairB l x=true↔ ∃u∈l,ends u=x:=by simp[pairB]
theorem mem_take {α:Type} {l:List α} {k:Nat} {u:α}:u∈l.take k↔ ∃j,j<k∧l[j]? =some u:=by
 rw[List.mem_iff_getElem?]
 constructor
 ·rintro ⟨j,hj⟩
  have h1:=(List.getElem?_eq_some_iff.1 hj).1
  rw[List.length_take] at h1
  exact⟨j,by omega,by rwa [List.getElem?_take_of_lt (by omega)] at hj⟩
 ·rintro ⟨j,hj,hu⟩
  exact⟨j,by rwa [List.getElem?_take_of_lt hj]⟩
theorem ends_fit {e:Ed} (h1:fitI e.a) (h2:fitI e.b):fitI (ends e).1∧fitI (ends e).2:=by
 unfold fitI at*
 unfold ends
 simp only
 constructor
 ·rcases Int.le_total e.a e.b with h|h
  ·rw[Int.min_eq_left h];omega
  ·rw[Int.min_eq_right h];omega
 ·rcases Int.le_total e.a e.b with h|h
  ·rw[Int.max_eq_right h];omega
  ·rw[Int.max_eq_left h];omega
theorem pid_fit {p:PL} (h:FitPL p) (k:Nat):fitI (pid p.vs k):=by
 cases k with
 |zero=>simp[fitI,pid]
 |succ k=>
  show fitI (((p.vs[k]?).map (·.id)).getD 0)
  cases hk:p.vs[k]? with
  |none=>unfold fitI;decide
  |some v=>exact(h.vs v (List.mem_of_getElem? hk)).1
theorem eid_fit {p:PL} (h:FitPL p) (k:Nat):fitI (eid p.es k):=by
 cases k with
 |zero=>simp[fitI,eid]
 |succ k=>
  show fitI (((p.es[k]?).map (·.id)).getD 0)
  cases hk:p.es[k]? with
  |none=>unfold fitI;decide
  |some v=>exact(h.es v (List.mem_of_getElem? hk)).1
theorem pid_succ {vs:List Vx} {k:Nat} {v:Vx} (h:vs[k]? =some v):pid vs (k+1)=v.id:=by show((vs[k]?).map (·.id)).getD 0=_;rw[h];rfl
theorem eid_succ {vs:List Ed} {k:Nat} {v:Ed} (h:vs[k]? =some v):eid vs (k+1)=v.id:=by show((vs[k]?).map (·.id)).getD 0=_;rw[h];rfl
abbrev rgF (w:World):List Nat:=[w.heap.size+1,w.heap.size+1+1]
abbrev rgG (w:World) (P:Nat):List Nat:=[w.heap.size+1,w.heap.size+1+1,P]
structure RgtV (w W wr:World) (p:PL) (k:Nat):Prop where
 le:k≤p.vs.length
 ok: ∀i v,i<k→p.vs[i]? =some v→VOk p.vs i v
 mat:AtMap wr (w.heap.size+1) k (p.vs.take k)
 met:MetMap wr (w.heap.size+1+1) k (p.vs.take k)
 tch:Touch (rgF w) W wr
structure RgtE (w W wr:World) (p:PL) (P k:Nat):Prop where
 le:k≤p.es.length
 ok: ∀i e,i<k→p.es[i]? =some e→ ∃A B,EOk p.vs p.es i e A B
 mat:AtMap wr (w.heap.size+1) p.vs.length p.vs
 pr:PairMap wr P k (p.es.take k)
 tch:Touch (rgG w P) W wr
theorem RgtV.later {w W wr w':World} {p:PL} {k:Nat} (h:RgtV w W wr p k) (hb:Below wr.heap.size wr w'):RgtV w W w' p k:=
 ⟨h.le,h.ok,MapT.below h.mat hb,MapT.below h.met hb,h.tch.trans (Touch.of_below (F:=rgF w) hb) (fun b hb=> .inl hb)⟩
theorem RgtE.later {w W wr w':World} {p:PL} {P k:Nat} (h:RgtE w W wr p P k) (hb:Below wr.heap.size wr w'):RgtE w W w' p P k:=
 ⟨h.le,h.ok,MapT.below h.mat hb,MapT.below h.pr hb,h.tch.trans (Touch.of_below (F:=rgG w P) hb) (fun b hb=> .inl hb)⟩
theorem RgtV.step {w W w2 w3 w4:World} {p:PL} {k:Nat} {v:Vx} (h:RgtV w W w2 p k) (hv:p.vs[k]? =some v) (ok:VOk p.vs k v)
  (hm3:MapT w3 Tryz.prog 3 (w.heap.size+1) (k+1) ekI ptV (updT (ptOf (p.vs.take k)) v.id v.at_)) (hg3:w2.grownBy w3 (some (w.heap.size+1)))
  (hm4:MapT w4 Tryz.prog 42 (w.heap.size+1+1) (k+1) ptV evB (updT (metM (p.vs.take k)) v.at_ true)) (hg4:w3.grownBy w4 (some (w.heap.size+1+1))):RgtV w W w4 p (k+1):=by
 have hlt:=(List.getElem?_eq_some_iff.1 hv).1
 refine⟨by omega,fun i u hi hu=> ?_, ?_, ?_,(h.tch.trans (Touch.of_grown hg3) (by simp)).trans (Touch.of_grown hg4) (by simp)⟩
 ·by_cases e:i=k
  ·subst e;rw[hv] at hu;cases hu;exact ok
  ·exact h.ok i u (by omega) hu
 ·have e:ptOf (p.vs.take (k+1))=updT (ptOf (p.vs.take k)) v.id v.at_:=by
   rw[take_snoc' hv]
   exact ptOf_snoc (fun u hu=>by have:=id_new (fun i v hi hv=>h.ok i v hi hv) hv ok.rise u hu;omega)
  unfold AtMap
  rw[e]
  exact MapT.touch hm3 (Touch.of_grown hg4) (by simp)
 ·unfold MetMap
  rw[take_snoc' hv,metM_snoc]
  exact hm4
theorem RgtE.step {w W w2 w3:World} {p:PL} {P j:Nat} {e:Ed} (h:RgtE w W w2 p P j) (he:p.es[j]? =some e) (ok: ∃A B,EOk p.vs p.es j e A B) (hP:P≠w.heap.size+1)
  (hm3:MapT w3 Tryz.prog 105 P (j+1) ekQ evB (updT (pairM (p.es.take j)) (ends e) true)) (hg3:w2.grownBy w3 (some P)):RgtE w W w3 p P (j+1):=by
 have hlt:=(List.getElem?_eq_some_iff.1 he).1
 refine⟨by omega,fun i u hi hu=> ?_,MapT.touch h.mat (Touch.of_grown hg3) (by simp;exact fun h=>hP h.symm), ?_,h.tch.trans (Touch.of_grown hg3) (by simp)⟩
 ·by_cases e':i=j
  ·subst e';rw[he] at hu;cases hu;exact ok
  ·exact h.ok i u (by omega) hu
 ·unfold PairMap
  rw[take_snoc' he,pairM_snoc]
  exact hm3
theorem RgtE.keep {w W w2 w3:World} {p:PL} {P j:Nat} {e:Ed} (h:RgtE w W w2 p P j) (hg3:w2.grownBy w3 (some P)) (hm3:MapT w3 Tryz.prog 105 P (j+1) ekQ evB (updT (pairM (p.es.take j)) (ends e) true)) (hP:P≠w.heap.size+1):Hid (Touch (rgG w P) W w3):=h.tch.trans (Touch.of_grown hg3) (by simp)
theorem crossed_no {vs:List Vx} {es:List Ed} {j:Nat} {a b:Pt} (h:crossedB vs (es.take j) a b=false): ∀i f,i<j→es[i]? =some f→meetB a b (ptZ vs f.a) (ptZ vs f.b)=false:=by
 intro i f hi hf
 unfold crossedB at h
 rw[List.any_eq_false] at h
 simpa using h f (mem_take.2 ⟨i,hi,hf⟩)
theorem crossed_yes {vs:List Vx} {es:List Ed} {j:Nat} {a b:Pt} (h:crossedB vs (es.take j) a b=true): ∃i f,i<j∧es[i]? =some f∧meetB a b (ptZ vs f.a) (ptZ vs f.b)=true:=by
 unfold crossedB at h
 rw[List.any_eq_true] at h
 obtain⟨f,hf,hm⟩:=h
 obtain⟨i,hi,hf⟩:=mem_take.1 hf
 exact⟨i,f,hi,hf,hm⟩
theorem ptZ_of {vs:List Vx} {id:Int} {q:Pt} (h:ptOf vs id=some q):ptZ vs id=q:=by unfold ptZ;rw[h];rfl
end Go.Proofs.YthopjhifepijiaaGreat
namespace Go.Proofs.YthopjhifepijiaaGreat
open Go.RowKit
open Go.Maps (Keyed)
def ekH (h:Hf):Value:= .agg #[.int .i64 h.edge, .bool h.back]
def vxV (v:Vx):Value:= .agg #[.int .i64 v.id, .int .i64 v.at_.x, .int .i64 v.at_.y]
theorem ekH_inj (x y:Hf) (h:ekH y=ekH x):y=x:=by
 obtain⟨a,b⟩:=x
 obtain⟨c,d⟩:=y
 simp[ekH] at h
 obtain⟨rfl,rfl⟩:=h
 rfl
theorem key_h {h:Hf} (hf:fitI h.edge):keyOf Tryz.prog 91 (ekH h)=some (.string (keyBytes [.int .i64 h.edge, .bool h.back])):=key_half _ _ (wf_int hf)
theorem key_i {x:Int} (hf:fitI x):keyOf Tryz.prog 3 (ekI x)=some (.int .i64 x):=key_int _ (wf_int hf)
theorem zeroVx (w:World):(zeroValue 66).run Tryz.prog w= .ok (.agg #[.int .i64 0, .int .i64 0, .int .i64 0]) w:=by kernel_rfl
theorem zeroInt (w:World):(zeroValue 3).run Tryz.prog w= .ok (.int .i64 0) w:=by kernel_rfl
theorem zeroHf (w:World):(zeroValue 91).run Tryz.prog w= .ok (.agg #[.int .i64 0, .bool false]) w:=by kernel_rfl
def frM (es:List Ed) (h:Hf):Option Int:=if h∈halvesE es then some (fromH es h) else none
def vxM (vs:List Vx) (id:Int):Option Vx:=vs.find? (isV id)
theorem fldAt (a b c:Value) (w:World):(Instr.field 66 (.agg #[a,b,c]) 1).run Tryz.prog w= .ok (.agg #[b,c]) w:=by kernel_rfl
section
variable {p:PL}
theorem FitPL.half (f:FitPL p) {h:Hf} (hm:h∈halvesE p.es):fitI h.edge:=by
 obtain⟨e,he,e1⟩:=mem_halves.1 hm
 rw[←e1]
 exact(f.es e he).1
theorem FitPL.from_ (f:FitPL p) (h:Hf):fitI (fromH p.es h):=by
 unfold fromH
 cases e:edgeOf p.es h.edge with
 |none=>exact(show fitI 0 from⟨by decide,by decide⟩)
 |some x=>
  have:=f.es x (List.mem_of_find?_eq_some e)
  simp only
  split
  ·exact this.2.2
  ·exact this.2.1
theorem vxM_pt (vs:List Vx) (id:Int):(vxM vs id).map (·.at_)=ptOf vs id:=rfl
theorem RightP.vx_of (r:RightP p) {h:Hf} (hm:h∈halvesE p.es): ∃v,vxM p.vs (toH p.es h)=some v∧ptH p (twinH h)=v.at_:=by
 obtain⟨-, -, -,⟨v,hv,e1, -⟩, -⟩:=r.half_pts hm
 have e2:=vxM_pt p.vs (toH p.es h)
 cases k:vxM p.vs (toH p.es h) with
 |none=>
  have:=List.find?_eq_none.1 k v hv
  simp[isV,e1] at this
 |some u=>
  rw[k] at e2
  refine⟨u,rfl, ?_⟩
  show ptZ p.vs (toH p.es h)=_
  unfold ptZ
  rw[←e2];rfl
theorem frM_of {es:List Ed} {h:Hf} (hm:h∈halvesE es):frM es h=some (fromH es h):=if_pos hm
end
namespace D
set_option maxRecDepth 100000 in
theorem twin_any (h:Hf) (w:World):Calls Tryz.prog 106 #[.agg #[.int .i64 h.edge, .bool h.back]] w fun e w'=>e= .returned (.agg #[.int .i64 (twinH h).edge, .bool (twinH h).back])∧Below w.heap.size w w':=by
 obtain⟨e,b⟩:=h
 simp only[twinH]
 cases b
 all_goals
  go_enter Tryz.func106,Tryz.ntmps106
  go_wp2_with fail
 ·refine bodyPost_ret (v:= .agg #[.int .i64 e, .bool true]) (by simp[results,Tryz.results106,go_sem]) rfl ⟨rfl, ?_⟩
  exact below_alloc (below_alloc (Below.refl _ _))
 ·refine bodyPost_ret (v:= .agg #[.int .i64 e, .bool false]) (by simp[results,Tryz.results106,go_sem]) rfl ⟨rfl, ?_⟩
  exact below_alloc (below_alloc (Below.refl _ _))
set_option maxRecDepth 100000 in
set_option maxHeartbeats 4000000 in
theorem cmp_any {p:PL} (r:RightP p) (hfit:FitPL p) {id:Int} (x y:LeavT p id) {w:World} {bo bw ma mf na nf:Nat}
  (ho:w.cell? ⟨bo,0,none⟩=some (.int .i64 (ptZ p.vs id).x)∧w.cell? ⟨bo,1,none⟩=some (.int .i64 (ptZ p.vs id).y)) (hw:w.cell? ⟨bw,0,none⟩=some (.map (some ma))∧w.cell? ⟨bw,1,none⟩=some (.map (some mf))) (lo:bo<w.heap.size) (lw:bw<w.heap.size)
  (hat:MapT w Tryz.prog 3 ma na ekI vxV (vxM p.vs)) (hfr:MapT w Tryz.prog 91 mf nf ekH ekI (frM p.es)):
  Calls Tryz.prog 104 (#[.agg #[.int .i64 x.1.edge, .bool x.1.back], .agg #[.int .i64 y.1.edge, .bool y.1.back]]++ #[.pointer (some ⟨bo,0,none⟩), .pointer (some ⟨bw,0,none⟩)]) w fun e w'=>e= .returned (.int .i64 (cfH p id x y))∧Below w.heap.size w w':=by
 obtain⟨vx,hvx,hax⟩:=r.vx_of x.2.1
 obtain⟨vy,hvy,hay⟩:=r.vx_of y.2.1
 rw[show cfH p id x y=arnd (ptZ p.vs id) vx.at_ vy.at_ by unfold cfH;rw[hax,hay]]
 have LX:=fun(W:World) (h:Below w.heap.size w W)=>Lib.hid (show(Instr.lookup 116 (.map (some mf)) (.agg #[.int .i64 (twinH x.1).edge, .bool (twinH x.1).back]) false).run Tryz.prog W= .ok (.int .i64 (toH p.es x.1)) W from by
  have:=MapT.look (t:=116) (hfr.below h.b) Tryz.keyHalf Tryz.underlying116 (zeroInt W) (x:=twinH x.1) (key_h (hfit.half (twin_mem x.2.1)))
  rw[frM_of (twin_mem x.2.1)] at this
  exact this)
 have LY:=fun(W:World) (h:Below w.heap.size w W)=>Lib.hid (show(Instr.lookup 116 (.map (some mf)) (.agg #[.int .i64 (twinH y.1).edge, .bool (twinH y.1).back]) false).run Tryz.prog W= .ok (.int .i64 (toH p.es y.1)) W from by
  have:=MapT.look (t:=116) (hfr.below h.b) Tryz.keyHalf Tryz.underlying116 (zeroInt W) (x:=twinH y.1) (key_h (hfit.half (twin_mem y.2.1)))
  rw[frM_of (twin_mem y.2.1)] at this
  exact this)
 have MX:=fun(W:World) (h:Below w.heap.size w W)=>Lib.hid (show(Instr.lookup 168 (.map (some ma)) (.int .i64 (toH p.es x.1)) false).run Tryz.prog W= .ok (.agg #[.int .i64 vx.id, .int .i64 vx.at_.x, .int .i64 vx.at_.y]) W from by
  have:=MapT.look (t:=168) (hat.below h.b) Tryz.keyInt Tryz.underlying168 (zeroVx W) (x:=toH p.es x.1) (key_i (hfit.from_ (twinH x.1)))
  rw[hvx] at this
  exact this)
 have MY:=fun(W:World) (h:Below w.heap.size w W)=>Lib.hid (show(Instr.lookup 168 (.map (some ma)) (.int .i64 (toH p.es y.1)) false).run Tryz.prog W= .ok (.agg #[.int .i64 vy.id, .int .i64 vy.at_.x, .int .i64 vy.at_.y]) W from by
  have:=MapT.look (t:=168) (hat.below h.b) Tryz.keyInt Tryz.underlying168 (zeroVx W) (x:=toH p.es y.1) (key_i (hfit.from_ (twinH y.1)))
  rw[hvy] at this
  exact this)
 have CO:=fun(W:World) (h:Below w.heap.size w W)=>Lib.hid (show W.cell? ⟨bo,0,none⟩=some (.int .i64 (ptZ p.vs id).x)∧W.cell? ⟨bo,1,none⟩=some (.int .i64 (ptZ p.vs id).y)∧W.cell? ⟨bw,0,none⟩=some (.map (some ma))∧W.cell? ⟨bw,1,none⟩=some (.map (some mf)) from
  ⟨(h.cell (p:=⟨bo,0,none⟩) lo).trans ho.1,(h.cell (p:=⟨bo,1,none⟩) lo).trans ho.2,(h.cell (p:=⟨bw,0,none⟩) lw).trans hw.1,(h.cell (p:=⟨bw,1,none⟩) lw).trans hw.2⟩)
 have TX:=fun W=>Lib.hid (twin_any x.1 W)
 have TY:=fun W=>Lib.hid (twin_any y.1 W)
 have AR:=fun W=>Lib.hid (around_any (ptZ p.vs id) vx.at_ vy.at_ W)
 clear hvx hvy hax hay ho hw hat hfr r hfit
 generalize toH p.es x.1=tx at*
 generalize toH p.es y.1=ty at*
 generalize ptZ p.vs id=o at*
 obtain⟨⟨hx,hx2⟩,kx⟩:=x
 obtain⟨⟨hy,hy2⟩,ky⟩:=y
 simp only[twinH] at LX LY TX TY ⊢
 clear kx ky
 have hfl:=fldAt
 go_enter Tryz.func104,Tryz.ntmps104
 go_wp2_with fail
 first|refine wp_name (fun W hW=> ?_)|refine calls_name (fun W hW=> ?_)
 have HW:Hid (Below w.heap.size w W):=Lib.hid (by rw[←hW];repeat (first|exact Below.refl _ _|refine below_alloc ?_))
 have HWs:Hid (W.heap.size=w.heap.size+1+1):=Lib.hid (by rw[←hW];simp)
 have HBW:Hid (W.heap.size≤W.heap.size):=Lib.hid (by have:=HWs.out;omega)
 have HC:=fun(W1:World) (hb:Below (W.heap.size) W W1)=>Lib.hid (show W1.cell? ⟨w.heap.size,0,none⟩=some (.int .i64 hx)∧W1.cell? ⟨w.heap.size,1,none⟩=some (.bool hx2)∧W1.cell? ⟨w.heap.size+1,0,none⟩=some (.int .i64 hy)∧W1.cell? ⟨w.heap.size+1,1,none⟩=some (.bool hy2) from by have hs:=HWs.out;refine⟨?_, ?_, ?_, ?_⟩<;>(refine(hb.cell (by dsimp only;omega)).trans ?_;rw[←hW];clear hW;go_simp))
 have HB:=Lib.hid (Below.refl (W.heap.size) W)
 clear hW
 have HZ:=fun(W1:World) (hb:W.heap.size≤W1.heap.size)=>Lib.hid (show w.heap.size<W1.heap.size∧w.heap.size+1<W1.heap.size from by have:=HWs.out;refine⟨?_, ?_⟩<;>omega)
 obtain⟨qx0,qx1,qx2,qx3⟩:=(HC _ HB.out).out
 obtain⟨rx0,rx1⟩:=(HZ _ HB.out.size).out
 refine wp_name (fun c2 hc2=> ?_)
 have HB:=bnm HB HBW hc2
 have YB:=fun(x:Later c2)=>HW.out.trans ((below_next HB.out (Nat.le_trans HBW.out HB.out.size) x.2).mono HW.out.size);have y0:=fun(x:Later c2)=>(CO x.1 (YB x)).out.1;have y1:=fun(x:Later c2)=>(CO x.1 (YB x)).out.2.1;have y2:=fun(x:Later c2)=>(CO x.1 (YB x)).out.2.2.1;have y3:=fun(x:Later c2)=>(CO x.1 (YB x)).out.2.2.2;have y4:=fun(x:Later c2)=>(LX x.1 (YB x)).out;have y5:=fun(x:Later c2)=>(LY x.1 (YB x)).out;have y6:=fun(x:Later c2)=>(MX x.1 (YB x)).out;have y7:=fun(x:Later c2)=>(MY x.1 (YB x)).out;clear YB
 clear hc2
 have xx:=fun(x:Later c2)=>(HC _ (bnl HB HBW x.2)).out
 simp only[forall_and] at xx
 obtain⟨xx0,xx1,xx2,xx3⟩:=xx
 refine wp_region_later (by kernel_rfl) (by kernel_rfl) ?_
 repeat (first|go_big_quiet_step (((first|(go_at_call 106;with_reducible refine Later.call (TX _).out)|(go_at_call 106;with_reducible refine Later.call (TY _).out)|(go_at_call 105;with_reducible refine Later.call (AR _).out))))|quiet_step (((first|(go_at_call 106;with_reducible refine Later.call (TX _).out)|(go_at_call 106;with_reducible refine Later.call (TY _).out)|(go_at_call 105;with_reducible refine Later.call (AR _).out)))))
 refine wpQuiet_nil ?_
 intro w2 hw2
 have hb2:=later_below hw2
 clear hw2
 have HB:=Lib.hid (bnl HB HBW hb2)
 clear xx0 xx1 xx2 xx3
 clear qx0 qx1 qx2 qx3 rx0 rx1
 obtain⟨qx0,qx1,qx2,qx3⟩:=(HC _ HB.out).out
 skip
 clear hb2
 obtain⟨rx0,rx1⟩:=(HZ _ HB.out.size).out
 go_wp2_with fail
 go_ret
 exact⟨rfl,bfn HW HB⟩
end D
end Go.Proofs.YthopjhifepijiaaGreat
namespace Go.Proofs.YthopjhifepijiaaGreat
inductive Conn {α:Type} (es:List (α × α)):α→α→Prop
 |refl (a:α):Conn es a a
 |fwd {a b c:α}:Conn es a b→(b,c)∈es→Conn es a c
 |bwd {a b c:α}:Conn es a b→(c,b)∈es→Conn es a c
section
variable {α:Type} {es:List (α × α)}
theorem Conn.trans {a b c:α} (h:Conn es a b) (k:Conn es b c):Conn es a c:=by
 induction k with
 |refl=>exact h
 |fwd _ e ih=>exact ih.fwd e
 |bwd _ e ih=>exact ih.bwd e
theorem Conn.symm {a b:α} (h:Conn es a b):Conn es b a:=by
 induction h with
 |refl=>exact Conn.refl _
 |fwd _ e ih=>exact((Conn.refl _).bwd e).trans ih
 |bwd _ e ih=>exact((Conn.refl _).fwd e).trans ih
theorem Conn.mono {fs:List (α × α)} {a b:α} (h:Conn es a b) (k: ∀e∈es,e∈fs):Conn fs a b:=by
 induction h with
 |refl=>exact Conn.refl _
 |fwd _ e ih=>exact ih.fwd (k _ e)
 |bwd _ e ih=>exact ih.bwd (k _ e)
theorem Conn.map {β:Type} (f:α→β) {a b:α} (h:Conn es a b):Conn (es.map fun e=>(f e.1,f e.2)) (f a) (f b):=by
 induction h with
 |refl=>exact Conn.refl _
 |fwd _ e ih=>exact ih.fwd (List.mem_map.2 ⟨_,e,rfl⟩)
 |bwd _ e ih=>exact ih.bwd (List.mem_map.2 ⟨_,e,rfl⟩)
end
variable {es:List (Nat × Nat)}
def relax (l:Nat→Nat) (e:Nat × Nat):Nat→Nat:=fun v=>if v=e.1∨v=e.2 then min (l e.1) (l e.2) else l v
theorem relax_le (l:Nat→Nat) (e:Nat × Nat) (v:Nat):relax l e v≤l v:=by
 unfold relax
 split
 ·rename_i h
  rcases h with rfl|rfl
  ·exact Nat.min_le_left _ _
  ·exact Nat.min_le_right _ _
 ·exact Nat.le_refl _
def roundL (l:Nat→Nat) (L:List (Nat × Nat)):Nat→Nat:=L.foldl relax l
theorem round_le: ∀(L:List (Nat × Nat)) (l:Nat→Nat) (v:Nat),roundL l L v≤l v
 | [],l,v=>Nat.le_refl _
 |e::L,l,v=>Nat.le_trans (round_le L (relax l e) v) (relax_le l e v)
theorem relax_conn {l:Nat→Nat} (h: ∀v,Conn es v (l v)) {e:Nat × Nat} (he:e∈es): ∀v,Conn es v (relax l e v):=fun v=>by
 unfold relax
 have k:Conn es e.1 e.2:=(Conn.refl _).fwd he
 split
 ·rename_i hv
  have h1:Conn es v e.1∧Conn es v e.2:=by
   rcases hv with rfl|rfl
   ·exact⟨Conn.refl _,k⟩
   ·exact⟨k.symm,Conn.refl _⟩
  rcases Nat.le_total (l e.1) (l e.2) with q|q
  ·rw[Nat.min_eq_left q];exact h1.1.trans (h _)
  ·rw[Nat.min_eq_right q];exact h1.2.trans (h _)
 ·exact h v
theorem round_conn: ∀(L:List (Nat × Nat)) (l:Nat→Nat),(∀e∈L,e∈es)→(∀v,Conn es v (l v))→ ∀v,Conn es v (roundL l L v)
 | [],l,_,h=>h
 |e::L,l,hL,h=>round_conn L (relax l e) (fun x hx=>hL x (by simp[hx])) (relax_conn h (hL e (by simp)))
def roundsL (es:List (Nat × Nat)):Nat→(Nat→Nat)
 |0=>fun v=>v
 |k+1=>roundL (roundsL es k) es
theorem rounds_conn: ∀k v,Conn es v (roundsL es k v)
 |0,v=>Conn.refl v
 |k+1,v=>round_conn es _ (fun e he=>he) (rounds_conn k) v
theorem round_next {m:Nat}: ∀(L:List (Nat × Nat)) (l:Nat→Nat),(∀v,Conn es v (l v))→(∀e∈L,e∈es)→(∀v,Conn es m v→m≤v)→ ∀ {a b:Nat},(a,b)∈L→Conn es m a→(l a=m∨l b=m)→roundL l L a=m∧roundL l L b=m
 | [],_,_,_,_,_,_,h,_,_=>by cases h
 |e::L,l,hc,hL,hm,a,b,h,ha,hl=>by
  have hc2:=relax_conn hc (hL e (by simp))
  have eab:Conn es a b:=(Conn.refl a).fwd (hL (a,b) h)
  have lo: ∀(l:Nat→Nat),(∀v,Conn es v (l v))→ ∀v,Conn es m v→m≤l v:=fun l hc v hv=>hm _ (hv.trans (hc v))
  have stay: ∀ {v},Conn es m v→relax l e v=m→roundL (relax l e) L v=m:=fun {v} hv h=>by
   have h1:=round_le L (relax l e) v
   have h2:=lo _ (round_conn L (relax l e) (fun x hx=>hL x (by simp[hx])) hc2) v hv
   omega
  have low: ∀ {v},Conn es m v→l v=m→relax l e v=m:=fun {v} hv h=>by
   have h1:=relax_le l e v
   have h2:=lo _ hc2 v hv
   omega
  rcases List.mem_cons.1 h with rfl|h
  ·have h1:=lo l hc a ha
   have h2:=lo l hc b (ha.trans eab)
   have e1:relax l (a,b) a=m:=by unfold relax;rw[if_pos (.inl rfl)];show min (l a) (l b)=m;omega
   have e2:relax l (a,b) b=m:=by unfold relax;rw[if_pos (.inr rfl)];show min (l a) (l b)=m;omega
   exact⟨stay ha e1,stay (ha.trans eab) e2⟩
  ·exact round_next L (relax l e) hc2 (fun x hx=>hL x (by simp[hx])) hm h ha (hl.imp (low ha) (low (ha.trans eab)))
theorem filter_grow {α:Type} {p q:α→Bool}: ∀ {l:List α},(∀x∈l,p x=true→q x=true)→(∃x∈l,p x=false∧q x=true)→(l.filter p).length<(l.filter q).length
 | [],_,⟨x,hx,_⟩=>by cases hx
 |y::l,h,⟨x,hx,h1,h2⟩=>by
  have mono: ∀ {l:List α},(∀x∈l,p x=true→q x=true)→(l.filter p).length≤(l.filter q).length:=fun {l}=>by
   induction l with
   |nil=>intro _;simp
   |cons z l ih=>
    intro h
    have:=ih (fun x hx=>h x (by simp[hx]))
    have hz:=h z (by simp)
    rw[List.filter_cons,List.filter_cons]
    cases hp:p z
    ·cases hq:q z<;>simp<;>omega
    ·rw[hz hp];simpa using this
  have hm:=mono (l:=l) (fun x hx=>h x (by simp[hx]))
  rw[List.filter_cons,List.filter_cons]
  rcases List.mem_cons.1 hx with rfl|hx
  ·rw[h1,h2]
   simp
   omega
  ·have ih:=filter_grow (l:=l) (fun x hx=>h x (by simp[hx])) ⟨x,hx,h1,h2⟩
   have hy:=h y (by simp)
   cases hp:p y
   ·cases hq:q y<;>simp<;>omega
   ·rw[hy hp];simpa using ih
theorem rounds_least {n m:Nat} (hes: ∀e∈es,e.1<n∧e.2<n) (hmn:m<n) (hm: ∀v,Conn es m v→m≤v): ∀v,Conn es m v→roundsL es n v=m:=by
 have lo: ∀k v,Conn es m v→m≤roundsL es k v:=fun k v hv=>hm _ (hv.trans (rounds_conn k v))
 have bd: ∀v,Conn es m v→v<n:=fun v hv=>by
  cases hv with
  |refl=>exact hmn
  |fwd _ e=>exact(hes _ e).2
  |bwd _ e=>exact(hes _ e).1
 have hself: ∀k,roundsL es k m=m:=by
  intro k
  induction k with
  |zero=>rfl
  |succ k ih=>
   have h1:=round_le es (roundsL es k) m
   have h2:=lo (k+1) m (Conn.refl m)
   rw[show roundsL es (k+1)=roundL (roundsL es k) es from rfl] at h2 ⊢
   omega
 have key: ∀k,(∀v,Conn es m v→roundsL es k v=m)∨k+1≤((List.range n).filter fun v=>decide (roundsL es k v=m)).length:=by
  intro k
  induction k with
  |zero=>
   right
   refine List.length_pos_of_mem (a:=m) ?_
   simp[hmn,hself 0]
  |succ k ih=>
   have mono: ∀v,Conn es m v→roundsL es k v=m→roundsL es (k+1) v=m:=fun v hv h=>by
    have h1:=round_le es (roundsL es k) v
    have h2:=lo (k+1) v hv
    rw[show roundsL es (k+1)=roundL (roundsL es k) es from rfl] at h2 ⊢
    omega
   have conn: ∀v,roundsL es k v=m→Conn es m v:=fun v h=>by
    have:=(rounds_conn (es:=es) k v).symm
    rw[h] at this;exact this
   rcases ih with ih|ih
   ·exact .inl (fun v hv=>mono v hv (ih v hv))
   ·by_cases hcl: ∀a b,(a,b)∈es→(roundsL es k a=m↔roundsL es k b=m)
    ·refine .inl (fun v hv=>mono v hv ?_)
     induction hv with
     |refl=>exact hself k
     |fwd _ e ih=>exact(hcl _ _ e).1 ih
     |bwd _ e ih=>exact(hcl _ _ e).2 ih
    ·right
     simp only[Classical.not_forall] at hcl
     obtain⟨a,b,he,hn⟩:=hcl
     have hor:roundsL es k a=m∨roundsL es k b=m:=by
      by_cases h1:roundsL es k a=m
      ·exact .inl h1
      ·by_cases h2:roundsL es k b=m
       ·exact .inr h2
       ·exact absurd ⟨fun h=>absurd h h1,fun h=>absurd h h2⟩ hn
     have ha:Conn es m a:=by
      rcases hor with h|h
      ·exact conn a h
      ·exact(conn b h).bwd he
     obtain⟨g1,g2⟩:=round_next (es:=es) (m:=m) es (roundsL es k) (rounds_conn k) (fun e he=>he) hm he ha hor
     have hlt:=filter_grow (l:=List.range n) (p:=fun v=>decide (roundsL es k v=m)) (q:=fun v=>decide (roundsL es (k+1) v=m)) (fun v _ h=>by
      rw[decide_eq_true_eq] at h ⊢
      exact mono v (conn v h) h) (by
      by_cases h1:roundsL es k a=m
      ·have h2:roundsL es k b≠m:=fun h2=>hn ⟨fun _=>h2,fun _=>h1⟩
       exact⟨b,List.mem_range.2 (hes _ he).2,decide_eq_false h2,decide_eq_true g2⟩
      ·exact⟨a,List.mem_range.2 (hes _ he).1,decide_eq_false h1,decide_eq_true g1⟩)
     omega
 intro v hv
 rcases key n with h|h
 ·exact h v hv
 ·exfalso
  have:=List.length_filter_le (fun v=>decide (roundsL es n v=m)) (List.range n)
  rw[List.length_range] at this
  omega
theorem rounds_iff {n:Nat} (hes: ∀e∈es,e.1<n∧e.2<n) {a b:Nat} (ha:a<n):roundsL es n a=roundsL es n b↔Conn es a b:=by
 constructor
 ·intro h
  have h1:=rounds_conn (es:=es) n a
  rw[h] at h1
  exact h1.trans (rounds_conn n b).symm
 ·intro h
  obtain⟨m,hm,hmin⟩: ∃m,Conn es a m∧ ∀v,Conn es a v→m≤v:=by
   have key: ∀k,k≤a→(∃m,Conn es a m∧ ∀v,Conn es a v→m≤v)∨ ∀v,Conn es a v→k≤v:=by
    intro k
    induction k with
    |zero=>exact fun _=> .inr (fun v _=>Nat.zero_le v)
    |succ k ih=>
     intro hk
     rcases ih (by omega) with h|h
     ·exact .inl h
     ·by_cases hc:Conn es a k
      ·exact .inl ⟨k,hc,h⟩
      ·refine .inr (fun v hv=> ?_)
       have h1:=h v hv
       rcases Nat.lt_or_ge k v with q|q
       ·exact q
       ·have:v=k:=by omega
        subst this;exact absurd hv hc
   rcases key a (Nat.le_refl _) with h|h
   ·exact h
   ·exact⟨a,Conn.refl a,h⟩
  have hl:=rounds_least hes (Nat.lt_of_le_of_lt (hmin a (Conn.refl a)) ha) (fun v hv=>hmin v (hm.trans hv))
  rw[hl a hm.symm,hl b (hm.symm.trans h)]
end Go.Proofs.YthopjhifepijiaaGreat
namespace Go.Proofs.YthopjhifepijiaaGreat
theorem updT_self {up:Int→Option Int} {a r:Int}:updT up a r a=some r:=if_pos rfl
theorem updT_ne {up:Int→Option Int} {a r x:Int} (h:x≠a):updT up a r x=up x:=if_neg h
inductive Rt (up:Int→Option Int):Int→Int→Prop
 |top {a:Int}:(up a=none∨up a=some a)→Rt up a a
 |go {a b r:Int}:up a=some b→b≠a→Rt up b r→Rt up a r
def Fo (rk:Int→Nat) (up:Int→Option Int):Prop:= ∀a b,up a=some b→b≠a→rk b<rk a
theorem Rt.one {up:Int→Option Int} {a r s:Int} (h:Rt up a r) (k:Rt up a s):r=s:=by
 induction h with
 |top h=>
  cases k with
  |top _=>rfl
  |go e n _=>rcases h with h|h<;>rw[h] at e<;>simp_all
 |go e n _ ih=>
  cases k with
  |top h=>rcases h with h|h<;>rw[h] at e<;>simp_all
  |go e2 _ k2=>
   rw[e] at e2
   injection e2 with e2
   subst e2
   exact ih k2
theorem Rt.is_top {up:Int→Option Int} {a r:Int} (h:Rt up a r):up r=none∨up r=some r:=by
 induction h with
 |top h=>exact h
 |go _ _ _ ih=>exact ih
theorem Rt.self {up:Int→Option Int} {a r:Int} (h:Rt up a r):Rt up r r:= .top h.is_top
theorem Rt.le {rk:Int→Nat} {up:Int→Option Int} (f:Fo rk up) {a r:Int} (h:Rt up a r):rk r≤rk a:=by
 induction h with
 |top _=>exact Nat.le_refl _
 |go e n _ ih=>exact Nat.le_trans ih (Nat.le_of_lt (f _ _ e n))
theorem rt_ex {rk:Int→Nat} {up:Int→Option Int} (f:Fo rk up) (a:Int): ∃r,Rt up a r:=by
 have key: ∀n a,rk a<n→ ∃r,Rt up a r:=by
  intro n
  induction n with
  |zero=>intro a h;omega
  |succ n ih=>
   intro a h
   cases e:up a with
   |none=>exact⟨a, .top (.inl e)⟩
   |some b=>
    by_cases hb:b=a
    ·exact⟨a, .top (.inr (by rw[e,hb]))⟩
    ·have:=f a b e hb
     obtain⟨r,hr⟩:=ih b (by omega)
     exact⟨r, .go e hb hr⟩
 exact key _ a (Nat.lt_succ_self _)
def SameR (up vp:Int→Option Int):Prop:= ∀a r,Rt up a r↔Rt vp a r
theorem SameR.of {rk:Int→Nat} {up vp:Int→Option Int} (f:Fo rk up) (h: ∀a r,Rt up a r→Rt vp a r):SameR up vp:=fun a r=>⟨h a r,fun k=>by
 obtain⟨s,hs⟩:=rt_ex f a
 rw[k.one (h a s hs)]
 exact hs⟩
theorem SameR.trans {a b c:Int→Option Int} (h:SameR a b) (k:SameR b c):SameR a c:=fun x r=>(h x r).trans (k x r)
theorem fo_short {rk:Int→Nat} {up:Int→Option Int} (f:Fo rk up) {a r:Int} (h:Rt up a r) (hr:rk r<rk a):Fo rk (updT up a r)∧SameR up (updT up a r):=by
 have hne:r≠a:=fun e=>by rw[e] at hr;omega
 refine⟨fun x y e n=> ?_,SameR.of f (fun x s hx=> ?_)⟩
 ·by_cases hx:x=a
  ·subst hx
   rw[updT_self] at e
   injection e with e
   subst e
   exact hr
  ·rw[updT_ne hx] at e
   exact f x y e n
 ·have top:Rt (updT up a r) r r:= .top (by rw[updT_ne hne];exact h.is_top)
  have e:(updT up a r) a=some r:=updT_self
  induction hx with
  | @top x hx=>
   by_cases hxa:x=a
   ·subst hxa
    exact absurd ((Rt.top hx).one h) (fun e=>hne e.symm)
   ·exact .top (by rw[updT_ne hxa];exact hx)
  | @go x b s e1 n k ih=>
   by_cases hxa:x=a
   ·subst hxa
    rw[(Rt.go e1 n k).one h]
    exact .go e hne top
   ·exact .go (by rw[updT_ne hxa];exact e1) n ih
theorem fo_self {rk:Int→Nat} {up:Int→Option Int} (f:Fo rk up) {r:Int} (h:Rt up r r):Fo rk (updT up r r)∧SameR up (updT up r r):=by
 have ht:up r=none∨up r=some r:=h.is_top
 refine⟨fun x y e n=> ?_,SameR.of f (fun x s hx=> ?_)⟩
 ·by_cases hx:x=r
  ·subst hx
   rw[updT_self] at e
   injection e with e
   exact absurd e.symm n
  ·rw[updT_ne hx] at e
   exact f x y e n
 ·induction hx with
  | @top x hx=>
   by_cases hxa:x=r
   ·subst hxa;exact .top (.inr updT_self)
   ·exact .top (by rw[updT_ne hxa];exact hx)
  | @go x b s e1 n k ih=>
   have hxa:x≠r:=fun e=>by
    subst e
    rcases ht with ht|ht<;>rw[ht] at e1<;>simp_all
   exact .go (by rw[updT_ne hxa];exact e1) n ih
theorem fo_join {rk:Int→Nat} {up:Int→Option Int} (f:Fo rk up) {r s:Int} (hr:Rt up r r) (hs:Rt up s s) (hne:r≠s):(∃rk',Fo rk' (updT up r s))∧ ∀x t,Rt up x t→Rt (updT up r s) x (if t=r then s else t):=by
 have hsr:s≠r:=fun e=>hne e.symm
 have top:Rt (updT up r s) s s:= .top (by rw[updT_ne hsr];exact hs.is_top)
 refine⟨?_,fun x t hx=> ?_⟩
 ·refine⟨fun x=>open Classical in if Rt up x r then rk x+rk s+1 else rk x,fun x y e n=> ?_⟩
  by_cases hx:x=r
  ·subst hx
   rw[updT_self] at e
   injection e with e
   subst e
   dsimp only
   rw[if_pos hr,if_neg (fun h:Rt up s x=>hne (h.one hs))]
   omega
  ·rw[updT_ne hx] at e
   have h1:=f x y e n
   have h2:Rt up x r↔Rt up y r:=⟨fun h=>by
    cases h with
    |top _=>exact absurd rfl hx
    |go e2 _ k=>rw[e] at e2;injection e2 with e2;rw[e2];exact k,fun h=> .go e n h⟩
   dsimp only
   by_cases h3:Rt up x r
   ·rw[if_pos h3,if_pos (h2.1 h3)];omega
   ·rw[if_neg h3,if_neg (fun h=>h3 (h2.2 h))];exact h1
 ·induction hx with
  | @top x hx=>
   by_cases hxa:x=r
   ·subst hxa
    rw[if_pos rfl]
    exact .go updT_self hsr top
   ·rw[if_neg hxa]
    exact .top (by rw[updT_ne hxa];exact hx)
  | @go x b t e1 n k ih=>
   have hxa:x≠r:=fun e=>by
    subst e
    rcases hr.is_top with ht|ht<;>rw[ht] at e1<;>simp_all
   exact .go (by rw[updT_ne hxa];exact e1) n ih
structure UF (es:List (Int × Int)) (up:Int→Option Int):Prop where
 fo: ∃rk,Fo rk up
 iff: ∀ {a b r s:Int},Rt up a r→Rt up b s→(r=s↔Conn es a b)
theorem UF.empty:UF [] (fun _=>none):=by
 refine⟨⟨fun _=>0,fun a b e _=>by cases e⟩,fun {a b r s} h k=> ?_⟩
 have h1:a=r:=(Rt.top (.inl rfl)).one h
 have h2:b=s:=(Rt.top (.inl rfl)).one k
 subst h1
 subst h2
 refine⟨fun e=>by rw[e];exact Conn.refl _,fun c=> ?_⟩
 cases c with
 |refl=>rfl
 |fwd _ e=>cases e
 |bwd _ e=>cases e
theorem UF.same {es:List (Int × Int)} {up vp:Int→Option Int} (u:UF es up) (f: ∃rk,Fo rk vp) (h:SameR up vp):UF es vp:=⟨f,fun h1 h2=>u.iff ((h _ _).2 h1) ((h _ _).2 h2)⟩
theorem UF.add {es:List (Int × Int)} {up:Int→Option Int} (u:UF es up) {a b r s:Int} (ha:Rt up a r) (hb:Rt up b s):UF (es++[(a,b)]) (updT up r s):=by
 obtain⟨rk,f⟩:=u.fo
 have sub: ∀ {x y:Int},Conn es x y→Conn (es++[(a,b)]) x y:=fun h=>h.mono (fun e he=>List.mem_append_left _ he)
 have new:Conn (es++[(a,b)]) a b:=(Conn.refl a).fwd (by simp)
 have self: ∀ {x t:Int},Rt up x t→Conn es x t:=fun h=>(u.iff h h.self).1 rfl
 -- whatever gives the same number to what hangs together, and the same to a and b
 have ind: ∀(g:Int→Int),(∀x y,Conn es x y→g x=g y)→g a=g b→ ∀x y,Conn (es++[(a,b)]) x y→g x=g y:=fun g h1 h2 x y h=>by
  induction h with
  |refl=>rfl
  |fwd _ e ih=>
   rcases List.mem_append.1 e with e|e
   ·exact ih.trans (h1 _ _ ((Conn.refl _).fwd e))
   ·simp at e
    rw[ih,e.1,e.2];exact h2
  |bwd _ e ih=>
   rcases List.mem_append.1 e with e|e
   ·exact ih.trans (h1 _ _ ((Conn.refl _).bwd e))
   ·simp at e
    rw[ih,e.1,e.2];exact h2.symm
 by_cases hrs:r=s
 ·subst hrs
  obtain⟨f2,h⟩:=fo_self f ha.self
  refine⟨⟨rk,f2⟩,fun {x y t v} hx hy=> ?_⟩
  rw[←h x t] at hx
  rw[←h y v] at hy
  rw[u.iff hx hy]
  refine⟨sub,fun c=> ?_⟩
  have hab:Conn es a b:=(u.iff ha hb).1 rfl
  clear hx hy
  induction c with
  |refl=>exact Conn.refl _
  |fwd _ e ih=>
   rcases List.mem_append.1 e with e|e
   ·exact ih.fwd e
   ·simp at e
    rw[e.2];exact Conn.trans (by rw[e.1] at ih;exact ih) hab
  |bwd _ e ih=>
   rcases List.mem_append.1 e with e|e
   ·exact ih.bwd e
   ·simp at e
    rw[e.1];exact Conn.trans (by rw[e.2] at ih;exact ih) hab.symm
 ·obtain⟨f2,h⟩:=fo_join f ha.self hb.self hrs
  refine⟨f2,fun {x y t v} hx hy=> ?_⟩
  obtain⟨x0,hx0⟩:=rt_ex f x
  obtain⟨y0,hy0⟩:=rt_ex f y
  rw[hx.one (h x x0 hx0),hy.one (h y y0 hy0)]
  constructor
  ·intro e
   have cr:Conn (es++[(a,b)]) r s:=(sub (self ha)).symm.trans (new.trans (sub (self hb)))
   have c1:Conn (es++[(a,b)]) x (if x0=r then s else x0):=by
    split
    ·rename_i e;exact(sub (self hx0)).trans (by rw[e];exact cr)
    ·exact sub (self hx0)
   have c2:Conn (es++[(a,b)]) y (if y0=r then s else y0):=by
    split
    ·rename_i e;exact(sub (self hy0)).trans (by rw[e];exact cr)
    ·exact sub (self hy0)
   rw[e] at c1
   exact c1.trans c2.symm
  ·intro c
   have g:=ind (fun x=>open Classical in if Classical.choose (rt_ex f x)=r then s else Classical.choose (rt_ex f x)) (fun x y c=>by
    have:=(u.iff (Classical.choose_spec (rt_ex f x)) (Classical.choose_spec (rt_ex f y))).2 c
    simp only[this]) (by
    have e1:=(Classical.choose_spec (rt_ex f a)).one ha
    have e2:=(Classical.choose_spec (rt_ex f b)).one hb
    simp only[e1,e2]
    rw[if_pos trivial,if_neg (fun e=>hrs e.symm)]) x y c
   have e1:=(Classical.choose_spec (rt_ex f x)).one hx0
   have e2:=(Classical.choose_spec (rt_ex f y)).one hy0
   simp only[e1,e2] at g
   exact g
end Go.Proofs.YthopjhifepijiaaGreat
namespace Go.Proofs.YthopjhifepijiaaGreat
def touchB (l:List (Pt × Pt)) (q:Pt):Bool:=l.any fun x=>decide (q=x.1)||(decide (q=x.2)||onB q x.1 x.2)
def areaL (l:List (Pt × Pt)):Int:=l.foldl (fun s x=>s+(x.1.x*x.2.y - x.2.x*x.1.y)) 0
structure OU where
 lines:List (Pt × Pt)
 area:Int
 piece:Int
def arndB (o:OU) (q:Pt) (but:Int):Bool:= !(decide (o.piece=but)||touchB o.lines q|| !oddB o.lines q)
def bestS (l:List OU) (q:Pt) (but:Int) (best:Int) (i:Nat):Int:=match l[i]? with
 |some o=>if arndB o q but=true∧(best<0∨o.area<(((l[best.toNat]?).map (·.area)).getD 0)) then(i:Int) else best
 |none=>best
def aroundP (l:List OU) (q:Pt) (but:Int):Int:=(List.range l.length).foldl (bestS l q but) (-1)
end Go.Proofs.YthopjhifepijiaaGreat
namespace Go.Proofs.YthopjhifepijiaaGreat
section
variable {α:Type} {f:α→α}
theorem link_pre: ∀ {A B:List α} {h x y:α},Link f h A x→Link f h B y→A.length≤B.length→ ∃C,B=A++C∧Link f x C y
 | [],B,h,x,y,hA,hB,_=>by
  have hA:x=h:=hA
  subst hA
  exact⟨B,rfl,hB⟩
 |a::A,[],h,x,y,hA,hB,hl=>by simp at hl
 |a::A,b::B,h,x,y,⟨a1,a2⟩,⟨b1,b2⟩,hl=>by
  subst a1
  subst b1
  obtain⟨C,e,hC⟩:=link_pre a2 b2 (by simpa using hl)
  exact⟨C,by rw[e];rfl,hC⟩
theorem link_one {A B:List α} {h:α} (hA:Link f h A h) (hB:Link f h B h) (nA:A≠ []) (nB:B≠ []) (dA:A.Nodup) (dB:B.Nodup):A=B:=by
 have key: ∀ {A B:List α},Link f h A h→Link f h B h→A≠ []→B.Nodup→A.length≤B.length→A=B:=fun {A B} hA hB nA dB hl=>by
  obtain⟨C,e,hC⟩:=link_pre hA hB hl
  cases C with
  |nil=>rw[e,List.append_nil]
  |cons c C=>
   exfalso
   obtain⟨c1, -⟩:=hC
   cases A with
   |nil=>exact nA rfl
   |cons a A=>
    obtain⟨a1, -⟩:=hA
    rw[e,List.nodup_append] at dB
    exact dB.2.2 a (by simp) c (by simp) (by rw[a1,c1])
 rcases Nat.le_total A.length B.length with k|k
 ·exact key hA hB nA dB k
 ·exact(key hB hA nB dA k).symm
variable [DecidableEq α]
theorem orb_fuel: ∀(n:Nat) (met:List α) (h:α),(orbF f (n+1) met h).length≤n→orbF f (n+1) met h=orbF f n met h
 |0,met,h,hl=>by
  rw[List.length_eq_zero_iff.1 (Nat.le_zero.1 hl)]
  rfl
 |n+1,met,h,hl=>by
  rw[show orbF f (n+1+1) met h=if h∈met then [] else h::orbF f (n+1) (met++[h]) (f h) from rfl] at hl ⊢
  rw[show orbF f (n+1) met h=if h∈met then [] else h::orbF f n (met++[h]) (f h) from rfl]
  split
  ·rfl
  ·rename_i hm
   rw[if_neg hm] at hl
   rw[orb_fuel n _ _ (by simpa using hl)]
def ringsR (f:α→α) (n:Nat):List α→List α→List (List α)
 | [],_=>[]
 |h::l,met=>if h∈met then ringsR f n l met else orbF f n [] h::ringsR f n l (met++orbF f n [] h)
theorem ringsR_eq {all:List α} (hf: ∀x∈all,f x∈all) (inj: ∀x∈all, ∀y∈all,f x=f y→x=y) {n:Nat} (hn:all.length<n):
  ∀(l met:List α),(∀x∈l,x∈all)→(∀x∈all,f x∈met→x∈met)→ringsR f all.length l met=ringsF f n l met
 | [],met,_,_=>rfl
 |h::l,met,hl,hb=>by
  unfold ringsR ringsF
  by_cases hm:h∈met
  ·rw[if_pos hm,if_pos hm]
   exact ringsR_eq hf inj hn l met (fun x hx=>hl x (by simp[hx])) hb
  ·rw[if_neg hm,if_neg hm]
   have r1:=orb_ring (n:=n) hf inj hb (hl h (by simp)) hm hn
   have r2:=orb_ring (met:=[]) (n:=all.length+1) hf inj (by simp) (hl h (by simp)) (by simp) (Nat.lt_succ_self _)
   have e:orbF f all.length [] h=orbF f n met h:=by
    rw[←orb_fuel all.length [] h (nodup_len r2.nd (fun y hy=>(r2.mem y hy).1))]
    exact link_one r2.link r1.link r2.ne r1.ne r2.nd r1.nd
   rw[e]
   refine congrArg _ (ringsR_eq hf inj hn l _ (fun x hx=>hl x (by simp[hx])) (fun x hx hfx=> ?_))
   rcases List.mem_append.1 hfx with k|k
   ·exact List.mem_append_left _ (hb x hx k)
   ·exact List.mem_append_right _ (r1.back inj x hx k)
theorem orb_congr {g:α→α} {all:List α} (hf: ∀x∈all,f x∈all) (e: ∀x∈all,g x=f x): ∀(n:Nat) (met:List α) (h:α),h∈all→orbF g n met h=orbF f n met h
 |0,_,_,_=>rfl
 |n+1,met,h,hh=>by
  unfold orbF
  rw[e h hh,orb_congr hf e n _ _ (hf h hh)]
theorem ringsR_congr {g:α→α} {all:List α} (hf: ∀x∈all,f x∈all) (e: ∀x∈all,g x=f x) (n:Nat): ∀(l met:List α),(∀x∈l,x∈all)→ringsR g n l met=ringsR f n l met
 | [],met,_=>rfl
 |h::l,met,hl=>by
  unfold ringsR
  rw[orb_congr hf e n [] h (hl h (by simp)),ringsR_congr hf e n l met (fun x hx=>hl x (by simp[hx])),ringsR_congr hf e n l _ (fun x hx=>hl x (by simp[hx]))]
end
section
variable {p:PL}
theorem RightP.ringsR_eq (r:RightP p):ringsR (nextR p) (halvesE p.es).length (halvesE p.es) []=ringsP p:=by
 have hf: ∀x∈halvesE p.es,nextP p x∈halvesE p.es:=fun x hx=>r.next_half hx
 rw[ringsR_congr hf (fun x hx=>r.nextR_eq hx) _ _ _ (fun x hx=>hx)]
 exact Go.Proofs.YthopjhifepijiaaGreat.ringsR_eq hf (fun x hx y hy e=>r.next_inj hx hy e) (by rw[halves_len];omega) _ _ (fun x hx=>hx) (by simp)
end
end Go.Proofs.YthopjhifepijiaaGreat
