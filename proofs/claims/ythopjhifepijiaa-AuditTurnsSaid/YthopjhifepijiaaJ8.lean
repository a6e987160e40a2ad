/- Lemmas on the way to the statement. -/
import Derived.Test.YthopjhifepijiaaJ7
import Derived.Deep.DeepCutAuto
set_option linter.unusedSimpArgs false
set_option linter.unusedVariables false
namespace Go.Proofs.Ythopjhifepijiaa
open Go.RowKit Go.Joins
open Go.Maps (Keyed)
theorem area_snoc (l:List (Pt × Pt)) (x:Pt × Pt):areaL (l++[x])=areaL l+(x.1.x*x.2.y - x.2.x*x.1.y):=by unfold areaL;rw[List.foldl_append];rfl
def inL (l:List (Pt × Pt)):Prop:= ∀x∈l,inB x.1=true∧inB x.2=true
theorem mul_in {a b:Int} (ha: -268435456≤a∧a≤268435456) (hb: -268435456≤b∧b≤268435456): -72057594037927936≤a*b∧a*b≤72057594037927936:=by
 have:=mul_bd (M:=268435456) (N:=268435456) ha.1 ha.2 hb.1 hb.2
 omega
theorem area_go: ∀(l:List (Pt × Pt)) (s:Int),inL l→s - 144115188075855872*(l.length:Int)≤l.foldl (fun s x=>s+(x.1.x*x.2.y - x.2.x*x.1.y)) s∧l.foldl (fun s x=>s+(x.1.x*x.2.y - x.2.x*x.1.y)) s≤s+144115188075855872*(l.length:Int)
 | [],s,_=>by simp
 |x::l,s,h=>by
  have h1:=area_go l (s+(x.1.x*x.2.y - x.2.x*x.1.y)) (fun y hy=>h y (by simp[hy]))
  have h2:=h x (by simp)
  have a:=inB_iff.1 h2.1
  have b:=inB_iff.1 h2.2
  have m1:=mul_in ⟨a.1,a.2.1⟩ ⟨b.2.2.1,b.2.2.2⟩
  have m2:=mul_in ⟨b.1,b.2.1⟩ ⟨a.2.2.1,a.2.2.2⟩
  rw[List.foldl_cons,List.length_cons]
  generalize x.1.x*x.2.y=P at*
  generalize x.2.x*x.1.y=Q at*
  generalize List.foldl _ _ l=Z at*
  omega
theorem area_bd {l:List (Pt × Pt)} (h:inL l): -144115188075855872*(l.length:Int)≤areaL l∧areaL l≤144115188075855872*(l.length:Int):=by
 have:=area_go l 0 h
 unfold areaL
 omega
theorem area_fits {l:List (Pt × Pt)} (h:inL l) (hl:l.length≤100000):Fits (areaL l):=by
 have:=area_bd h
 unfold Fits
 omega
structure SumS (w wr:World) (l:List (Pt × Pt)) (k:Nat):Prop where
 res:wr.rowIs w.heap.size 36 4 (wdF 0)
 all:wr.rowIs (w.heap.size+1) 36 4 (wdF (areaL (l.take k)))
 below:Below w.heap.size w wr
theorem SumS.later {w wr w2:World} {l:List (Pt × Pt)} {k:Nat} (h:SumS w wr l k) (b:Below wr.heap.size wr w2):SumS w w2 l k:=
 ⟨rowIs_touch (F:=[]) h.res (Touch.of_below b) (by simp),rowIs_touch (F:=[]) h.all (Touch.of_below b) (by simp),below_step b h.below⟩
theorem SumS.put {w wr:World} {l:List (Pt × Pt)} {k:Nat} (h:SumS w wr l k) {k':Nat}:SumS w ((((wr.setCell ⟨w.heap.size+1,0,none⟩ (.int .u64 (wrd (areaL (l.take k')) 0))).setCell ⟨w.heap.size+1,1,none⟩ (.int .u64 (wrd (areaL (l.take k')) 1))).setCell ⟨w.heap.size+1,2,none⟩ (.int .u64 (wrd (areaL (l.take k')) 2))).setCell ⟨w.heap.size+1,3,none⟩ (.int .u64 (wrd (areaL (l.take k')) 3))) l k':=by
 refine⟨?_, ?_, ?_⟩
 ·exact World.rowIs.setOther (World.rowIs.setOther (World.rowIs.setOther (World.rowIs.setOther h.res (by simp) _) (by simp) _) (by simp) _) (by simp) _
 ·refine World.rowIs.congr (World.rowIs.set (World.rowIs.set (World.rowIs.set (World.rowIs.set h.all 0 _) 1 _) 2 _) 3 _) (fun i hi=> ?_)
  rcases i with _|_|_|_|i<;>first|rfl|omega
 ·exact(((h.below.setCell (by simp) _).setCell (by simp) _).setCell (by simp) _).setCell (by simp) _
set_option maxRecDepth 100000 in
set_option maxHeartbeats 4000000 in
theorem sum_any {w:World} {B n c:Nat} {a:Option Addr} {l:List (Pt × Pt)} (hl:LnIn w B a n l) (hB:B≤w.heap.size) (hi:inL l) (hn:n≤100000):
  Calls Try.prog 44 #[.slice a n c] w fun e w'=>e= .returned (.agg #[.int .u64 (wrd (areaL l) 0), .int .u64 (wrd (areaL l) 1), .int .u64 (wrd (areaL l) 2), .int .u64 (wrd (areaL l) 3)])∧Below w.heap.size w w':=by
 have HL:=fun(W:World) (hb:Below w.heap.size w W)=>Lib.hid (hl.below (hb.mono hB))
 have HN:=Lib.hid hl.1
 have HI:=Lib.hid hi
 clear hl hi
 have z0:(Value.int .u64 0)=wdF 0 0:=rfl
 have z1:(Value.int .u64 0)=wdF 0 1:=rfl
 have z2:(Value.int .u64 0)=wdF 0 2:=rfl
 have z3:(Value.int .u64 0)=wdF 0 3:=rfl
 have HS0:Hid (SumS w ((w.alloc (.cells #[.int .u64 0, .int .u64 0, .int .u64 0, .int .u64 0] 36)).alloc (.cells #[.int .u64 0, .int .u64 0, .int .u64 0, .int .u64 0] 36)) l 0):=Lib.hid (by
  refine⟨World.rowIs.alloc (World.rowIs_alloc w #[.int .u64 0, .int .u64 0, .int .u64 0, .int .u64 0] 36 (wdF 0) (fun i hi=>by rcases i with _|_|_|_|i<;>first|rfl|(simp at hi;omega))) _, ?_,below_alloc (below_alloc (Below.refl _ _))⟩
  have:=World.rowIs_alloc (w.alloc (.cells #[.int .u64 0, .int .u64 0, .int .u64 0, .int .u64 0] 36)) #[.int .u64 0, .int .u64 0, .int .u64 0, .int .u64 0] 36 (wdF 0) (fun i hi=>by rcases i with _|_|_|_|i<;>first|rfl|(simp at hi;omega))
  have e9:(w.alloc (.cells #[.int .u64 0, .int .u64 0, .int .u64 0, .int .u64 0] 36)).heap.size=w.heap.size+1:=by simp
  rw[e9] at this
  exact this)
 clear z0 z1 z2 z3
 go_enter Try.func44,Try.ntmps44
 go_wp2_with fail
 go_loopw [10] (fun i wr=> ∃k:Nat,k≤n∧i= .int .i64 k∧SumS w wr l k) (fun i _=>n - (intOf i).toNat)
 case atStart=>exact⟨0,Nat.zero_le _,rfl,HS0.out⟩
 case round=>
  clear HS0
  obtain⟨k,hk,rfl,hI⟩:=hrel
  have HS:=Lib.hid hI
  have a0:=World.rowIs.cell hI.all (i:=0) (by decide)
  have a1:=World.rowIs.cell hI.all (i:=1) (by decide)
  have a2:=World.rowIs.cell hI.all (i:=2) (by decide)
  have a3:=World.rowIs.cell hI.all (i:=3) (by decide)
  have fa:=fun i=>World.rowIs.frozen hI.all i
  have hal:=World.rowIs.lt hI.all
  simp only[wdF] at a0 a1 a2 a3
  clear hI
  by_cases hlt:k<n
  ·obtain⟨lb,loff,⟨⟨ax,ay⟩,⟨bx,by_⟩⟩,rfl,hlb,hx,c0,c1,c2,c3⟩:=(HL _ HS.out.below).out.at_ hlt
   have hbw:lb<wr.heap.size:=by have:=HS.out.below.size;omega
   have h2:=HI.out _ (List.mem_of_getElem? hx)
   have ha:=inB_iff.1 h2.1
   have hb:=inB_iff.1 h2.2
   have hTK:=take_snoc' hx
   have HAR:=Lib.hid (show areaL (l.take (k+1))=areaL (l.take k)+(ax*by_ - bx*ay) from by rw[hTK];exact area_snoc _ _)
   have HF1:=Lib.hid (show Fits (areaL (l.take k)) from area_fits (fun y hy=>HI.out y (List.mem_of_mem_take hy)) (by rw[List.length_take];have:=HN.out;omega))
   have HF2:=Lib.hid (show Fits (areaL (l.take (k+1))) from area_fits (fun y hy=>HI.out y (List.mem_of_mem_take hy)) (by rw[List.length_take];have:=HN.out;omega))
   simp only at ha hb c0 c1 c2 c3
   have m1:=mul_in ⟨ha.1,ha.2.1⟩ ⟨hb.2.2.1,hb.2.2.2⟩
   have m2:=mul_in ⟨hb.1,hb.2.1⟩ ⟨ha.2.2.1,ha.2.2.2⟩
   obtain⟨P,hP⟩: ∃P,P=ax*by_:=⟨_,rfl⟩
   obtain⟨Q,hQ⟩: ∃Q,Q=bx*ay:=⟨_,rfl⟩
   rw[←hP] at m1
   rw[←hQ] at m2
   rw[←hP, ←hQ] at HAR
   have v1:IntKind.i64.wrap (ax*by_)=P:=by rw[←hP];exact IntWalk.i64_in _ (by omega)
   have v2:IntKind.i64.wrap (bx*ay)=Q:=by rw[←hQ];exact IntWalk.i64_in _ (by omega)
   have u1:wrap64 (ax*by_)=P:=by rw[←hP];exact IntWalk.wrap64_in _ ⟨by omega,by omega⟩
   have u2:wrap64 (bx*ay)=Q:=by rw[←hQ];exact IntWalk.wrap64_in _ ⟨by omega,by omega⟩
   have HOF:=fun W=>Lib.hid (of_any (P - Q) W (by omega) (by omega))
   have HAD:=fun W=>Lib.hid (addW_any (areaL (l.take k)) (P - Q) W HF1.out (by unfold Fits;omega) (by rw[←HAR.out];exact HF2.out))
   rw[←HAR.out] at HAD
   obtain⟨A,hA⟩: ∃A,A=areaL (l.take k):=⟨_,rfl⟩
   rw[←hA] at HAD a0 a1 a2 a3
   have HAA:=Lib.hid hA
   clear hA
   obtain⟨A',hA'⟩: ∃A',A'=areaL (l.take (k+1)):=⟨_,rfl⟩
   rw[←hA'] at HAD
   have HA':=Lib.hid hA'
   clear hA' hP hQ hx h2 ha hb hTK HAR HF1 HF2
   generalize wrd (P - Q) 0=q0 at HOF HAD
   obtain⟨y0,hy0⟩: ∃y,y=wrd A' 0:=⟨_,rfl⟩
   rw[←hy0] at HAD
   obtain⟨p0,hp0⟩: ∃y,y=wrd A 0:=⟨_,rfl⟩
   rw[←hp0] at HAD a0
   generalize wrd (P - Q) 1=q1 at HOF HAD
   obtain⟨y1,hy1⟩: ∃y,y=wrd A' 1:=⟨_,rfl⟩
   rw[←hy1] at HAD
   obtain⟨p1,hp1⟩: ∃y,y=wrd A 1:=⟨_,rfl⟩
   rw[←hp1] at HAD a1
   generalize wrd (P - Q) 2=q2 at HOF HAD
   obtain⟨y2,hy2⟩: ∃y,y=wrd A' 2:=⟨_,rfl⟩
   rw[←hy2] at HAD
   obtain⟨p2,hp2⟩: ∃y,y=wrd A 2:=⟨_,rfl⟩
   rw[←hp2] at HAD a2
   generalize wrd (P - Q) 3=q3 at HOF HAD
   obtain⟨y3,hy3⟩: ∃y,y=wrd A' 3:=⟨_,rfl⟩
   rw[←hy3] at HAD
   obtain⟨p3,hp3⟩: ∃y,y=wrd A 3:=⟨_,rfl⟩
   rw[←hp3] at HAD a3
   have HYY:=Lib.hid (show y0=wrd A' 0∧y1=wrd A' 1∧y2=wrd A' 2∧y3=wrd A' 3 from⟨hy0,hy1,hy2,hy3⟩)
   have HPP:=Lib.hid (show p0=wrd A 0∧p1=wrd A 1∧p2=wrd A 2∧p3=wrd A 3 from⟨hp0,hp1,hp2,hp3⟩)
   clear hy0 hy1 hy2 hy3 hp0 hp1 hp2 hp3
   go_wp2_with fail
   refine(HOF _).out.mono ?_
   rintro e w3 ⟨rfl,hb3⟩
   have S3:=Lib.hid (HS.out.later (below_step hb3 (below_alloc (Below.refl wr.heap.size wr))))
   clear hb3 a0 a1 a2 a3 fa hal
   have a0:=World.rowIs.cell S3.out.all (i:=0) (by decide)
   have a1:=World.rowIs.cell S3.out.all (i:=1) (by decide)
   have a2:=World.rowIs.cell S3.out.all (i:=2) (by decide)
   have a3:=World.rowIs.cell S3.out.all (i:=3) (by decide)
   have hal:=World.rowIs.lt S3.out.all
   simp only[wdF, ←HAA.out] at a0 a1 a2 a3
   rw[←HPP.out.1] at a0
   rw[←HPP.out.2.1] at a1
   rw[←HPP.out.2.2.1] at a2
   rw[←HPP.out.2.2.2] at a3
   go_wp2_with fail
   refine(HAD _).out.mono ?_
   rintro e w4 ⟨rfl,hb4⟩
   have S4:=Lib.hid (S3.out.later (below_step hb4 (below_alloc (Below.refl w3.heap.size w3))))
   clear hb4 a0 a1 a2 a3 hal
   have a0:=World.rowIs.cell S4.out.all (i:=0) (by decide)
   have a1:=World.rowIs.cell S4.out.all (i:=1) (by decide)
   have a2:=World.rowIs.cell S4.out.all (i:=2) (by decide)
   have a3:=World.rowIs.cell S4.out.all (i:=3) (by decide)
   have fa:=fun i=>World.rowIs.frozen S4.out.all i
   simp only[wdF] at a0 a1 a2 a3
   go_wp2_with fail
   go_roundw
   case rel=>exact⟨k+1,by omega,by go_num,by obtain⟨e0,e1,e2,e3⟩:=HYY.out;rw[e0,e1,e2,e3,HA'.out];exact S4.out.put⟩
   case measure=>simp[intOf];omega
  ·obtain rfl:k=n:=by omega
   have HA:=Lib.hid (show areaL (l.take k)=areaL l from by rw[List.take_of_length_le (by have:=HN.out;omega)])
   rw[HA.out] at a0 a1 a2 a3
   have r0:=World.rowIs.cell HS.out.res (i:=0) (by decide)
   have r1:=World.rowIs.cell HS.out.res (i:=1) (by decide)
   have r2:=World.rowIs.cell HS.out.res (i:=2) (by decide)
   have r3:=World.rowIs.cell HS.out.res (i:=3) (by decide)
   have fr:=fun i=>World.rowIs.frozen HS.out.res i
   simp only[wdF] at r0 r1 r2 r3
   obtain⟨A,hA⟩: ∃A,A=areaL l:=⟨_,rfl⟩
   rw[←hA] at a0 a1 a2 a3
   have HAL:=Lib.hid hA
   clear hA HA
   go_wp2_with fail
   refine bodyPost_ret (v:= .agg #[.int .u64 (wrd A 0), .int .u64 (wrd A 1), .int .u64 (wrd A 2), .int .u64 (wrd A 3)]) (by simp[results,Try.results44,go_sem, *]) rfl ⟨by rw[HAL.out], ?_⟩
   exact(((HS.out.below.setCell (by simp) _).setCell (by simp) _).setCell (by simp) _).setCell (by simp) _
end Go.Proofs.Ythopjhifepijiaa
namespace Go.Proofs.Ythopjhifepijiaa
open Go.RowKit Go.Joins
open Go.Maps (Keyed)
def ptF (q:Pt):Nat→Value
 |0=> .int .i64 q.x
 |_=> .int .i64 q.y
theorem ptF_get (q:Pt): ∀i,i<2→(#[Value.int .i64 q.x, .int .i64 q.y]:Array Value)[i]? =some (ptF q i):=fun i hi=>by
 rcases i with _|_|i<;>first|rfl|omega
def TwoPt (wr wx:World) (p8 p9:Value) (a b:Pt):Prop:= ∃b8 b9,p8= .pointer (some ⟨b8,0,none⟩)∧p9= .pointer (some ⟨b9,0,none⟩)∧b8≠b9∧wr.heap.size≤b8∧wr.heap.size≤b9∧wx.rowIs b8 51 2 (ptF a)∧wx.rowIs b9 51 2 (ptF b)∧Below wr.heap.size wr wx
theorem par3_nm {P:Program} {ops:Array Oper} {Q:Exit→Act→World→Prop} {S:World→Prop} {n b f:Nat} {listed:Array Bool} {a:Act} {w:World} (h: ∀W,W=w→wpPar3 P ops Q S n b f listed a W):wpPar3 P ops Q S n b f listed a w:=h w rfl
theorem two_of (W:World) (a b:Pt):((W.alloc (ptC a)).alloc (ptC b)).rowIs W.heap.size 51 2 (ptF a)∧((W.alloc (ptC a)).alloc (ptC b)).rowIs (W.heap.size+1) 51 2 (ptF b):=by
 refine⟨World.rowIs.alloc (World.rowIs_alloc W #[.int .i64 a.x, .int .i64 a.y] 51 (ptF a) (ptF_get a)) _, ?_⟩
 have:=World.rowIs_alloc (W.alloc (ptC a)) #[.int .i64 b.x, .int .i64 b.y] 51 (ptF b) (ptF_get b)
 have e:(W.alloc (ptC a)).heap.size=W.heap.size+1:=by simp
 rw[e] at this
 exact this
def oddS (l:List (Pt × Pt)) (q:Pt):Bool:=l.foldl (fun o x=>if rayPr x.1 x.2 q=true then !o else o) false
theorem oddS_snoc (l:List (Pt × Pt)) (x:Pt × Pt) (q:Pt):oddS (l++[x]) q=if rayPr x.1 x.2 q=true then !oddS l q else oddS l q:=by unfold oddS;rw[List.foldl_append];rfl
set_option maxRecDepth 100000 in
set_option maxHeartbeats 4000000 in
theorem odd_any {w:World} {B n c:Nat} {a:Option Addr} {l:List (Pt × Pt)} {q:Pt} (hl:LnIn w B a n l) (hB:B≤w.heap.size) (hi:inL l) (hq:inB q=true) (hn:n≤100000):
  Calls Try.prog 49 #[.slice a n c, .agg #[.int .i64 q.x, .int .i64 q.y]] w fun e w'=>e= .returned (.bool (oddB l q))∧Below w.heap.size w w':=by
 rw[←odd_pr,show(l.foldl (fun o x=>if rayPr x.1 x.2 q=true then !o else o) false)=oddS l q from rfl]
 have HL:=fun(W:World) (hb:Below w.heap.size w W)=>Lib.hid (hl.below (hb.mono hB))
 have HN:=Lib.hid hl.1
 have HI:=Lib.hid hi
 have HQ:=Lib.hid hq
 clear hl hi hq
 go_enter Try.func49,Try.ntmps49
 go_wp2_with fail
 first|refine wp_name (fun W hW=> ?_)|refine calls_name (fun W hW=> ?_)
 have HW:Hid (Below w.heap.size w W):=Lib.hid (by rw[←hW];repeat (first|exact Below.refl _ _|refine below_alloc ?_))
 have HWs:Hid (W.heap.size=w.heap.size+1):=Lib.hid (by rw[←hW];simp)
 have HBW:Hid (W.heap.size≤W.heap.size):=Lib.hid (by have:=HWs.out;omega)
 have HC:=fun(W1:World) (hb:Below (W.heap.size) W W1)=>Lib.hid (show W1.cell? ⟨w.heap.size,0,none⟩=some (.int .i64 q.x)∧W1.cell? ⟨w.heap.size,1,none⟩=some (.int .i64 q.y) from by have hs:=HWs.out;refine⟨?_, ?_⟩<;>(refine(hb.cell (by dsimp only;omega)).trans ?_;rw[←hW];clear hW;go_simp))
 have HB:=Lib.hid (Below.refl (W.heap.size) W)
 clear hW
 have HZ:=fun(W1:World) (hb:W.heap.size≤W1.heap.size)=>Lib.hid (show w.heap.size<W1.heap.size from by have:=HWs.out;omega)
 obtain⟨qx0,qx1⟩:=(HC _ HB.out).out
 have rx0:=(HZ _ HB.out.size).out
 clear qx0 qx1 rx0
 go_loopw [5,12] (fun o i wr=> ∃k:Nat,k≤n∧i= .int .i64 k∧o= .bool (oddS (l.take k) q)∧Below W.heap.size W wr) (fun _ i _=>n - (intOf i).toNat)
 case atStart=>exact⟨0,Nat.zero_le _,rfl,rfl,HB.out⟩
 case round=>
  clear HB
  obtain⟨k,hk,rfl,rfl,hb⟩:=hrel
  have HB:=Lib.hid hb
  clear hb
  obtain⟨qx0,qx1⟩:=(HC _ HB.out).out
  have rx0:=(HZ _ HB.out.size).out
  by_cases hlt:k<n
  ·have HXW:=Lib.hid (HW.out.trans (HB.out.mono HW.out.size))
   obtain⟨lb,loff,⟨A,C⟩,rfl,hlb,hx,c0,c1,c2,c3⟩:=(HL _ HXW.out).out.at_ hlt
   have hbw:lb<wr.heap.size:=by have:=HXW.out.size;omega
   have HIN:=Lib.hid (HI.out _ (List.mem_of_getElem? hx))
   have HSN:=Lib.hid (show oddS (l.take (k+1)) q=if rayPr A C q=true then !oddS (l.take k) q else oddS (l.take k) q from by rw[take_snoc' hx];exact oddS_snoc _ _ _)
   have T1:=fun W=>Lib.hid (turn_any A C q W)
   have T2:=fun W=>Lib.hid (turn_any C A q W)
   simp only at HIN
   rw[HIN.out.1,HIN.out.2,HQ.out] at T1 T2
   simp only[Bool.and_self,if_true] at T1 T2
   clear hx
   unfold rayPr at HSN
   obtain⟨ax,ay⟩:=A
   obtain⟨bx,by_⟩:=C
   simp only at c0 c1 c2 c3 HSN T1 T2
   obtain⟨o,ho⟩: ∃o,o=oddS (l.take k) q:=⟨_,rfl⟩
   rw[←ho] at HSN ⊢
   clear ho
   have HBR:=Lib.hid (show W.heap.size≤wr.heap.size from HB.out.size)
   go_upto_region 5 with fail
   go_cut [8,9] (fun p8 p9 wx=>TwoPt wr wx p8 p9 ⟨ax,ay⟩ ⟨bx,by_⟩)
   case first=>
    go_wp2_with fail
    refine wp_name (fun c hc=> ?_)
    have HCB:=Lib.hid (show Below wr.heap.size wr c from by rw[←hc];exact below_alloc (Below.refl _ _))
    have HCS:=Lib.hid (show wr.heap.size<c.heap.size from by rw[←hc];simp)
    have hcc:c.cell? ⟨wr.heap.size,0,none⟩=some (.int .i64 ax)∧c.cell? ⟨wr.heap.size,0+1,none⟩=some (.int .i64 ay)∧c.cell? ⟨wr.heap.size,0+1+1,none⟩=some (.int .i64 bx)∧c.cell? ⟨wr.heap.size,0+1+1+1,none⟩=some (.int .i64 by_):=by
     rw[←hc]
     clear hc
     simp[World.cell?_alloc_new]
    simp only[Nat.zero_add,Nat.reduceAdd] at hcc
    have HY:=fun(w':World) (t:Below c.heap.size c w')=>Lib.hid (show w'.cell? ⟨wr.heap.size,0,none⟩=some (.int .i64 ax)∧w'.cell? ⟨wr.heap.size,1,none⟩=some (.int .i64 ay)∧w'.cell? ⟨wr.heap.size,2,none⟩=some (.int .i64 bx)∧w'.cell? ⟨wr.heap.size,3,none⟩=some (.int .i64 by_) from
     ⟨(t.cell (p:=⟨wr.heap.size,_,none⟩) HCS.out).trans hcc.1,(t.cell (p:=⟨wr.heap.size,_,none⟩) HCS.out).trans hcc.2.1,(t.cell (p:=⟨wr.heap.size,_,none⟩) HCS.out).trans hcc.2.2.1,(t.cell (p:=⟨wr.heap.size,_,none⟩) HCS.out).trans hcc.2.2.2⟩)
    have HS0:=Lib.hid (Below.refl c.heap.size c).drew
    clear hc hcc c0 c1 c2 c3
    refine wp_region_noPanic ?_
    refine wp_region_par3 7 7 (by kernel_rfl) (by kernel_rfl) (by simp) (by omega) (by kernel_rfl) (by kernel_rfl) (fun w':World=>Below c.heap.size c w') ?_
    refine par3_move (v:= ?_) 0 (by simp only[zga,zgb,zgc];rfl) (by kernel_rfl) (by rfl) ?_ (fun _ _ _ h=>h) ?_
    rotate_left
    ·(intro w9;go_simp;try with_reducible rfl)
    simp only[Act.put,zpa,zpb,zpc]
    refine par3_read (v:= ?_) 1 (by simp only[zga,zgb,zgc];rfl) (by kernel_rfl) (by rfl) HS0.out ?_ (fun _ _ _ h=>h) ?_
    rotate_left
    ·(intro w9 hSw;obtain⟨y0,y1,y2,y3⟩:=(HY w9 hSw).out;clear hSw;go_simp;try with_reducible rfl)
    simp only[Act.put,zpa,zpb,zpc]
    refine par3_move (v:= ?_) 2 (by simp only[zga,zgb,zgc];rfl) (by kernel_rfl) (by rfl) ?_ (fun _ _ _ h=>h) ?_
    rotate_left
    ·(intro w9;go_simp;try with_reducible rfl)
    simp only[Act.put,zpa,zpb,zpc]
    refine par3_read (v:= ?_) 3 (by simp only[zga,zgb,zgc];rfl) (by kernel_rfl) (by rfl) HS0.out ?_ (fun _ _ _ h=>h) ?_
    rotate_left
    ·(intro w9 hSw;obtain⟨y0,y1,y2,y3⟩:=(HY w9 hSw).out;clear hSw;go_simp;try with_reducible rfl)
    simp only[Act.put,zpa,zpb,zpc]
    refine par3_nm (fun W8 hW8=> ?_)
    rw[←hW8] at HS0
    have HWZ:=Lib.hid (show W8.heap.size=c.heap.size from by rw[hW8];rfl)
    clear hW8
    refine par3_two 4 5 (by simp only[zga,zgb,zgc];rfl) (by simp only[zga,zgb,zgc];rfl) (by kernel_rfl) (by rfl) (by rfl) ?_ ?_
    ·refine owp_val (v:= ?_) (w1:= ?_) ?_ ?_
     rotate_left 2
     ·(go_simp;constructor<;>rfl)
     refine⟨fun s _=>s.alloc s.size _, ?_⟩
     simp only[Act.put,zpa,zpb,zpc]
     refine par3_one 5 (by simp only[zga,zgb,zgc];rfl) (by kernel_rfl) (by rfl) ?_
     refine owp_val (v:= ?_) (w1:= ?_) ?_ ?_
     rotate_left 2
     ·(go_simp;constructor<;>rfl)
     refine⟨fun s _=>s.alloc s.size _, ?_⟩
     simp only[Act.put,zpa,zpb,zpc]
     refine par3_one 6 (by simp only[zga,zgb,zgc];rfl) (by kernel_rfl) (by rfl) ?_
     have hwz:=HWZ.out
     refine owp_skip (w1:= ?_) ?_ ?_
     rotate_left
     ·(go_simp;first|rfl|(constructor<;>rfl))
     refine⟨fun s _=>by first|exact(HS0.out.alloc HS0.out.size _).alloc (HS0.out.alloc HS0.out.size _).size _|exact(s.setCell (by simp;omega) _).setCell (by simp;omega) _, ?_⟩
     simp only[Act.put,zpa,zpb,zpc]
     refine par3_tail _ (by simp only[List.drop_succ_cons,List.drop_zero];rfl) (by kernel_rfl) ?_
     go_wp2_with fail
     refine NoPanic.normal ?_
     go_step
     go_step
     go_meet
     have hws:=HCS.out
     have HFIN:=Lib.hid (show Below wr.heap.size wr ((W8.alloc (ptC ⟨ax,ay⟩)).alloc (ptC ⟨bx,by_⟩)) from(HCB.out.trans (HS0.out.mono HCB.out.size)).trans (below_alloc (below_alloc (Below.refl _ _)) |>.mono (by omega)))
     exact⟨_,_,rfl,rfl,by omega,by omega,by omega,(two_of W8 ⟨ax,ay⟩ ⟨bx,by_⟩).1,(two_of W8 ⟨ax,ay⟩ ⟨bx,by_⟩).2,HFIN.out⟩
    ·refine owp_val (v:= ?_) (w1:= ?_) ?_ ?_
     rotate_left 2
     ·(go_simp;constructor<;>rfl)
     refine⟨fun s _=>s.alloc s.size _, ?_⟩
     simp only[Act.put,zpa,zpb,zpc]
     refine par3_one 4 (by simp only[zga,zgb,zgc];rfl) (by kernel_rfl) (by rfl) ?_
     refine owp_val (v:= ?_) (w1:= ?_) ?_ ?_
     rotate_left 2
     ·(go_simp;constructor<;>rfl)
     refine⟨fun s _=>s.alloc s.size _, ?_⟩
     simp only[Act.put,zpa,zpb,zpc]
     refine par3_one 6 (by simp only[zga,zgb,zgc];rfl) (by kernel_rfl) (by rfl) ?_
     have hwz:=HWZ.out
     refine owp_skip (w1:= ?_) ?_ ?_
     rotate_left
     ·(go_simp;first|rfl|(constructor<;>rfl))
     refine⟨fun s _=>by first|exact(HS0.out.alloc HS0.out.size _).alloc (HS0.out.alloc HS0.out.size _).size _|exact(s.setCell (by simp;omega) _).setCell (by simp;omega) _, ?_⟩
     simp only[Act.put,zpa,zpb,zpc]
     refine par3_tail _ (by simp only[List.drop_succ_cons,List.drop_zero];rfl) (by kernel_rfl) ?_
     go_wp2_with fail
     refine NoPanic.normal ?_
     go_step
     go_step
     go_meet
     have hws:=HCS.out
     have HFIN:=Lib.hid (show Below wr.heap.size wr ((W8.alloc (ptC ⟨bx,by_⟩)).alloc (ptC ⟨ax,ay⟩)) from(HCB.out.trans (HS0.out.mono HCB.out.size)).trans (below_alloc (below_alloc (Below.refl _ _)) |>.mono (by omega)))
     exact⟨_,_,rfl,rfl,by omega,by omega,by omega,(two_of W8 ⟨bx,by_⟩ ⟨ax,ay⟩).2,(two_of W8 ⟨bx,by_⟩ ⟨ax,ay⟩).1,HFIN.out⟩
   case rest=>
    obtain⟨b8,b9,rfl,rfl,hne,h8,h9,r8,r9,hbc⟩:=hcut
    have HB:=Lib.hid (below_next HB.out (Nat.le_trans HBW.out HB.out.size) hbc)
    have HR8:=Lib.hid r8
    have HR9:=Lib.hid r9
    have HWB:=Lib.hid (show W.heap.size≤b8∧W.heap.size≤b9 from by have:=HXW.out;have h1:=HWs.out;have h2:=hbw;exact⟨Nat.le_trans HBR.out h8,Nat.le_trans HBR.out h9⟩)
    have HCX:=Lib.hid hbc.size
    clear hbc c0 c1 c2 c3 hbw
    obtain⟨a0,a1⟩:wc.cell? ⟨b8,0,none⟩=some (.int .i64 ax)∧wc.cell? ⟨b8,1,none⟩=some (.int .i64 ay):=⟨World.rowIs.cell r8 (i:=0) (by decide),World.rowIs.cell r8 (i:=1) (by decide)⟩
    obtain⟨d0,d1⟩:wc.cell? ⟨b9,0,none⟩=some (.int .i64 bx)∧wc.cell? ⟨b9,1,none⟩=some (.int .i64 by_):=⟨World.rowIs.cell r9 (i:=0) (by decide),World.rowIs.cell r9 (i:=1) (by decide)⟩
    have l8:=World.rowIs.lt r8
    have l9:=World.rowIs.lt r9
    have f8:=fun i=>World.rowIs.frozen r8 i
    have f9:=fun i=>World.rowIs.frozen r9 i
    clear r8 r9 h8 h9
    clear qx0 qx1 rx0
    obtain⟨qx0,qx1⟩:=(HC _ HB.out).out
    have rx0:=(HZ _ HB.out.size).out
    have HNE:=Lib.hid hne
    have hne':=Ne.symm hne
    obtain⟨t1,ht1⟩: ∃t,t=trn ⟨ax,ay⟩ ⟨bx,by_⟩ q:=⟨_,rfl⟩
    obtain⟨t2,ht2⟩: ∃t,t=trn ⟨bx,by_⟩ ⟨ax,ay⟩ q:=⟨_,rfl⟩
    rw[←ht1] at HSN T1
    rw[←ht2] at HSN T2
    clear ht1 ht2
    have hq8:w.heap.size≠b8:=by have:=HWB.out;have:=HWs.out;omega
    have hq9:w.heap.size≠b9:=by have:=HWB.out;have:=HWs.out;omega
    have hq8':=Ne.symm hq8
    have hq9':=Ne.symm hq9
    by_cases h1:q.y<ay
    ·by_cases h2:q.y<by_
     ·have HV:=Lib.hid (show oddS (l.take (k+1)) q=o from HSN.out.trans (by simp[h1,h2]))
      go_wp2_with fail
      go_roundw
      case rel=>exact⟨k+1,by omega,by go_num,by rw[HV.out],HB.out⟩
      case measure=>simp[intOf];omega
     ·have h3:by_<ay:=by omega
      by_cases h4:0<t2
      ·have HV:=Lib.hid (show oddS (l.take (k+1)) q=(!o) from HSN.out.trans (by simp[h1,h2,h3,h4]))
       go_wp2_with fail
       refine(T2 _).out.mono ?_
       rintro e w3 ⟨rfl,hb3⟩
       have HB3:=hb3
       go_wp2_with fail
       go_roundw
       case rel=>
        refine⟨k+1,by omega,by go_num,by rw[HV.out], ?_⟩
        refine below_next ?_ ?_ HB3
        ·repeat (first|exact HB.out|refine Below.setCell ?_ (by first|exact HWB.out.1|exact HWB.out.2) _)
        ·try simp
         exact Nat.le_trans HBR.out HCX.out
       case measure=>simp[intOf];omega
      ·have HV:=Lib.hid (show oddS (l.take (k+1)) q=o from HSN.out.trans (by simp[h1,h2,h3,h4]))
       go_wp2_with fail
       refine(T2 _).out.mono ?_
       rintro e w3 ⟨rfl,hb3⟩
       have HB3:=hb3
       go_wp2_with fail
       go_roundw
       case rel=>
        refine⟨k+1,by omega,by go_num,by rw[HV.out], ?_⟩
        refine below_next ?_ ?_ HB3
        ·repeat (first|exact HB.out|refine Below.setCell ?_ (by first|exact HWB.out.1|exact HWB.out.2) _)
        ·try simp
         exact Nat.le_trans HBR.out HCX.out
       case measure=>simp[intOf];omega
    ·by_cases h2:q.y<by_
     ·have h3: ¬by_<ay:=by omega
      by_cases h4:0<t1
      ·have HV:=Lib.hid (show oddS (l.take (k+1)) q=(!o) from HSN.out.trans (by simp[h1,h2,h3,h4]))
       go_wp2_with fail
       refine(T1 _).out.mono ?_
       rintro e w3 ⟨rfl,hb3⟩
       have HB3:=hb3
       go_wp2_with fail
       go_roundw
       case rel=>
        refine⟨k+1,by omega,by go_num,by rw[HV.out], ?_⟩
        refine below_next ?_ ?_ HB3
        ·repeat (first|exact HB.out|refine Below.setCell ?_ (by first|exact HWB.out.1|exact HWB.out.2) _)
        ·try simp
         exact Nat.le_trans HBR.out HCX.out
       case measure=>simp[intOf];omega
      ·have HV:=Lib.hid (show oddS (l.take (k+1)) q=o from HSN.out.trans (by simp[h1,h2,h3,h4]))
       go_wp2_with fail
       refine(T1 _).out.mono ?_
       rintro e w3 ⟨rfl,hb3⟩
       have HB3:=hb3
       go_wp2_with fail
       go_roundw
       case rel=>
        refine⟨k+1,by omega,by go_num,by rw[HV.out], ?_⟩
        refine below_next ?_ ?_ HB3
        ·repeat (first|exact HB.out|refine Below.setCell ?_ (by first|exact HWB.out.1|exact HWB.out.2) _)
        ·try simp
         exact Nat.le_trans HBR.out HCX.out
       case measure=>simp[intOf];omega
     ·have HV:=Lib.hid (show oddS (l.take (k+1)) q=o from HSN.out.trans (by simp[h1,h2]))
      go_wp2_with fail
      go_roundw
      case rel=>exact⟨k+1,by omega,by go_num,by rw[HV.out],HB.out⟩
      case measure=>simp[intOf];omega
  ·obtain rfl:k=n:=by omega
   have F:=Lib.hid (show oddS (l.take k) q=oddS l q from by rw[List.take_of_length_le (by have:=HN.out;omega)])
   go_wp2_with fail
   go_ret
   exact⟨by rw[←F.out];rfl,bfn HW HB⟩
end Go.Proofs.Ythopjhifepijiaa
namespace Go.Proofs.Ythopjhifepijiaa
open Go.RowKit Go.Joins Go.Shelf Go.Lib
open Go.Maps (Keyed)
def tchP (q:Pt) (x:Pt × Pt):Bool:=decide (q=x.1)||(decide (q=x.2)||onB q x.1 x.2)
set_option maxRecDepth 100000 in
set_option maxHeartbeats 4000000 in
theorem touch1_any (q:Pt) (x:Pt × Pt) (W:World) {b:Nat} (h0:W.cell? ⟨b,0,none⟩=some (.int .i64 q.x)) (h1:W.cell? ⟨b,1,none⟩=some (.int .i64 q.y)) (hb:b<W.heap.size):
  Calls Try.prog 79 (#[.agg (lnC x).toArray]++ #[.pointer (some ⟨b,0,none⟩)]) W fun e w'=>e= .returned (.bool (tchP q x))∧Below W.heap.size W w':=by
 obtain⟨u,v⟩:=x
 have HON:=fun W=>Lib.hid (on_any q u v W)
 show Calls Try.prog 79 #[.agg #[.int .i64 u.x, .int .i64 u.y, .int .i64 v.x, .int .i64 v.y], .pointer (some ⟨b,0,none⟩)] W _
 unfold tchP
 simp only
 cases h3:decide (q=u)
 ·have r1:=eq_pt_f h3
  cases h4:decide (q=v)
  ·have r2:=eq_pt_f h4
   generalize onB q u v=o at*
   clear h3 h4
   go_enter Try.func79,Try.ntmps79
   go_wp2_with fail
   refine(HON _).out.mono ?_
   rintro e w3 ⟨rfl,hb3⟩
   go_wp2_with fail
   go_ret
   exact⟨by simp,below_step hb3 (below_alloc (Below.refl _ _))⟩
  ·have r2:=eq_pt_t h4
   clear h3 h4
   go_enter Try.func79,Try.ntmps79
   go_wp2_with fail
   go_ret
   exact⟨by simp,below_alloc (Below.refl _ _)⟩
 ·have r1:=eq_pt_t h3
  clear h3
  go_enter Try.func79,Try.ntmps79
  go_wp2_with fail
  go_ret
  exact⟨by simp,below_alloc (Below.refl _ _)⟩
set_option maxRecDepth 100000 in
set_option maxHeartbeats 2000000 in
theorem cont_nil (a:Option Addr) (c:Nat) (fv:Value) (w:World):Calls Try.prog 78 #[.slice a 0 c,fv] w fun e w'=>e= .returned (.bool false)∧Below w.heap.size w w':=by
 have hi: ∀W,Calls Try.prog 96 #[.slice a 0 c,fv] W fun e w'=>e= .returned (.int .i64 (-1))∧Below W.heap.size W w':=fun W=>by
  go_enter Try.func96,Try.ntmps96
  go_wp2_with fail
  refine wp_loop_rounds 1 ?_
  rw[rounds_succ]
  go_wp2_with fail
  go_ret
  exact⟨rfl,Below.refl _ _⟩
 go_enter Try.func78,Try.ntmps78
 go_wp2_with fail
 refine(hi _).mono ?_
 rintro e w3 ⟨rfl,hb3⟩
 go_wp2_with fail
 go_ret
 exact⟨rfl,hb3⟩
instance:Inhabited (Pt × Pt):=⟨(⟨0,0⟩,⟨0,0⟩)⟩
set_option maxRecDepth 100000 in
set_option maxHeartbeats 2000000 in
theorem touches_any {w:World} {B n c:Nat} {a:Option Addr} {l:List (Pt × Pt)} (q:Pt) (hl:LnIn w B a n l) (hB:B≤w.heap.size) (hn:n≤100000):
  Calls Try.prog 48 #[.slice a n c, .agg #[.int .i64 q.x, .int .i64 q.y]] w fun e w'=>e= .returned (.bool (touchB l q))∧Below w.heap.size w w':=by
 have hmf: ∀(a:Value) (w:World),(Instr.makeFunc (Fn.func 79) #[] #[a]).run Try.prog w= .ok (.func (Fn.func 79) #[] #[a]) w:=fun a w=>by kernel_rfl
 have HC:Hid (Calls Try.prog 78 #[.slice a n c, .func (.func 79) #[] #[.pointer (some ⟨w.heap.size,0,none⟩)]] (w.alloc (ptC q)) fun e w'=>e= .returned (.bool (touchB l q))∧Below (w.alloc (ptC q)).heap.size (w.alloc (ptC q)) w'):=Lib.hid (by
  obtain⟨h1,h2|⟨b,off,e,hb,hs⟩⟩:=hl
  ·have e:l=[]:=List.eq_nil_of_length_eq_zero (by omega)
   subst e h2
   exact cont_nil _ _ _ _
  ·subst e
   have eg: ∀args w,(callFunc 79 args).run Try.prog w= .ok (.enter 79 args) w:=enters_of Try.func79 (by kernel_rfl) rfl
   have ho:=ptc_new w q
   have hcon:=AnyQ.slices_ContainsFunc Try.contPp 4 Try.isAgg156 Try.sizeOf156 lnC (fun _=>rfl) (tchP q) 79 #[.pointer (some ⟨w.heap.size,0,none⟩)] eg b off n c l (w.alloc (ptC q))
    (fun W x hb=>(touch1_any q x W ((hb.cell (p:=⟨w.heap.size,0,none⟩) (by simp)).trans ho.1) ((hb.cell (p:=⟨w.heap.size,1,none⟩) (by simp)).trans ho.2) (by have:=hb.size;simp at this;omega)).mono (fun e w' h=>⟨h.1,below_step h.2 hb⟩)) (by omega) (by omega) (by simp;omega)
    (fun j hj i v hi=>by
     have hx:=hs j l[j] (List.getElem?_eq_getElem hj)
     rw[getElem!_pos l j hj] at hi
     refine((below_alloc (o:=ptC q) (Below.refl w.heap.size w)).cell (p:=⟨b,_,none⟩) (show b<w.heap.size by omega)).trans ?_
     rcases i with _|_|_|_|i
     ·cases hi;exact hx.1
     ·cases hi;exact hx.2.1
     ·cases hi;exact hx.2.2.1
     ·cases hi;exact hx.2.2.2
     ·simp[lnC] at hi)
   rw[List.take_of_length_le (by omega)] at hcon
   exact hcon)
 clear hl
 go_enter Try.func48,Try.ntmps48
 go_wp2_with fail
 refine HC.out.mono ?_
 rintro e w3 ⟨rfl,hb3⟩
 go_wp2_with fail
 go_ret
 exact⟨rfl,below_step hb3 (below_alloc (Below.refl _ _))⟩
theorem findV_pt (vs:List Vx) (id:Int):(findV vs id).at_=ptZ vs id:=by
 unfold findV ptZ ptOf
 show((vs.find? (fun v=>v.id==id)).getD ⟨0,⟨0,0⟩⟩).at_=_
 cases vs.find? (fun v=>v.id==id)<;>rfl
theorem endsP_line {p:PL} {h:Hf} (hk:hasE p.es h.edge=true):endsP p h=lineH p h:=by
 unfold endsP lineH ptH
 rw[findV_pt,findV_pt]
 unfold hasE findE at*
 have e1:edgeOf p.es h.edge=p.es.find? (isE h.edge):=rfl
 unfold fromH
 rw[show(twinH h).edge=h.edge from rfl,show(twinH h).back= !h.back from rfl,e1]
 cases e:p.es.find? (isE h.edge) with
 |none=>rw[e] at hk;cases hk
 |some f=>cases h.back<;>simp
theorem mem_known {p:PL} {h:Hf} (hm:h∈halvesE p.es):hasE p.es h.edge=true:=by
 obtain⟨e,he,e1⟩:=mem_halves.1 hm
 unfold hasE
 rw[List.find?_isSome]
 exact⟨e,he,by simpa[isE] using e1⟩
theorem known_lines {p:PL} {R:List Hf} (hk:knownB p R=true):R.map (endsP p)=R.map (lineH p):=List.map_congr_left (fun h hh=>endsP_line (List.all_eq_true.1 hk h hh))
theorem known_of {p:PL} {R:List Hf} (h: ∀x∈R,x∈halvesE p.es):knownB p R=true:=List.all_eq_true.2 (fun x hx=>mem_known (h x hx))
theorem RightP.lines_in {p:PL} (r:RightP p) {R:List Hf} (h: ∀x∈R,x∈halvesE p.es):inL (R.map (lineH p)):=fun x hx=>by
 obtain⟨y,hy,rfl⟩:=List.mem_map.1 hx
 have:=r.half_pts (h y hy)
 exact⟨this.1,this.2.1⟩
end Go.Proofs.Ythopjhifepijiaa
namespace Go.Proofs.Ythopjhifepijiaa
open Go.RowKit Go.Joins
open Go.Maps (Keyed)
theorem ownsMap_size {H:Type} {P:Program} {w:World} {k:TypeId} {R:Value→Option (DataW H × List MemPlace)} {b n m:Nat} {D:DataW H} (h:w.ownsMap P k R b n D) (hm:Maps.size D≤m):Maps.size D≤n∧w.ownsMap P k R b m D:=by
 obtain⟨es,clock,hb,F,hs,rfl⟩:=h
 have e:Maps.size (DataW.map ((es.toList.map (WideElems.rg P k R)).foldr DataW.insert []))=es.size:=by
  rw[Maps.size_eq,(WideShapes.sorted_perm _).length_eq,List.length_map,Array.length_toList]
 rw[e] at hm ⊢
 exact⟨hs,es,clock,hb,F,hm,rfl⟩
theorem wpList_update_O {α β:Type} {P:Program} {k e t:TypeId} [DecidableEq α] (w:World) {ops:Array Oper} {rest:List Oper} {o:Oper} {a:Act} {Q:Exit→Act→World→Prop}
  (hg:o.guard=none) (m x v:Operand) (t:TypeId) (hop:o.op=Op.mapUpdate t m x v) (k e:TypeId) (K:Keyed P k) (ht:P.underlying t=some (.map k e)) (b n:Nat) (ek:α→Value) (ev:β→Value) (g:α→Option β)
  (hown:MapT w P k b n ek ev g) (hm:a.eval m= .map (some b)) (hn:n<maxLen) (y:α) (l:Lit) (hx:a.eval x=ek y) (hkey:keyOf P k (ek y)=some l) (hinj: ∀z,ek z=ek y→z=y) (u:β) (hv:a.eval v=ev u) (hold:(g y).isSome=true)
  (hK: ∀w',MapT w' P k b n ek ev (updT g y u)→w.grownBy w' (some b)→wpList P ops Q rest (a.put o.dst undef) w'):
  wpList P ops Q (o::rest) a w:=by
 obtain⟨D,hD,hgx⟩:=hown
 refine wpList_mapUpdate_own w hg m x v t hop k e K ht heldR b n D hm hD hn (ek y) (ev u) l hx hv hkey (.held (ev u)) [] rfl fun w' h1 h2=>hK w' ⟨_, ?_,put_T hD.isMap K hkey hinj u hgx⟩ h2
 have hs:Maps.size (D.put l (.held (ev u)))≤n:=by
  rw[Maps.size_put (hD.tidy K),(hgx y l hkey).1,hold,if_pos rfl]
  exact(ownsMap_size hD (Nat.le_refl _)).1
 exact(ownsMap_size h1 hs).2
def fdV (bu bf:Nat):Value:= .func (.func 92) #[] #[.pointer (some ⟨bu,0,none⟩), .pointer (some ⟨bf,0,none⟩)]
structure FdIn (w:World) (lo bu bf mu n:Nat) (up:Int→Option Int):Prop where
 cu:w.cell? ⟨bu,0,none⟩=some (.map (some mu))
 cf:w.cell? ⟨bf,0,none⟩=some (fdV bu bf)
 mp:MapT w Try.prog 3 mu n ekI ekI up
 lu:lo≤bu∧bu<w.heap.size
 lf:lo≤bf∧bf<w.heap.size
 lm:lo≤mu
 nu:bu≠mu
 nf:bf≠mu
 fit: ∀x y,up x=some y→fitI y
theorem FdIn.touch {w w':World} {F:List Nat} {lo bu bf mu n:Nat} {up:Int→Option Int} (h:FdIn w lo bu bf mu n up) (t:Touch F w w') (h1:bu∉F) (h2:bf∉F) (h3:mu∉F):FdIn w' lo bu bf mu n up:=
 ⟨(t.cell (p:=⟨bu,0,none⟩) h.lu.2 h1).trans h.cu,(t.cell (p:=⟨bf,0,none⟩) h.lf.2 h2).trans h.cf,h.mp.touch t h3,⟨h.lu.1,Nat.lt_of_lt_of_le h.lu.2 t.size⟩,⟨h.lf.1,Nat.lt_of_lt_of_le h.lf.2 t.size⟩,h.lm,h.nu,h.nf,h.fit⟩
theorem FdIn.below {w w':World} {lo bu bf mu n:Nat} {up:Int→Option Int} (h:FdIn w lo bu bf mu n up) (t:Below w.heap.size w w'):FdIn w' lo bu bf mu n up:=h.touch (F:=[]) (Touch.of_below t) (by simp) (by simp) (by simp)
theorem FdIn.put {w w':World} {lo bu bf mu n n':Nat} {up up':Int→Option Int} (h:FdIn w lo bu bf mu n up) (t:Touch [mu] w w') (m:MapT w' Try.prog 3 mu n' ekI ekI up') (hf: ∀x y,up' x=some y→fitI y):FdIn w' lo bu bf mu n' up':=
 ⟨(t.cell (p:=⟨bu,0,none⟩) h.lu.2 (by simpa using h.nu)).trans h.cu,(t.cell (p:=⟨bf,0,none⟩) h.lf.2 (by simpa using h.nf)).trans h.cf,m,⟨h.lu.1,Nat.lt_of_lt_of_le h.lu.2 t.size⟩,⟨h.lf.1,Nat.lt_of_lt_of_le h.lf.2 t.size⟩,h.lm,h.nu,h.nf,hf⟩
theorem rt_fit {up:Int→Option Int} (hf: ∀x y,up x=some y→fitI y) {a r:Int} (h:Rt up a r) (ha:fitI a):fitI r:=by
 rcases h.mem with e|⟨b,hb⟩
 ·rw[e];exact ha
 ·exact hf b r hb
theorem upd_fit {up:Int→Option Int} {a r:Int} (hr:fitI r) (hf: ∀x y,up x=some y→fitI y): ∀x y,updT up a r x=some y→fitI y:=fun x y h=>by
 unfold updT at h
 split at h
 ·cases h;exact hr
 ·exact hf x y h
def FdPost (w:World) (lo bu bf mu n:Nat) (rk:Int→Nat) (up:Int→Option Int) (r:Int) (e:Ending) (w':World):Prop:=
 e= .returned (.int .i64 r)∧ ∃up',Fo rk up'∧SameR up up'∧(∀x,(up' x).isSome=(up x).isSome)∧FdIn w' lo bu bf mu n up'∧Touch [mu] w w'
set_option maxRecDepth 100000 in
set_option maxHeartbeats 4000000 in
theorem find_any {lo bu bf mu n:Nat} (hn:n≤100000) {rk:Int→Nat}: ∀(N:Nat) (w:World) (up:Int→Option Int) (a r:Int),FdIn w lo bu bf mu n up→Fo rk up→Rt up a r→rk a<N→fitI a→
  Calls Try.prog 92 #[.int .i64 a, .pointer (some ⟨bu,0,none⟩), .pointer (some ⟨bf,0,none⟩)] w (FdPost w lo bu bf mu n rk up r):=by
 intro N
 induction N with
 |zero=>intro w up a r _ _ _ h;exact absurd h (Nat.not_lt_zero _)
 |succ N ih=>
  intro w up a r hI fo hr hN ha
  have lk:=hI.mp.look_ok (t:=138) Try.keyInt Try.underlying138 (zeroInt w) (x:=a) (key_i ha)
  have c0:=hI.cu
  have c1:=hI.cf
  unfold fdV at c1
  have hsame:SameR up up:=fun _ _=>Iff.rfl
  cases hr with
  |top h=>
   have HP:=Lib.hid (show FdPost w lo bu bf mu n rk up a (.returned (.int .i64 a)) w from⟨rfl,up,fo,hsame,fun _=>rfl,hI,Touch.refl _ _⟩)
   rcases h with h|h
   ·rw[h] at lk
    simp only[Option.map_none,Option.getD_none,Option.isSome_none,ekI] at lk
    clear hI fo hsame ih h
    go_enter Try.func92,Try.ntmps92
    go_wp2_with fail
    go_ret
    exact HP.out
   ·rw[h] at lk
    simp only[Option.map_some,Option.getD_some,Option.isSome_some,ekI] at lk
    clear hI fo hsame ih h
    go_enter Try.func92,Try.ntmps92
    go_wp2_with fail
    go_ret
    exact HP.out
  |go h hne hr2=>
   rename_i b
   rw[h] at lk
   simp only[Option.map_some,Option.getD_some,Option.isSome_some,ekI] at lk
   have hbr:rk b<rk a:=fo a b h hne
   have hfb:=hI.fit a b h
   have HIH:=fun(W:World) (t:FdIn W lo bu bf mu n up)=>Lib.hid (ih W up b r t fo hr2 (by omega) hfb)
   have HX:=Lib.hid hI
   have HRT:=Lib.hid (show Rt up a r from .go h hne hr2)
   have HRK:=Lib.hid (show rk r<rk a from Nat.lt_of_le_of_lt (hr2.le fo) hbr)
   have HFR:=Lib.hid (show fitI r from rt_fit hI.fit hr2 hfb)
   have HAS:=Lib.hid (show(up a).isSome=true from by rw[h];rfl)
   have HKA:=Lib.hid (key_i ha)
   have hne2:(b != a)=true:=by simpa using hne
   have HNE:=Lib.hid hne
   clear hI fo hsame ih h hr2 hbr hfb ha
   go_enter Try.func92,Try.ntmps92
   go_wp2_with fail
   have HY:=fun(w':World) (t:Touch [mu] w w')=>Lib.hid (show w'.cell? ⟨bu,0,none⟩=some (.map (some mu))∧w'.cell? ⟨bf,0,none⟩=some (.func (.func 92) #[] #[.pointer (some ⟨bu,0,none⟩), .pointer (some ⟨bf,0,none⟩)])∧True∧True from
    ⟨(t.cell (p:=⟨bu,0,none⟩) HX.out.lu.2 (by simpa using HX.out.nu)).trans c0,(t.cell (p:=⟨bf,0,none⟩) HX.out.lf.2 (by simpa using HX.out.nf)).trans c1,trivial,trivial⟩)
   have HS0:=Lib.hid (Touch.refl [mu] w).drew
   have HXD:=Lib.hid (HX.out.below (Below.refl w.heap.size w).drew)
   clear c0 c1 lk
   refine wp_region_noPanic ?_
   refine wp_region_par3 5 5 (by kernel_rfl) (by kernel_rfl) (by simp) (by omega) (by kernel_rfl) (by kernel_rfl) (fun w':World=>Touch [mu] w w') ?_
   refine par3_read (v:= ?_) 0 (by simp only[zga,zgb,zgc];rfl) (by kernel_rfl) (by rfl) HS0.out ?_ (fun _ _ _ h=>h) ?_
   rotate_left
   ·(intro w9 hSw;obtain⟨y0,y1,y2,y3⟩:=(HY w9 hSw).out;clear hSw;go_simp;try with_reducible rfl)
   simp only[Act.put,zpa,zpb,zpc]
   refine par3_move (v:= ?_) 1 (by simp only[zga,zgb,zgc];rfl) (by kernel_rfl) (by rfl) ?_ (fun _ _ _ h=>h) ?_
   rotate_left
   ·(intro w9;go_simp;try with_reducible rfl)
   simp only[Act.put,zpa,zpb,zpc]
   refine par3_read (v:= ?_) 2 (by simp only[zga,zgb,zgc];rfl) (by kernel_rfl) (by rfl) HS0.out ?_ (fun _ _ _ h=>h) ?_
   rotate_left
   ·(intro w9 hSw;obtain⟨y0,y1,y2,y3⟩:=(HY w9 hSw).out;clear hSw;go_simp;try with_reducible rfl)
   simp only[Act.put,zpa,zpb,zpc]
   refine par3_move (v:= ?_) 3 (by simp only[zga,zgb,zgc];rfl) (by kernel_rfl) (by rfl) ?_ (fun _ _ _ h=>h) ?_
   rotate_left
   ·(intro w9;go_simp;try with_reducible rfl)
   simp only[Act.put,zpa,zpb,zpc]
   refine par3_one 4 (by simp only[zga,zgb,zgc];rfl) (by kernel_rfl) (by rfl) ?_
   refine owp_call (by go_simp;constructor<;>rfl) ?_
   refine(HIH _ HXD.out).out.mono ?_
   rintro e w4 ⟨rfl,up4,f4,s4,d4,i4,t4⟩
   refine⟨_,rfl,fun s _=>s.trans t4 (fun b hb=> .inl hb), ?_⟩
   have hs4:=(s4 a r).1 HRT.out
   obtain⟨f5,s5⟩:=fo_short f4 hs4 HRK.out
   have I4:=Lib.hid i4
   have F5:=Lib.hid f5
   have S5:=Lib.hid (s4.trans s5)
   have D4:=Lib.hid d4
   have T4:=Lib.hid (HS0.out.trans t4 (fun b hb=> .inl hb))
   clear f4 s4 d4 i4 t4 hs4 f5 s5
   simp only[Act.put,zpa,zpb,zpc]
   refine par3_tail _ (by simp only[List.drop_succ_cons,List.drop_zero];rfl) (by kernel_rfl) ?_
   go_wp2_with (at_mapUpdate;go_loud (refine wpList_update_O (P:=Try.prog) (k:=3) (e:=3) (t:=138) _ rfl _ _ _ 138 rfl 3 3 Try.keyInt Try.underlying138 mu n ekI ekI up4 I4.out.mp rfl (by unfold maxLen;omega) a _ rfl HKA.out (ekI_inj _) r rfl (by rw[D4.out];exact HAS.out) ?_;intro w5 hm5 hg5;have k5:=Touch.of_grown hg5;have I5:=Lib.hid (I4.out.put k5 hm5 (upd_fit HFR.out I4.out.fit));have T5:=Lib.hid (T4.out.trans k5 (fun b hb=> .inl hb));clear hm5 hg5 k5))
   refine NoPanic.normal ?_
   have c0:=I5.out.cu
   have lk:=I5.out.mp.look (t:=138) Try.keyInt Try.underlying138 (zeroInt w5) (x:=a) HKA.out
   rw[updT_self] at lk
   simp only[Option.map_some,Option.getD_some,ekI] at lk
   go_wp2_with fail
   go_ret
   refine⟨rfl,_,F5.out,S5.out,fun x=> ?_,I5.out,T5.out⟩
   unfold updT
   by_cases e:x=a
   ·subst e;rw[if_pos rfl,HAS.out];rfl
   ·rw[if_neg e];exact D4.out x
theorem ne_L1 {a b:Nat} (h:a≠b):a∉ [b]:=by simpa using h
theorem pairs_snoc (es:List Ed) (e:Ed):pairsE (es++[e])=pairsE es++[(e.a,e.b)]:=by unfold pairsE;rw[List.map_append];rfl
set_option maxRecDepth 100000 in
set_option maxHeartbeats 4000000 in
theorem pieces_any {w:World} {B vn vc en ec:Nat} {va ea:Option Addr} {p:PL} (he:EsIn w B ea en p.es) (hB:B≤w.heap.size) (hm:en≤1024) (hfit:FitPL p):
  Calls Try.prog 70 #[.agg #[.slice va vn vc, .slice ea en ec]] w fun e w'=> ∃bu bf mu up,e= .returned (fdV bu bf)∧FdIn w' w.heap.size bu bf mu en up∧UF (pairsE p.es) up∧Below w.heap.size w w':=by
 have HE:=fun(W:World) (hb:Below w.heap.size w W)=>Lib.hid (he.below (hb.mono hB))
 have HEL:=Lib.hid he.1
 have HF:=Lib.hid hfit
 have hmm:= @run_makeMap Try.prog
 have hmf: ∀(a b:Value) (w:World),(Instr.makeFunc (Fn.func 92) #[] #[a,b]).run Try.prog w= .ok (.func (Fn.func 92) #[] #[a,b]) w:=fun a b w=>by kernel_rfl
 clear he hfit
 go_enter Try.func70,Try.ntmps70
 go_wp2_with fail
 first|refine wp_name (fun W hW=> ?_)|refine calls_name (fun W hW=> ?_)
 have HW:Hid (Below w.heap.size w W):=Lib.hid (by rw[←hW];repeat (first|exact Below.refl _ _|refine below_alloc ?_))
 have HWs:Hid (W.heap.size=w.heap.size+1+1+1+1):=Lib.hid (by rw[←hW];simp)
 skip
 have HC:=fun(W1:World) (hb:Touch ([w.heap.size+1]) W W1)=>Lib.hid (show W1.cell? ⟨w.heap.size,0,none⟩=some (.slice va vn vc)∧W1.cell? ⟨w.heap.size,1,none⟩=some (.slice ea en ec)∧W1.cell? ⟨w.heap.size+1+1,0,none⟩=some (.map (some (w.heap.size+1)))∧W1.cell? ⟨w.heap.size+1+1+1,0,none⟩=some (.func (.func 92) #[] #[.pointer (some ⟨w.heap.size+1+1,0,none⟩), .pointer (some ⟨w.heap.size+1+1+1,0,none⟩)]) from by have hs:=HWs.out;refine⟨?_, ?_, ?_, ?_⟩<;>(refine(touch_cell hb (by omega) (by first|(simp;done)|(simp;omega)|(intro hm;simp at hm;omega))).trans ?_;rw[←hW];clear hW;go_simp))
 have HB:=Lib.hid (Touch.refl ([w.heap.size+1]) W)
 have HZ:=fun(W1:World) (hb:W.heap.size≤W1.heap.size)=>Lib.hid (show w.heap.size<W1.heap.size∧w.heap.size+1+1<W1.heap.size∧w.heap.size+1+1+1<W1.heap.size from by have:=HWs.out;refine⟨?_, ?_, ?_⟩<;>omega)
 obtain⟨qx0,qx1,qx2,qx3⟩:=(HC _ HB.out).out
 obtain⟨rx0,rx1,rx2⟩:=(HZ _ HB.out.size).out
 have HFF:Hid (∀b∈[w.heap.size+1],w.heap.size≤b):=Lib.hid (by intro b hb;simp at hb;omega)
 have HI0:Hid (FdIn W w.heap.size (w.heap.size+1+1) (w.heap.size+1+1+1) (w.heap.size+1) 0 (fun _=>none)):=Lib.hid (by
  have hc:=(HC W (Touch.refl _ _)).out
  refine⟨hc.2.2.1,hc.2.2.2, ?_,⟨by omega,by have:=HWs.out;omega⟩,⟨by omega,by have:=HWs.out;omega⟩,by omega,by omega,by omega,fun x y h=>by cases h⟩
  rw[←hW]
  have h1:=MapT.made (w.alloc (.cells #[.slice va vn vc, .slice ea en ec] 30)) Try.prog 3 ekI ekI
  have e1:(w.alloc (.cells #[.slice va vn vc, .slice ea en ec] 30)).heap.size=w.heap.size+1:=by simp
  rw[e1] at h1
  exact(h1.alloc _).alloc _)
 have HAR:=fun(W1:World) (h:Touch [w.heap.size+1] W W1)=>Lib.hid (args_touch HW.out h HFF.out (Nat.le_refl _))
 clear hW
 clear qx0 qx1 qx2 qx3 rx0 rx1 rx2
 go_loopw [12] (fun i wr=> ∃(j:Nat) (up:Int→Option Int),j≤en∧i= .int .i64 j∧FdIn wr w.heap.size (w.heap.size+1+1) (w.heap.size+1+1+1) (w.heap.size+1) j up∧UF (pairsE (p.es.take j)) up∧Touch [w.heap.size+1] W wr) (fun i _=>en - (intOf i).toNat)
 case atStart=>exact⟨0,_,Nat.zero_le _,rfl,HI0.out,UF.empty,Touch.refl _ _⟩
 case round=>
  clear HI0 HB
  obtain⟨j,up,hj,rfl,hI,hu,ht⟩:=hrel
  have HI:=Lib.hid hI
  have HU:=Lib.hid hu
  have HB:=Lib.hid ht
  clear hI hu ht
  obtain⟨qx0,qx1,qx2,qx3⟩:=(HC _ HB.out).out
  obtain⟨rx0,rx1,rx2⟩:=(HZ _ HB.out.size).out
  by_cases hlj:j<en
  ·obtain⟨eb,eoff,e,rfl,heb,he,e0,e1,e2⟩:=(HE wr (HAR wr HB.out).out).out.at_ hlj
   have hfe:=HF.out.es e (List.mem_of_getElem? he)
   have HKA:=Lib.hid hfe.2.1
   have HKB:=Lib.hid hfe.2.2
   have HSN:=Lib.hid (show pairsE (p.es.take (j+1))=pairsE (p.es.take j)++[(e.a,e.b)] from by rw[take_snoc' he];exact pairs_snoc _ _)
   have hebw:eb<wr.heap.size:=by have:=HB.out.size;have:=HWs.out;omega
   clear he hfe
   go_wp2_with fail
   clear qx0 qx1 qx2 qx3 rx0 rx1 rx2
   refine wp_name (fun c hc=> ?_)
   have HCB:=Lib.hid (show Below wr.heap.size wr c from by rw[←hc];exact below_alloc (Below.refl _ _))
   have HCS:=Lib.hid (show wr.heap.size<c.heap.size from by rw[←hc];simp)
   have hcc:c.cell? ⟨wr.heap.size,1,none⟩=some (.int .i64 e.a)∧c.cell? ⟨wr.heap.size,2,none⟩=some (.int .i64 e.b):=by
    rw[←hc]
    clear hc
    simp[World.cell?_alloc_new]
   have IC:=Lib.hid (HI.out.below HCB.out)
   have hlow:w.heap.size+1<wr.heap.size:=by have:=HB.out.size;have:=HWs.out;omega
   have HLW:=Lib.hid hlow
   have HY:=fun(w':World) (t:Touch [w.heap.size+1] c w')=>Lib.hid (show w'.cell? ⟨w.heap.size+1+1,0,none⟩=some (.map (some (w.heap.size+1)))∧w'.cell? ⟨w.heap.size+1+1+1,0,none⟩=some (.func (.func 92) #[] #[.pointer (some ⟨w.heap.size+1+1,0,none⟩), .pointer (some ⟨w.heap.size+1+1+1,0,none⟩)])∧w'.cell? ⟨wr.heap.size,1,none⟩=some (.int .i64 e.a)∧w'.cell? ⟨wr.heap.size,2,none⟩=some (.int .i64 e.b) from
    ⟨(t.cell (p:=⟨w.heap.size+1+1,0,none⟩) IC.out.lu.2 (ne_L1 (show w.heap.size+1+1≠w.heap.size+1 by omega))).trans IC.out.cu,(t.cell (p:=⟨w.heap.size+1+1+1,0,none⟩) IC.out.lf.2 (ne_L1 (show w.heap.size+1+1+1≠w.heap.size+1 by omega))).trans IC.out.cf,(t.cell (p:=⟨wr.heap.size,1,none⟩) HCS.out (by have:=HLW.out;simp;omega)).trans hcc.1,(t.cell (p:=⟨wr.heap.size,2,none⟩) HCS.out (by have:=HLW.out;simp;omega)).trans hcc.2⟩)
   have HS0:=Lib.hid (Touch.refl [w.heap.size+1] c).drew
   have ID:=Lib.hid (IC.out.below (Below.refl c.heap.size c).drew)
   clear hc hcc hlow hebw
   obtain⟨rk,hfo⟩:=HU.out.fo
   obtain⟨ra,hra⟩:=rt_ex hfo e.a
   obtain⟨rb,hrb⟩:=rt_ex hfo e.b
   have HFO:=Lib.hid hfo
   have HRA:=Lib.hid hra
   have HRB:=Lib.hid hrb
   have HFRA:=Lib.hid (rt_fit HI.out.fit hra HKA.out)
   have HFRB:=Lib.hid (rt_fit HI.out.fit hrb HKB.out)
   clear hfo hra hrb
   refine wp_region_noPanic ?_
   refine wp_region_par3 9 9 (by kernel_rfl) (by kernel_rfl) (by simp) (by omega) (by kernel_rfl) (by kernel_rfl) (fun w':World=>Touch [w.heap.size+1] c w') ?_
   refine par3_read (v:= ?_) 0 (by simp only[zga,zgb,zgc];rfl) (by kernel_rfl) (by rfl) HS0.out ?_ (fun _ _ _ h=>h) ?_
   rotate_left
   ·(intro w9 hSw;obtain⟨y0,y1,y2,y3⟩:=(HY w9 hSw).out;clear hSw;go_simp;try with_reducible rfl)
   simp only[Act.put,zpa,zpb,zpc]
   refine par3_read (v:= ?_) 1 (by simp only[zga,zgb,zgc];rfl) (by kernel_rfl) (by rfl) HS0.out ?_ (fun _ _ _ h=>h) ?_
   rotate_left
   ·(intro w9 hSw;obtain⟨y0,y1,y2,y3⟩:=(HY w9 hSw).out;clear hSw;go_simp;try with_reducible rfl)
   simp only[Act.put,zpa,zpb,zpc]
   refine par3_move (v:= ?_) 2 (by simp only[zga,zgb,zgc];rfl) (by kernel_rfl) (by rfl) ?_ (fun _ _ _ h=>h) ?_
   rotate_left
   ·(intro w9;go_simp;try with_reducible rfl)
   simp only[Act.put,zpa,zpb,zpc]
   refine par3_read (v:= ?_) 3 (by simp only[zga,zgb,zgc];rfl) (by kernel_rfl) (by rfl) HS0.out ?_ (fun _ _ _ h=>h) ?_
   rotate_left
   ·(intro w9 hSw;obtain⟨y0,y1,y2,y3⟩:=(HY w9 hSw).out;clear hSw;go_simp;try with_reducible rfl)
   simp only[Act.put,zpa,zpb,zpc]
   refine par3_read (v:= ?_) 5 (by simp only[zga,zgb,zgc];rfl) (by kernel_rfl) (by rfl) HS0.out ?_ (fun _ _ _ h=>h) ?_
   rotate_left
   ·(intro w9 hSw;obtain⟨y0,y1,y2,y3⟩:=(HY w9 hSw).out;clear hSw;go_simp;try with_reducible rfl)
   simp only[Act.put,zpa,zpb,zpc]
   refine par3_move (v:= ?_) 6 (by simp only[zga,zgb,zgc];rfl) (by kernel_rfl) (by rfl) ?_ (fun _ _ _ h=>h) ?_
   rotate_left
   ·(intro w9;go_simp;try with_reducible rfl)
   simp only[Act.put,zpa,zpb,zpc]
   refine par3_read (v:= ?_) 7 (by simp only[zga,zgb,zgc];rfl) (by kernel_rfl) (by rfl) HS0.out ?_ (fun _ _ _ h=>h) ?_
   rotate_left
   ·(intro w9 hSw;obtain⟨y0,y1,y2,y3⟩:=(HY w9 hSw).out;clear hSw;go_simp;try with_reducible rfl)
   simp only[Act.put,zpa,zpb,zpc]
   refine par3_one 4 (by simp only[zga,zgb,zgc];rfl) (by kernel_rfl) (by rfl) ?_
   refine owp_call (by go_simp;constructor<;>rfl) ?_
   refine(find_any (by omega) (rk e.a+1) _ up e.a ra ID.out HFO.out HRA.out (Nat.lt_succ_self _) HKA.out).mono ?_
   rintro x w4 ⟨rfl,up4,f4,s4,d4,i4,t4⟩
   refine⟨_,rfl,fun s _=>s.trans t4 (fun b hb=> .inl hb), ?_⟩
   have I4:=Lib.hid i4
   have F4:=Lib.hid f4
   have S4:=Lib.hid s4
   have T4:=Lib.hid (HS0.out.trans t4 (fun b hb=> .inl hb))
   clear f4 s4 d4 i4 t4
   simp only[Act.put,zpa,zpb,zpc]
   refine par3_one 8 (by simp only[zga,zgb,zgc];rfl) (by kernel_rfl) (by rfl) ?_
   refine owp_call (by go_simp;constructor<;>rfl) ?_
   refine(find_any (by omega) (rk e.b+1) _ up4 e.b rb I4.out F4.out ((S4.out _ _).1 HRB.out) (Nat.lt_succ_self _) HKB.out).mono ?_
   rintro x w5 ⟨rfl,up5,f5,s5,d5,i5,t5⟩
   refine⟨_,rfl,fun s _=>s.trans t5 (fun b hb=> .inl hb), ?_⟩
   have I5:=Lib.hid i5
   have U5:=Lib.hid ((HU.out.same ⟨rk,f5⟩ (S4.out.trans s5)).add ((S4.out.trans s5 _ _).1 HRA.out) ((S4.out.trans s5 _ _).1 HRB.out))
   have T5:=Lib.hid (T4.out.trans t5 (fun b hb=> .inl hb))
   clear f5 s5 d5 i5 t5
   simp only[Act.put,zpa,zpb,zpc]
   refine par3_tail _ (by simp only[List.drop_succ_cons,List.drop_zero];rfl) (by kernel_rfl) ?_
   have HKR:=Lib.hid (key_i HFRA.out)
   go_wp2_with (at_mapUpdate;go_loud (refine wpList_update_T _ rfl _ _ _ 138 rfl 3 3 Try.keyInt Try.underlying138 (w.heap.size+1) j ekI ekI up5 I5.out.mp rfl (by unfold maxLen;omega) ra _ rfl HKR.out (ekI_inj _) rb rfl ?_;intro w6 hm6 hg6;have k6:=Touch.of_grown hg6;have I6:=Lib.hid (I5.out.put k6 hm6 (upd_fit HFRB.out I5.out.fit));have T6:=Lib.hid (T5.out.trans k6 (fun b hb=> .inl hb));clear hm6 hg6 k6))
   refine NoPanic.normal ?_
   go_wp2_with fail
   go_roundw
   case rel=>exact⟨j+1,_,by omega,by go_num,I6.out,by rw[HSN.out];exact U5.out,(touch_later HB.out HCB.out).trans T6.out (fun b hb=> .inl hb)⟩
   case measure=>simp[intOf];omega
  ·obtain rfl:j=en:=by omega
   have HX:=Lib.hid (show UF (pairsE p.es) up from by have:=HU.out;rwa [List.take_of_length_le (by have:=HEL.out;omega)] at this)
   have c1:=HI.out.cf
   unfold fdV at c1
   go_wp2_with fail
   go_ret
   exact⟨_,_,_,up,rfl,HI.out,HX.out,(HAR wr HB.out).out⟩
end Go.Proofs.Ythopjhifepijiaa
namespace Go.Proofs.Ythopjhifepijiaa
open Go.RowKit Go.Joins
open Go.Maps (Keyed)
structure OuAt (w:World) (B b off:Nat) (o:OU):Prop where
 ln: ∃a c,w.cell? ⟨b,off,none⟩=some (.slice a o.lines.length c)∧LnIn w B a o.lines.length o.lines
 a0:w.cell? ⟨b,off+1,none⟩=some (.int .u64 (wrd o.area 0))
 a1:w.cell? ⟨b,off+1+1,none⟩=some (.int .u64 (wrd o.area 1))
 a2:w.cell? ⟨b,off+1+1+1,none⟩=some (.int .u64 (wrd o.area 2))
 a3:w.cell? ⟨b,off+1+1+1+1,none⟩=some (.int .u64 (wrd o.area 3))
 pc:w.cell? ⟨b,off+1+1+1+1+1,none⟩=some (.int .i64 o.piece)
def OuIn (w:World) (B:Nat) (a:Option Addr) (n:Nat) (l:List OU):Prop:=n=l.length∧(n=0∨ ∃b off,a=some ⟨b,off,none⟩∧b<B∧ ∀(i:Nat) (o:OU),l[i]? =some o→OuAt w B b (off+i*6) o)
theorem OuAt.below {w w':World} {B b off:Nat} {o:OU} (h:OuAt w B b off o) (k:Below B w w') (hb:b<B):OuAt w' B b off o:=by
 obtain⟨⟨a,c,h1,h2⟩,h3,h4,h5,h6,h7⟩:=h
 exact⟨⟨a,c,(k.cell (p:=⟨b,_,none⟩) hb).trans h1,h2.below k⟩,(k.cell (p:=⟨b,_,none⟩) hb).trans h3,(k.cell (p:=⟨b,_,none⟩) hb).trans h4,(k.cell (p:=⟨b,_,none⟩) hb).trans h5,(k.cell (p:=⟨b,_,none⟩) hb).trans h6,(k.cell (p:=⟨b,_,none⟩) hb).trans h7⟩
theorem OuAt.mono {w:World} {B B' b off:Nat} {o:OU} (h:OuAt w B b off o) (k:B≤B'):OuAt w B' b off o:=by
 obtain⟨⟨a,c,h1,h2⟩,h3,h4,h5,h6,h7⟩:=h
 exact⟨⟨a,c,h1,h2.mono k⟩,h3,h4,h5,h6,h7⟩
theorem OuIn.below {w w':World} {B:Nat} {a:Option Addr} {n:Nat} {l:List OU} (h:OuIn w B a n l) (k:Below B w w'):OuIn w' B a n l:=
 ⟨h.1,h.2.imp id (fun⟨b,off,e,hb,hs⟩=>⟨b,off,e,hb,fun i o ho=>(hs i o ho).below k hb⟩)⟩
theorem OuIn.at_ {w:World} {B:Nat} {a:Option Addr} {n:Nat} {l:List OU} (h:OuIn w B a n l) {k:Nat} (hk:k<n): ∃b off o,a=some ⟨b,off,none⟩∧b<B∧l[k]? =some o∧OuAt w B b (off+k*6) o:=by
 obtain⟨h1,h2|⟨b,off,e,hb,hs⟩⟩:=h
 ·omega
 ·have hx:=List.getElem?_eq_getElem (l:=l) (i:=k) (by omega)
  exact⟨b,off,_,e,hb,hx,hs k _ hx⟩
structure OuOk (o:OU):Prop where
 fit:Fits o.area
 inl:inL o.lines
 len:o.lines.length≤100000
def arK (l:List OU) (q:Pt) (but:Int) (k:Nat):Int:=(List.range k).foldl (bestS l q but) (-1)
theorem arK_succ (l:List OU) (q:Pt) (but:Int) (k:Nat):arK l q but (k+1)=bestS l q but (arK l q but k) k:=by unfold arK;rw[List.range_succ,List.foldl_append];rfl
theorem arK_bd (l:List OU) (q:Pt) (but:Int): ∀k, -1≤arK l q but k∧arK l q but k<k
 |0=>by simp[arK]
 |k+1=>by
  have h:=arK_bd l q but k
  rw[arK_succ]
  unfold bestS
  cases l[k]? with
  |none=>simp only;omega
  |some o=>
   simp only
   split<;>omega
theorem best_pos {l:List OU} {m:Nat} {o2:OU} (hx:l[m]? =some o2) {oa:Int} {k:Int}:(if ((m:Int)<0∨oa<(((l[(m:Int).toNat]?).map (·.area)).getD 0)) then k else(m:Int))=if oa<o2.area then k else m:=by
 rw[Int.toNat_natCast,hx]
 by_cases h:oa<o2.area
 ·rw[if_pos (.inr h),if_pos h]
 ·rw[if_neg (fun e=>e.elim (fun h=>by omega) h),if_neg h]
set_option maxRecDepth 100000 in
set_option maxHeartbeats 8000000 in
theorem raround_any {w:World} {B n c:Nat} {a:Option Addr} {l:List OU} {q:Pt} {but:Int} (hl:OuIn w B a n l) (hB:B≤w.heap.size) (hok: ∀o∈l,OuOk o) (hq:inB q=true) (hn:n≤100000):
  Calls Try.prog 60 #[.slice a n c, .agg #[.int .i64 q.x, .int .i64 q.y], .int .i64 but] w fun e w'=>e= .returned (.int .i64 (aroundP l q but))∧Below w.heap.size w w':=by
 have HL:=fun(W:World) (hb:Below w.heap.size w W)=>Lib.hid (hl.below (hb.mono hB))
 have HN:=Lib.hid hl.1
 have HO:=Lib.hid hok
 have HQ:=Lib.hid hq
 clear hl hok hq
 go_enter Try.func60,Try.ntmps60
 go_wp2_with fail
 first|refine wp_name (fun W hW=> ?_)|refine calls_name (fun W hW=> ?_)
 have HW:Hid (Below w.heap.size w W):=Lib.hid (by rw[←hW];repeat (first|exact Below.refl _ _|refine below_alloc ?_))
 have HWs:Hid (W.heap.size=w.heap.size+1):=Lib.hid (by rw[←hW];simp)
 have HBW:Hid (W.heap.size≤W.heap.size):=Lib.hid (by have:=HWs.out;omega)
 have HC:=fun(W1:World) (hb:Below (W.heap.size) W W1)=>Lib.hid (show W1.cell? ⟨w.heap.size,0,none⟩=some (.int .i64 q.x)∧W1.cell? ⟨w.heap.size,1,none⟩=some (.int .i64 q.y) from by have hs:=HWs.out;refine⟨?_, ?_⟩<;>(refine(hb.cell (by dsimp only;omega)).trans ?_;rw[←hW];clear hW;go_simp))
 have HB:=Lib.hid (Below.refl (W.heap.size) W)
 clear hW
 have HZ:=fun(W1:World) (hb:W.heap.size≤W1.heap.size)=>Lib.hid (show w.heap.size<W1.heap.size from by have:=HWs.out;omega)
 obtain⟨qx0,qx1⟩:=(HC _ HB.out).out
 have rx0:=(HZ _ HB.out.size).out
 clear qx0 qx1 rx0
 go_loopw [7,12] (fun v i wr=> ∃(k:Nat) (s:Int),k≤n∧i= .int .i64 k∧v= .int .i64 s∧s=arK l q but k∧Below W.heap.size W wr) (fun _ i _=>n - (intOf i).toNat)
 case atStart=>exact⟨0,_,Nat.zero_le _,rfl,rfl,rfl,HB.out⟩
 case round=>
  clear HB
  obtain⟨k,s,hk,rfl,rfl,hs,hb⟩:=hrel
  have HB:=Lib.hid hb
  have HSK:=Lib.hid hs
  have hsb:=arK_bd l q but k
  rw[←hs] at hsb
  clear hb hs
  obtain⟨qx0,qx1⟩:=(HC _ HB.out).out
  have rx0:=(HZ _ HB.out.size).out
  by_cases hlt:k<n
  ·have HXW:=Lib.hid (HW.out.trans (HB.out.mono HW.out.size))
   obtain⟨lb,loff,o,rfl,hlb,hx,hat⟩:=(HL _ HXW.out).out.at_ hlt
   have hbw:lb<wr.heap.size:=by have:=HXW.out.size;omega
   have HOK:=Lib.hid (HO.out o (List.mem_of_getElem? hx))
   have HNX:=Lib.hid (show arK l q but (k+1)=if arndB o q but=true∧(s<0∨o.area<(((l[s.toNat]?).map (·.area)).getD 0)) then(k:Int) else s from by rw[arK_succ, ←HSK.out];unfold bestS;rw[hx])
   obtain⟨⟨la,lc,c0,hln⟩,c1,c2,c3,c4,c5⟩:=hat
   have HTC:=fun(W:World) (hb:Below wr.heap.size wr W)=>Lib.hid (touches_any (c:=lc) q (hln.below (hb.mono (Nat.le_trans hB HXW.out.size))) (Nat.le_trans hB (Nat.le_trans HXW.out.size hb.size)) HOK.out.len)
   have HOD:=fun(W:World) (hb:Below wr.heap.size wr W)=>Lib.hid (odd_any (c:=lc) (hln.below (hb.mono (Nat.le_trans hB HXW.out.size))) (Nat.le_trans hB (Nat.le_trans HXW.out.size hb.size)) HOK.out.inl HQ.out HOK.out.len)
   have HFO:=Lib.hid HOK.out.fit
   clear hx hln
   unfold arndB at HNX
   obtain⟨ol,oa,op⟩:=o
   simp only at c0 c1 c2 c3 c4 c5 HTC HOD HNX HFO
   generalize touchB ol q=tch at HTC HNX
   generalize oddB ol q=od at HOD HNX
   have HCM:=fun(W:World) (x:Int) (hf:Fits x)=>Lib.hid (cmpW_any oa x W HFO.out hf)
   generalize hy0:wrd oa 0=y0 at*
   generalize hy1:wrd oa 1=y1 at*
   generalize hy2:wrd oa 2=y2 at*
   generalize hy3:wrd oa 3=y3 at*
   clear hy0 hy1 hy2 hy3
   by_cases h1:op=but
   ·have HV:=Lib.hid (show arK l q but (k+1)=s from HNX.out.trans (by simp[h1]))
    have h1':(op==but)=true:=by simpa using h1
    clear h1
    go_wp2_with fail
    go_roundw
    case rel=>exact⟨k+1,s,by omega,by go_num,rfl,HV.out.symm,HB.out.alloc (Nat.le_trans HBW.out HB.out.size) _⟩
    case measure=>simp[intOf];omega
   ·have h1':(op==but)=false:=by simpa using h1
    have HNE:=Lib.hid h1
    clear h1
    have HBX:=fun(W:World) (h:Below (wr.alloc (.cells #[.slice la ol.length lc, .int .u64 y0, .int .u64 y1, .int .u64 y2, .int .u64 y3, .int .i64 op] 155)).heap.size (wr.alloc (.cells #[.slice la ol.length lc, .int .u64 y0, .int .u64 y1, .int .u64 y2, .int .u64 y3, .int .i64 op] 155)) W)=>Lib.hid (show W.cell? ⟨wr.heap.size,0,none⟩=some (.slice la ol.length lc)∧W.cell? ⟨wr.heap.size,1,none⟩=some (.int .u64 y0)∧W.cell? ⟨wr.heap.size,2,none⟩=some (.int .u64 y1)∧W.cell? ⟨wr.heap.size,3,none⟩=some (.int .u64 y2)∧W.cell? ⟨wr.heap.size,4,none⟩=some (.int .u64 y3) from
     ⟨(h.cell (p:=⟨wr.heap.size,_,none⟩) (by simp)).trans (by simp[World.cell?_alloc_new]),(h.cell (p:=⟨wr.heap.size,_,none⟩) (by simp)).trans (by simp[World.cell?_alloc_new]),(h.cell (p:=⟨wr.heap.size,_,none⟩) (by simp)).trans (by simp[World.cell?_alloc_new]),(h.cell (p:=⟨wr.heap.size,_,none⟩) (by simp)).trans (by simp[World.cell?_alloc_new]),(h.cell (p:=⟨wr.heap.size,_,none⟩) (by simp)).trans (by simp[World.cell?_alloc_new])⟩)
    have HSW:=Lib.hid (show W.heap.size≤wr.heap.size from HB.out.size)
    cases tch
    ·cases od
     ·have HV:=Lib.hid (show arK l q but (k+1)=s from HNX.out.trans (by simp))
      go_wp2_with fail
      refine(HTC _ (below_alloc (Below.refl _ _))).out.mono ?_
      rintro e w3 ⟨rfl,hb3⟩
      have HX3:=Lib.hid hb3
      have HB3:=Lib.hid (below_step hb3 (below_alloc (Below.refl wr.heap.size wr)))
      have HB:=Lib.hid (HB.out.trans (HB3.out.mono HSW.out))
      clear hb3
      obtain⟨x0, -⟩:=(HBX _ HX3.out).out
      clear qx0 qx1 rx0
      obtain⟨qx0,qx1⟩:=(HC _ HB.out).out
      have rx0:=(HZ _ HB.out.size).out
      go_wp2_with fail
      refine(HOD _ HB3.out).out.mono ?_
      rintro e w4 ⟨rfl,hb4⟩
      have HX4:=Lib.hid (below_next HX3.out HX3.out.size hb4)
      have HB4:=Lib.hid (below_step hb4 HB3.out)
      have HB:=Lib.hid (below_next HB.out (Nat.le_trans HBW.out HB.out.size) hb4)
      clear hb4 x0
      clear qx0 qx1 rx0
      obtain⟨qx0,qx1⟩:=(HC _ HB.out).out
      have rx0:=(HZ _ HB.out.size).out
      go_wp2_with fail
      go_roundw
      case rel=>exact⟨k+1,s,by omega,by go_num,rfl,HV.out.symm,HB.out⟩
      case measure=>simp[intOf];omega
     ·have HNX2:=Lib.hid (show arK l q but (k+1)=if (s<0∨oa<(((l[s.toNat]?).map (·.area)).getD 0)) then(k:Int) else s from HNX.out.trans (by simp[HNE.out]))
      clear HNX
      by_cases hs0:s<0
      ·have HV:=Lib.hid (show arK l q but (k+1)=k from HNX2.out.trans (by simp[hs0]))
       go_wp2_with fail
       refine(HTC _ (below_alloc (Below.refl _ _))).out.mono ?_
       rintro e w3 ⟨rfl,hb3⟩
       have HX3:=Lib.hid hb3
       have HB3:=Lib.hid (below_step hb3 (below_alloc (Below.refl wr.heap.size wr)))
       have HB:=Lib.hid (HB.out.trans (HB3.out.mono HSW.out))
       clear hb3
       obtain⟨x0, -⟩:=(HBX _ HX3.out).out
       clear qx0 qx1 rx0
       obtain⟨qx0,qx1⟩:=(HC _ HB.out).out
       have rx0:=(HZ _ HB.out.size).out
       go_wp2_with fail
       refine(HOD _ HB3.out).out.mono ?_
       rintro e w4 ⟨rfl,hb4⟩
       have HX4:=Lib.hid (below_next HX3.out HX3.out.size hb4)
       have HB4:=Lib.hid (below_step hb4 HB3.out)
       have HB:=Lib.hid (below_next HB.out (Nat.le_trans HBW.out HB.out.size) hb4)
       clear hb4 x0
       clear qx0 qx1 rx0
       obtain⟨qx0,qx1⟩:=(HC _ HB.out).out
       have rx0:=(HZ _ HB.out.size).out
       go_wp2_with fail
       refine wp_region_later (by kernel_rfl) (by kernel_rfl) ?_
       repeat (first|go_big_quiet_step (fail)|quiet_step (fail))
       refine wpQuiet_nil ?_
       intro w6 hw6
       have hb6:=later_below hw6
       have HB:=Lib.hid (below_next HB.out (Nat.le_trans HBW.out HB.out.size) hb6)
       clear hw6 hb6
       go_wp2_with fail
       go_roundw
       case rel=>exact⟨k+1,k,by omega,by go_num,rfl,HV.out.symm,HB.out⟩
       case measure=>simp[intOf];omega
      ·obtain⟨m,rfl⟩: ∃m:Nat,s=m:=⟨s.toNat,by omega⟩
       have hmk:m<k:=by omega
       have hmn:m<n:=by omega
       obtain⟨lb2,loff2,o2,he2,hlb2,hx2,hat2⟩:=(HL _ HXW.out).out.at_ hmn
       injection he2 with he2
       injection he2 with he3 he4
       subst he3 he4
       obtain⟨⟨la2,lc2,d0, -⟩,d1,d2,d3,d4,d5⟩:=hat2
       have HF2:=Lib.hid (HO.out o2 (List.mem_of_getElem? hx2)).fit
       have HNX3:=Lib.hid (show arK l q but (k+1)=if oa<o2.area then(k:Int) else m from HNX2.out.trans (best_pos hx2))
       have HCC:=fun W=>HCM W o2.area HF2.out
       clear hx2 d0 d5 HCM HNX2
       obtain⟨o2l,o2a,o2p⟩:=o2
       simp only at d1 d2 d3 d4 HCC HNX3
       generalize wrd o2a 0=z0 at*
       generalize wrd o2a 1=z1 at*
       generalize wrd o2a 2=z2 at*
       generalize wrd o2a 3=z3 at*
       have ym:(m:Int)<(n:Int):=by omega
       have ym0: ¬((m:Int)<0):=by omega
       have HDD:=fun(W:World) (h:Below wr.heap.size wr W)=>Lib.hid (show W.cell? ⟨lb,loff+m*6+1,none⟩=some (.int .u64 z0)∧W.cell? ⟨lb,loff+m*6+1+1,none⟩=some (.int .u64 z1)∧W.cell? ⟨lb,loff+m*6+1+1+1,none⟩=some (.int .u64 z2)∧W.cell? ⟨lb,loff+m*6+1+1+1+1,none⟩=some (.int .u64 z3) from
        ⟨(h.cell (p:=⟨lb,_,none⟩) hbw).trans d1,(h.cell (p:=⟨lb,_,none⟩) hbw).trans d2,(h.cell (p:=⟨lb,_,none⟩) hbw).trans d3,(h.cell (p:=⟨lb,_,none⟩) hbw).trans d4⟩)
       clear d1 d2 d3 d4
       by_cases hcm:oa<o2a
       ·have HV:=Lib.hid (show arK l q but (k+1)=k from HNX3.out.trans (by simp[hcm]))
        have hcv:cmpI oa o2a= -1:=by unfold cmpI;rw[if_pos hcm]
        rw[hcv] at HCC
        go_wp2_with fail
        refine(HTC _ (below_alloc (Below.refl _ _))).out.mono ?_
        rintro e w3 ⟨rfl,hb3⟩
        have HX3:=Lib.hid hb3
        have HB3:=Lib.hid (below_step hb3 (below_alloc (Below.refl wr.heap.size wr)))
        have HB:=Lib.hid (HB.out.trans (HB3.out.mono HSW.out))
        clear hb3
        obtain⟨x0, -⟩:=(HBX _ HX3.out).out
        clear qx0 qx1 rx0
        obtain⟨qx0,qx1⟩:=(HC _ HB.out).out
        have rx0:=(HZ _ HB.out.size).out
        go_wp2_with fail
        refine(HOD _ HB3.out).out.mono ?_
        rintro e w4 ⟨rfl,hb4⟩
        have HX4:=Lib.hid (below_next HX3.out HX3.out.size hb4)
        have HB4:=Lib.hid (below_step hb4 HB3.out)
        have HB:=Lib.hid (below_next HB.out (Nat.le_trans HBW.out HB.out.size) hb4)
        clear hb4 x0
        clear qx0 qx1 rx0
        obtain⟨qx0,qx1⟩:=(HC _ HB.out).out
        have rx0:=(HZ _ HB.out.size).out
        go_wp2_with fail
        clear c0 c1 c2 c3 c4 c5 hcv hcm
        clear qx0 qx1 rx0
        have x0:=fun(x:Later w4)=>(HBX x.1 (below_next HX4.out HX4.out.size x.2)).out.2.1
        have x1:=fun(x:Later w4)=>(HBX x.1 (below_next HX4.out HX4.out.size x.2)).out.2.2.1
        have x2:=fun(x:Later w4)=>(HBX x.1 (below_next HX4.out HX4.out.size x.2)).out.2.2.2.1
        have x3:=fun(x:Later w4)=>(HBX x.1 (below_next HX4.out HX4.out.size x.2)).out.2.2.2.2
        have x4:=fun(x:Later w4)=>(HDD x.1 (below_step x.2 HB4.out)).out.1
        have x5:=fun(x:Later w4)=>(HDD x.1 (below_step x.2 HB4.out)).out.2.1
        have x6:=fun(x:Later w4)=>(HDD x.1 (below_step x.2 HB4.out)).out.2.2.1
        have x7:=fun(x:Later w4)=>(HDD x.1 (below_step x.2 HB4.out)).out.2.2.2
        refine wp_region_later (by kernel_rfl) (by kernel_rfl) ?_
        repeat (first|go_big_quiet_step ((go_at_call 89;with_reducible refine Later.call (HCC _).out))|quiet_step ((go_at_call 89;with_reducible refine Later.call (HCC _).out)))
        refine wpQuiet_nil ?_
        intro w6 hw6
        have hb6:=later_below hw6
        have HB:=Lib.hid (below_next HB.out (Nat.le_trans HBW.out HB.out.size) hb6)
        clear hw6 hb6 x0 x1 x2 x3 x4 x5 x6 x7
        go_wp2_with fail
        go_roundw
        case rel=>exact⟨k+1,k,by omega,by go_num,rfl,HV.out.symm,HB.out⟩
        case measure=>simp[intOf];omega
       ·have HV:=Lib.hid (show arK l q but (k+1)=m from HNX3.out.trans (by simp[hcm]))
        have hcv:cmpI oa o2a=0∨cmpI oa o2a=1:=by unfold cmpI;rw[if_neg hcm];split<;>simp
        rcases hcv with hcv|hcv
        ·rw[hcv] at HCC
         go_wp2_with fail
         refine(HTC _ (below_alloc (Below.refl _ _))).out.mono ?_
         rintro e w3 ⟨rfl,hb3⟩
         have HX3:=Lib.hid hb3
         have HB3:=Lib.hid (below_step hb3 (below_alloc (Below.refl wr.heap.size wr)))
         have HB:=Lib.hid (HB.out.trans (HB3.out.mono HSW.out))
         clear hb3
         obtain⟨x0, -⟩:=(HBX _ HX3.out).out
         clear qx0 qx1 rx0
         obtain⟨qx0,qx1⟩:=(HC _ HB.out).out
         have rx0:=(HZ _ HB.out.size).out
         go_wp2_with fail
         refine(HOD _ HB3.out).out.mono ?_
         rintro e w4 ⟨rfl,hb4⟩
         have HX4:=Lib.hid (below_next HX3.out HX3.out.size hb4)
         have HB4:=Lib.hid (below_step hb4 HB3.out)
         have HB:=Lib.hid (below_next HB.out (Nat.le_trans HBW.out HB.out.size) hb4)
         clear hb4 x0
         clear qx0 qx1 rx0
         obtain⟨qx0,qx1⟩:=(HC _ HB.out).out
         have rx0:=(HZ _ HB.out.size).out
         go_wp2_with fail
         clear c0 c1 c2 c3 c4 c5 hcv hcm
         clear qx0 qx1 rx0
         have x0:=fun(x:Later w4)=>(HBX x.1 (below_next HX4.out HX4.out.size x.2)).out.2.1
         have x1:=fun(x:Later w4)=>(HBX x.1 (below_next HX4.out HX4.out.size x.2)).out.2.2.1
         have x2:=fun(x:Later w4)=>(HBX x.1 (below_next HX4.out HX4.out.size x.2)).out.2.2.2.1
         have x3:=fun(x:Later w4)=>(HBX x.1 (below_next HX4.out HX4.out.size x.2)).out.2.2.2.2
         have x4:=fun(x:Later w4)=>(HDD x.1 (below_step x.2 HB4.out)).out.1
         have x5:=fun(x:Later w4)=>(HDD x.1 (below_step x.2 HB4.out)).out.2.1
         have x6:=fun(x:Later w4)=>(HDD x.1 (below_step x.2 HB4.out)).out.2.2.1
         have x7:=fun(x:Later w4)=>(HDD x.1 (below_step x.2 HB4.out)).out.2.2.2
         refine wp_region_later (by kernel_rfl) (by kernel_rfl) ?_
         repeat (first|go_big_quiet_step ((go_at_call 89;with_reducible refine Later.call (HCC _).out))|quiet_step ((go_at_call 89;with_reducible refine Later.call (HCC _).out)))
         refine wpQuiet_nil ?_
         intro w6 hw6
         have hb6:=later_below hw6
         have HB:=Lib.hid (below_next HB.out (Nat.le_trans HBW.out HB.out.size) hb6)
         clear hw6 hb6 x0 x1 x2 x3 x4 x5 x6 x7
         go_wp2_with fail
         go_roundw
         case rel=>exact⟨k+1,m,by omega,by go_num,rfl,HV.out.symm,HB.out⟩
         case measure=>simp[intOf];omega
        ·rw[hcv] at HCC
         go_wp2_with fail
         refine(HTC _ (below_alloc (Below.refl _ _))).out.mono ?_
         rintro e w3 ⟨rfl,hb3⟩
         have HX3:=Lib.hid hb3
         have HB3:=Lib.hid (below_step hb3 (below_alloc (Below.refl wr.heap.size wr)))
         have HB:=Lib.hid (HB.out.trans (HB3.out.mono HSW.out))
         clear hb3
         obtain⟨x0, -⟩:=(HBX _ HX3.out).out
         clear qx0 qx1 rx0
         obtain⟨qx0,qx1⟩:=(HC _ HB.out).out
         have rx0:=(HZ _ HB.out.size).out
         go_wp2_with fail
         refine(HOD _ HB3.out).out.mono ?_
         rintro e w4 ⟨rfl,hb4⟩
         have HX4:=Lib.hid (below_next HX3.out HX3.out.size hb4)
         have HB4:=Lib.hid (below_step hb4 HB3.out)
         have HB:=Lib.hid (below_next HB.out (Nat.le_trans HBW.out HB.out.size) hb4)
         clear hb4 x0
         clear qx0 qx1 rx0
         obtain⟨qx0,qx1⟩:=(HC _ HB.out).out
         have rx0:=(HZ _ HB.out.size).out
         go_wp2_with fail
         clear c0 c1 c2 c3 c4 c5 hcv hcm
         clear qx0 qx1 rx0
         have x0:=fun(x:Later w4)=>(HBX x.1 (below_next HX4.out HX4.out.size x.2)).out.2.1
         have x1:=fun(x:Later w4)=>(HBX x.1 (below_next HX4.out HX4.out.size x.2)).out.2.2.1
         have x2:=fun(x:Later w4)=>(HBX x.1 (below_next HX4.out HX4.out.size x.2)).out.2.2.2.1
         have x3:=fun(x:Later w4)=>(HBX x.1 (below_next HX4.out HX4.out.size x.2)).out.2.2.2.2
         have x4:=fun(x:Later w4)=>(HDD x.1 (below_step x.2 HB4.out)).out.1
         have x5:=fun(x:Later w4)=>(HDD x.1 (below_step x.2 HB4.out)).out.2.1
         have x6:=fun(x:Later w4)=>(HDD x.1 (below_step x.2 HB4.out)).out.2.2.1
         have x7:=fun(x:Later w4)=>(HDD x.1 (below_step x.2 HB4.out)).out.2.2.2
         refine wp_region_later (by kernel_rfl) (by kernel_rfl) ?_
         repeat (first|go_big_quiet_step ((go_at_call 89;with_reducible refine Later.call (HCC _).out))|quiet_step ((go_at_call 89;with_reducible refine Later.call (HCC _).out)))
         refine wpQuiet_nil ?_
         intro w6 hw6
         have hb6:=later_below hw6
         have HB:=Lib.hid (below_next HB.out (Nat.le_trans HBW.out HB.out.size) hb6)
         clear hw6 hb6 x0 x1 x2 x3 x4 x5 x6 x7
         go_wp2_with fail
         go_roundw
         case rel=>exact⟨k+1,m,by omega,by go_num,rfl,HV.out.symm,HB.out⟩
         case measure=>simp[intOf];omega
    ·have HV:=Lib.hid (show arK l q but (k+1)=s from HNX.out.trans (by simp))
     go_wp2_with fail
     refine(HTC _ (below_alloc (Below.refl _ _))).out.mono ?_
     rintro e w3 ⟨rfl,hb3⟩
     have HX3:=Lib.hid hb3
     have HB3:=Lib.hid (below_step hb3 (below_alloc (Below.refl wr.heap.size wr)))
     have HB:=Lib.hid (HB.out.trans (HB3.out.mono HSW.out))
     clear hb3
     obtain⟨x0, -⟩:=(HBX _ HX3.out).out
     clear qx0 qx1 rx0
     obtain⟨qx0,qx1⟩:=(HC _ HB.out).out
     have rx0:=(HZ _ HB.out.size).out
     go_wp2_with fail
     go_roundw
     case rel=>exact⟨k+1,s,by omega,by go_num,rfl,HV.out.symm,HB.out⟩
     case measure=>simp[intOf];omega
  ·obtain rfl:k=n:=by omega
   have F:=Lib.hid (show s=aroundP l q but from by rw[HSK.out];unfold arK aroundP;rw[HN.out])
   go_wp2_with fail
   go_ret
   exact⟨by rw[←F.out];rfl,bfn HW HB⟩
end Go.Proofs.Ythopjhifepijiaa
