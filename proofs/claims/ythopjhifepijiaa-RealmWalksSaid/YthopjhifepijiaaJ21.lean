/- Lemmas on the way to the statement. -/
import Derived.Test.YthopjhifepijiaaJ13
set_option linter.unusedSimpArgs false
set_option linter.unusedVariables false
namespace Go.Proofs.Ythopjhifepijiaa
def besB (a b w:Pt):Bool:=(upB a w&& !upB b w&&decide (crs a b w<0))||(upB b w&& !upB a w&&decide (0<crs a b w))
structure LApart (a b u v:Pt):Prop where
 u0:crs a b u=0→ ¬((a.y≤u.y∧u.y≤b.y∨b.y≤u.y∧u.y≤a.y)∧(a.x≤u.x∧u.x≤b.x∨b.x≤u.x∧u.x≤a.x))
 v0:crs a b v=0→ ¬((a.y≤v.y∧v.y≤b.y∨b.y≤v.y∧v.y≤a.y)∧(a.x≤v.x∧v.x≤b.x∨b.x≤v.x∧v.x≤a.x))
 no:(crs a b u).sign=(crs a b v).sign∨(crs u v a).sign=(crs u v b).sign
theorem LApart.swap {a b u v:Pt} (h:LApart a b u v):LApart b a u v:=by
 refine⟨fun e=> ?_,fun e=> ?_, ?_⟩
 ·have:=h.u0 (by rw[crs_swap] at e;omega);omega
 ·have:=h.v0 (by rw[crs_swap] at e;omega);omega
 ·rw[crs_swap a b u,crs_swap a b v,Int.sign_neg,Int.sign_neg]
  rcases h.no with h|h
  ·left;omega
  ·right;omega
theorem LApart.flip {a b u v:Pt} (h:LApart a b u v):LApart a b v u:=by
 refine⟨h.v0,h.u0, ?_⟩
 rw[crs_swap u v a,crs_swap u v b,Int.sign_neg,Int.sign_neg]
 rcases h.no with h|h
 ·left;omega
 ·right;omega
theorem on_band {a b u:Pt} (h:crs a b u=0) (h1:a.y<u.y) (h2:u.y≤b.y):a.x≤u.x∧u.x≤b.x∨b.x≤u.x∧u.x≤a.x:=by
 unfold crs at h
 have hd:0<b.y - a.y:=by omega
 rcases Int.le_total a.x b.x with hx|hx
 ·left
  have e1:0≤(b.x - a.x)*(u.y - a.y):=Int.mul_nonneg (by omega) (by omega)
  have e2:0≤(b.x - a.x)*(b.y - u.y):=Int.mul_nonneg (by omega) (by omega)
  refine⟨?_, ?_⟩
  ·have:0≤(b.y - a.y)*(u.x - a.x):=by omega
   have:=Int.nonneg_of_mul_nonneg_right this hd
   omega
  ·have:0≤(b.y - a.y)*(b.x - u.x):=by grind
   have:=Int.nonneg_of_mul_nonneg_right this hd
   omega
 ·right
  have e1:0≤(a.x - b.x)*(u.y - a.y):=Int.mul_nonneg (by omega) (by omega)
  have e2:0≤(a.x - b.x)*(b.y - u.y):=Int.mul_nonneg (by omega) (by omega)
  refine⟨?_, ?_⟩
  ·have:0≤(b.y - a.y)*(u.x - b.x):=by grind
   have:=Int.nonneg_of_mul_nonneg_right this hd
   omega
  ·have:0≤(b.y - a.y)*(a.x - u.x):=by grind
   have:=Int.nonneg_of_mul_nonneg_right this hd
   omega
section
variable {a b u v:Pt}
theorem eu (a b u v:Pt):crs a b u*(v.y - u.y)=crs u v b*(a.y - u.y) - crs u v a*(b.y - u.y):=by unfold crs;grind
theorem wpn {x y:Int} (h:0≤x) (k:y≤0):x*y≤0:=by rw[Int.mul_comm];exact wnp k h
theorem wnn {x y:Int} (h:x≤0) (k:y≤0):0≤x*y:=by have:=Int.mul_nonneg (show 0≤ -x by omega) (show 0≤ -y by omega);rw[Int.neg_mul_neg] at this;exact this
theorem cwn {x k:Int} (hk:0<k) (h:x*k≤0):x≤0:=by
 by_cases hx:x≤0
 ·exact hx
 ·have:=sp (show 0<x by omega) hk;omega
theorem cwp {x k:Int} (hk:0<k) (h:0≤x*k):0≤x:=by
 by_cases hx:0≤x
 ·exact hx
 ·have:=snp (show x<0 by omega) hk;omega
theorem sg1 {x y:Int} (h:0<x) (k:y≤0):x.sign≠y.sign:=by
 rcases sign_cases x with h1|h1|h1<;>rcases sign_cases y with h2|h2|h2<;>omega
theorem sg2 {x y:Int} (h:x<0) (k:0≤y):x.sign≠y.sign:=by
 rcases sign_cases x with h1|h1|h1<;>rcases sign_cases y with h2|h2|h2<;>omega
theorem LApart.not (h:LApart a b u v) (h1:(crs a b u).sign≠(crs a b v).sign) (h2:(crs u v a).sign≠(crs u v b).sign):False:=h.no.elim h1 h2
theorem LApart.cu (h:LApart a b u v) (h1:a.y<u.y) (h2:u.y≤b.y):crs a b u≠0:=fun e=>h.u0 e ⟨.inl ⟨by omega,h2⟩,on_band e h1 h2⟩
theorem LApart.cv (h:LApart a b u v) (h1:a.y<v.y) (h2:v.y≤b.y):crs a b v≠0:=fun e=>h.v0 e ⟨.inl ⟨by omega,h2⟩,on_band e h1 h2⟩
theorem LApart.mm (h:LApart a b u v) (u1:a.y<u.y) (u2:u.y≤b.y) (v1:a.y<v.y) (v2:v.y≤b.y): ¬(crs a b u<0∧0<crs a b v):=fun⟨hc,hd⟩=>by
 have e1:=ea a b u v
 have e2:=eb a b u v
 have p1:=sp hd (show 0<u.y - a.y by omega)
 have p2:=snp hc (show 0<v.y - a.y by omega)
 have p3:=wpn (show 0≤crs a b v by omega) (show u.y - b.y≤0 by omega)
 have p4:=wnn (show crs a b u≤0 by omega) (show v.y - b.y≤0 by omega)
 have hA:=cp (show 0<b.y - a.y by omega) (by rw[e1];omega)
 have hB:=cwn (show 0<b.y - a.y by omega) (by rw[e2];omega)
 exact h.not (sg2 hc (by omega)) (sg1 hA hB)
theorem LApart.lu (h:LApart a b u v) (ab:a.y≤b.y) (u1:u.y≤a.y) (v1:b.y<v.y):0<crs u v a↔0<crs u v b:=by
 have e1:=eu a b u v
 have e2:=ev a b u v
 have hk:0<v.y - u.y:=by omega
 constructor
 ·intro hA
  by_cases hB:0<crs u v b
  ·exact hB
  ·exfalso
   have q1:=wnp (show crs u v b≤0 by omega) (show 0≤a.y - u.y by omega)
   have q2:=wpp (show 0≤crs u v a by omega) (show 0≤b.y - u.y by omega)
   have q3:=wnn (show crs u v b≤0 by omega) (show a.y - v.y≤0 by omega)
   have q4:=spn hA (show b.y - v.y<0 by omega)
   have hC:=cwn hk (by rw[e1];omega)
   have hD:=cp hk (by rw[e2];omega)
   exact h.not (fun e=>sg1 hD hC e.symm) (sg1 hA (by omega))
 ·intro hB
  by_cases hA:0<crs u v a
  ·exact hA
  ·exfalso
   have q1:=wpp (show 0≤crs u v b by omega) (show 0≤a.y - u.y by omega)
   have q2:=wnp (show crs u v a≤0 by omega) (show 0≤b.y - u.y by omega)
   have q3:=spn hB (show a.y - v.y<0 by omega)
   have q4:=wnn (show crs u v a≤0 by omega) (show b.y - v.y≤0 by omega)
   have hC:=cwp hk (by rw[e1];omega)
   have hD:=cn hk (by rw[e2];omega)
   exact h.not (fun e=>sg2 hD hC e.symm) (fun e=>sg1 hB (by omega) e.symm)
theorem LApart.lm (h:LApart a b u v) (u1:u.y≤a.y) (v1:a.y<v.y) (v2:v.y≤b.y):0<crs u v a↔crs a b v<0:=by
 have e1:=ea a b u v
 have e2:=eb a b u v
 have hk:0<b.y - a.y:=by omega
 have hv:=h.cv v1 v2
 constructor
 ·intro hA
  by_cases hD:crs a b v<0
  ·exact hD
  ·exfalso
   have hD:0<crs a b v:=by omega
   have q1:=wpn (show 0≤crs a b v by omega) (show u.y - a.y≤0 by omega)
   have q2:=sp hA hk
   have hC:=cn (show 0<v.y - a.y by omega) (by omega:crs a b u*(v.y - a.y)<0)
   have q3:=spn hD (show u.y - b.y<0 by omega)
   have q4:=wnn (show crs a b u≤0 by omega) (show v.y - b.y≤0 by omega)
   have hB:=cn hk (by rw[e2];omega)
   exact h.not (sg2 hC (by omega)) (sg1 hA (by omega))
 ·intro hD
  by_cases hA:0<crs u v a
  ·exact hA
  ·exfalso
   have q1:=wnn (show crs a b v≤0 by omega) (show u.y - a.y≤0 by omega)
   have q2:=wnp (show crs u v a≤0 by omega) (show 0≤b.y - a.y by omega)
   have hC:=cwp (show 0<v.y - a.y by omega) (by omega:0≤crs a b u*(v.y - a.y))
   have q3:=snn hD (show u.y - b.y<0 by omega)
   have q4:=wpn hC (show v.y - b.y≤0 by omega)
   have hB:=cp hk (by rw[e2];omega)
   exact h.not (fun e=>sg2 hD hC e.symm) (fun e=>sg1 hB (by omega) e.symm)
theorem LApart.mu (h:LApart a b u v) (u1:a.y<u.y) (u2:u.y≤b.y) (v1:b.y<v.y):0<crs u v b↔crs a b u<0:=by
 have e1:=ea a b u v
 have e2:=eb a b u v
 have hk:0<b.y - a.y:=by omega
 have hu:=h.cu u1 u2
 constructor
 ·intro hB
  by_cases hC:crs a b u<0
  ·exact hC
  ·exfalso
   have hC:0<crs a b u:=by omega
   have q1:=sp hB hk
   have q2:=sp hC (show 0<v.y - b.y by omega)
   have hD:crs a b v<0:=by
    by_cases hd:crs a b v<0
    ·exact hd
    ·have:=wpn (show 0≤crs a b v by omega) (show u.y - b.y≤0 by omega);omega
   have q3:=snp hD (show 0<u.y - a.y by omega)
   have q4:=sp hC (show 0<v.y - a.y by omega)
   have hA:=cn hk (by rw[e1];omega)
   exact h.not (sg1 hC (by omega)) (sg2 hA (by omega))
 ·intro hC
  by_cases hB:0<crs u v b
  ·exact hB
  ·exfalso
   have q1:=wnp (show crs u v b≤0 by omega) (show 0≤b.y - a.y by omega)
   have q2:=snp hC (show 0<v.y - b.y by omega)
   have hD:0<crs a b v:=by
    by_cases hd:0<crs a b v
    ·exact hd
    ·have:=wnn (show crs a b v≤0 by omega) (show u.y - b.y≤0 by omega);omega
   have q3:=sp hD (show 0<u.y - a.y by omega)
   have q4:=snp hC (show 0<v.y - a.y by omega)
   have hA:=cp hk (by rw[e1];omega)
   exact h.not (sg2 hC (by omega)) (sg1 hA (by omega))
end
theorem ray_flip (u v q:Pt):rayB v u q=rayB u v q:=by
 unfold rayB
 rw[crs_swap u v q]
 have e1:decide (0< - crs u v q)=decide (crs u v q<0):=decide_eq_decide.2 (by omega)
 have e2:decide (- crs u v q<0)=decide (0<crs u v q):=decide_eq_decide.2 (by omega)
 rw[e1,e2]
 cases upB q u<;>cases upB q v<;>cases decide (0<crs u v q)<;>cases decide (crs u v q<0)<;>rfl
theorem bes_swap (a b w:Pt):besB b a w=besB a b w:=by
 unfold besB
 rw[crs_swap a b w]
 have e1:decide (0< - crs a b w)=decide (crs a b w<0):=decide_eq_decide.2 (by omega)
 have e2:decide (- crs a b w<0)=decide (0<crs a b w):=decide_eq_decide.2 (by omega)
 rw[e1,e2]
 cases upB a w<;>cases upB b w<;>cases decide (0<crs a b w)<;>cases decide (crs a b w<0)<;>rfl
theorem LApart.edge1 {a b u v:Pt} (h:LApart a b u v) (ab:a.y≤b.y) (uv:u.y≤v.y):(rayB u v a ^^ rayB u v b)=(besB a b u ^^ besB a b v):=by
 unfold rayB besB upB
 by_cases ua:a.y<u.y
 ·have va:a.y<v.y:=by omega
  by_cases ub:b.y<u.y
  ·have vb:b.y<v.y:=by omega
   simp[ua,va,ub,vb]
  ·by_cases vb:b.y<v.y
   ·have k:=h.mu ua (by omega) vb
    have e:decide (0<crs u v b)=decide (crs a b u<0):=decide_eq_decide.2 k
    simp[ua,va,ub,vb,k]
   ·have c1:=h.cu ua (by omega)
    have c2:=h.cv va (by omega)
    have m1:=h.mm ua (by omega) va (by omega)
    have m2:=h.flip.mm va (by omega) ua (by omega)
    have k:crs a b u<0↔crs a b v<0:=by omega
    simp[ua,va,ub,vb,k]
 ·have ub: ¬b.y<u.y:=by omega
  by_cases va:a.y<v.y
  ·by_cases vb:b.y<v.y
   ·have k:=h.lu ab (by omega) vb
    simp[ua,va,ub,vb,k]
   ·have k:=h.lm (by omega) va (by omega)
    simp[ua,va,ub,vb,k]
  ·have vb: ¬b.y<v.y:=by omega
   simp[ua,va,ub,vb]
theorem LApart.edge {a b u v:Pt} (h:LApart a b u v):(rayB u v a ^^ rayB u v b)=(besB a b u ^^ besB a b v):=by
 rcases Int.le_total a.y b.y with ab|ab<;>rcases Int.le_total u.y v.y with uv|uv
 ·exact h.edge1 ab uv
 ·rw[←ray_flip u v a, ←ray_flip u v b,h.flip.edge1 ab uv,Bool.xor_comm]
 ·rw[Bool.xor_comm,h.swap.edge1 ab uv,bes_swap a b u,bes_swap a b v]
 ·rw[←ray_flip u v a, ←ray_flip u v b,Bool.xor_comm,h.swap.flip.edge1 ab uv,bes_swap a b u,bes_swap a b v,Bool.xor_comm]
theorem odd_chain {a b:Pt}: ∀ {l:List (Pt × Pt)} {s e:Pt},Chain s l e→(∀x∈l,LApart a b x.1 x.2)→(oddB l a ^^ oddB l b)=(besB a b s ^^ besB a b e)
 | [],s,e,h,_=>by
  have h:s=e:=h
  subst h
  simp[oddB]
 |x::l,s,e,⟨h1,h2⟩,hap=>by
  have ih:=odd_chain h2 (fun y hy=>hap y (by simp[hy]))
  have he:=(hap x (by simp)).edge
  subst h1
  rw[oddB_cons,oddB_cons]
  generalize rayB x.1 x.2 a=r1 at*
  generalize rayB x.1 x.2 b=r2 at*
  generalize oddB l a=o1 at*
  generalize oddB l b=o2 at*
  generalize besB a b x.1=b1 at*
  generalize besB a b x.2=b2 at*
  generalize besB a b e=b3 at*
  revert he ih
  cases r1<;>cases r2<;>cases o1<;>cases o2<;>cases b1<;>cases b2<;>cases b3<;>decide
theorem odd_same {a b s:Pt} {l:List (Pt × Pt)} (h:Chain s l s) (hap: ∀x∈l,LApart a b x.1 x.2):oddB l a=oddB l b:=by
 have:=odd_chain h hap
 rw[Bool.xor_self] at this
 revert this
 cases oddB l a<;>cases oddB l b<;>decide
end Go.Proofs.Ythopjhifepijiaa
namespace Go.Proofs.Ythopjhifepijiaa
section
variable {p:PL}
theorem RightP.ring_chain (r:RightP p) {m:List Hf} {h:Hf} {L:List Hf} (hr:Ring (nextP p) (halvesE p.es) m h L):Chain (ptH p h) (L.map (lineH p)) (ptH p h):=r.chain hr.link (fun y hy=>(hr.mem y hy).1)
end
end Go.Proofs.Ythopjhifepijiaa
namespace Go.Proofs.Ythopjhifepijiaa
theorem aroundP_congr {l:List OU} {q r:Pt} {but:Int} (h: ∀o∈l,arndB o q but=arndB o r but):aroundP l q but=aroundP l r but:=by
 unfold aroundP
 generalize (-1:Int)=s
 have key: ∀(L:List Nat) (s:Int),L.foldl (bestS l q but) s=L.foldl (bestS l r but) s:=by
  intro L
  induction L with
  |nil=>intro s;rfl
  |cons i L ih=>
   intro s
   rw[List.foldl_cons,List.foldl_cons]
   have e:bestS l q but s i=bestS l r but s i:=by
    unfold bestS
    cases ho:l[i]? with
    |none=>rfl
    |some o=>
     simp only
     rw[h o (List.mem_of_getElem? ho)]
   rw[e]
   exact ih _
 exact key _ s
theorem apart_of {a b u v:Pt} (ha:inB a=true) (hb:inB b=true) (hu:inB u=true) (hv:inB v=true) (hab:a≠b) (huv:u≠v) (h1:wthR u a b=false) (h2:wthR v a b=false) (h3:meetB a b u v=false):LApart a b u v:=by
 have w: ∀ {q:Pt},wthR q a b=false→crs a b q=0→ ¬((a.y≤q.y∧q.y≤b.y∨b.y≤q.y∧q.y≤a.y)∧(a.x≤q.x∧q.x≤b.x∨b.x≤q.x∧q.x≤a.x)):=fun {q} hq hc ⟨y,x⟩=>by
  unfold wthR at hq
  rw[trn_zero.2 hc] at hq
  simp[x,y] at hq
 refine⟨w h1,w h2, ?_⟩
 by_cases hs:(crs a b u).sign=(crs a b v).sign
 ·exact .inl hs
 by_cases hs2:(crs u v a).sign=(crs u v b).sign
 ·exact .inr hs2
 exfalso
 rw[←meetR_eq ha hb hu hv hab huv] at h3
 unfold meetR at h3
 have hc: ¬(trn a b u=0∧trn a b v=0):=fun⟨e1,e2⟩=>hs (by unfold trn at e1 e2;rw[e1,e2])
 have hsh: ¬(a=u∨a=v∨b=u∨b=v):=by
  rintro (rfl|rfl|rfl|rfl)
  ·rw[wth_l] at h1;cases h1
  ·rw[wth_l] at h2;cases h2
  ·rw[wth_r] at h1;cases h1
  ·rw[wth_r] at h2;cases h2
 rw[if_neg hc,if_neg hsh] at h3
 have e1:decide (trn a b u=trn a b v)=false:=decide_eq_false hs
 have e2:decide (trn u v a=trn u v b)=false:=decide_eq_false hs2
 rw[e1,e2] at h3
 cases h3
section
variable {p:PL}
theorem RightP.pt_in (r:RightP p) {id:Int} {q:Pt} (h:ptOf p.vs id=some q):inB q=true∧ ∃v∈p.vs,v.at_=q:=by
 obtain⟨v,hv, -,e⟩:=ptOf_some h
 obtain⟨i,hi⟩:=List.mem_iff_getElem?.1 hv
 rw[←e]
 exact⟨(r.v i v hi).inr,v,hv,rfl⟩
theorem RightP.line_of (r:RightP p) {h:Hf} (hm:h∈halvesE p.es): ∃e∈p.es, ∃A B,ptOf p.vs e.a=some A∧ptOf p.vs e.b=some B∧A≠B∧lineH p h=if h.back=true then(B,A) else(A,B):=by
 obtain⟨e,he,hid,h1,h2⟩:=r.ends_of hm
 obtain⟨i,hi⟩:=List.mem_iff_getElem?.1 he
 obtain⟨A,B,hab⟩:=r.e i e hi
 have hz: ∀ {id:Int} {q:Pt},ptOf p.vs id=some q→ptZ p.vs id=q:=fun h=>by unfold ptZ;rw[h];rfl
 refine⟨e,he,A,B,hab.pa,hab.pb,fun e'=> ?_, ?_⟩
 ·obtain⟨va,ha,ea,e1⟩:=ptOf_some hab.pa
  obtain⟨vb,hb,eb,e2⟩:=ptOf_some hab.pb
  have hne:va≠vb:=fun e=>hab.ab (by rw[←ea, ←eb,e])
  obtain⟨j,hj⟩:=List.mem_iff_getElem?.1 ha
  obtain⟨k,hk⟩:=List.mem_iff_getElem?.1 hb
  rcases Nat.lt_trichotomy j k with hjk|hjk|hjk
  ·exact(r.v k vb hk).ne j va hjk hj (by rw[e1,e2,e'])
  ·subst hjk;rw[hj] at hk;injection hk with hk;exact hne hk
  ·exact(r.v j va hj).ne k vb hjk hk (by rw[e1,e2,e'])
 ·unfold lineH ptH
  rw[h1,show fromH p.es (twinH h)=toH p.es h from rfl,h2]
  cases h.back
  ·simp only[Bool.false_eq_true,if_false]
   rw[hz hab.pa,hz hab.pb]
  ·simp only[if_true]
   rw[hz hab.pa,hz hab.pb]
structure Free (p:PL) (a b:Pt):Prop where
 ia:inB a=true
 ib:inB b=true
 ne:a≠b
 vs: ∀v∈p.vs,wthR v.at_ a b=false
 es: ∀e∈p.es,meetB a b (ptZ p.vs e.a) (ptZ p.vs e.b)=false
theorem Free.apart {a b:Pt} (f:Free p a b) (r:RightP p) {h:Hf} (hm:h∈halvesE p.es):LApart a b (lineH p h).1 (lineH p h).2:=by
 obtain⟨e,he,A,B,hA,hB,hne,hl⟩:=r.line_of hm
 obtain⟨iA,vA,mA,eA⟩:=r.pt_in hA
 obtain⟨iB,vB,mB,eB⟩:=r.pt_in hB
 have hz: ∀ {id:Int} {q:Pt},ptOf p.vs id=some q→ptZ p.vs id=q:=fun h=>by unfold ptZ;rw[h];rfl
 have h3:=f.es e he
 rw[hz hA,hz hB] at h3
 have k:=apart_of f.ia f.ib iA iB f.ne hne (by rw[←eA];exact f.vs _ mA) (by rw[←eB];exact f.vs _ mB) h3
 rw[hl]
 cases h.back
 ·exact k
 ·exact k.flip
theorem Free.untouched {a b:Pt} (f:Free p a b) (r:RightP p) {h:Hf} (hm:h∈halvesE p.es) {q:Pt} (hq:q=a∨q=b):(decide (q=(lineH p h).1)||(decide (q=(lineH p h).2)||onB q (lineH p h).1 (lineH p h).2))=false:=by
 obtain⟨e,he,A,B,hA,hB,hne,hl⟩:=r.line_of hm
 obtain⟨iA,vA,mA,eA⟩:=r.pt_in hA
 obtain⟨iB,vB,mB,eB⟩:=r.pt_in hB
 have hz: ∀ {id:Int} {q:Pt},ptOf p.vs id=some q→ptZ p.vs id=q:=fun h=>by unfold ptZ;rw[h];rfl
 have h3:=f.es e he
 rw[hz hA,hz hB] at h3
 have wA:=f.vs _ mA
 have wB:=f.vs _ mB
 rw[eA] at wA
 rw[eB] at wB
 have nA:q≠A:=fun e=>by
  subst e
  rcases hq with rfl|rfl
  ·rw[wth_l] at wA;cases wA
  ·rw[wth_r] at wA;cases wA
 have nB:q≠B:=fun e=>by
  subst e
  rcases hq with rfl|rfl
  ·rw[wth_l] at wB;cases wB
  ·rw[wth_r] at wB;cases wB
 have on:onB q A B=false:=by
  rw[Bool.eq_false_iff]
  intro ho
  have:meetB a b A B=true:=by
   unfold meetB
   rw[f.ia,f.ib,iA,iB,if_neg (by simp[f.ne,hne]),if_pos]
   rcases hq with rfl|rfl<;>simp[ho]
  rw[this] at h3;cases h3
 have on2:onB q B A=false:=by
  have t:decide (trn B A q=0)=decide (trn A B q=0):=decide_eq_decide.2 (by unfold trn;rw[crs_swap,Int.sign_neg];omega)
  have bb:btwB q B A=btwB q A B:=by unfold btwB;rw[Bool.or_comm]
  rw[←on]
  unfold onB
  rw[t,bb]
  cases inB q<;>cases inB A<;>cases inB B<;>rfl
 rw[hl]
 cases h.back
 ·simp[nA,nB,on]
 ·simp[nA,nB,on2]
theorem Free.ring {a b:Pt} (f:Free p a b) (r:RightP p) {m:List Hf} {h:Hf} {L:List Hf} (hr:Ring (nextP p) (halvesE p.es) m h L):oddB (L.map (lineH p)) a=oddB (L.map (lineH p)) b∧touchB (L.map (lineH p)) a=false∧touchB (L.map (lineH p)) b=false:=by
 refine⟨odd_same (r.ring_chain hr) (fun x hx=> ?_), ?_, ?_⟩
 ·obtain⟨y,hy,rfl⟩:=List.mem_map.1 hx
  exact f.apart r (hr.mem y hy).1
 ·unfold touchB
  rw[List.any_eq_false]
  intro x hx
  obtain⟨y,hy,rfl⟩:=List.mem_map.1 hx
  rw[f.untouched r (hr.mem y hy).1 (.inl rfl)]
  decide
 ·unfold touchB
  rw[List.any_eq_false]
  intro x hx
  obtain⟨y,hy,rfl⟩:=List.mem_map.1 hx
  rw[f.untouched r (hr.mem y hy).1 (.inr rfl)]
  decide
theorem Free.same {a b:Pt} (f:Free p a b) (r:RightP p) {l:List OU} {but:Int} (hl: ∀o∈l, ∃L∈ringsP p,o.lines=L.map (lineH p)):aroundP l a but=aroundP l b but:=by
 refine aroundP_congr (fun o ho=> ?_)
 obtain⟨L,hL,e⟩:=hl o ho
 obtain⟨h,m,hr⟩:=r.rings.1 L hL
 obtain⟨h1,h2,h3⟩:=f.ring r hr
 unfold arndB
 rw[e,h1,h2,h3]
end
end Go.Proofs.Ythopjhifepijiaa
namespace Go.Proofs.Ythopjhifepijiaa
section
variable {p:PL}
theorem RightP.finds_agree (r:RightP p) {g k:Int→Int} {x y:Int} (hx: ∀id,IsV p id→g id≠x) (hy: ∀id,IsV p id→k id≠y) (q:Pt):aroundP ((orsP p).map (ouOf g)) q x=aroundP ((orsP p).map (ouOf k)) q y:=around_none (fun o ho=>hx _ (r.ors_v o ho)) (fun o ho=>hy _ (r.ors_v o ho)) q
theorem Free.finds {a b:Pt} (f:Free p a b) (r:RightP p) (g:Int→Int) (no:Int):aroundP ((orsP p).map (ouOf g)) a no=aroundP ((orsP p).map (ouOf g)) b no:=f.same r (fun o ho=>by
 obtain⟨x,hx,rfl⟩:=List.mem_map.1 ho
 obtain⟨L,hL,rfl⟩:=List.mem_map.1 hx
 exact⟨L,(List.mem_filter.1 hL).1,rfl⟩)
end
end Go.Proofs.Ythopjhifepijiaa
namespace Go.Proofs.Ythopjhifepijiaa
open Go.RowKit Go.Joins
def fndV (p:PL) (q:Pt):Option Vx:=p.vs.find? fun v=>decide (v.at_=q)
def fndE (p:PL) (q:Pt):Option Ed:=p.es.find? fun e=>onB q (endsP p ⟨e.id,false⟩).1 (endsP p ⟨e.id,false⟩).2
def findP (p:PL) (q:Pt) (k:Int):Int × Int × Int:=match fndV p q with
 |some v=>(v.id,0,0)
 |none=>match fndE p q with
  |some e=>(0,e.id,0)
  |none=>(0,0,k)
def plcV (x:Int × Int × Int) (e:Int):Value:= .tuple #[.agg #[.int .i64 x.1, .int .i64 x.2.1, .int .i64 x.2.2], .int .i64 e]
end Go.Proofs.Ythopjhifepijiaa
namespace Go.Proofs.Ythopjhifepijiaa
open Go.RowKit Go.Joins
def plF (x:Int × Int × Int):Nat→Value
 |0=> .int .i64 x.1
 |1=> .int .i64 x.2.1
 |_=> .int .i64 x.2.2
theorem Try.results27:Try.f27.results= #[.cell 4 65, .tmp 5]:=by kernel_rfl
theorem res_place {fn:Func} {p u:Tmp} {tmps:Array Value} {W:World} {g:Nat} {x:Int × Int × Int} (h:fn.results= #[.cell p 65, .tmp u]) (hp:tmps.getD p undef= .pointer (some ⟨g,0,none⟩)) (hr:W.rowIs g 65 3 (plF x)):
  (results fn tmps).run Try.prog W= .ok (.tuple #[.agg #[.int .i64 x.1, .int .i64 x.2.1, .int .i64 x.2.2],tmps.getD u undef]) W:=by
 obtain⟨c,hc,hs,hi⟩:=hr
 have hcs:c= #[.int .i64 x.1, .int .i64 x.2.1, .int .i64 x.2.2]:=by
  apply Array.ext_getElem?
  intro i
  by_cases hlt:i<3
  ·rw[hi i hlt]
   rcases i with _|_|_|i<;>first|rfl|(exfalso;omega)
  ·rw[Array.getElem?_eq_none (by omega),Array.getElem?_eq_none (by simp;omega)]
 subst hcs
 rw[results_cell_tmp h]
 have hl:=run_loadVar_row (P:=Try.prog) W g _ 65 _ _ _ hc Try.underlying65 rfl (by kernel_rfl)
 simp only[hp,asAddr,Sem.run_pure,Result.andThen_ok,hl]
theorem RightP.pieceR_one {p:PL} (r:RightP p):PieceFn p (fun id=>pieceR p id+1)∧ ∀id,IsV p id→pieceR p id+1≠0:=by
 refine⟨fun a b ha hb=> ?_,fun id _=>by unfold pieceR;omega⟩
 rw[←r.pieceR_fn a b ha hb]
 show pieceR p a+1=pieceR p b+1↔_
 omega
theorem RightP.outs_few {p:PL} (r:RightP p):(outersP p).length≤2048:=by
 have h1:=r.rings_few
 have h2:=r.ne
 have h3:(outersP p).length≤(ringsP p).length:=List.length_filter_le _ _
 omega
set_option maxRecDepth 100000 in
set_option maxHeartbeats 8000000 in
theorem Find_any {w:World} {B vn vc en ec:Nat} {va ea:Option Addr} {p:PL} {q:Pt} (r:RightP p) (hq:inB q=true) (hv:VsIn w B va vn p.vs) (he:EsIn w B ea en p.es) (hB:B≤w.heap.size) (hec:en≤ec) (hfit:FitPL p):
  Calls Try.prog 27 #[.agg #[.slice va vn vc, .slice ea en ec], .agg #[.int .i64 q.x, .int .i64 q.y]] w fun e w'=> ∃g:Int→Int,PieceFn p g∧(∀id,IsV p id→g id≠0)∧e= .returned (plcV (findP p q (1+aroundP ((orsP p).map (ouOf g)) q 0)) 0)∧Below w.heap.size w w':=by
 have hn:vn≤100000:=by have:=r.nv;have:=hv.1;omega
 have hm:en≤100000:=by have:=r.ne;have:=he.1;omega
 have hen:en≤1024:=by have:=r.ne;have:=he.1;omega
 have HRT:=fun(W:World) (hb:Below w.heap.size w W)=>Lib.hid (show Calls Try.prog 12 #[.agg #[.slice va vn vc, .slice ea en ec]] W fun e w'=>e= .returned (.bool true)∧Below W.heap.size W w' from by
  have:=right_any (w:=W) (vc:=vc) (hv.below (hb.mono hB)) (he.below (hb.mono hB)) (Nat.le_trans hB hb.size) hn hm hec hfit
  rw[(rightB_iff.2 r)] at this
  exact this)
 have HIN:=fun W=>Lib.hid (in_any q W)
 rw[hq] at HIN
 have HRS:=fun(W:World) (hb:Below w.heap.size w W)=>Lib.hid (realms_any (w:=W) (vc:=vc) r (hv.below (hb.mono hB)) (he.below (hb.mono hB)) (Nat.le_trans hB hb.size) hec hfit)
 have HEN:=fun(W:World) (hb:Below w.heap.size w W) (h:Hf)=>Lib.hid (rends_any (w:=W) (vc:=vc) (ec:=ec) (hv.below (hb.mono hB)) (he.below (hb.mono hB)) (Nat.le_trans hB hb.size) hn hm h)
 have HVI:=fun(W:World) (hb:Below w.heap.size w W)=>Lib.hid (hv.below (hb.mono hB))
 have HEI:=fun(W:World) (hb:Below w.heap.size w W)=>Lib.hid (he.below (hb.mono hB))
 have HG0:=Lib.hid r.pieceR_one
 have HVL:=Lib.hid hv.1
 have HEL:=Lib.hid he.1
 have HR:=Lib.hid r
 have HQ:=Lib.hid hq
 clear hv he hfit r hq
 go_enter Try.func27,Try.ntmps27
 go_wp2_with fail
 first|refine wp_name (fun W hW=> ?_)|refine calls_name (fun W hW=> ?_)
 have HW:Hid (Below w.heap.size w W):=Lib.hid (by rw[←hW];repeat (first|exact Below.refl _ _|refine below_alloc ?_))
 have HWs:Hid (W.heap.size=w.heap.size+1+1+1):=Lib.hid (by rw[←hW];simp)
 have HBW:Hid (W.heap.size≤W.heap.size):=Lib.hid (by have:=HWs.out;omega)
 have HC:=fun(W1:World) (hb:Below (W.heap.size) W W1)=>Lib.hid (show W1.cell? ⟨w.heap.size,0,none⟩=some (.slice va vn vc)∧W1.cell? ⟨w.heap.size,1,none⟩=some (.slice ea en ec)∧W1.cell? ⟨w.heap.size+1,0,none⟩=some (.int .i64 q.x)∧W1.cell? ⟨w.heap.size+1,1,none⟩=some (.int .i64 q.y)∧W1.cell? ⟨w.heap.size+1+1,0,none⟩=some (.int .i64 0)∧W1.cell? ⟨w.heap.size+1+1,1,none⟩=some (.int .i64 0)∧W1.cell? ⟨w.heap.size+1+1,2,none⟩=some (.int .i64 0) from by exact⟨(hb.cell (p:=⟨w.heap.size,0,none⟩) (by show w.heap.size<W.heap.size;have:=HWs.out;omega)).trans (by rw[←hW];clear hW;go_simp),(hb.cell (p:=⟨w.heap.size,1,none⟩) (by show w.heap.size<W.heap.size;have:=HWs.out;omega)).trans (by rw[←hW];clear hW;go_simp),(hb.cell (p:=⟨w.heap.size+1,0,none⟩) (by show w.heap.size+1<W.heap.size;have:=HWs.out;omega)).trans (by rw[←hW];clear hW;go_simp),(hb.cell (p:=⟨w.heap.size+1,1,none⟩) (by show w.heap.size+1<W.heap.size;have:=HWs.out;omega)).trans (by rw[←hW];clear hW;go_simp),(hb.cell (p:=⟨w.heap.size+1+1,0,none⟩) (by show w.heap.size+1+1<W.heap.size;have:=HWs.out;omega)).trans (by rw[←hW];clear hW;go_simp),(hb.cell (p:=⟨w.heap.size+1+1,1,none⟩) (by show w.heap.size+1+1<W.heap.size;have:=HWs.out;omega)).trans (by rw[←hW];clear hW;go_simp),(hb.cell (p:=⟨w.heap.size+1+1,2,none⟩) (by show w.heap.size+1+1<W.heap.size;have:=HWs.out;omega)).trans (by rw[←hW];clear hW;go_simp)⟩)
 have HB:=Lib.hid (Below.refl (W.heap.size) W)
 obtain⟨q6_0,q6_1,q6_2,q6_3,q6_4,q6_5,q6_6⟩:=(HC _ HB.out).out
 have r6_0:=Nat.lt_of_lt_of_le (show w.heap.size<W.heap.size by have:=HWs.out;omega) HB.out.size
 have r6_1:=Nat.lt_of_lt_of_le (show w.heap.size+1<W.heap.size by have:=HWs.out;omega) HB.out.size
 have r6_2:=Nat.lt_of_lt_of_le (show w.heap.size+1+1<W.heap.size by have:=HWs.out;omega) HB.out.size
 have HP0:=Lib.hid (show W.rowIs (w.heap.size+1+1) 65 3 (plF (0,0,0)) from by
  have:=World.rowIs_alloc ((w.alloc (.cells #[.slice va vn vc, .slice ea en ec] 30)).alloc (.cells #[.int .i64 q.x, .int .i64 q.y] 51)) #[.int .i64 0, .int .i64 0, .int .i64 0] 65 (plF (0,0,0)) (fun i hi=>by rcases i with _|_|_|i<;>first|rfl|(simp at hi;omega))
  rw[hW] at this
  simpa using this)
 clear hW
 refine((HRT _ HW.out).out).mono ?_
 rintro e w1 ⟨rfl,hb7⟩
 have HB:=Lib.hid (below_next (below_next HB.out (Nat.le_trans HBW.out HB.out.size) (by repeat (first|exact Below.refl _ _|refine below_alloc ?_))) (by first|exact(Nat.le_trans HBW.out HB.out.size)|(simp;done)|(have h1:=HBW.out;have h2:=HB.out.size;simp;omega)) hb7)
 clear q6_0 q6_1 q6_2 q6_3 q6_4 q6_5 q6_6 r6_0 r6_1 r6_2
 obtain⟨q7_0,q7_1,q7_2,q7_3,q7_4,q7_5,q7_6⟩:=(HC _ HB.out).out
 clear hb7
 have r7_0:=Nat.lt_of_lt_of_le (show w.heap.size<W.heap.size by have:=HWs.out;omega) HB.out.size
 have r7_1:=Nat.lt_of_lt_of_le (show w.heap.size+1<W.heap.size by have:=HWs.out;omega) HB.out.size
 have r7_2:=Nat.lt_of_lt_of_le (show w.heap.size+1+1<W.heap.size by have:=HWs.out;omega) HB.out.size
 go_wp2_with fail
 refine((HIN _).out).mono ?_
 rintro e w2 ⟨rfl,hb8⟩
 have HB:=Lib.hid (below_next (below_next HB.out (Nat.le_trans HBW.out HB.out.size) (by repeat (first|exact Below.refl _ _|refine below_alloc ?_))) (by first|exact(Nat.le_trans HBW.out HB.out.size)|(simp;done)|(have h1:=HBW.out;have h2:=HB.out.size;simp;omega)) hb8)
 clear q7_0 q7_1 q7_2 q7_3 q7_4 q7_5 q7_6 r7_0 r7_1 r7_2
 obtain⟨q8_0,q8_1,q8_2,q8_3,q8_4,q8_5,q8_6⟩:=(HC _ HB.out).out
 clear hb8
 have r8_0:=Nat.lt_of_lt_of_le (show w.heap.size<W.heap.size by have:=HWs.out;omega) HB.out.size
 have r8_1:=Nat.lt_of_lt_of_le (show w.heap.size+1<W.heap.size by have:=HWs.out;omega) HB.out.size
 have r8_2:=Nat.lt_of_lt_of_le (show w.heap.size+1+1<W.heap.size by have:=HWs.out;omega) HB.out.size
 go_wp2_with fail
 clear q8_0 q8_1 q8_2 q8_3 q8_4 q8_5 q8_6 r8_0 r8_1 r8_2
 go_loopw [28] (fun i wr=> ∃k:Nat,k≤vn∧i= .int .i64 k∧(∀y∈p.vs.take k,decide (y.at_=q)=false)∧Below W.heap.size W wr) (fun i _=>vn - (intOf i).toNat)
 case atStart=>exact⟨0,Nat.zero_le _,rfl,fun y hy=>by simp at hy,HB.out⟩
 case round=>
  clear HB
  obtain⟨k,hk,rfl,hno,hb⟩:=hrel
  have HB:=Lib.hid hb
  have HNO:=Lib.hid hno
  clear hb hno
  obtain⟨q9_0,q9_1,q9_2,q9_3,q9_4,q9_5,q9_6⟩:=(HC _ HB.out).out
  have r9_0:=Nat.lt_of_lt_of_le (show w.heap.size<W.heap.size by have:=HWs.out;omega) HB.out.size
  have r9_1:=Nat.lt_of_lt_of_le (show w.heap.size+1<W.heap.size by have:=HWs.out;omega) HB.out.size
  have r9_2:=Nat.lt_of_lt_of_le (show w.heap.size+1+1<W.heap.size by have:=HWs.out;omega) HB.out.size
  have HX:=Lib.hid (HW.out.trans (HB.out.mono HW.out.size))
  by_cases hlt:k<vn
  ·obtain⟨vb,off,v,rfl,hvb,hx,e0,e1,e2⟩:=(HVI _ HX.out).out.at_ hlt
   have hvw:vb<wr.heap.size:=by have:=HX.out.size;omega
   have HXX:=Lib.hid hx
   clear hx
   cases hpt:decide (v.at_=q)
   ·have r1:=eq_pt_f hpt
    have HPT:=Lib.hid hpt
    have HB2:=Lib.hid (HB.out.alloc HB.out.size (.cells #[.int .i64 v.id, .int .i64 v.at_.x, .int .i64 v.at_.y] 53))
    go_wp2_with fail
    go_roundw
    case rel=>
     refine⟨k+1,by omega,by go_num,fun y hy=> ?_,HB2.out⟩
     rw[take_snoc' HXX.out] at hy
     rcases List.mem_append.1 hy with hy|hy
     ·exact HNO.out y hy
     ·simp at hy;subst hy;exact HPT.out
    case measure=>simp[intOf];omega
   ·have r1:=eq_pt_t hpt
    have HF:=Lib.hid (show findP p q=fun k=>(v.id,0,0) from by
     funext k
     unfold findP fndV
     rw[find_hit HNO.out HXX.out hpt])
    have HP1:=Lib.hid (rowIs_touch HP0.out (Touch.of_below (F:=[]) HB.out) (by simp))
    have HB2:=Lib.hid (HB.out.alloc HB.out.size (.cells #[.int .i64 v.id, .int .i64 v.at_.x, .int .i64 v.at_.y] 53))
    have HP2:=Lib.hid (World.rowIs.alloc HP1.out (.cells #[.int .i64 v.id, .int .i64 v.at_.x, .int .i64 v.at_.y] 53))
    have f0:=fun i=>World.rowIs.frozen HP1.out i
    have hlp:=World.rowIs.lt HP1.out
    go_wp2_with fail
    refine bodyPost_ret_by (res_place (x:=(v.id,(0:Int),(0:Int))) Try.results27 rfl (World.rowIs.alloc (World.rowIs.congr (World.rowIs.set (World.rowIs.set (World.rowIs.set HP1.out 0 _) 1 _) 2 _) (fun i hi=>by rcases i with _|_|_|i<;>first|rfl|exact absurd hi (by omega))) _)) rfl ?_
    have hbz:=fun o:Obj=>below_alloc (o:=o) ((((HW.out.trans (HB.out.mono HW.out.size)).setCell (p:=⟨w.heap.size+1+1,0,none⟩) (by show _≤w.heap.size+1+1;omega) (.int .i64 (v.id,(0:Int),(0:Int)).1)).setCell (p:=⟨w.heap.size+1+1,1,none⟩) (by show _≤w.heap.size+1+1;omega) (.int .i64 (v.id,(0:Int),(0:Int)).2.1)).setCell (p:=⟨w.heap.size+1+1,2,none⟩) (by show _≤w.heap.size+1+1;omega) (.int .i64 (v.id,(0:Int),(0:Int)).2.2))
    exact⟨_,HG0.out.1,HG0.out.2,by rw[HF.out];rfl,hbz _⟩
  ·obtain rfl:k=vn:=by omega
   have HFV:=Lib.hid (show fndV p q=none from by
    unfold fndV
    rw[List.find?_eq_none]
    intro y hy h
    have:=HNO.out y (by rw[HVL.out,List.take_length];exact hy)
    rw[this] at h
    cases h)
   clear HNO hlt hk HX
   go_wp2_with fail
   clear q9_0 q9_1 q9_2 q9_3 q9_4 q9_5 q9_6 r9_0 r9_1 r9_2
   go_loopw [43] (fun i wr=> ∃j:Nat,j≤en∧i= .int .i64 j∧(∀y∈p.es.take j,onB q (endsP p ⟨y.id,false⟩).1 (endsP p ⟨y.id,false⟩).2=false)∧Below W.heap.size W wr) (fun i _=>en - (intOf i).toNat)
   case atStart=>exact⟨0,Nat.zero_le _,rfl,fun y hy=>by simp at hy,HB.out⟩
   case round=>
    clear HB
    obtain⟨j,hj,rfl,hno,hb⟩:=hrel
    have HB:=Lib.hid hb
    have HNO:=Lib.hid hno
    clear hb hno
    obtain⟨q10_0,q10_1,q10_2,q10_3,q10_4,q10_5,q10_6⟩:=(HC _ HB.out).out
    have r10_0:=Nat.lt_of_lt_of_le (show w.heap.size<W.heap.size by have:=HWs.out;omega) HB.out.size
    have r10_1:=Nat.lt_of_lt_of_le (show w.heap.size+1<W.heap.size by have:=HWs.out;omega) HB.out.size
    have r10_2:=Nat.lt_of_lt_of_le (show w.heap.size+1+1<W.heap.size by have:=HWs.out;omega) HB.out.size
    have HX:=Lib.hid (HW.out.trans (HB.out.mono HW.out.size))
    by_cases hlj:j<en
    ·obtain⟨eb,eoff,e,rfl,heb,hx,e0,e1,e2⟩:=(HEI _ HX.out).out.at_ hlj
     have hew:eb<wr.heap.size:=by have:=HX.out.size;omega
     have HXX:=Lib.hid hx
     have HE2:=fun(W1:World) (hb:Below wr.heap.size wr W1)=>HEN W1 (below_step hb HX.out) ⟨e.id,false⟩
     obtain⟨⟨⟨ax,ay⟩,⟨bx,by_⟩⟩,hep⟩: ∃x,x=endsP p ⟨e.id,false⟩:=⟨_,rfl⟩
     have HEP:=Lib.hid hep
     rw[←hep] at HE2
     simp only[ptV] at HE2
     clear hx hep
     go_wp2_with fail
     refine(HE2 _ (below_alloc (Below.refl _ _))).out.mono ?_
     rintro x w3 ⟨rfl,hb3⟩
     have HB3:=Lib.hid (below_step hb3 (below_alloc (Below.refl wr.heap.size wr)))
     have HRE:=Lib.hid (rowIs_touch (World.rowIs_alloc wr #[.int .i64 e.id, .int .i64 e.a, .int .i64 e.b] 63 (edF e) (fun i hi=>by rcases i with _|_|_|i<;>first|rfl|(simp at hi;omega))) (Touch.of_below (F:=[]) hb3) (by simp))
     have HBW:=Lib.hid (HB.out.trans (HB3.out.mono HB.out.size))
     obtain⟨d0,d1,d2,d3,d4,d5,d6⟩:=(HC _ HBW.out).out
     have hws:=HWs.out
     have hwz:=HBW.out.size
     have hl9:w.heap.size+1<w3.heap.size:=by omega
     have hl8:w.heap.size<w3.heap.size:=by omega
     clear hb3 e0 e1 e2 d0 d1 d4 d5 d6
     go_wp2_with fail
     refine(on_any q ⟨ax,ay⟩ ⟨bx,by_⟩ _).mono ?_
     rintro x w4 ⟨rfl,hb4⟩
     have HB4:=Lib.hid (HBW.out.trans ((below_step hb4 (below_alloc (below_alloc (Below.refl w3.heap.size w3)))).mono HBW.out.size))
     have HR4:=Lib.hid (rowIs_touch HRE.out (Touch.of_below (F:=[]) (below_step hb4 (below_alloc (below_alloc (Below.refl w3.heap.size w3))))) (by simp))
     clear hb4 d2 d3
     have HEQ:=Lib.hid (show onB q (endsP p ⟨e.id,false⟩).1 (endsP p ⟨e.id,false⟩).2=onB q ⟨ax,ay⟩ ⟨bx,by_⟩ from by rw[←HEP.out])
     cases hon:onB q ⟨ax,ay⟩ ⟨bx,by_⟩
     ·have HON:=Lib.hid hon
      clear hon
      go_wp2_with fail
      go_roundw
      case rel=>
       refine⟨j+1,by omega,by go_num,fun y hy=> ?_,HB4.out⟩
       rw[take_snoc' HXX.out] at hy
       rcases List.mem_append.1 hy with hy|hy
       ·exact HNO.out y hy
       ·simp at hy;subst hy;rw[HEQ.out];exact HON.out
      case measure=>simp[intOf];omega
     ·have HF:=Lib.hid (show findP p q=fun k=>(0,e.id,0) from by
       funext k
       unfold findP fndE
       rw[HFV.out,find_hit HNO.out HXX.out (by rw[HEQ.out];exact hon)])
      clear hon
      have HP1:=Lib.hid (rowIs_touch HP0.out (Touch.of_below (F:=[]) HB4.out) (by simp))
      have f0:=fun i=>World.rowIs.frozen HP1.out i
      have hlp:=World.rowIs.lt HP1.out
      have p0:=World.rowIs.cell HP1.out (i:=0) (by decide)
      have p1:=World.rowIs.cell HP1.out (i:=1) (by decide)
      have p2:=World.rowIs.cell HP1.out (i:=2) (by decide)
      have g0:w4.cell? ⟨wr.heap.size,0,none⟩=some (.int .i64 e.id):=World.rowIs.cell HR4.out (i:=0) (by show 0<3;decide)
      go_wp2_with fail
      refine bodyPost_ret_by (res_place (x:=((0:Int),e.id,(0:Int))) Try.results27 rfl (World.rowIs.congr (World.rowIs.set (World.rowIs.set (World.rowIs.set HP1.out 0 _) 1 _) 2 _) (fun i hi=>by rcases i with _|_|_|i<;>first|rfl|exact absurd hi (by omega)))) rfl ?_
      have hbz:=(((HW.out.trans (HB4.out.mono HW.out.size)).setCell (p:=⟨w.heap.size+1+1,0,none⟩) (by show _≤w.heap.size+1+1;omega) (.int .i64 ((0:Int),e.id,(0:Int)).1)).setCell (p:=⟨w.heap.size+1+1,1,none⟩) (by show _≤w.heap.size+1+1;omega) (.int .i64 ((0:Int),e.id,(0:Int)).2.1)).setCell (p:=⟨w.heap.size+1+1,2,none⟩) (by show _≤w.heap.size+1+1;omega) (.int .i64 ((0:Int),e.id,(0:Int)).2.2)
      exact⟨_,HG0.out.1,HG0.out.2,by rw[HF.out];rfl,hbz⟩
    ·obtain rfl:j=en:=by omega
     have HFE:=Lib.hid (show fndE p q=none from by
      unfold fndE
      rw[List.find?_eq_none]
      intro y hy h
      have:=HNO.out y (by rw[HEL.out,List.take_length];exact hy)
      rw[this] at h
      cases h)
     clear HNO hlj hj
     go_wp2_with fail
     refine(HRS _ HX.out).out.mono ?_
     rintro x w5 ⟨g,a,n,c,ra,rn,rc,rfl,h1,h2, -,h4,hb5⟩
     have HB5:=Lib.hid (HB.out.trans (hb5.mono HB.out.size))
     have HG1:=Lib.hid h1
     have HG2:=Lib.hid h2
     have HOU:=Lib.hid h4
     obtain⟨d0,d1,d2,d3,d4,d5,d6⟩:=(HC _ HB5.out).out
     have hws:=HWs.out
     have hwz:=HB5.out.size
     have hl9:w.heap.size+1<w5.heap.size:=by omega
     clear hb5 h1 h2 h4 d0 d1 d4 d5 d6
     go_wp2_with fail
     refine(raround_any (q:=q) HOU.out (Nat.le_refl _) (HR.out.ous_ok g) HQ.out (by have h1:=HOU.out.1;rw[List.length_map] at h1;unfold orsP at h1;rw[List.length_map] at h1;have h3:=HR.out.outs_few;omega)).mono ?_
     rintro x w6 ⟨rfl,hb6⟩
     have HB6:=Lib.hid (HB5.out.trans (hb6.mono HB5.out.size))
     clear hb6 d2 d3
     have HBD:=Lib.hid (around_bd ((orsP p).map (ouOf g)) q 0)
     have HLN:=Lib.hid (show((orsP p).map (ouOf g)).length≤2048 from by have h3:=HR.out.outs_few;rw[List.length_map];unfold orsP;rw[List.length_map];omega)
     have HFF:=Lib.hid (show findP p q (1+aroundP ((orsP p).map (ouOf g)) q 0)=(0,0,1+aroundP ((orsP p).map (ouOf g)) q 0) from by unfold findP;rw[HFV.out,HFE.out])
     generalize hQe:aroundP ((orsP p).map (ouOf g)) q 0=Q at*
     have HQE:=Lib.hid hQe
     clear hQe
     have hQ:IntKind.i64.wrap (1+Q)=1+Q:=by
      have h1:=HBD.out
      have h2:=HLN.out
      exact IntWalk.i64_in _ (by omega)
     have HP1:=Lib.hid (rowIs_touch HP0.out (Touch.of_below (F:=[]) HB6.out) (by simp))
     have f0:=fun i=>World.rowIs.frozen HP1.out i
     have hlp:=World.rowIs.lt HP1.out
     have p0:=World.rowIs.cell HP1.out (i:=0) (by decide)
     have p1:=World.rowIs.cell HP1.out (i:=1) (by decide)
     have p2:=World.rowIs.cell HP1.out (i:=2) (by decide)
     go_wp2_with fail
     refine bodyPost_ret_by (res_place (x:=((0:Int),(0:Int),(1+Q))) Try.results27 rfl (World.rowIs.congr (World.rowIs.set (World.rowIs.set (World.rowIs.set HP1.out 0 _) 1 _) 2 _) (fun i hi=>by rcases i with _|_|_|i<;>first|rfl|exact absurd hi (by omega)))) rfl ?_
     have hbz:=(((HW.out.trans (HB6.out.mono HW.out.size)).setCell (p:=⟨w.heap.size+1+1,0,none⟩) (by show _≤w.heap.size+1+1;omega) (.int .i64 ((0:Int),(0:Int),(1+Q)).1)).setCell (p:=⟨w.heap.size+1+1,1,none⟩) (by show _≤w.heap.size+1+1;omega) (.int .i64 ((0:Int),(0:Int),(1+Q)).2.1)).setCell (p:=⟨w.heap.size+1+1,2,none⟩) (by show _≤w.heap.size+1+1;omega) (.int .i64 ((0:Int),(0:Int),(1+Q)).2.2)
     exact⟨g,HG1.out,HG2.out,by rw[HQE.out,HFF.out];rfl,hbz⟩
end Go.Proofs.Ythopjhifepijiaa
