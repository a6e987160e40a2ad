/- Lemmas on the way to the statement. -/
import Derived.Test.YthopjhifepijiaaJ12
set_option linter.unusedSimpArgs false
set_option linter.unusedVariables false
namespace Go.Proofs.Ythopjhifepijiaa
def badV (vs:List Vx) (k:Nat) (v:Vx):Bool:=(decide (v.id<1)||(decide (0<k)&&decide (v.id≤pid vs k)))|| !inB v.at_
def badE (vs:List Vx) (es:List Ed) (k:Nat) (e:Ed):Bool:=(((decide (e.id<1)||(decide (0<k)&&decide (e.id≤eid es k)))||decide (e.a=e.b))|| !hasV vs e.a)|| !hasV vs e.b
def badW (vs:List Vx) (es:List Ed) (k:Nat) (e:Ed):Bool:=((es.take k).any (linkB e.a e.b)||vs.any fun v=>onB v.at_ (findV vs e.a).at_ (findV vs e.b).at_)||(es.take k).any fun f=>meetB (findV vs e.a).at_ (findV vs e.b).at_ (findV vs f.a).at_ (findV vs f.b).at_
theorem hasV_iff {vs:List Vx} {id:Int}:hasV vs id=true↔ ∃q,ptOf vs id=some q:=by
 unfold hasV ptOf isV
 cases h:vs.find? (fun v=>v.id==id) with
 |none=>simp
 |some v=>simp
theorem findV_ptOf {vs:List Vx} {id:Int} {q:Pt} (h:ptOf vs id=some q):(findV vs id).at_=q:=by
 unfold ptOf at h
 unfold findV isV
 cases hx:vs.find? (fun v=>v.id==id) with
 |none=>rw[hx] at h;cases h
 |some v=>rw[hx] at h;simpa using h
theorem findV_ptZ (vs:List Vx) (id:Int):(findV vs id).at_=ptZ vs id:=by
 unfold findV ptZ ptOf isV
 cases hx:vs.find? (fun v=>v.id==id) with
 |none=>rfl
 |some v=>rfl
theorem link_ends {a b:Int} {e f:Ed} (ha:e.a=a) (hb:e.b=b):linkB a b f=true↔ends f=ends e:=by
 subst ha hb
 unfold linkB ends
 simp only[Bool.or_eq_true,Bool.and_eq_true,decide_eq_true_eq,Prod.mk.injEq]
 omega
section
variable {p:PL}
theorem pid_nn {vs:List Vx} {k:Nat} (h: ∀i v,i<k→vs[i]? =some v→VOk vs i v) (hk:k≤vs.length):0≤pid vs k:=by
 induction k with
 |zero=>exact Int.le_refl _
 |succ k ih=>
  have hx:=List.getElem?_eq_getElem (l:=vs) (i:=k) (by omega)
  have h1:=(h k _ (by omega) hx).rise
  have h2:=ih (fun i v hi hv=>h i v (by omega) hv) (by omega)
  show 0≤((vs[k]?).map (·.id)).getD 0
  rw[hx]
  show 0≤(vs[k]).id
  omega
theorem eid_nn {vs:List Vx} {es:List Ed} {k:Nat} (h: ∀i e,i<k→es[i]? =some e→ ∃A B,EOk vs es i e A B) (hk:k≤es.length):0≤eid es k:=by
 induction k with
 |zero=>exact Int.le_refl _
 |succ k ih=>
  have hx:=List.getElem?_eq_getElem (l:=es) (i:=k) (by omega)
  obtain⟨A,B,h0⟩:=h k _ (by omega) hx
  have h1:=h0.rise
  have h2:=ih (fun i v hi hv=>h i v (by omega) hv) (by omega)
  show 0≤((es[k]?).map (·.id)).getD 0
  rw[hx]
  show 0≤(es[k]).id
  omega
theorem badV_no {k:Nat} {v:Vx} (hv:p.vs[k]? =some v) (h:badV p.vs k v=true):rightR p=false:=by
 rw[Bool.eq_false_iff,ne_eq,rightR_iff]
 intro r
 have h1:=r.v k v hv
 have h2:=pid_nn (vs:=p.vs) (k:=k) (fun i v _ hv=>r.v i v hv) (Nat.le_of_lt (List.getElem?_eq_some_iff.1 hv).1)
 have h3:=h1.rise
 unfold badV at h
 rw[h1.inr] at h
 simp only[Bool.not_true,Bool.or_false,Bool.or_eq_true,Bool.and_eq_true,decide_eq_true_eq] at h
 omega
theorem met_no {k j:Nat} {u v:Vx} (hv:p.vs[k]? =some v) (hu:p.vs[j]? =some u) (hj:j<k) (h:u.at_=v.at_):rightR p=false:=by
 rw[Bool.eq_false_iff,ne_eq,rightR_iff]
 intro r
 exact(r.v k v hv).ne j u hj hu h
theorem badV_ok {k:Nat} {v:Vx} (h:badV p.vs k v=false) (hne: ∀j u,j<k→p.vs[j]? =some u→u.at_≠v.at_):VOk p.vs k v:=by
 unfold badV at h
 simp only[Bool.or_eq_false_iff,Bool.and_eq_false_iff,decide_eq_false_iff_not,Bool.not_eq_false'] at h
 obtain⟨⟨h1,h2⟩,h3⟩:=h
 refine⟨?_,by simpa using h3,hne⟩
 rcases Nat.eq_zero_or_pos k with rfl|hk
 ·show(0:Int)<v.id
  omega
 ·omega
theorem badE_no {k:Nat} {e:Ed} (he:p.es[k]? =some e) (h:badE p.vs p.es k e=true):rightR p=false:=by
 rw[Bool.eq_false_iff,ne_eq,rightR_iff]
 intro r
 obtain⟨A,B,h1⟩:=r.e k e he
 have h2:=eid_nn (vs:=p.vs) (es:=p.es) (k:=k) (fun i v _ hv=>r.e i v hv) (Nat.le_of_lt (List.getElem?_eq_some_iff.1 he).1)
 have h3:=h1.rise
 unfold badE at h
 rw[hasV_iff.2 ⟨A,h1.pa⟩,hasV_iff.2 ⟨B,h1.pb⟩] at h
 simp only[Bool.not_true,Bool.or_false,Bool.or_eq_true,Bool.and_eq_true,decide_eq_true_eq] at h
 have h4:=h1.ab
 omega
theorem badW_no {k:Nat} {e:Ed} (he:p.es[k]? =some e) (h:badW p.vs p.es k e=true):rightR p=false:=by
 rw[Bool.eq_false_iff,ne_eq,rightR_iff]
 intro r
 obtain⟨A,B,h1⟩:=r.e k e he
 unfold badW at h
 rw[findV_ptOf h1.pa,findV_ptOf h1.pb] at h
 simp only[Bool.or_eq_true,List.any_eq_true] at h
 rcases h with (⟨f,hf,hl⟩|⟨v,hv,ho⟩)|⟨f,hf,hm⟩
 ·obtain⟨j,hj⟩:=List.mem_iff_getElem?.1 hf
  rw[List.getElem?_take] at hj
  split at hj
  ·exact h1.pair j f ‹_› hj ((link_ends rfl rfl).1 hl)
  ·cases hj
 ·rw[h1.way v hv] at ho;cases ho
 ·obtain⟨j,hj⟩:=List.mem_iff_getElem?.1 hf
  rw[List.getElem?_take] at hj
  split at hj
  ·have:=h1.cross j f ‹_› hj
   rw[findV_ptZ,findV_ptZ,this] at hm
   cases hm
  ·cases hj
theorem badE_has {vs:List Vx} {es:List Ed} {k:Nat} {e:Ed} (h:badE vs es k e=false):hasV vs e.a=true∧hasV vs e.b=true∧e.a≠e.b:=by
 unfold badE at h
 simp only[Bool.or_eq_false_iff,decide_eq_false_iff_not,Bool.not_eq_false'] at h
 exact⟨h.1.2,h.2,h.1.1.2⟩
theorem badE_ok {k:Nat} {e:Ed} (h:badE p.vs p.es k e=false) (hw:badW p.vs p.es k e=false): ∃A B,EOk p.vs p.es k e A B:=by
 obtain⟨ha,hb,hab⟩:=badE_has h
 obtain⟨A,hA⟩:=hasV_iff.1 ha
 obtain⟨B,hB⟩:=hasV_iff.1 hb
 unfold badE at h
 simp only[Bool.or_eq_false_iff,Bool.and_eq_false_iff,decide_eq_false_iff_not,Bool.not_eq_false'] at h
 obtain⟨⟨⟨⟨h1,h2⟩, -⟩, -⟩, -⟩:=h
 unfold badW at hw
 rw[findV_ptOf hA,findV_ptOf hB] at hw
 simp only[Bool.or_eq_false_iff,List.any_eq_false] at hw
 obtain⟨⟨w1,w2⟩,w3⟩:=hw
 refine⟨A,B, ?_,hA,hB,hab,fun j f hj hf he=> ?_,fun v hv=>by simpa using w2 v hv,fun j f hj hf=> ?_⟩
 ·rcases Nat.eq_zero_or_pos k with rfl|hk
  ·show(0:Int)<e.id
   omega
  ·omega
 ·exact w1 f (List.mem_of_getElem? (i:=j) (by rw[List.getElem?_take,if_pos hj];exact hf)) ((link_ends rfl rfl).2 he)
 ·have:=w3 f (List.mem_of_getElem? (i:=j) (by rw[List.getElem?_take,if_pos hj];exact hf))
  rw[findV_ptZ,findV_ptZ] at this
  simpa using this
theorem EdIn.of {vs:List Vx} (hv: ∀i v,vs[i]? =some v→VOk vs i v) {e:Ed} (ha:hasV vs e.a=true) (hb:hasV vs e.b=true) (hab:e.a≠e.b):EdIn vs e:=by
 have look: ∀ {id:Int},hasV vs id=true→ ∃i,vs[i]? =some (findV vs id)∧(findV vs id).id=id:=fun {id} h=>by
  obtain⟨hp, -⟩:=placeV_at h
  refine⟨_,hp, ?_⟩
  unfold hasV at h
  obtain⟨v,hv⟩:=Option.isSome_iff_exists.1 h
  have:=List.find?_some hv
  unfold findV
  rw[hv]
  simpa[isV] using this
 obtain⟨i,hi,ei⟩:=look ha
 obtain⟨j,hj,ej⟩:=look hb
 refine⟨ha,hb,(hv i _ hi).inr,(hv j _ hj).inr,fun h=> ?_⟩
 rcases Nat.lt_trichotomy i j with hl|hl|hl
 ·exact(hv j _ hj).ne i _ hl hi h
 ·subst hl
  rw[hi] at hj
  injection hj with hj
  exact hab (by rw[←ei, ←ej,hj])
 ·exact(hv i _ hi).ne j _ hl hj h.symm
theorem size_no (h:512<p.vs.length∨1024<p.es.length):rightR p=false:=by
 rw[Bool.eq_false_iff,ne_eq,rightR_iff]
 intro r
 have:=r.nv
 have:=r.ne
 omega
end
end Go.Proofs.Ythopjhifepijiaa
namespace Go.Proofs.Ythopjhifepijiaa
open Go.RowKit Go.Joins
theorem gf_at (g:Hf→Option Int) (e:ER) (b:Bool):gf1 g e 2 ⟨e.id,b⟩=some (rowF e b):=by
 unfold gf1 updT rowF
 cases b<;>simp
theorem gf_keep: ∀(l:List ER) (g:Hf→Option Int) (h:Hf),(∀u∈l,u.id≠h.edge)→l.foldl (fun g e=>gf1 g e 2) g h=g h
 | [],g,h,_=>rfl
 |u::l,g,h,k=>by
  rw[List.foldl_cons,gf_keep l _ h (fun v hv=>k v (by simp[hv]))]
  have hne:=k u (by simp)
  have n: ∀b, ¬h=⟨u.id,b⟩:=fun b e=>hne (by rw[e])
  unfold gf1 updT
  simp[n]
theorem gf_get: ∀(l:List ER) (g:Hf→Option Int),(l.map edOf).Pairwise (fun u v=>u.id≠v.id)→ ∀ {e:ER},e∈l→ ∀b,l.foldl (fun g e=>gf1 g e 2) g ⟨e.id,b⟩=some (rowF e b)
 | [],g,_,e,h,_=>by cases h
 |u::l,g,hn,e,h,b=>by
  rw[List.map_cons,List.pairwise_cons] at hn
  rw[List.foldl_cons]
  rcases List.mem_cons.1 h with rfl|h
  ·rw[gf_keep l _ ⟨e.id,b⟩ (fun v hv=>(hn.1 (edOf v) (List.mem_map_of_mem hv)).symm),gf_at]
  ·exact gf_get l _ hn.2 h b
theorem gfM_get {l:List ER} (hn:(l.map edOf).Pairwise (fun u v=>u.id≠v.id)) {e:ER} (he:e∈l) (b:Bool):gfM l ⟨e.id,b⟩=some (rowF e b):=gf_get l _ hn he b
theorem set_same {α:Type}: ∀ {l:List α} {i:Nat} {x:α},l[i]? =some x→l.set i x=l
 |y::l,0,x,h=>by simp at h;subst h;rfl
 |y::l,i+1,x,h=>by rw[List.set_cons_succ,set_same (l:=l) (by simpa using h)]
theorem pOf_set {vs:List VR} {es:List ER} {i:Nat} {x x':ER} (hx:es[i]? =some x) (h:edOf x'=edOf x):pOf vs (es.set i x')=pOf vs es:=by
 unfold pOf
 rw[List.map_set,h,set_same (by rw[List.getElem?_map,hx];rfl)]
theorem mem_put {α:Type} {l:List α} {i:Nat} {x x':α} (hx:l[i]? =some x):x'∈l.set i x':=by
 have:=(List.getElem?_eq_some_iff.1 hx).1
 exact List.mem_iff_getElem.2 ⟨i,by simpa using this,by simp⟩
theorem mem_turn {α:Type} {l:List α} {i:Nat} {x' y:α} (h:y∈l.set i x'):y=x'∨y∈l:=(List.mem_or_eq_of_mem_set h).symm
def TurnK (x x':ER):Prop:=(edOf x'=edOf x∧x'.f0=x.f0∧x'.f1=x.f1)∨(∃z,fitI z∧(x'= { x with f0:=z }∨x'= { x with f1:=z }))∨x'= { x with a:=x.b }∨x'= { x with id:=0 }
section
variable {vs:List VR} {es:List ER} {fs:List FR} {i:Nat} {x x':ER}
theorem turned_fit (f:FitT vs es fs) (hx:es[i]? =some x) (k:TurnK x x'):FitT vs (es.set i x') fs:=by
 have hm:=List.mem_of_getElem? hx
 have h1:=f.pl.es (edOf x) (List.mem_map_of_mem hm)
 have h2:=f.e x hm
 have h3:(fitI (edOf x').id∧fitI (edOf x').a∧fitI (edOf x').b)∧fitI x'.f0∧fitI x'.f1:=by
  rcases k with ⟨e1,e2,e3⟩|⟨z,ht,rfl|rfl⟩|rfl|rfl
  ·rw[e1,e2,e3];exact⟨h1,h2⟩
  ·exact⟨h1,ht,h2.2⟩
  ·exact⟨h1,h2.1,ht⟩
  ·exact⟨⟨h1.1,h1.2.2,h1.2.2⟩,h2⟩
  ·exact⟨⟨(⟨by decide,by decide⟩:fitI 0),h1.2⟩,h2⟩
 refine⟨⟨f.pl.vs,fun e he=> ?_⟩,f.v,fun e he=> ?_,f.f⟩
 ·obtain⟨y,hy,rfl⟩:=List.mem_map.1 he
  rcases mem_turn hy with rfl|hy
  ·exact h3.1
  ·exact f.pl.es _ (List.mem_map_of_mem hy)
 ·rcases mem_turn he with rfl|he
  ·exact h3.2
  ·exact f.e e he
theorem turned_link (hln: ∀e∈es, ∀b,LinkOk (pOf vs es) e b) (hx:es[i]? =some x) (he:edOf x'=edOf x) (h0:x'.f0=x.f0) (h1:x'.f1=x.f1) (s:Sound vs (es.set i x') fs):x'=x:=by
 have h2:=s.ln x' (mem_put hx)
 rw[pOf_set hx he] at h2
 have h3:=hln x (List.mem_of_getElem? hx)
 have e1:x'.id=x.id:=congrArg Ed.id he
 have e2:x'.a=x.a:=congrArg Ed.a he
 have e3:x'.b=x.b:=congrArg Ed.b he
 have n: ∀b,rowN x' b=rowN x b∧rowP x' b=rowP x b:=fun b=>by
  obtain⟨a1,a2⟩:=h2 b
  obtain⟨b1,b2⟩:=h3 b
  rw[e1] at a1 a2
  exact⟨a1.trans b1.symm,a2.trans b2.symm⟩
 obtain⟨n0,p0⟩:=n false
 obtain⟨n1,p1⟩:=n true
 unfold rowN at n0 n1
 unfold rowP at p0 p1
 simp at n0 n1 p0 p1
 cases x
 cases x'
 simp_all
theorem turned_face' (r:RightP (pOf vs es)) (hfc: ∃g:Hf→Option Int,(∀e∈es, ∀b,rowF e b=(g ⟨e.id,b⟩).getD 0)∧FaceK (pOf vs es) g (parts18 (pOf vs es)).length) (hx:es[i]? =some x) (he:edOf x'=edOf x) (c:Bool) (hc:rowF x' (!c)=rowF x (!c)) (hn:rowF x' c≠rowF x c): ¬Sound vs (es.set i x') fs:=fun s=>by
 obtain⟨g,hg,hk⟩:=hfc
 have hm:=List.mem_of_getElem? hx
 have hap:=r.es_apart
 have e1:x'.id=x.id:=congrArg Ed.id he
 have hap':((es.set i x').map edOf).Pairwise (fun u v=>u.id≠v.id):=by
  have h1:(pOf vs (es.set i x')).es.Pairwise (fun u v=>u.id≠v.id):=by rw[pOf_set hx he];exact hap
  exact h1
 have hh:(⟨x.id,c⟩:Hf)∈halvesE (pOf vs es).es:=mem_half_row hm c
 have hone:OneFace (parts18 (pOf vs es)) (fun h=>(gfM (es.set i x') h).getD 0):=fun y hy=>by
  have h1:=s.one y (by rw[pOf_set hx he];exact hy)
  obtain⟨id,h1⟩:=h1
  unfold oneB at h1
  rw[Bool.and_eq_true] at h1
  refine⟨id,fun h hh=> ?_⟩
  have:=List.all_eq_true.1 h1.1 h hh
  simpa using this
 have hold:OneFace (parts18 (pOf vs es)) (fun h=>if h=⟨x.id,c⟩ then(g h).getD 0 else(gfM (es.set i x') h).getD 0):=fun y hy=>by
  obtain⟨j,hj⟩:=List.mem_iff_getElem?.1 hy
  refine⟨(j:Int),fun h hh=> ?_⟩
  have h0:=hk j y (List.getElem?_eq_some_iff.1 hj).1 hj h hh
  by_cases e:h=⟨x.id,c⟩
  ·simp only[if_pos e,h0,Option.getD_some]
  ·simp only[if_neg e]
   have hin:h∈halvesE (pOf vs es).es:=((r.realms_all (pieceR (pOf vs es)) (-1)).2 h).1 (List.mem_flatMap.2 ⟨y,hy,hh⟩)
   obtain⟨u,hu,hid⟩:=mem_halves.1 hin
   obtain⟨z,hz,rfl⟩:=List.mem_map.1 hu
   obtain⟨ed,bk⟩:=h
   have hid:z.id=ed:=hid
   subst hid
   have hrow:rowF z bk=(j:Int):=by rw[hg z hz bk,h0];rfl
   by_cases ez:z.id=x.id
   ·have hb:bk= !c:=by
     cases bk<;>cases c<;>simp_all
    have hzx:z=x:=by
     obtain⟨m,hm'⟩:=List.mem_iff_getElem?.1 hz
     have l1:=(List.getElem?_eq_some_iff.1 hm').1
     have l2:=(List.getElem?_eq_some_iff.1 hx).1
     by_cases em:m=i
     ·subst em;rw[hx] at hm';cases hm';rfl
     ·exfalso
      have hp:=List.pairwise_iff_getElem.1 hap
      have q1:(pOf vs es).es[m]'(by unfold pOf;simpa using l1)=edOf z:=by unfold pOf;simp[List.getElem?_eq_some_iff.1 hm' |>.2]
      have q2:(pOf vs es).es[i]'(by unfold pOf;simpa using l2)=edOf x:=by unfold pOf;simp[List.getElem?_eq_some_iff.1 hx |>.2]
      rcases Nat.lt_or_gt_of_ne em with k|k
      ·have:=hp m i (by unfold pOf;simpa using l1) (by unfold pOf;simpa using l2) k
       rw[q1,q2] at this
       exact this ez
      ·have:=hp i m (by unfold pOf;simpa using l2) (by unfold pOf;simpa using l1) k
       rw[q1,q2] at this
       exact this ez.symm
    subst hzx
    have:=gfM_get hap' (mem_put (x':=x') hx) bk
    rw[e1] at this
    rw[this,hb,Option.getD_some,hc, ←hb,hrow]
   ·obtain⟨m,hm'⟩:=List.mem_iff_getElem?.1 hz
    have hmi:m≠i:=fun h=>ez (by subst h;rw[hx] at hm';cases hm';rfl)
    have hz':z∈es.set i x':=List.mem_iff_getElem?.2 ⟨m,by rw[List.getElem?_set_ne (Ne.symm hmi)];exact hm'⟩
    rw[gfM_get hap' hz' bk,Option.getD_some,hrow]
 refine r.turned_face (pieceR (pOf vs es)) (-1) hh (fun h hne=> ?_) ?_ hold hone
 ·simp only[if_neg hne]
 ·have:=gfM_get hap' (mem_put (x':=x') hx) c
  rw[e1] at this
  simp only[if_pos,this,Option.getD_some]
  rw[←hg x hm c]
  exact hn
theorem turned_bad (r:RightP (pOf vs es)) (hln: ∀e∈es, ∀b,LinkOk (pOf vs es) e b) (hfc: ∃g:Hf→Option Int,(∀e∈es, ∀b,rowF e b=(g ⟨e.id,b⟩).getD 0)∧FaceK (pOf vs es) g (parts18 (pOf vs es)).length) (hx:es[i]? =some x) (k:TurnK x x') (hn:x'≠x): ¬Sound vs (es.set i x') fs:=fun s=>by
 have hi:=(List.getElem?_eq_some_iff.1 hx).1
 have hget:(pOf vs (es.set i x')).es[i]? =some (edOf x'):=by
  unfold pOf
  rw[List.map_set,List.getElem?_set_self (by simpa using hi)]
 rcases k with ⟨e1,e2,e3⟩|⟨z,ht,rfl|rfl⟩|rfl|rfl
 ·exact hn (turned_link hln hx e1 e2 e3 s)
 ·refine turned_face' r hfc hx (x':= { x with f0:=z }) rfl false rfl (fun h=>hn ?_) s
  have h:z=x.f0:=h
  rw[h]
 ·refine turned_face' r hfc hx (x':= { x with f1:=z }) rfl true rfl (fun h=>hn ?_) s
  have h:z=x.f1:=h
  rw[h]
 ·obtain⟨A,B,h⟩:=s.r.e i _ hget
  exact h.ab rfl
 ·obtain⟨A,B,h⟩:=s.r.e i _ hget
  have h1:=h.rise
  have h2:=eid_nn (vs:=(pOf vs (es.set i { x with id:=0 })).vs) (es:=(pOf vs (es.set i { x with id:=0 })).es) (k:=i) (fun i v _ hv=>s.r.e i v hv) (Nat.le_of_lt (List.getElem?_eq_some_iff.1 hget).1)
  have h3:(edOf { x with id:=0 }).id=0:=rfl
  omega
end
end Go.Proofs.Ythopjhifepijiaa
namespace Go.Proofs.Ythopjhifepijiaa
open Go.RowKit Go.Joins
def wipe (F:List Nat) (w:World):World:= { w with heap:=w.heap.mapIdx fun i o=>if i∈F then .map #[] 0 else o }
theorem wipe_size (F:List Nat) (w:World):(wipe F w).heap.size=w.heap.size:=by simp[wipe]
theorem wipe_touch (F:List Nat) (w:World):Touch F w (wipe F w):=⟨rfl,rfl,rfl,by rw[wipe_size];exact Nat.le_refl _,fun b hb hF=>by simp[wipe,Array.getElem?_mapIdx,hF]⟩
theorem wipe_next {F:List Nat} {w w':World} (h:Touch F w w'):Touch F (wipe F w) w':=⟨h.1,h.2.1,h.2.2.1,by rw[wipe_size];exact h.size,fun b hb hF=>by
 rw[wipe_size] at hb
 rw[h.block hb hF]
 simp[wipe,Array.getElem?_mapIdx,hF]⟩
theorem wipe_cell {F:List Nat} {w:World}: ∀b∈F, ∀j,(wipe F w).cell? ⟨b,j,none⟩=none:=fun b hb j=>by
 simp only[World.cell?,wipe,Array.getElem?_mapIdx,hb,if_true]
 cases w.heap[b]? <;>rfl
theorem RlKp.part {lo n k:Nat} {w:World} {a:Option Addr} {l:List RM} {F:List Nat} (h:RlKp lo w a n l) (hF: ∀b∈F,b<lo) (hk:k<n): ∃b off x oa oc ia ic la lc,a=some ⟨b,off,none⟩∧b<w.heap.size∧l[k]? =some x∧RmAtC (wipe F w) w.heap.size b (off+k*3) x oa oc ia ic la lc:=by
 have h1:=h F _ (wipe_touch F w) hF
 rw[wipe_size] at h1
 exact h1.at_ hk
theorem RmAtC.wiped {w w':World} {F:List Nat} {b o:Nat} {r:RM} {oa ia la:Option Addr} {oc ic lc:Nat} (h:RmAtC (wipe F w) w.heap.size b o r oa oc ia ic la lc) (t:Touch F w w') (hb:b<w.heap.size):RmAtC w' w.heap.size b o r oa oc ia ic la lc:=h.beside (wipe_next t) wipe_cell (by rw[wipe_size];exact Nat.le_refl _) hb
def HdK (F:List Nat) (w3 wn:World) (g M:Nat) (L:List (List Hf)):Prop:=M=L.length∧ ∀(i:Nat) (R:List Hf),L[i]? =some R→ ∃a' c, ∀w',Touch F wn w'→w'.cell? ⟨g,i,none⟩=some (.slice a' R.length c)∧HsIn w' w3.heap.size a' R.length R
theorem hdK_own {F:List Nat} {w3 wn:World} {g M cap:Nat} {t:TypeId} {L:List (List Hf)} {Z:List Value} (h:wn.ownsRow w3.heap.size t 1 (.slice (some ⟨g,0,none⟩) M cap) M Z) (hF: ∀b∈F,b<w3.heap.size) (ht:Touch F w3 wn) (hn:M=L.length)
  (hs: ∀(i:Nat) (R:List Hf),L[i]? =some R→ ∃a' c,Z[i]? =some (.slice a' R.length c)∧HsIn (wipe F w3) w3.heap.size a' R.length R):HdK F w3 wn g M L:=by
 refine⟨hn,fun i R hR=> ?_⟩
 obtain⟨a',c,h1,h2⟩:=hs i R hR
 refine⟨a',c,fun w' t'=>⟨?_,h2.beside (wipe_next (ht.trans t' (fun b hb=> .inl hb))) wipe_cell (by rw[wipe_size];exact Nat.le_refl _)⟩⟩
 have hg:=h.lt g rfl
 have hc:=(addr_add0 g i)▸h.cells (g:=g) rfl (j:=i) (u:= .slice a' R.length c) h1
 exact(t'.cell (p:=⟨g,i,none⟩) hg.2 (fun hm=>by have:=hF g hm;omega)).trans hc
def tdF (lv le lf:Int) (V E F:Value):Nat→Value
 |0=> .int .i64 lv
 |1=> .int .i64 le
 |2=> .int .i64 lf
 |3=>V
 |4=>E
 |_=>F
def reF (a b c:Value):Nat→Value
 |0=>a
 |1=>b
 |_=>c
structure DT (w3 wr:World) (F:List Nat) (tt:Nat) (lv le lf:Int) (V E Fv:Value) (vs:List VR) (es:List ER) (n:Nat):Prop where
 tb:wr.rowIs tt 73 6 (tdF lv le lf V E Fv)
 rv:wr.ownsRow w3.heap.size 141 4 V vs.length (vs.flatMap vrC)
 re:wr.ownsRow w3.heap.size 81 13 E es.length (es.flatMap erC)
 rf:wr.ownsRow w3.heap.size 83 2 Fv n ((facesK n).flatMap frC)
 tch:Touch F w3 wr
section
variable {w3 wr wx w8:World} {F:List Nat} {tt n:Nat} {lv le lf:Int} {V E Fv X:Value} {vs:List VR} {es:List ER}
theorem DT.cell (h:DT w3 wr F tt lv le lf V E Fv vs es n):wr.cell? ⟨tt,0,none⟩=some (.int .i64 lv)∧wr.cell? ⟨tt,1,none⟩=some (.int .i64 le)∧wr.cell? ⟨tt,2,none⟩=some (.int .i64 lf)∧wr.cell? ⟨tt,3,none⟩=some V∧wr.cell? ⟨tt,4,none⟩=some E∧wr.cell? ⟨tt,5,none⟩=some Fv:=
 ⟨World.rowIs.cell h.tb (i:=0) (by decide),World.rowIs.cell h.tb (i:=1) (by decide),World.rowIs.cell h.tb (i:=2) (by decide),World.rowIs.cell h.tb (i:=3) (by decide),World.rowIs.cell h.tb (i:=4) (by decide),World.rowIs.cell h.tb (i:=5) (by decide)⟩
theorem DT.touch {G:List Nat} {w':World} (h:DT w3 wr F tt lv le lf V E Fv vs es n) (t:Touch G wr w') (hG: ∀b∈G,(b∈F∧b≠tt∧b<w3.heap.size)∨wr.heap.size≤b):DT w3 w' F tt lv le lf V E Fv vs es n:=by
 have ho: ∀ {e:TypeId} {s m:Nat} {v:Value} {xs:List Value},wr.ownsRow w3.heap.size e s v m xs→w'.ownsRow w3.heap.size e s v m xs:=fun h1=>ownsRow_touch h1 t (fun g hg hm=>by
  have h2:=h1.lt g hg
  rcases hG g hm with ⟨-, -,h3⟩|h3<;>omega)
 exact⟨rowIs_touch h.tb t (fun hm=>by
  have:=World.rowIs.lt h.tb
  rcases hG tt hm with ⟨-,h3, -⟩|h3
  ·exact h3 rfl
  ·omega),ho h.rv,ho h.re,ho h.rf,h.tch.trans t (fun b hb=>(hG b hb).elim (fun h=> .inl h.1) (fun h2=> .inr (Nat.le_trans h.tch.size h2)))⟩
theorem DT.below {w':World} (h:DT w3 wr F tt lv le lf V E Fv vs es n) (hb:Below wr.heap.size wr w'):DT w3 w' F tt lv le lf V E Fv vs es n:=h.touch (Touch.of_below (F:=[]) hb) (by simp)
theorem DT.set (h:DT w3 wr F tt lv le lf V E Fv vs es n) (hF:tt∈F) (ht:tt<w3.heap.size) (i:Nat) (x:Value):(wr.setCell ⟨tt,i,none⟩ x).rowIs tt 73 6 (fun j=>if j=i then x else tdF lv le lf V E Fv j)∧(wr.setCell ⟨tt,i,none⟩ x).ownsRow w3.heap.size 141 4 V vs.length (vs.flatMap vrC)∧(wr.setCell ⟨tt,i,none⟩ x).ownsRow w3.heap.size 81 13 E es.length (es.flatMap erC)∧(wr.setCell ⟨tt,i,none⟩ x).ownsRow w3.heap.size 83 2 Fv n ((facesK n).flatMap frC)∧Touch F w3 (wr.setCell ⟨tt,i,none⟩ x)∧Touch [tt] wr (wr.setCell ⟨tt,i,none⟩ x):=by
 have t:Touch [tt] wr (wr.setCell ⟨tt,i,none⟩ x):=(Touch.refl _ _).setCell (.inl (by simp)) _
 have ho: ∀ {e:TypeId} {s m:Nat} {v:Value} {xs:List Value},wr.ownsRow w3.heap.size e s v m xs→(wr.setCell ⟨tt,i,none⟩ x).ownsRow w3.heap.size e s v m xs:=fun h1=>ownsRow_touch h1 t (fun g hg hm=>by
  have h2:=h1.lt g hg
  simp at hm
  omega)
 exact⟨World.rowIs.set h.tb i x,ho h.rv,ho h.re,ho h.rf,h.tch.setCell (.inl hF) _,t⟩
theorem DT.set0 (h:DT w3 wr F tt lv le lf V E Fv vs es n) (hF:tt∈F) (ht:tt<w3.heap.size) (x:Int):DT w3 (wr.setCell ⟨tt,0,none⟩ (.int .i64 x)) F tt x le lf V E Fv vs es n:=by
 obtain⟨h1,h2,h3,h4,h5, -⟩:=h.set hF ht 0 (.int .i64 x)
 exact⟨World.rowIs.congr h1 (fun i hi=>by rcases i with _|_|_|_|_|_|i<;>first|rfl|omega),h2,h3,h4,h5⟩
theorem DT.set1 (h:DT w3 wr F tt lv le lf V E Fv vs es n) (hF:tt∈F) (ht:tt<w3.heap.size) (x:Int):DT w3 (wr.setCell ⟨tt,1,none⟩ (.int .i64 x)) F tt lv x lf V E Fv vs es n:=by
 obtain⟨h1,h2,h3,h4,h5, -⟩:=h.set hF ht 1 (.int .i64 x)
 exact⟨World.rowIs.congr h1 (fun i hi=>by rcases i with _|_|_|_|_|_|i<;>first|rfl|omega),h2,h3,h4,h5⟩
theorem DT.set2 (h:DT w3 wr F tt lv le lf V E Fv vs es n) (hF:tt∈F) (ht:tt<w3.heap.size) (x:Int):DT w3 (wr.setCell ⟨tt,2,none⟩ (.int .i64 x)) F tt lv le x V E Fv vs es n:=by
 obtain⟨h1,h2,h3,h4,h5, -⟩:=h.set hF ht 2 (.int .i64 x)
 exact⟨World.rowIs.congr h1 (fun i hi=>by rcases i with _|_|_|_|_|_|i<;>first|rfl|omega),h2,h3,h4,h5⟩
theorem DT.grow (h:DT w3 wr F tt lv le lf V E Fv vs es n) (hF:tt∈F) (ht:tt<w3.heap.size) (hb:Below wr.heap.size wr wx) {e:TypeId} {s m:Nat} {xs:List Value} (ho:wr.ownsRow w3.heap.size e s X m xs) (hgr:wx.grownBy w8 X.ownBlock) (i:Nat) (x:Value):
  w8.rowIs tt 73 6 (tdF lv le lf V E Fv)∧(∀ {e':TypeId} {s m:Nat} {v:Value} {xs:List Value},wr.ownsRow w3.heap.size e' s v m xs→e'≠e→(w8.setCell ⟨tt,i,none⟩ x).ownsRow w3.heap.size e' s v m xs)∧Touch F w3 (w8.setCell ⟨tt,i,none⟩ x)∧Touch (tt::X.ownBlock.toList) wx (w8.setCell ⟨tt,i,none⟩ x)∧(∀b∈tt::X.ownBlock.toList,b=tt∨(w3.heap.size≤b∧b<wr.heap.size))∧Touch [tt] w8 (w8.setCell ⟨tt,i,none⟩ x):=by
 have hX: ∀b∈X.ownBlock.toList,w3.heap.size≤b∧b<wr.heap.size:=fun b hb=>ho.lt b (Option.mem_toList.1 hb)
 have t1:=Touch.of_below (F:=[]) hb
 have t2:=Touch.of_grown hgr
 have t3:Touch [tt] w8 (w8.setCell ⟨tt,i,none⟩ x):=(Touch.refl _ _).setCell (.inl (by simp)) _
 refine⟨rowIs_touch (rowIs_touch h.tb t1 (by simp)) t2 (fun hm=>by have:=hX tt hm;omega),fun h1 hne=>ownsRow_touch (ownsRow_touch (ownsRow_touch h1 t1 (by simp)) t2 (fun g hg hm=>own_apart h1 ho hne hg (Option.mem_toList.1 hm))) t3 (fun g hg hm=>by have:=h1.lt g hg;simp at hm;omega), ?_, ?_, ?_,t3⟩
 ·exact((h.tch.trans t1 (by simp)).trans t2 (fun b hb=> .inr (hX b hb).1)).setCell (.inl hF) _
 ·exact(t2.mono (G:=tt::X.ownBlock.toList) (fun b hb=> .inl (by simp[hb]))).setCell (.inl (by simp)) _
 ·intro b hb
  rcases List.mem_cons.1 hb with rfl|hb
  ·exact .inl rfl
  ·exact .inr (hX b hb)
theorem DT.addF {Y:Value} (h:DT w3 wr F tt lv le lf V E Fv vs es n) (hF:tt∈F) (ht:tt<w3.heap.size) (hb:Below wr.heap.size wr wx) (hown:w8.ownsRow w3.heap.size 83 2 Y (n+1) ((facesK n).flatMap frC++[.int .i64 (n:Int), .int .i64 0])) (hgr:wx.grownBy w8 Fv.ownBlock):
  w8.rowIs tt 73 6 (tdF lv le lf V E Fv)∧DT w3 (w8.setCell ⟨tt,5,none⟩ Y) F tt lv le lf V E Y vs es (n+1)∧ ∃G,Touch G wx (w8.setCell ⟨tt,5,none⟩ Y)∧ ∀b∈G,b=tt∨(w3.heap.size≤b∧b<wr.heap.size):=by
 obtain⟨h1,h2,h3,h4,h5,h6⟩:=h.grow hF ht hb h.rf hgr 5 Y
 refine⟨h1,⟨World.rowIs.congr (World.rowIs.set h1 5 Y) (fun i hi=>by rcases i with _|_|_|_|_|_|i<;>first|rfl|omega),h2 h.rv (by decide),h2 h.re (by decide), ?_,h3⟩,_,h4,h5⟩
 rw[facesK_snoc,List.flatMap_append]
 exact ownsRow_touch hown h6 (fun g hg hm=>by have:=hown.lt g hg;simp at hm;omega)
theorem DT.addV {Y:Value} {v:VR} (h:DT w3 wr F tt lv le lf V E Fv vs es n) (hF:tt∈F) (ht:tt<w3.heap.size) (hb:Below wr.heap.size wr wx) (hown:w8.ownsRow w3.heap.size 141 4 Y (vs.length+1) (vs.flatMap vrC++vrC v)) (hgr:wx.grownBy w8 V.ownBlock):
  w8.rowIs tt 73 6 (tdF lv le lf V E Fv)∧DT w3 (w8.setCell ⟨tt,3,none⟩ Y) F tt lv le lf Y E Fv (vs++[v]) es n∧ ∃G,Touch G wx (w8.setCell ⟨tt,3,none⟩ Y)∧ ∀b∈G,b=tt∨(w3.heap.size≤b∧b<wr.heap.size):=by
 obtain⟨h1,h2,h3,h4,h5,h6⟩:=h.grow hF ht hb h.rv hgr 3 Y
 refine⟨h1,⟨World.rowIs.congr (World.rowIs.set h1 3 Y) (fun i hi=>by rcases i with _|_|_|_|_|_|i<;>first|rfl|omega), ?_,h2 h.re (by decide),h2 h.rf (by decide),h3⟩,_,h4,h5⟩
 rw[List.flatMap_append,List.length_append,show [v].flatMap vrC=vrC v by simp]
 exact ownsRow_touch hown h6 (fun g hg hm=>by have:=hown.lt g hg;simp at hm;omega)
theorem DT.addE {Y:Value} {v:ER} (h:DT w3 wr F tt lv le lf V E Fv vs es n) (hF:tt∈F) (ht:tt<w3.heap.size) (hb:Below wr.heap.size wr wx) (hown:w8.ownsRow w3.heap.size 81 13 Y (es.length+1) (es.flatMap erC++erC v)) (hgr:wx.grownBy w8 E.ownBlock):
  w8.rowIs tt 73 6 (tdF lv le lf V E Fv)∧DT w3 (w8.setCell ⟨tt,4,none⟩ Y) F tt lv le lf V Y Fv vs (es++[v]) n∧ ∃G,Touch G wx (w8.setCell ⟨tt,4,none⟩ Y)∧ ∀b∈G,b=tt∨(w3.heap.size≤b∧b<wr.heap.size):=by
 obtain⟨h1,h2,h3,h4,h5,h6⟩:=h.grow hF ht hb h.re hgr 4 Y
 refine⟨h1,⟨World.rowIs.congr (World.rowIs.set h1 4 Y) (fun i hi=>by rcases i with _|_|_|_|_|_|i<;>first|rfl|omega),h2 h.rv (by decide), ?_,h2 h.rf (by decide),h3⟩,_,h4,h5⟩
 rw[List.flatMap_append,List.length_append,show [v].flatMap erC=erC v by simp]
 exact ownsRow_touch hown h6 (fun g hg hm=>by have:=hown.lt g hg;simp at hm;omega)
end
structure D0 (p:PL) (w3 wr:World) (fm am tt k n:Nat) (S:List Hf) (N Na:Nat) (lf:Int) (Fv:Value):Prop where
 dt:DT w3 wr [fm,am,tt] tt 0 0 lf (.slice none 0 0) (.slice none 0 0) Fv [] [] n
 mf: ∃g,MapT wr Try.prog 45 fm N ekH ekI g∧FaceK p g k∧(∀z∈S,g z=some (k:Int))∧ ∀z v,g z=some v→fitI v
 ma: ∃g,MapT wr Try.prog 3 am Na ekI ekI g∧ ∀z v,g z=some v→fitI v
section
variable {p:PL} {w3 wr wx:World} {fm am tt k n N Na:Nat} {S:List Hf} {lf:Int} {Fv:Value}
theorem updT_fit {α:Type} [DecidableEq α] {g:α→Option Int} {y:α} {x:Int} (h: ∀z v,g z=some v→fitI v) (hx:fitI x): ∀z v,updT g y x z=some v→fitI v:=fun z v hv=>by
 unfold updT at hv
 split at hv
 ·cases hv;exact hx
 ·exact h z v hv
theorem D0.below {w':World} (h:D0 p w3 wr fm am tt k n S N Na lf Fv) (hb:Below wr.heap.size wr w'):D0 p w3 w' fm am tt k n S N Na lf Fv:=by
 obtain⟨g,h1,h2⟩:=h.mf
 obtain⟨g2,h3,h4⟩:=h.ma
 exact⟨h.dt.below hb,⟨g,h1.below hb,h2⟩,⟨g2,h3.below hb,h4⟩⟩
theorem D0.half {w':World} {x:RM} {z:Hf} {g:Hf→Option Int} (h:D0 p w3 wr fm am tt k n S N Na lf Fv) (r:RightP p) (hx:(parts18 p)[k]? =some x) (hz:z∈hOf x) (hk:k≤5000) (hl:fm<w3.heap.size∧fm≠am∧fm≠tt) (ht:Touch [fm] wr w') (hg:FaceK p g k∧(∀z∈S,g z=some (k:Int))∧ ∀z v,g z=some v→fitI v) (hm:MapT w' Try.prog 45 fm (N+1) ekH ekI (updT g z (k:Int))):D0 p w3 w' fm am tt k n (S++[z]) (N+1) Na lf Fv:=by
 obtain⟨g2,h4,h6⟩:=h.ma
 exact⟨h.dt.touch ht (by simp;omega),⟨_,hm,hg.1.put r hx hz,put_mem hg.2.1,updT_fit hg.2.2 ⟨by omega,by omega⟩⟩,⟨g2,h4.touch ht (by simp;omega),h6⟩⟩
theorem D0.lone {w':World} {z:Int} {g:Int→Option Int} (h:D0 p w3 wr fm am tt k n S N Na lf Fv) (hk:k≤5000) (hl:am<w3.heap.size∧fm≠am∧am≠tt) (ht:Touch [am] wr w') (hg: ∀z v,g z=some v→fitI v) (hm:MapT w' Try.prog 3 am (Na+1) ekI ekI (updT g z (k:Int))):D0 p w3 w' fm am tt k n S N (Na+1) lf Fv:=by
 obtain⟨g1,h1,h2⟩:=h.mf
 exact⟨h.dt.touch ht (by simp;omega),⟨g1,h1.touch ht (by simp;omega),h2⟩,⟨_,hm,updT_fit hg ⟨by omega,by omega⟩⟩⟩
theorem D0.next {x:RM} {N2 Na2:Nat} (h:D0 p w3 wr fm am tt k n (hOf x) N Na lf Fv) (hx:(parts18 p)[k]? =some x) (hN:N≤N2) (hNa:Na≤Na2):D0 p w3 wr fm am tt (k+1) n [] N2 Na2 lf Fv:=by
 obtain⟨g,h1,h2,h3,h5⟩:=h.mf
 obtain⟨g2,h4,h6⟩:=h.ma
 exact⟨h.dt,⟨g,h1.mono hN,h2.next hx h3,by simp,h5⟩,⟨g2,h4.mono hNa,h6⟩⟩
theorem D0.more {N2 Na2:Nat} (h:D0 p w3 wr fm am tt k n S N Na lf Fv) (hN:N≤N2) (hNa:Na≤Na2):D0 p w3 wr fm am tt k n S N2 Na2 lf Fv:=by
 obtain⟨g,h1,h2⟩:=h.mf
 obtain⟨g2,h3,h4⟩:=h.ma
 exact⟨h.dt,⟨g,h1.mono hN,h2⟩,⟨g2,h3.mono hNa,h4⟩⟩
theorem D0.face {w8:World} {Y:Value} (h:D0 p w3 wr fm am tt k k S N Na lf Fv) (hl:fm<w3.heap.size∧am<w3.heap.size∧tt<w3.heap.size∧fm≠tt∧am≠tt) (hb:Below wr.heap.size wr wx) (hown:w8.ownsRow w3.heap.size 83 2 Y (k+1) ((facesK k).flatMap frC++[.int .i64 (k:Int), .int .i64 0])) (hgr:wx.grownBy w8 Fv.ownBlock):
  w8.rowIs tt 73 6 (tdF 0 0 lf (.slice none 0 0) (.slice none 0 0) Fv)∧D0 p w3 ((w8.setCell ⟨tt,5,none⟩ Y).setCell ⟨tt,2,none⟩ (.int .i64 (k:Int))) fm am tt k (k+1) S N Na k Y∧ ∃G,Touch G wx ((w8.setCell ⟨tt,5,none⟩ Y).setCell ⟨tt,2,none⟩ (.int .i64 (k:Int)))∧ ∀b∈G,b<wr.heap.size:=by
 obtain⟨h1,h2,G,h3,h4⟩:=h.dt.addF (by simp) hl.2.2.1 hb hown hgr
 have t:Touch [tt] (w8.setCell ⟨tt,5,none⟩ Y) ((w8.setCell ⟨tt,5,none⟩ Y).setCell ⟨tt,2,none⟩ (.int .i64 (k:Int))):=(Touch.refl _ _).setCell (.inl (by simp)) _
 obtain⟨g,m1,m2⟩:=h.mf
 obtain⟨g2,m3,m4⟩:=h.ma
 have hs:=h.dt.tch.size
 have hx:wr.heap.size≤wx.heap.size:=hb.size
 have n1:fm∉G:=fun hm=>by have:=h4 _ hm;omega
 have n2:am∉G:=fun hm=>by have:=h4 _ hm;omega
 refine⟨h1,⟨h2.set2 (by simp) hl.2.2.1 _,⟨g,((m1.below hb).touch h3 n1).touch t (by simp;omega),m2⟩,⟨g2,((m3.below hb).touch h3 n2).touch t (by simp;omega),m4⟩⟩,tt::G,(h3.mono (G:=tt::G) (fun b hb=> .inl (by simp[hb]))).trans t (fun b hb=> .inl (by simp at hb;simp[hb])),fun b hb=> ?_⟩
 rcases List.mem_cons.1 hb with rfl|hb
 ·omega
 ·rcases h4 b hb with rfl|h5<;>omega
end
structure D1 (p:PL) (w3 wr:World) (fm am tt i:Nat) (lv lf:Int) (V Fv:Value) (vs:List VR) (n N Na:Nat) (g:Hf→Option Int) (ga:Int→Option Int):Prop where
 dt:DT w3 wr [fm,am,tt] tt lv 0 lf V (.slice none 0 0) Fv vs [] n
 pl:vs.map vxOf=p.vs.take i
 fv: ∀v∈vs,fitI v.f
 fl:fitI lv
 mf:MapT wr Try.prog 45 fm N ekH ekI g
 ma:MapT wr Try.prog 3 am Na ekI ekI ga
theorem D1.next {p:PL} {w3 wr wx w8:World} {fm am tt i n N Na:Nat} {lv lf:Int} {V Fv Y:Value} {vs:List VR} {g:Hf→Option Int} {ga:Int→Option Int} {v:VR} (h:D1 p w3 wr fm am tt i lv lf V Fv vs n N Na g ga) (hl:fm<w3.heap.size∧am<w3.heap.size∧tt<w3.heap.size∧fm≠tt∧am≠tt) (hv:p.vs[i]? =some (vxOf v)) (hf:fitI v.f) (hid:fitI v.id) (hb:Below wr.heap.size wr wx) (hown:w8.ownsRow w3.heap.size 141 4 Y (vs.length+1) (vs.flatMap vrC++vrC v)) (hgr:wx.grownBy w8 V.ownBlock):
  w8.rowIs tt 73 6 (tdF lv 0 lf V (.slice none 0 0) Fv)∧D1 p w3 ((w8.setCell ⟨tt,3,none⟩ Y).setCell ⟨tt,0,none⟩ (.int .i64 v.id)) fm am tt (i+1) v.id lf Y Fv (vs++[v]) n N Na g ga∧ ∃G,Touch G wx w8∧ ∀b∈G,b<wr.heap.size:=by
 obtain⟨h1,h2,G,h3,h4⟩:=h.dt.addV (by simp) hl.2.2.1 hb hown hgr
 have t:Touch [tt] (w8.setCell ⟨tt,3,none⟩ Y) ((w8.setCell ⟨tt,3,none⟩ Y).setCell ⟨tt,0,none⟩ (.int .i64 v.id)):=(Touch.refl _ _).setCell (.inl (by simp)) _
 have hs:=h.dt.tch.size
 have n1:fm∉G:=fun hm=>by have:=h4 _ hm;omega
 have n2:am∉G:=fun hm=>by have:=h4 _ hm;omega
 refine⟨h1,⟨h2.set0 (by simp) hl.2.2.1 _, ?_,fun u hu=> ?_,hid,((h.mf.below hb).touch h3 n1).touch t (by simp;omega),((h.ma.below hb).touch h3 n2).touch t (by simp;omega)⟩,_,Touch.of_grown hgr,fun b hb=>(h.dt.rv.lt b (Option.mem_toList.1 hb)).2⟩
 ·rw[List.map_append,h.pl,take_snoc' hv]
  rfl
 ·rcases List.mem_append.1 hu with hu|hu
  ·exact h.fv u hu
  ·simp at hu
   subst hu
   exact hf
def erK (p:PL) (g:Hf→Option Int) (e:Ed) (i:Nat):ER:=⟨e.id,e.a,e.b,if 0<i then(nextP p ⟨e.id,false⟩).edge else 0,if 0<i then(nextP p ⟨e.id,false⟩).back else false,if 1<i then(nextP p ⟨e.id,true⟩).edge else 0,if 1<i then(nextP p ⟨e.id,true⟩).back else false,
 if 0<i then(prevP p ⟨e.id,false⟩).edge else 0,if 0<i then(prevP p ⟨e.id,false⟩).back else false,if 1<i then(prevP p ⟨e.id,true⟩).edge else 0,if 1<i then(prevP p ⟨e.id,true⟩).back else false,if 0<i then(g ⟨e.id,false⟩).getD 0 else 0,if 1<i then(g ⟨e.id,true⟩).getD 0 else 0⟩
structure D2 (p:PL) (w3 wr:World) (fm am tt j:Nat) (lv le lf:Int) (V E Fv:Value) (vs:List VR) (es:List ER) (n N:Nat) (g:Hf→Option Int):Prop where
 dt:DT w3 wr [fm,am,tt] tt lv le lf V E Fv vs es n
 pl:es.map edOf=p.es.take j
 ln: ∀e∈es, ∀b,LinkOk p e b
 fc: ∀e∈es, ∀b,rowF e b=(g ⟨e.id,b⟩).getD 0
 fe: ∀e∈es,fitI e.f0∧fitI e.f1
 fl:fitI le
 mf:MapT wr Try.prog 45 fm N ekH ekI g
theorem D2.next {p:PL} {w3 wr wx w8:World} {fm am tt j n N:Nat} {lv le lf:Int} {V E Fv Y:Value} {vs:List VR} {es:List ER} {g:Hf→Option Int} {e:Ed} (h:D2 p w3 wr fm am tt j lv le lf V E Fv vs es n N g) (hl:fm<w3.heap.size∧am<w3.heap.size∧tt<w3.heap.size∧fm≠tt∧am≠tt) (hv:p.es[j]? =some e) (hg: ∀z v,g z=some v→fitI v) (hid:fitI e.id) (hb:Below wr.heap.size wr wx) (hown:w8.ownsRow w3.heap.size 81 13 Y (es.length+1) (es.flatMap erC++erC (erK p g e 2))) (hgr:wx.grownBy w8 E.ownBlock):
  w8.rowIs tt 73 6 (tdF lv le lf V E Fv)∧D2 p w3 ((w8.setCell ⟨tt,4,none⟩ Y).setCell ⟨tt,1,none⟩ (.int .i64 e.id)) fm am tt (j+1) lv e.id lf V Y Fv vs (es++[erK p g e 2]) n N g∧ ∃G,Touch G wx w8∧ ∀b∈G,b<wr.heap.size:=by
 obtain⟨h1,h2,G,h3,h4⟩:=h.dt.addE (by simp) hl.2.2.1 hb hown hgr
 have t:Touch [tt] (w8.setCell ⟨tt,4,none⟩ Y) ((w8.setCell ⟨tt,4,none⟩ Y).setCell ⟨tt,1,none⟩ (.int .i64 e.id)):=(Touch.refl _ _).setCell (.inl (by simp)) _
 have hs:=h.dt.tch.size
 have n1:fm∉G:=fun hm=>by have:=h4 _ hm;omega
 have hf: ∀b,fitI ((g ⟨e.id,b⟩).getD 0):=fun b=>by
  cases hq:g ⟨e.id,b⟩ with
  |none=>exact⟨by decide,by decide⟩
  |some v=>exact hg _ _ hq
 have hm: ∀ {u:ER},u∈es++[erK p g e 2]→u∈es∨u=erK p g e 2:=fun hu=>by simpa using hu
 refine⟨h1,⟨h2.set1 (by simp) hl.2.2.1 _, ?_,fun u hu b=> ?_,fun u hu b=> ?_,fun u hu=> ?_,hid,((h.mf.below hb).touch h3 n1).touch t (by simp;omega)⟩,_,Touch.of_grown hgr,fun b hb=>(h.dt.re.lt b (Option.mem_toList.1 hb)).2⟩
 ·rw[List.map_append,h.pl,take_snoc' hv]
  rfl
 ·rcases hm hu with hu|rfl
  ·exact h.ln u hu b
  ·cases b<;>exact⟨rfl,rfl⟩
 ·rcases hm hu with hu|rfl
  ·exact h.fc u hu b
  ·cases b<;>rfl
 ·rcases hm hu with hu|rfl
  ·exact h.fe u hu
  ·exact⟨hf false,hf true⟩
end Go.Proofs.Ythopjhifepijiaa
namespace Go.Proofs.Ythopjhifepijiaa
open Go.RowKit Go.Joins
set_option maxRecDepth 100000 in
set_option maxHeartbeats 4000000 in
theorem planA_any {w:World} {B vn en vc ec:Nat} {va ea:Option Addr} {vs:List VR} {es:List ER} (hv:VRIn w B va vn vs) (he:ERIn w B ea en es) (hB:B≤w.heap.size) (n1:vn≤1000) (n2:en≤1000) (a b c:Int) (fa:Option Addr) (fn fc:Nat):
  Calls Try.prog 32 #[.agg #[.int .i64 a, .int .i64 b, .int .i64 c, .slice va vn vc, .slice ea en ec, .slice fa fn fc]] w (PvPost w vs es vn en):=by
 have HVI:=Lib.hid hv
 have HEI:=Lib.hid he
 obtain⟨i0,hi,hz0,hz1,hz2⟩:=info_parts Try.infoVx
 obtain⟨j0,hj,hj0,hj1,hj2⟩:=info_parts Try.infoEd
 have HVL:=Lib.hid hv.1
 have HEL:=Lib.hid he.1
 clear hv he
 go_enter Try.func32,Try.ntmps32
 go_wp2_with fail
 first|refine wp_name (fun W hW=> ?_)|refine calls_name (fun W hW=> ?_)
 have HW:Hid (Below w.heap.size w W):=Lib.hid (by rw[←hW];repeat (first|exact Below.refl _ _|refine below_alloc ?_))
 have HWs:Hid (W.heap.size=w.heap.size+1+1+1):=Lib.hid (by rw[←hW];simp)
 have HBW:Hid (w.heap.size+1+1≤W.heap.size):=Lib.hid (by have:=HWs.out;omega)
 have HC:=fun(W1:World) (hb:Below (w.heap.size+1+1) W W1)=>Lib.hid (show W1.cell? ⟨w.heap.size,0,none⟩=some (.int .i64 a)∧W1.cell? ⟨w.heap.size,1,none⟩=some (.int .i64 b)∧W1.cell? ⟨w.heap.size,2,none⟩=some (.int .i64 c)∧W1.cell? ⟨w.heap.size,3,none⟩=some (.slice va vn vc)∧W1.cell? ⟨w.heap.size,4,none⟩=some (.slice ea en ec)∧W1.cell? ⟨w.heap.size,5,none⟩=some (.slice fa fn fc)∧W1.cell? ⟨w.heap.size+1,0,none⟩=some (.slice none 0 0)∧W1.cell? ⟨w.heap.size+1,1,none⟩=some (.slice none 0 0) from by have hs:=HWs.out;refine⟨?_, ?_, ?_, ?_, ?_, ?_, ?_, ?_⟩<;>(refine(hb.cell (by dsimp only;omega)).trans ?_;rw[←hW];clear hW;go_simp))
 have HB:=Lib.hid (Below.refl (w.heap.size+1+1) W)
 have HZ:=fun(W1:World) (hb:W.heap.size≤W1.heap.size)=>Lib.hid (show w.heap.size<W1.heap.size∧w.heap.size+1<W1.heap.size from by have:=HWs.out;refine⟨?_, ?_⟩<;>omega)
 obtain⟨qx0,qx1,qx2,qx3,qx4,qx5,qx6,qx7⟩:=(HC _ HB.out).out
 obtain⟨rx0,rx1⟩:=(HZ _ HB.out.size).out
 have HFZ:=fun(W1:World) (hb:Below (w.heap.size+1+1) W W1)=>Lib.hid (show∀j,W1.frozen? ⟨w.heap.size+1,j,none⟩=false from fun j=>(hb.frozen (p:=⟨w.heap.size+1,j,none⟩) (by show w.heap.size+1<w.heap.size+1+1;omega)).trans (by rw[←hW];clear hW;go_simp))
 have HRT:Hid (W.rowIs (w.heap.size+1+1) 30 2 (pvF (.slice none 0 0) (.slice none 0 0))):=Lib.hid (by
  rw[←hW]
  exact row_alloc_at _ _ _ _ (by simp) rfl (fun i hi=>by
   clear hW
   rcases i with _|_|i<;>first|rfl|(simp at hi;omega)))
 clear hW
 clear qx0 qx1 qx2 qx3 qx4 qx5 qx6 qx7 rx0 rx1
 go_loopw [11] (fun i wr=> ∃(k:Nat) (sv:Value),k≤vn∧i= .int .i64 k∧PvIn 30 w W wr vs es sv (.slice none 0 0) k 0) (fun i _=>vn - (intOf i).toNat)
 case atStart=>exact⟨0,_,Nat.zero_le _,rfl,HRT.out,World.ownsRow_nil _ _ _ _,World.ownsRow_nil _ _ _ _,Below.refl _ _⟩
 case round=>
  clear HRT
  obtain⟨k,sv,hk,rfl,hI⟩:=hrel
  have HI:=Lib.hid hI
  have HB:=Lib.hid hI.below
  obtain⟨o0,o1⟩:=hI.cell
  have ofz:=fun i=>World.rowIs.frozen hI.out i
  clear hI
  obtain⟨qx0,qx1,qx2,qx3,qx4,qx5,qx6,qx7⟩:=(HC _ HB.out).out
  obtain⟨rx0,rx1⟩:=(HZ _ HB.out.size).out
  have g1:w.heap.size+1+1<wr.heap.size:=World.rowIs.lt HI.out.out
  have g2:=Nat.lt_succ_of_lt g1
  have g3:=Nat.lt_succ_of_lt g2
  by_cases hlt:k<vn
  ·have hbw:Below B w wr:=(HW.out.mono hB).trans (HI.out.below.mono (by omega))
   obtain⟨b1,off1,v,rfl,hb1,hv,x0,x1,x2,x3⟩:=(HVI.out.below hbw).at_ hlt
   have HV:=Lib.hid hv
   have hbB:b1<wr.heap.size:=by have:=HW.out.size;have:=HWs.out;omega
   clear hv hbw
   go_wp2_with (at_builtin;refine wpList_append_near _ rfl (.tmp 16) (.tmp 22) 22 rfl W.heap.size 53 i0 (.agg #[.int .i64 0, .int .i64 0, .int .i64 0]) 3 24 Try.underlying22 hi hz0 hz1 hz2 rfl (by decide) sv k ((vs.take k).flatMap vxC) rfl ((HI.out.vs.alloc _).alloc _) ⟨wr.heap.size+1,0,none⟩ 1 1 (vxC v) rfl (by decide) rfl ?c1 ?c2 ?c3 ?c4 ?c5 ?_)
   case c1=>exact cell_list_at _ (vxC v) _ (by simp)
   case c2=>intro u hu;simp[vxC] at hu;rcases hu with rfl|rfl|rfl<;>rfl
   case c3=>unfold maxLen;omega
   case c4=>omega
   case c5=>have:=HI.out.below.size;simp;omega
   intro g cap w5 hown' hgr hnew
   have hb2:Below wr.heap.size wr ((wr.alloc (.cells #[.int .i64 v.id, .int .i64 v.x, .int .i64 v.y, .int .i64 v.f] 141)).alloc (.cells #[.int .i64 v.id, .int .i64 v.x, .int .i64 v.y] 53)):=below_alloc (below_alloc (Below.refl _ _))
   have HN:=Lib.hid (HI.out.nextV HWs.out HV.out hb2 hown' hgr)
   have hrow5:=rowIs_touch (rowIs_touch HI.out.out (Touch.of_below (F:=[]) hb2) (by simp)) (Touch.of_grown hgr) (fun hm=>by have:=(HI.out.vs.lt _ (Option.mem_toList.1 hm)).1;have:=HWs.out;omega)
   have f5:=World.rowIs.frozen hrow5 0
   have p5:=World.rowIs.cell hrow5 (i:=0) (by decide)
   simp only[pvF] at p5
   clear hown' hgr hnew hb2 hrow5 o0 o1 ofz g1 g2 g3 hbB hb1
   clear qx0 qx1 qx2 qx3 qx4 qx5 qx6 qx7 rx0 rx1
   go_wp2_with fail
   go_roundw
   case rel=>exact⟨k+1,_,by omega,by go_num,HN.out⟩
   case measure=>simp[intOf];omega
  ·obtain rfl:vn=k:=by omega
   clear hlt g1 g2 g3 o0 o1 ofz
   go_wp2_with fail
   clear qx0 qx1 qx2 qx3 qx4 qx5 qx6 qx7 rx0 rx1
   obtain⟨wo,rfl⟩: ∃wo:World,wo=wr:=⟨_,rfl⟩
   go_loopw [29] (fun i wr=> ∃(j:Nat) (se:Value),j≤en∧i= .int .i64 j∧PvIn 30 w W wr vs es sv se vn j) (fun i _=>en - (intOf i).toNat)
   case atStart=>exact⟨0,_,Nat.zero_le _,rfl,HI.out⟩
   case round=>
    clear HI HB
    obtain⟨j,se,hj',rfl,hI⟩:=hrel
    have HI:=Lib.hid hI
    have HB:=Lib.hid hI.below
    obtain⟨o0,o1⟩:=hI.cell
    have ofz:=fun i=>World.rowIs.frozen hI.out i
    clear hI
    obtain⟨qx0,qx1,qx2,qx3,qx4,qx5,qx6,qx7⟩:=(HC _ HB.out).out
    obtain⟨rx0,rx1⟩:=(HZ _ HB.out.size).out
    have g1:w.heap.size+1+1<wr.heap.size:=World.rowIs.lt HI.out.out
    have g2:=Nat.lt_succ_of_lt g1
    have g3:=Nat.lt_succ_of_lt g2
    by_cases hlt:j<en
    ·have hbw:Below B w wr:=(HW.out.mono hB).trans (HI.out.below.mono (by omega))
     obtain⟨b1,off1,v,rfl,hb1,hv,x0,x1,x2,x3,x4,x5,x6,x7,x8,x9,x10,x11,x12⟩:=(HEI.out.below hbw).at_ hlt
     have HV:=Lib.hid hv
     have hbB:b1<wr.heap.size:=by have:=HW.out.size;have:=HWs.out;omega
     clear hv hbw
     go_wp2_with (at_builtin;refine wpList_append_near _ rfl (.tmp 34) (.tmp 42) 23 rfl W.heap.size 63 j0 _ 3 24 Try.underlying23 hj hj0 hj1 hj2 rfl (by decide) se j ((es.take j).flatMap edC) rfl ((HI.out.es.alloc _).alloc _) ⟨wr.heap.size+1,0,none⟩ 1 1 (edC v) rfl (by decide) rfl ?d1 ?d2 ?d3 ?d4 ?d5 ?_)
     case d1=>exact cell_list_at _ (edC v) _ (by simp)
     case d2=>intro u hu;simp[edC] at hu;rcases hu with rfl|rfl|rfl<;>rfl
     case d3=>unfold maxLen;omega
     case d4=>omega
     case d5=>have:=HI.out.below.size;simp;omega
     intro g cap w5 hown' hgr hnew
     have hb2:Below wr.heap.size wr ((wr.alloc (.cells (erC v).toArray 81)).alloc (.cells (edC v).toArray 63)):=below_alloc (below_alloc (Below.refl _ _))
     have HN:=Lib.hid (HI.out.nextE HWs.out HV.out hb2 hown' hgr)
     have hrow5:=rowIs_touch (rowIs_touch HI.out.out (Touch.of_below (F:=[]) hb2) (by simp)) (Touch.of_grown hgr) (fun hm=>by have:=(HI.out.es.lt _ (Option.mem_toList.1 hm)).1;have:=HWs.out;omega)
     have f5:=World.rowIs.frozen hrow5 1
     have p5:=World.rowIs.cell hrow5 (i:=1) (by decide)
     simp only[pvF] at p5
     clear hown' hgr hnew hb2 hrow5 o0 o1 ofz g1 g2 g3 hbB hb1 x0 x1 x2 x3 x4 x5 x6 x7 x8 x9 x10 x11 x12
     clear qx0 qx1 qx2 qx3 qx4 qx5 qx6 qx7 rx0 rx1
     go_wp2_with fail
     go_roundw
     case rel=>exact⟨j+1,_,by omega,by go_num,HN.out⟩
     case measure=>simp[intOf];omega
    ·obtain rfl:en=j:=by omega
     clear hlt
     have fz:=(HFZ _ HI.out.below).out
     obtain⟨a1,c1,rfl⟩:=own_form HI.out.vs
     obtain⟨a2,c2,rfl⟩:=own_form HI.out.es
     go_wp2_with fail
     refine bodyPost_ret (v:= .agg #[.slice a1 vn c1, .slice a2 en c2]) (by simp[results,Try.results32,go_sem, *]) rfl ?_
     refine HI.out.finish HVL.out HEL.out HW.out HWs.out ?_
     iterate 2 refine Touch.setCell ?_ (.inl (by simp)) _
     with_reducible exact Touch.refl _ _
end Go.Proofs.Ythopjhifepijiaa
namespace Go.Proofs.Ythopjhifepijiaa
open Go.RowKit
open Go.Maps (Keyed)
def MapN {α β:Type} (w:World) (P:Program) (k:TypeId) (b n:Nat) (ek:α→Value) (ev:β→Value) (g:α→Option β):Prop:=
 ∃D:DataW Value,w.ownsMap P k heldR b n D∧Maps.size D=n∧ ∀x l,keyOf P k (ek x)=some l→Maps.has D l=(g x).isSome∧ ∀z,D.atKey l z=match g x with
  |some u=> .held (ev u)
  |none=>z
variable {α β:Type} {w w':World} {P:Program} {k e t:TypeId} {b n:Nat} {ek:α→Value} {ev:β→Value} {g:α→Option β}
theorem MapN.toT (h:MapN w P k b n ek ev g):MapT w P k b n ek ev g:=h.elim fun D h=>⟨D,h.1,h.2.2⟩
theorem MapN.touch {F:List Nat} (h:MapN w P k b n ek ev g) (ht:Touch F w w') (hb:b∉F):MapN w' P k b n ek ev g:=h.elim fun D h=>⟨D,ownsMap_touch h.1 ht hb,h.2⟩
theorem MapN.alloc (h:MapN w P k b n ek ev g) (o:Obj):MapN (w.alloc o) P k b n ek ev g:=h.elim fun D h=>⟨D,h.1.alloc o,h.2⟩
theorem MapN.below (h:MapN w P k b n ek ev g) (hb:Below w.heap.size w w'):MapN w' P k b n ek ev g:=h.touch (F:=[]) (Touch.of_below hb) (by simp)
theorem MapN.made (w:World) (P:Program) (k:TypeId) (ek:α→Value) (ev:β→Value):MapN (w.alloc (.map #[] 0)) P k w.heap.size 0 ek ev (fun _=>none):=
 ⟨_,World.ownsMap_made _ _ _ _,rfl,fun _ _ _=>⟨rfl,fun _=>rfl⟩⟩
theorem wpList_update_N [DecidableEq α] (w:World) {ops:Array Oper} {rest:List Oper} {o:Oper} {a:Act} {Q:Exit→Act→World→Prop}
  (hg:o.guard=none) (m x v:Operand) (t:TypeId) (hop:o.op=Op.mapUpdate t m x v) (k e:TypeId) (K:Keyed P k) (ht:P.underlying t=some (.map k e)) (b n:Nat) (ek:α→Value) (ev:β→Value) (g:α→Option β)
  (hown:MapN w P k b n ek ev g) (hm:a.eval m= .map (some b)) (hn:n<maxLen) (y:α) (l:Lit) (hx:a.eval x=ek y) (hkey:keyOf P k (ek y)=some l) (hinj: ∀z,ek z=ek y→z=y) (hnew:g y=none) (u:β) (hv:a.eval v=ev u)
  (hK: ∀w',MapN w' P k b (n+1) ek ev (updT g y u)→w.grownBy w' (some b)→wpList P ops Q rest (a.put o.dst undef) w'):
  wpList P ops Q (o::rest) a w:=by
 obtain⟨D,hD,hs,hgx⟩:=hown
 refine wpList_mapUpdate_own w hg m x v t hop k e K ht heldR b n D hm hD hn (ek y) (ev u) l hx hv hkey (.held (ev u)) [] rfl fun w' h1 h2=>hK w' ⟨_,h1, ?_,put_T hD.isMap K hkey hinj u hgx⟩ h2
 have hno:Maps.has D l=false:=by rw[(hgx y l hkey).1,hnew];rfl
 rw[Maps.size_put (hD.tidy K),hno,hs]
 rfl
theorem MapN.len (h:MapN w P k b n ek ev g) (ht:P.underlying t=some (.map k e)) (ty:TypeId):(Builtin.len_ #[t] ty #[.map (some b)]).run P w= .ok (.int .i64 n) w:=by
 obtain⟨D,hD,hs,_⟩:=h
 rw[hD.len ht ty,hs]
end Go.Proofs.Ythopjhifepijiaa
