/- Lemmas on the way to the statement. -/
import Derived.Test.YthopjhifepijiaaJ2
import Derived.Carry
import Derived.Shelf.SlSortCmp.NoneTotal
set_option linter.unusedSimpArgs false
set_option linter.unusedVariables false
namespace Go.Proofs.Ythopjhifepijiaa
structure Hf where
 edge:Int
 back:Bool
deriving DecidableEq,Inhabited
def twinH (h:Hf):Hf:=⟨h.edge, !h.back⟩
theorem twin_twin (h:Hf):twinH (twinH h)=h:=by
 obtain⟨e,b⟩:=h
 simp[twinH]
theorem twin_inj {h g:Hf} (e:twinH h=twinH g):h=g:=by rw[←twin_twin h,e,twin_twin]
def halvesE (es:List Ed):List Hf:=es.flatMap fun e=>[⟨e.id,false⟩,⟨e.id,true⟩]
def edgeOf (es:List Ed) (id:Int):Option Ed:=es.find? fun e=>e.id==id
def fromH (es:List Ed) (h:Hf):Int:=match edgeOf es h.edge with
 |some e=>if h.back=true then e.b else e.a
 |none=>0
def toH (es:List Ed) (h:Hf):Int:=fromH es (twinH h)
def ptH (p:PL) (h:Hf):Pt:=ptZ p.vs (fromH p.es h)
instance (o a b:Pt):Decidable (dirLt o a b):=by unfold dirLt;exact inferInstance
def leavP (es:List Ed) (id:Int):List Hf:=(halvesE es).filter fun h=>fromH es h==id
def leH (p:PL) (id:Int) (x y:Hf):Bool:= !decide (dirLt (ptZ p.vs id) (ptH p (twinH y)) (ptH p (twinH x)))
def outP (p:PL) (id:Int):List Hf:=(leavP p.es id).mergeSort (leH p id)
def nextP (p:PL) (h:Hf):Hf:=(outP p (toH p.es h)).getD (((outP p (toH p.es h)).idxOf (twinH h)+(outP p (toH p.es h)).length - 1) % (outP p (toH p.es h)).length) ⟨0,false⟩
def lineH (p:PL) (h:Hf):Pt × Pt:=(ptH p h,ptH p (twinH h))
section
variable {p:PL}
theorem mem_halves {es:List Ed} {h:Hf}:h∈halvesE es↔ ∃e∈es,e.id=h.edge:=by
 unfold halvesE
 rw[List.mem_flatMap]
 constructor
 ·rintro ⟨e,he,hm⟩
  simp at hm
  rcases hm with rfl|rfl
  ·exact⟨e,he,rfl⟩
  ·exact⟨e,he,rfl⟩
 ·rintro ⟨e,he,hm⟩
  refine⟨e,he, ?_⟩
  obtain⟨i,b⟩:=h
  simp only at hm
  subst hm
  cases b<;>simp
theorem twin_mem {es:List Ed} {h:Hf} (hm:h∈halvesE es):twinH h∈halvesE es:=by
 rw[mem_halves] at hm ⊢
 exact hm
theorem eid_rise {es:List Ed} {vs:List Vx} {k:Nat} (h: ∀i e,i<k→es[i]? =some e→ ∃A B,EOk vs es i e A B): ∀(d j:Nat) (u:Ed),j+d+1≤k→es[j]? =some u→k≤es.length→u.id≤eid es (j+d+1)
 |0,j,u,hk,hu,hl=>by show u.id≤((es[j]?).map (·.id)).getD 0;rw[hu];exact Int.le_refl _
 |d+1,j,u,hk,hu,hl=>by
  have ih:=eid_rise h d j u (by omega) hu hl
  obtain⟨x,hx⟩: ∃x,es[j+d+1]? =some x:=⟨es[j+d+1]'(by omega),List.getElem?_eq_getElem _⟩
  obtain⟨A,B,hab⟩:=h (j+d+1) x (by omega) hx
  have:=hab.rise
  show u.id≤((es[j+d+1]?).map (·.id)).getD 0
  rw[hx]
  show u.id≤x.id
  omega
theorem RightP.es_apart (r:RightP p):p.es.Pairwise (fun u v=>u.id≠v.id):=by
 rw[List.pairwise_iff_getElem]
 intro i j hi hj hij
 obtain⟨A,B,hab⟩:=r.e j _ (List.getElem?_eq_getElem hj)
 have h1:=hab.rise
 have h2:=eid_rise (k:=j) (fun i e hi he=>r.e i e he) (j - 1 - i) i p.es[i] (by omega) (List.getElem?_eq_getElem hi) (by omega)
 rw[show i+(j - 1 - i)+1=j by omega] at h2
 omega
theorem edge_mem {es:List Ed} (hd:es.Pairwise (fun u v=>u.id≠v.id)) {e:Ed} (he:e∈es):edgeOf es e.id=some e:=by
 induction es with
 |nil=>cases he
 |cons u l ih=>
  obtain⟨h1,h2⟩:=List.pairwise_cons.1 hd
  unfold edgeOf
  rw[List.find?_cons]
  by_cases e':u.id=e.id
  ·rw[show(u.id==e.id)=true by simpa using e']
   rcases List.mem_cons.1 he with rfl|he
   ·rfl
   ·exact absurd e' (h1 e he)
  ·rw[show(u.id==e.id)=false by simpa using e']
   rcases List.mem_cons.1 he with rfl|he
   ·exact absurd rfl e'
   ·exact ih h2 he
theorem halves_nd {es:List Ed} (hd:es.Pairwise (fun u v=>u.id≠v.id)):(halvesE es).Nodup:=by
 induction es with
 |nil=>exact List.nodup_nil
 |cons u l ih=>
  obtain⟨h1,h2⟩:=List.pairwise_cons.1 hd
  show([⟨u.id,false⟩,⟨u.id,true⟩]++halvesE l:List Hf).Nodup
  rw[List.nodup_append]
  refine⟨by simp,ih h2,fun a ha b hb e=> ?_⟩
  subst e
  obtain⟨e,he,hh⟩:=mem_halves.1 hb
  simp at ha
  rcases ha with rfl|rfl
  ·exact h1 e he hh.symm
  ·exact h1 e he hh.symm
theorem RightP.ends_of (r:RightP p) {h:Hf} (hm:h∈halvesE p.es): ∃e∈p.es,e.id=h.edge∧fromH p.es h=(if h.back=true then e.b else e.a)∧toH p.es h=(if h.back=true then e.a else e.b):=by
 obtain⟨e,he,hh⟩:=mem_halves.1 hm
 have h1:=edge_mem r.es_apart he
 refine⟨e,he,hh, ?_, ?_⟩
 ·unfold fromH;rw[←hh,h1]
 ·unfold toH fromH twinH
  simp only
  rw[←hh,h1]
  cases h.back<;>simp
theorem mem_leav {es:List Ed} {id:Int} {h:Hf}:h∈leavP es id↔h∈halvesE es∧fromH es h=id:=by
 unfold leavP
 rw[List.mem_filter]
 simp
theorem mem_out {id:Int} {h:Hf}:h∈outP p id↔h∈halvesE p.es∧fromH p.es h=id:=by
 unfold outP
 rw[List.mem_mergeSort,mem_leav]
theorem RightP.out_nd (r:RightP p) (id:Int):(outP p id).Nodup:=by
 unfold outP leavP
 exact(List.mergeSort_perm _ _).nodup_iff.2 ((halves_nd r.es_apart).filter _)
theorem turn_idx {n i:Nat} (hi:i<n):(i+n - 1) % n<n:=Nat.mod_lt _ (by omega)
theorem turn_inj {n i j:Nat} (hi:i<n) (hj:j<n) (h:(i+n - 1) % n=(j+n - 1) % n):i=j:=by
 have key: ∀k,k<n→(k+n - 1) % n=if k=0 then n - 1 else k - 1:=fun k hk=>by
  split
  ·rename_i e;subst e;rw[Nat.zero_add];exact Nat.mod_eq_of_lt (by omega)
  ·rename_i e
   rw[show k+n - 1=(k - 1)+n by omega,Nat.add_mod_right]
   exact Nat.mod_eq_of_lt (by omega)
 rw[key i hi,key j hj] at h
 split at h<;>split at h<;>omega
theorem nodup_idx {α:Type} {l:List α} (hn:l.Nodup) {i j:Nat} (hi:i<l.length) (hj:j<l.length) (e:l[i]=l[j]):i=j:=by
 have h:=List.pairwise_iff_getElem.1 hn
 rcases Nat.lt_trichotomy i j with k|k|k
 ·exact absurd e (h i j hi hj k)
 ·exact k
 ·exact absurd e.symm (h j i hj hi k)
theorem RightP.next_mem (r:RightP p) {h:Hf} (hm:h∈halvesE p.es):nextP p h∈outP p (toH p.es h):=by
 have ht:twinH h∈outP p (toH p.es h):=mem_out.2 ⟨twin_mem hm,rfl⟩
 have hi:=List.idxOf_lt_length_of_mem ht
 unfold nextP
 rw[List.getD_eq_getElem?_getD,List.getElem?_eq_getElem (turn_idx hi)]
 exact List.getElem_mem _
theorem RightP.next_half (r:RightP p) {h:Hf} (hm:h∈halvesE p.es):nextP p h∈halvesE p.es:=(mem_out.1 (r.next_mem hm)).1
theorem RightP.next_from (r:RightP p) {h:Hf} (hm:h∈halvesE p.es):fromH p.es (nextP p h)=toH p.es h:=(mem_out.1 (r.next_mem hm)).2
theorem RightP.next_inj (r:RightP p) {h g:Hf} (hm:h∈halvesE p.es) (gm:g∈halvesE p.es) (e:nextP p h=nextP p g):h=g:=by
 have e1:toH p.es h=toH p.es g:=by rw[←r.next_from hm, ←r.next_from gm,e]
 have ht:twinH h∈outP p (toH p.es h):=mem_out.2 ⟨twin_mem hm,rfl⟩
 have gt:twinH g∈outP p (toH p.es h):=mem_out.2 ⟨twin_mem gm,by rw[e1];rfl⟩
 have hi:=List.idxOf_lt_length_of_mem ht
 have gi:=List.idxOf_lt_length_of_mem gt
 have hn:=r.out_nd (toH p.es h)
 unfold nextP at e
 rw[←e1] at e
 generalize outP p (toH p.es h)=l at*
 rw[List.getD_eq_getElem?_getD,List.getD_eq_getElem?_getD,List.getElem?_eq_getElem (turn_idx hi),List.getElem?_eq_getElem (turn_idx gi)] at e
 have e2:=nodup_idx hn (turn_idx hi) (turn_idx gi) (by simpa using e)
 have e3:=turn_inj hi gi e2
 have h1:=List.getElem_idxOf hi
 have h2:=List.getElem_idxOf gi
 exact twin_inj (by rw[←h1, ←h2];congr 1)
theorem RightP.from_to (r:RightP p) {h:Hf} (hm:h∈halvesE p.es):fromH p.es h≠toH p.es h:=by
 obtain⟨e,he, -,h1,h2⟩:=r.ends_of hm
 obtain⟨i,hi⟩:=List.mem_iff_getElem?.1 he
 obtain⟨A,B,hab⟩:=r.e i e hi
 rw[h1,h2]
 split
 ·exact fun e=>hab.ab e.symm
 ·exact hab.ab
theorem RightP.next_ne (r:RightP p) {h:Hf} (hm:h∈halvesE p.es):nextP p h≠h:=fun e=>by
 have:=r.next_from hm
 rw[e] at this
 exact r.from_to hm this
def ringsP (p:PL):List (List Hf):=ringsF (nextP p) (2*p.es.length+1) (halvesE p.es) []
theorem halves_len (es:List Ed):(halvesE es).length=2*es.length:=by
 induction es with
 |nil=>rfl
 |cons u l ih=>
  show([⟨u.id,false⟩,⟨u.id,true⟩]++halvesE l:List Hf).length=_
  rw[List.length_append,ih]
  simp
  omega
theorem RightP.rings (r:RightP p):(∀L∈ringsP p, ∃h m,Ring (nextP p) (halvesE p.es) m h L)∧(ringsP p).flatten.Nodup∧ ∀h,h∈(ringsP p).flatten↔h∈halvesE p.es:=by
 obtain⟨a,b,c,d⟩:=rings_all (f:=nextP p) (all:=halvesE p.es) (fun x hx=>r.next_half hx) (fun x hx y hy e=>r.next_inj hx hy e) (n:=2*p.es.length+1) (by rw[halves_len];omega) (halvesE p.es) [] (fun x hx=>hx) List.nodup_nil (by simp) (by simp)
 rw[List.nil_append] at b c d
 exact⟨fun L hL=>by
  obtain⟨h,m,r', -⟩:=a L hL
  exact⟨h,m,r'⟩,b,fun h=>⟨fun hm=>d h hm,fun hm=>c h hm⟩⟩
theorem RightP.chain (r:RightP p): ∀ {L:List Hf} {h x:Hf},Link (nextP p) h L x→(∀y∈L,y∈halvesE p.es)→Chain (ptH p h) (L.map (lineH p)) (ptH p x)
 | [],h,x,hl,_=>by
  have hl:x=h:=hl
  subst hl
  rfl
 |y::L,h,x,⟨h1,h2⟩,hm=>by
  subst h1
  have hy:=hm y (by simp)
  refine⟨rfl, ?_⟩
  have:=r.chain h2 (fun z hz=>hm z (by simp[hz]))
  have e:ptH p (nextP p y)=ptH p (twinH y):=by unfold ptH;rw[r.next_from hy];rfl
  rw[e] at this
  exact this
theorem RightP.ring_two (r:RightP p) {m:List Hf} {h:Hf} {L:List Hf} (hr:Ring (nextP p) (halvesE p.es) m h L): ∀y∈L, ∃z∈L,z≠y:=fun y hy=>⟨nextP p y,hr.closed y hy,r.next_ne (hr.mem y hy).1⟩
end
end Go.Proofs.Ythopjhifepijiaa
namespace Go.Proofs.Ythopjhifepijiaa
theorem same_dir {o a b:Pt} (ho:inB o=true) (ha:inB a=true) (hb:inB b=true) (na:a≠o) (nb:b≠o) (hab:a≠b) (hh:halfI o a=halfI o b) (hc:crs o a b=0):onB a o b=true∨onB b o a=true:=by
 have hc2:crs o b a=0:=by rw[show crs o b a= - crs o a b by unfold crs;grind,hc];rfl
 rw[onB_iff ha ho hb,onB_iff hb ho ha,btw_cases,btw_cases]
 simp only[hc,hc2,true_and]
 have e:(a.x - o.x)*(b.y - o.y)=(a.y - o.y)*(b.x - o.x):=by unfold crs at hc;omega
 have s1:=sgn_mul (a.x - o.x) (b.y - o.y)
 have s2:=sgn_mul (a.y - o.y) (b.x - o.x)
 have q:=pt_ne na
 have r:=pt_ne nb
 have s:=pt_ne hab
 have t:a.x=b.x→(a.x - o.x=0∨a.y=b.y):=fun h=>by
  have:(a.x - o.x)*(b.y - a.y)=0:=by rw[←h] at e;grind
  rcases Int.mul_eq_zero.1 this with h|h
  ·exact .inl h
  ·exact .inr (by omega)
 rcases half_cases o a with ⟨a1,a2⟩|⟨a1,a2⟩<;>rcases half_cases o b with ⟨b1,b2⟩|⟨b1,b2⟩<;>omega
section
variable {p:PL}
theorem RightP.half_pts (r:RightP p) {h:Hf} (hm:h∈halvesE p.es):inB (ptH p h)=true∧inB (ptH p (twinH h))=true∧(∃v∈p.vs,v.id=fromH p.es h∧v.at_=ptH p h)∧(∃v∈p.vs,v.id=toH p.es h∧v.at_=ptH p (twinH h))∧ptH p (twinH h)≠ptH p h:=by
 obtain⟨e,he,hid,h1,h2⟩:=r.ends_of hm
 obtain⟨i,hi⟩:=List.mem_iff_getElem?.1 he
 obtain⟨A,B,hab⟩:=r.e i e hi
 have hz: ∀ {id:Int} {q:Pt},ptOf p.vs id=some q→ptZ p.vs id=q:=fun h=>by unfold ptZ;rw[h];rfl
 obtain⟨va,ha,ea,e1⟩:=ptOf_some hab.pa
 obtain⟨vb,hb,eb,e2⟩:=ptOf_some hab.pb
 have inA:inB A=true:=by
  obtain⟨j,hj⟩:=List.mem_iff_getElem?.1 ha
  rw[←e1];exact(r.v j va hj).inr
 have inC:inB B=true:=by
  obtain⟨j,hj⟩:=List.mem_iff_getElem?.1 hb
  rw[←e2];exact(r.v j vb hj).inr
 have hne:A≠B:=fun e'=>by
  have hne:va≠vb:=fun e=>hab.ab (by rw[←ea, ←eb,e])
  obtain⟨j,hj⟩:=List.mem_iff_getElem?.1 ha
  obtain⟨k,hk⟩:=List.mem_iff_getElem?.1 hb
  rcases Nat.lt_trichotomy j k with hjk|hjk|hjk
  ·exact(r.v k vb hk).ne j va hjk hj (by rw[e1,e2,e'])
  ·subst hjk;rw[hj] at hk;injection hk with hk;exact hne hk
  ·exact(r.v j va hj).ne k vb hjk hk (by rw[e1,e2,e'])
 unfold ptH
 rw[show fromH p.es (twinH h)=toH p.es h from rfl,h1,h2]
 cases h.back
 ·simp only[Bool.false_eq_true,if_false]
  rw[hz hab.pa,hz hab.pb]
  exact⟨inA,inC,⟨va,ha,ea,e1⟩,⟨vb,hb,eb,e2⟩,fun e=>hne e.symm⟩
 ·simp only[if_true]
  rw[hz hab.pa,hz hab.pb]
  exact⟨inC,inA,⟨vb,hb,eb,e2⟩,⟨va,ha,ea,e1⟩,hne⟩
theorem RightP.half_way (r:RightP p) {h:Hf} (hm:h∈halvesE p.es) {v:Vx} (hv:v∈p.vs):onB v.at_ (ptH p h) (ptH p (twinH h))=false:=by
 obtain⟨e,he,hid,h1,h2⟩:=r.ends_of hm
 obtain⟨i,hi⟩:=List.mem_iff_getElem?.1 he
 obtain⟨A,B,hab⟩:=r.e i e hi
 have hz: ∀ {id:Int} {q:Pt},ptOf p.vs id=some q→ptZ p.vs id=q:=fun h=>by unfold ptZ;rw[h];rfl
 have w:=hab.way v hv
 unfold ptH
 rw[show fromH p.es (twinH h)=toH p.es h from rfl,h1,h2]
 cases h.back
 ·simp only[Bool.false_eq_true,if_false]
  rw[hz hab.pa,hz hab.pb]
  exact w
 ·simp only[if_true]
  rw[hz hab.pa,hz hab.pb]
  rw[←w]
  have t:decide (trn B A v.at_=0)=decide (trn A B v.at_=0):=decide_eq_decide.2 (by unfold trn;rw[crs_swap,Int.sign_neg];omega)
  have bb:btwB v.at_ B A=btwB v.at_ A B:=by unfold btwB;rw[Bool.or_comm]
  unfold onB
  rw[t,bb]
  cases inB v.at_<;>cases inB A<;>cases inB B<;>rfl
theorem RightP.vs_apart (r:RightP p) {u v:Vx} (hu:u∈p.vs) (hv:v∈p.vs) (e:u.at_=v.at_):u=v:=by
 obtain⟨j,hj⟩:=List.mem_iff_getElem?.1 hu
 obtain⟨k,hk⟩:=List.mem_iff_getElem?.1 hv
 rcases Nat.lt_trichotomy j k with hjk|hjk|hjk
 ·exact absurd e ((r.v k v hk).ne j u hjk hj)
 ·subst hjk;rw[hj] at hk;injection hk
 ·exact absurd e.symm ((r.v j u hj).ne k v hjk hk)
theorem RightP.half_one (r:RightP p) {h g:Hf} (hm:h∈halvesE p.es) (gm:g∈halvesE p.es) (e1:fromH p.es h=fromH p.es g) (e2:toH p.es h=toH p.es g):h=g:=by
 obtain⟨e,he,hid,h1,h2⟩:=r.ends_of hm
 obtain⟨f,hf,fid,f1,f2⟩:=r.ends_of gm
 obtain⟨i,hi⟩:=List.mem_iff_getElem?.1 he
 obtain⟨j,hj⟩:=List.mem_iff_getElem?.1 hf
 obtain⟨A,B,hab⟩:=r.e i e hi
 obtain⟨C,D,hcd⟩:=r.e j f hj
 have hnab:=hab.ab
 have hncd:=hcd.ab
 have hends:ends e=ends f:=by
  unfold ends
  rw[h1,f1] at e1
  rw[h2,f2] at e2
  cases hb:h.back<;>cases gb:g.back<;>simp only[hb,gb,Bool.false_eq_true,if_false,if_true] at e1 e2<;>rw[e1,e2]
  ·rw[Int.min_comm,Int.max_comm]
  ·rw[Int.min_comm,Int.max_comm]
 have hij:i=j:=by
  rcases Nat.lt_trichotomy i j with k|k|k
  ·exact absurd hends (hcd.pair i e k hi)
  ·exact k
  ·exact absurd hends.symm (hab.pair j f k hj)
 subst hij
 rw[hi] at hj
 injection hj with hj
 subst hj
 obtain⟨x,b⟩:=h
 obtain⟨y,c⟩:=g
 simp only at hid fid
 subst hid
 subst fid
 rw[h1,f1] at e1
 cases b<;>cases c
 ·rfl
 ·simp at e1;exact absurd e1 hnab
 ·simp at e1;exact absurd e1.symm hnab
 ·rfl
theorem RightP.dir_tot (r:RightP p) {h g:Hf} (hm:h∈halvesE p.es) (gm:g∈halvesE p.es) (e:fromH p.es h=fromH p.es g) (hn:h≠g):dirLt (ptH p h) (ptH p (twinH h)) (ptH p (twinH g))∨dirLt (ptH p h) (ptH p (twinH g)) (ptH p (twinH h)):=by
 have eo:ptH p g=ptH p h:=by unfold ptH;rw[e]
 obtain⟨h1,h2, -,⟨u,hu,u1,u2⟩,h5⟩:=r.half_pts hm
 obtain⟨g1,g2, -,⟨v,hv,v1,v2⟩,g5⟩:=r.half_pts gm
 rw[eo] at g5
 by_cases hd:dirLt (ptH p h) (ptH p (twinH h)) (ptH p (twinH g))
 ·exact .inl hd
 by_cases hd2:dirLt (ptH p h) (ptH p (twinH g)) (ptH p (twinH h))
 ·exact .inr hd2
 exfalso
 obtain⟨t1,t2⟩:=dir_tie hd hd2
 have hne:ptH p (twinH h)≠ptH p (twinH g):=fun e'=>by
  have:u=v:=r.vs_apart hu hv (by rw[u2,v2,e'])
  subst this
  exact hn (r.half_one hm gm e (by rw[←u1, ←v1]))
 rcases same_dir h1 h2 g2 h5 g5 hne t1 t2 with k|k
 ·have:=r.half_way gm hu
  rw[eo,u2,k] at this;cases this
 ·have:=r.half_way hm hv
  rw[v2,k] at this;cases this
end
end Go.Proofs.Ythopjhifepijiaa
namespace Go.Proofs.Ythopjhifepijiaa
section
variable {p:PL}
abbrev LeavT (p:PL) (id:Int):= {h:Hf // h∈halvesE p.es∧fromH p.es h=id}
def ltH (p:PL) (id:Int) (x y:Hf):Bool:=decide (dirLt (ptZ p.vs id) (ptH p (twinH x)) (ptH p (twinH y)))
theorem RightP.lt_trans (r:RightP p) {id:Int} {x y z:Hf} (hx:x∈halvesE p.es∧fromH p.es x=id) (hy:y∈halvesE p.es∧fromH p.es y=id) (hz:z∈halvesE p.es∧fromH p.es z=id) (h1:ltH p id x y=true) (h2:ltH p id y z=true):ltH p id x z=true:=by
 unfold ltH at*
 rw[decide_eq_true_eq] at*
 have a:=(r.half_pts hx.1).2.2.2.2
 have b:=(r.half_pts hy.1).2.2.2.2
 have c:=(r.half_pts hz.1).2.2.2.2
 unfold ptH at a b c h1 h2 ⊢
 rw[hx.2] at a
 rw[hy.2] at b
 rw[hz.2] at c
 exact dir_trans a b c h1 h2
theorem RightP.lt_tot (r:RightP p) {id:Int} {x y:Hf} (hx:x∈halvesE p.es∧fromH p.es x=id) (hy:y∈halvesE p.es∧fromH p.es y=id) (hn:x≠y):ltH p id x y=true∨ltH p id y x=true:=by
 unfold ltH
 rw[decide_eq_true_eq,decide_eq_true_eq]
 have:=r.dir_tot hx.1 hy.1 (by rw[hx.2,hy.2]) hn
 rw[show ptH p x=ptZ p.vs id by unfold ptH;rw[hx.2]] at this
 exact this
theorem lt_irr (id:Int) (x:Hf):ltH p id x x=false:=by unfold ltH;exact decide_eq_false (dir_irrefl _ _)
theorem lt_asy {id:Int} {x y:Hf} (h:ltH p id x y=true):ltH p id y x=false:=by
 unfold ltH at*
 rw[decide_eq_true_eq] at h
 exact decide_eq_false (dir_asymm h)
end
end Go.Proofs.Ythopjhifepijiaa
namespace Go.Proofs.Ythopjhifepijiaa
open Go.RowKit Go.Sort Go.Shelf Go.Lib
section
variable {p:PL}
def cfH (p:PL) (id:Int) (x y:LeavT p id):Int:=arnd (ptZ p.vs id) (ptH p (twinH x.1)) (ptH p (twinH y.1))
theorem RightP.cf_lt (r:RightP p) {id:Int} (x y:LeavT p id):ltOf (cfH p id) x y=ltH p id x.1 y.1:=by
 have hx:=r.half_pts x.2.1
 have hy:=r.half_pts y.2.1
 rw[show ptH p x.1=ptZ p.vs id by unfold ptH;rw[x.2.2]] at hx
 rw[show ptH p y.1=ptZ p.vs id by unfold ptH;rw[y.2.2]] at hy
 unfold ltOf cfH ltH
 exact decide_eq_decide.2 (arnd_neg hx.1 hx.2.1 hy.2.1 hx.2.2.2.2 hy.2.2.2.2)
theorem RightP.cf_swo (r:RightP p) (id:Int):SWO (ltOf (cfH p id)) where
 irrefl x:=by rw[r.cf_lt];exact lt_irr _ _
 trans x y z h1 h2:=by rw[r.cf_lt] at*;exact r.lt_trans x.2 y.2 z.2 h1 h2
 ntrans x y z h1 h2:=by
  rw[r.cf_lt] at*
  by_cases e1:x.1=y.1
  ·rw[e1];exact h2
  ·by_cases e2:y.1=z.1
   ·rw[←e2];exact h1
   ·rcases r.lt_tot x.2 y.2 e1 with k|k
    ·rw[k] at h1;cases h1
    ·rcases r.lt_tot y.2 z.2 e2 with k2|k2
     ·rw[k2] at h2;cases h2
     ·exact lt_asy (r.lt_trans z.2 y.2 x.2 k2 k)
theorem RightP.cf_tot (r:RightP p) {id:Int} (x y:LeavT p id) (h1:ltOf (cfH p id) x y=false) (h2:ltOf (cfH p id) y x=false):x=y:=by
 rw[r.cf_lt] at h1 h2
 by_cases e:x.1=y.1
 ·exact Subtype.ext e
 ·rcases r.lt_tot x.2 y.2 e with k|k
  ·rw[k] at h1;cases h1
  ·rw[k] at h2;cases h2
theorem RightP.sorted_out (r:RightP p) {id:Int} {d:List (LeavT p id)} (hd:d.map (·.1)=leavP p.es id):(d.mergeSort fun x y=> !(ltOf (cfH p id)) y x).map (·.1)=outP p id:=by
 unfold outP
 rw[List.map_mergeSort (s:=leH p id) (fun a _ b _=>by rw[r.cf_lt];rfl),hd]
def leavT (p:PL) (id:Int):List (LeavT p id):=(leavP p.es id).attach.map fun x=>⟨x.1,mem_leav.1 x.2⟩
theorem leavT_map (p:PL) (id:Int):(leavT p id).map (·.1)=leavP p.es id:=by
 unfold leavT
 rw[List.map_map]
 exact List.attach_map_subtype_val (leavP p.es id)
theorem leavT_len (p:PL) (id:Int):(leavT p id).length=(leavP p.es id).length:=by rw[←leavT_map p id,List.length_map]
def HsAt (w:World) (b off:Nat) (R:List Hf):Prop:= ∀(i:Nat) (h:Hf),R[i]? =some h→w.cell? ⟨b,off+i*2,none⟩=some (.int .i64 h.edge)∧w.cell? ⟨b,off+i*2+1,none⟩=some (.bool h.back)
theorem HsAt.block {w w':World} {b off:Nat} {R:List Hf} (h:HsAt w b off R) (e:w'.heap[b]? =w.heap[b]?):HsAt w' b off R:=fun i x hx=>
 ⟨(World.cell?_of_block (a:=⟨b,_,none⟩) e).trans (h i x hx).1,(World.cell?_of_block (a:=⟨b,_,none⟩) e).trans (h i x hx).2⟩
theorem HsAt.touch {w w':World} {F:List Nat} {b off:Nat} {R:List Hf} (h:HsAt w b off R) (t:Touch F w w') (hb:b<w.heap.size) (hF:b∉F):HsAt w' b off R:=h.block (t.block hb hF)
theorem HsAt.below {w w':World} {b off B:Nat} {R:List Hf} (h:HsAt w b off R) (t:Below B w w') (hb:b<B):HsAt w' b off R:=h.block (t.block b hb)
def encH {p:PL} {id:Int} (x:LeavT p id):List Value:=[.int .i64 x.1.edge, .bool x.1.back]
theorem holds_of {id:Int} [Inhabited (LeavT p id)] {w:World} {b off:Nat} {d:Array (LeavT p id)} (h:HsAt w b off (d.toList.map (·.1))) (hf: ∀j,j<d.size*2→w.frozen? ⟨b,off+j,none⟩=false):HoldsK encH 2 w b off d:=by
 intro j hj
 rw[size_flatK] at hj
 refine⟨?_,hf j hj⟩
 rw[get_flatK _ _ _ _ hj]
 have hi:j / 2<d.size:=by omega
 have hx:(d.toList.map (·.1))[j / 2]? =some (d[j / 2]!).1:=by
  rw[List.getElem?_map,Array.getElem?_toList,getElem!_pos d _ hi,Array.getElem?_eq_getElem hi];rfl
 obtain⟨h0,h1⟩:=h _ _ hx
 have hm:j % 2=0∨j % 2=1:=by omega
 rcases hm with e|e
 ·rw[e,show off+j=off+j / 2*2 by omega,h0];rfl
 ·rw[e,show off+j=off+j / 2*2+1 by omega,h1];rfl
theorem of_holds {id:Int} [Inhabited (LeavT p id)] {w:World} {b off:Nat} {d:Array (LeavT p id)} (h:HoldsK encH 2 w b off d):HsAt w b off (d.toList.map (·.1)):=by
 intro i x hx
 rw[List.getElem?_map,Array.getElem?_toList] at hx
 obtain⟨y,hy,rfl⟩:=Option.map_eq_some_iff.1 hx
 obtain⟨hi,rfl⟩:=Array.getElem?_eq_some_iff.1 hy
 have h0:=(h.cell hi (c:=0) (by decide)).1
 have h1:=(h.cell hi (c:=1) (by decide)).1
 rw[getElem!_pos d _ hi] at h0 h1
 exact⟨h0,h1⟩
theorem sort_touch {id:Int} [Inhabited (LeavT p id)] (w:World) (b off n:Nat) (d:Array (LeavT p id)) (os:Array Obj):Touch [b] w (sortWorldK encH 2 w b off n d os):=by
 refine⟨rfl,rfl,rfl,size_sortWorldK_c encH 2 w b off n d os,fun k hk hF=> ?_⟩
 show((w.heap.modify b _)++os)[k]? =_
 rw[Array.getElem?_append_left (by simpa using hk),Array.getElem?_modify,if_neg (fun e=>hF (by simp[e]))]
theorem sort_of {P:Program} {ρ:Ren} (L:SlLaysF0.n6 P ρ) (aE: ∀w,(isAgg (ρ.t 24)).run P w= .ok true w) (zE: ∀w,(Go.sizeOf (ρ.t 24)).run P w= .ok 2 w) (r:RightP p) {id:Int} (hne:leavP p.es id≠ []) (g:Nat) (cb:Array Value) (b off cap:Nat) (w:World)
  (eg: ∀args w,(callFunc g args).run P w= .ok (.enter g args) w)
  (hcmp: ∀(x y:LeavT p id) (w1:World),Touch [b] w w1→Calls P g (#[.agg #[.int .i64 x.1.edge, .bool x.1.back], .agg #[.int .i64 y.1.edge, .bool y.1.back]]++cb) w1 fun e w'=>e= .returned (.int .i64 (cfH p id x y))∧ ∃q os',w'=grow (w1.drewN q) os')
  (hH:HsAt w b off (leavP p.es id)) (hf: ∀j,j<(leavP p.es id).length*2→w.frozen? ⟨b,off+j,none⟩=false) (hb:b<w.heap.size) (hsz:(leavP p.es id).length<4611686018427387904):
  Calls P (ρ.f 6) #[.slice (some ⟨b,off,none⟩) (leavP p.es id).length cap, .func (.func g) #[] cb] w fun e w'=>e= .returned (.tuple #[])∧Touch [b] w w'∧HsAt w' b off (outP p id):=by
 haveI:Inhabited (LeavT p id):=⟨⟨(leavP p.es id).head hne,mem_leav.1 (List.head_mem hne)⟩⟩
 have es:(leavT p id).toArray.size=(leavP p.es id).length:=by rw[List.size_toArray,leavT_len]
 have hK:HoldsK encH 2 w b off (leavT p id).toArray:=holds_of (by rw[leavT_map];exact hH) (by rw[es];exact hf)
 have:=AnyQ.slices_SortFunc_total L 2 aE zE (encH (p:=p) (id:=id)) (fun _=>rfl) (fun x v hv=>by simp[encH] at hv;rcases hv with rfl|rfl<;>rfl) (cfH p id) (r.cf_swo id) g cb b off cap (leavT p id).toArray w eg
  (fun m os dk hs x y=>hcmp x y _ (sort_touch w b off m dk os)) hK hb (by rw[es];exact hsz) (fun x y=>r.cf_tot x y)
 rw[es] at this
 refine this.mono ?_
 rintro e w' ⟨he,n,os,rfl⟩
 refine⟨he,sort_touch _ _ _ _ _ _, ?_⟩
 have h2:=of_holds (holdsK_sortWorldK_c encH 2 w b off (leavT p id).toArray ((leavT p id).toArray.toList.mergeSort fun x y=> !(ltOf (cfH p id)) y x).toArray n os hK hb (by simp))
 rw[List.toList_toArray,r.sorted_out (leavT_map p id)] at h2
 exact h2
end
end Go.Proofs.Ythopjhifepijiaa
namespace Go.Proofs.Ythopjhifepijiaa
open Go.RowKit
open Go.Maps (Keyed)
abbrev ekI (i:Int):Value:= .int .i64 i
abbrev ptV (p:Pt):Value:= .agg #[.int .i64 p.x, .int .i64 p.y]
theorem ekI_inj (x y:Int) (h:ekI y=ekI x):y=x:=by injection h
theorem wf_int {x:Int} (h:fitI x):(Lit.int .i64 x).wf=true:=WalkArith.wf_i64 (by unfold fitI at h;omega)
theorem zeroPt (w:World):(zeroValue 51).run Try.prog w= .ok (.agg #[.int .i64 0, .int .i64 0]) w:=by kernel_rfl
def AtMap (w:World) (M n:Nat) (vs:List Vx):Prop:=MapT w Try.prog 3 M n ekI ptV (ptOf vs)
theorem AtMap.look {w:World} {M n:Nat} {vs:List Vx} (h:AtMap w M n vs) (id:Int) (hid:fitI id):
  (Instr.lookup 100 (.map (some M)) (.int .i64 id) false).run Try.prog w= .ok (.agg #[.int .i64 (ptZ vs id).x, .int .i64 (ptZ vs id).y]) w:=by
 have:=MapT.look h Try.keyInt Try.underlying100 (zeroPt w) (x:=id) (key_int id (wf_int hid))
 rw[this]
 unfold ptZ
 cases ptOf vs id<;>rfl
theorem AtMap.look_ok {w:World} {M n:Nat} {vs:List Vx} (h:AtMap w M n vs) (id:Int) (hid:fitI id):
  (Instr.lookup 100 (.map (some M)) (.int .i64 id) true).run Try.prog w= .ok (.tuple #[.agg #[.int .i64 (ptZ vs id).x, .int .i64 (ptZ vs id).y], .bool (ptOf vs id).isSome]) w:=by
 have:=MapT.look_ok h Try.keyInt Try.underlying100 (zeroPt w) (x:=id) (key_int id (wf_int hid))
 rw[this]
 unfold ptZ
 cases ptOf vs id<;>rfl
theorem below_grown {B b:Nat} {a c d:World} (h:Below B a c) (hg:c.grownBy d (some b)) (hB:B≤c.heap.size) (hb:B≤b):Below B a d:=h.grown hg hB (fun k e=>by injection e with e;omega)
def crossedB (vs:List Vx) (es:List Ed) (a b:Pt):Bool:=es.any fun e=>meetB a b (ptZ vs e.a) (ptZ vs e.b)
set_option maxRecDepth 100000 in
set_option maxHeartbeats 4000000 in
theorem crossed_any {w:World} {B vn vc en ec:Nat} {va ea:Option Addr} {vs:List Vx} {es:List Ed} (hv:VsIn w B va vn vs) (he:EsIn w B ea en es) (hB:B≤w.heap.size) (hn:vn≤100000) (hm:en≤100000)
  (hfit:FitPL ⟨vs,es⟩) (hap:vs.Pairwise (fun u v=>u.id≠v.id)) (a b:Pt):
  Calls Try.prog 42 #[.agg #[.slice va vn vc, .slice ea en ec], .agg #[.int .i64 a.x, .int .i64 a.y], .agg #[.int .i64 b.x, .int .i64 b.y]] w fun e w'=>e= .returned (.bool (crossedB vs es a b))∧Below w.heap.size w w':=by
 have HV:=Lib.hid hv
 have HE:=Lib.hid he
 have HF:=Lib.hid hfit
 have HP:=Lib.hid hap
 have hmm:= @run_makeMap Try.prog
 clear hv he hfit hap
 go_enter Try.func42,Try.ntmps42
 go_wp2_with fail
 first|refine wp_name (fun W hW=> ?_)|refine calls_name (fun W hW=> ?_)
 have HW:Hid (Below w.heap.size w W):=Lib.hid (by rw[←hW];repeat (first|exact Below.refl _ _|refine below_alloc ?_))
 have HWs:Hid (W.heap.size=w.heap.size+1+1+1+1):=Lib.hid (by rw[←hW];simp)
 have HBW:Hid (w.heap.size+1+1+1≤W.heap.size):=Lib.hid (by have:=HWs.out;omega)
 have HC:=fun(W1:World) (hb:Below (w.heap.size+1+1+1) W W1)=>Lib.hid (show W1.cell? ⟨w.heap.size,0,none⟩=some (.slice va vn vc)∧W1.cell? ⟨w.heap.size,1,none⟩=some (.slice ea en ec)∧W1.cell? ⟨w.heap.size+1,0,none⟩=some (.int .i64 a.x)∧W1.cell? ⟨w.heap.size+1,1,none⟩=some (.int .i64 a.y)∧W1.cell? ⟨w.heap.size+1+1,0,none⟩=some (.int .i64 b.x)∧W1.cell? ⟨w.heap.size+1+1,1,none⟩=some (.int .i64 b.y) from by have hs:=HWs.out;refine⟨?_, ?_, ?_, ?_, ?_, ?_⟩<;>(refine(hb.cell (by dsimp only;omega)).trans ?_;rw[←hW];clear hW;go_simp))
 have HB:=Lib.hid (Below.refl (w.heap.size+1+1+1) W)
 have HZ:=fun(W1:World) (hb:W.heap.size≤W1.heap.size)=>Lib.hid (show w.heap.size<W1.heap.size∧w.heap.size+1<W1.heap.size∧w.heap.size+1+1<W1.heap.size from by have:=HWs.out;refine⟨?_, ?_, ?_⟩<;>omega)
 obtain⟨qx0,qx1,qx2,qx3,qx4,qx5⟩:=(HC _ HB.out).out
 obtain⟨rx0,rx1,rx2⟩:=(HZ _ HB.out.size).out
 have HMM:Hid (AtMap W (w.heap.size+1+1+1) 0 (vs.take 0)):=Lib.hid (by
  rw[←hW]
  have e:(((w.alloc (.cells #[.slice va vn vc, .slice ea en ec] 30)).alloc (ptC a)).alloc (ptC b)).heap.size=w.heap.size+1+1+1:=by simp
  have:=MapT.made (((w.alloc (.cells #[.slice va vn vc, .slice ea en ec] 30)).alloc (ptC a)).alloc (ptC b)) Try.prog 3 ekI ptV
  rw[e] at this
  exact this)
 clear hW
 go_wp2_with fail
 clear qx0 qx1 qx2 qx3 qx4 qx5 rx0 rx1 rx2
 go_loopw [16] (fun v wr=> ∃k:Nat,k≤vn∧v= .int .i64 k∧AtMap wr (w.heap.size+1+1+1) k (vs.take k)∧Below (w.heap.size+1+1+1) W wr) (fun v _=>vn - (intOf v).toNat)
 case atStart=>exact⟨0,Nat.zero_le _,rfl,HMM.out,HB.out⟩
 case round=>
  clear HMM HB
  obtain⟨k,hk,rfl,hmap,hb⟩:=hrel
  have HB:=Lib.hid hb
  have HM:=Lib.hid hmap
  clear hb hmap
  obtain⟨qx0,qx1,qx2,qx3,qx4,qx5⟩:=(HC _ HB.out).out
  obtain⟨rx0,rx1,rx2⟩:=(HZ _ HB.out.size).out
  by_cases hlt:k<vn
  ·obtain⟨vb,off,v,rfl,hvb,hv,e0,e1,e2⟩:=(HV.out.below (args_below HW.out HB.out hB (by have:=HWs.out;omega))).at_ hlt
   have HVK:=Lib.hid hv
   have hwf:=(HF.out.vs v (List.mem_of_getElem? hv)).1
   have hkey:=key_int v.id (wf_int hwf)
   have hnew: ∀u∈vs.take k,u.id≠v.id:=fun u hu=>by
    obtain⟨j,hj⟩:=List.mem_iff_getElem?.1 hu
    have hjk:j<k:=by
     have:=(List.getElem?_eq_some_iff.1 hj).1
     rw[List.length_take] at this;omega
    rw[List.getElem?_take_of_lt hjk] at hj
    have h1:=List.pairwise_iff_getElem.1 HP.out j k (List.getElem?_eq_some_iff.1 hj).1 (List.getElem?_eq_some_iff.1 hv).1 hjk
    rw[(List.getElem?_eq_some_iff.1 hj).2,(List.getElem?_eq_some_iff.1 hv).2] at h1
    exact h1
   have hsn:=ptOf_snoc hnew
   rw[←take_snoc' hv] at hsn
   have HSN:=Lib.hid hsn
   have HKEY:=Lib.hid hkey
   clear hv hwf hnew hsn hkey
   have HM1:=Lib.hid (MapT.alloc HM.out (.cells #[.int .i64 v.id, .int .i64 v.at_.x, .int .i64 v.at_.y] 53))
   have HST:=fun(w2:World) (h:MapT w2 Try.prog 3 (w.heap.size+1+1+1) (k+1) ekI ptV (updT (ptOf (vs.take k)) v.id v.at_))=>Lib.hid (show AtMap w2 (w.heap.size+1+1+1) (k+1) (vs.take (k+1)) by unfold AtMap;rw[HSN.out];exact h)
   have HSZ:Hid (w.heap.size+1+1+1≤wr.heap.size+1):=Lib.hid (by have h1:=HBW.out;have h2:=HB.out.size;omega)
   have HB1:=Lib.hid (HB.out.alloc (Nat.le_trans HBW.out HB.out.size) (.cells #[.int .i64 v.id, .int .i64 v.at_.x, .int .i64 v.at_.y] 53))
   go_wp2_with (at_mapUpdate;refine wpList_update_T _ rfl _ _ _ 100 rfl 3 51 Try.keyInt Try.underlying100 (w.heap.size+1+1+1) k ekI ptV (ptOf (vs.take k)) HM1.out rfl (by unfold maxLen;omega) v.id _ rfl HKEY.out (ekI_inj _) v.at_ rfl ?_;intro w2 hm2 hg2;have HM2:=HST _ hm2;have HB2:=Lib.hid (below_grown HB1.out hg2 (by simpa using HSZ.out) (Nat.le_refl _));clear hm2 hg2)
   go_roundw
   case rel=>exact⟨k+1,by omega,by go_num,HM2.out,HB2.out⟩
   case measure=>simp[intOf];omega
  ·obtain rfl:k=vn:=by omega
   have HM0:=Lib.hid (show AtMap wr (w.heap.size+1+1+1) k vs by have h1:=HM.out;rw[List.take_of_length_le (by have:=HV.out.1;omega)] at h1;exact h1)
   clear HM
   go_wp2_with fail
   go_loopw [29] (fun v wr2=> ∃j:Nat,j≤en∧v= .int .i64 j∧AtMap wr2 (w.heap.size+1+1+1) k vs∧(∀(i:Nat) (u:Ed),i<j→es[i]? =some u→meetB a b (ptZ vs u.a) (ptZ vs u.b)=false)∧Below (w.heap.size+1+1+1) W wr2) (fun v _=>en - (intOf v).toNat)
   case atStart=>exact⟨0,Nat.zero_le _,rfl,HM0.out,fun j u hj=>absurd hj (by omega),HB.out⟩
   case round=>
    clear HM0 HB
    obtain⟨j,hj,rfl,hmap,hall,hb⟩:=hrel
    have HB:=Lib.hid hb
    have HM:=Lib.hid hmap
    have HA:=Lib.hid hall
    clear hb hmap hall
    clear qx0 qx1 qx2 qx3 qx4 qx5 rx0 rx1 rx2
    obtain⟨qx0,qx1,qx2,qx3,qx4,qx5⟩:=(HC _ HB.out).out
    obtain⟨rx0,rx1,rx2⟩:=(HZ _ HB.out.size).out
    by_cases hlj:j<en
    ·obtain⟨eb,off,e,rfl,heb,he,e0,e1,e2⟩:=(HE.out.below (args_below HW.out HB.out hB (by have:=HWs.out;omega))).at_ hlj
     have HEK:=Lib.hid he
     have hfe:=HF.out.es e (List.mem_of_getElem? he)
     have HM1:Hid (AtMap (wr.alloc (.cells #[.int .i64 e.id, .int .i64 e.a, .int .i64 e.b] 63)) (w.heap.size+1+1+1) k vs):=Lib.hid (MapT.alloc HM.out _)
     have l1:=HM1.out.look e.a hfe.2.1
     have l2:=HM1.out.look e.b hfe.2.2
     have HON:=fun w=>Lib.hid (meet_any a b (ptZ vs e.a) (ptZ vs e.b) w)
     clear he hfe
     cases hon:meetB a b (ptZ vs e.a) (ptZ vs e.b)
     ·rw[hon] at HON
      have HON1:=Lib.hid hon
      clear hon
      go_wp2_with fail
      refine((HON _).out).mono ?_
      rintro e w4 ⟨rfl,hb4⟩
      have HB:=bnx HB HBW hb4
      clear qx0 qx1 qx2 qx3 qx4 qx5 rx0 rx1 rx2
      obtain⟨qx0,qx1,qx2,qx3,qx4,qx5⟩:=(HC _ HB.out).out
      have HM2:=Lib.hid (MapT.below HM1.out hb4)
      clear hb4
      obtain⟨rx0,rx1,rx2⟩:=(HZ _ HB.out.size).out
      go_wp2_with fail
      go_roundw
      case rel=>
       refine⟨j+1,by omega,by go_num,HM2.out,fun i u hi hu=> ?_,HB.out⟩
       by_cases e:i=j
       ·subst e;rw[HEK.out] at hu;cases hu;exact HON1.out
       ·exact HA.out i u (by omega) hu
      case measure=>simp[intOf];omega
     ·rw[hon] at HON
      have F:=Lib.hid (show crossedB vs es a b=true from List.any_eq_true.2 ⟨e,List.mem_of_getElem? HEK.out,hon⟩)
      clear hon
      go_wp2_with fail
      refine((HON _).out).mono ?_
      rintro e w5 ⟨rfl,hb5⟩
      have HB:=bnx HB HBW hb5
      clear qx0 qx1 qx2 qx3 qx4 qx5 rx0 rx1 rx2
      obtain⟨qx0,qx1,qx2,qx3,qx4,qx5⟩:=(HC _ HB.out).out
      clear hb5
      obtain⟨rx0,rx1,rx2⟩:=(HZ _ HB.out.size).out
      go_wp2_with fail
      go_ret
      exact⟨by rw[F.out];rfl,(HW.out.trans (HB.out.mono (by have:=HWs.out;omega)))⟩
    ·obtain rfl:j=en:=by omega
     have F:=Lib.hid (show crossedB vs es a b=false by
      unfold crossedB
      rw[List.any_eq_false]
      intro v hv
      obtain⟨i,hi⟩:=List.mem_iff_getElem?.1 hv
      rw[HA.out i v (by have:=(List.getElem?_eq_some_iff.1 hi).1;have:=HE.out.1;omega) hi]
      decide)
     go_wp2_with fail
     go_ret
     exact⟨by rw[F.out];rfl,(HW.out.trans (HB.out.mono (by have:=HWs.out;omega)))⟩
end Go.Proofs.Ythopjhifepijiaa
namespace Go.Proofs.Ythopjhifepijiaa
open Go.RowKit
def isV (id:Int) (v:Vx):Bool:=v.id==id
def isE (id:Int) (v:Ed):Bool:=v.id==id
def findV (vs:List Vx) (id:Int):Vx:=(vs.find? (isV id)).getD ⟨0,⟨0,0⟩⟩
def hasV (vs:List Vx) (id:Int):Bool:=(vs.find? (isV id)).isSome
def findE (es:List Ed) (id:Int):Ed:=(es.find? (isE id)).getD ⟨0,0,0⟩
def hasE (es:List Ed) (id:Int):Bool:=(es.find? (isE id)).isSome
theorem find_at {α:Type} {l:List α} {p:α→Bool} {k:Nat} {v:α} (hk:l[k]? =some v) (hv:p v=true) (hno: ∀j u,j<k→l[j]? =some u→p u=false):l.find? p=some v:=by
 induction l generalizing k with
 |nil=>simp at hk
 |cons x l ih=>
  rw[List.find?_cons]
  cases k with
  |zero=>simp at hk;subst hk;rw[hv]
  |succ k=>
   have:=hno 0 x (by omega) rfl
   rw[this]
   exact ih (by simpa using hk) (fun j u hj hu=>hno (j+1) u (by omega) (by simpa using hu))
theorem find_not {α:Type} {l:List α} {p:α→Bool} (hno: ∀(j:Nat) u,l[j]? =some u→p u=false):l.find? p=none:=by
 rw[List.find?_eq_none]
 intro x hx
 obtain⟨j,hj⟩:=List.mem_iff_getElem?.1 hx
 rw[hno j x hj];decide
set_option maxRecDepth 100000 in
set_option maxHeartbeats 4000000 in
theorem vertex_any {w:World} {B vn vc:Nat} {va:Option Addr} {vs:List Vx} (hv:VsIn w B va vn vs) (hB:B≤w.heap.size) (hn:vn≤100000) (es:Value) (hes: ∃a n c,es= .slice a n c) (id:Int):
  Calls Try.prog 85 #[.agg #[.slice va vn vc,es], .int .i64 id] w fun e w'=>e= .returned (.tuple #[.agg #[.int .i64 (findV vs id).id, .int .i64 (findV vs id).at_.x, .int .i64 (findV vs id).at_.y], .bool (hasV vs id)])∧Below w.heap.size w w':=by
 obtain⟨ea,en,ec,rfl⟩:=hes
 have HV:=Lib.hid hv
 clear hv
 go_enter Try.func85,Try.ntmps85
 go_wp2_with fail
 first|refine wp_name (fun W hW=> ?_)|refine calls_name (fun W hW=> ?_)
 have HW:Hid (Below w.heap.size w W):=Lib.hid (by rw[←hW];repeat (first|exact Below.refl _ _|refine below_alloc ?_))
 have HWs:Hid (W.heap.size=w.heap.size+1+1):=Lib.hid (by rw[←hW];simp)
 have HBW:Hid (W.heap.size≤W.heap.size):=Lib.hid (by have:=HWs.out;omega)
 have HC:=fun(W1:World) (hb:Below (W.heap.size) W W1)=>Lib.hid (show W1.cell? ⟨w.heap.size,0,none⟩=some (.slice va vn vc)∧W1.cell? ⟨w.heap.size,1,none⟩=some (.slice ea en ec)∧W1.cell? ⟨w.heap.size+1,0,none⟩=some (.int .i64 0)∧W1.cell? ⟨w.heap.size+1,1,none⟩=some (.int .i64 0)∧W1.cell? ⟨w.heap.size+1,2,none⟩=some (.int .i64 0) from by have hs:=HWs.out;refine⟨?_, ?_, ?_, ?_, ?_⟩<;>(refine(hb.cell (by dsimp only;omega)).trans ?_;rw[←hW];clear hW;go_simp))
 have HB:=Lib.hid (Below.refl (W.heap.size) W)
 have HZ:=fun(W1:World) (hb:W.heap.size≤W1.heap.size)=>Lib.hid (show w.heap.size<W1.heap.size∧w.heap.size+1<W1.heap.size from by have:=HWs.out;refine⟨?_, ?_⟩<;>omega)
 obtain⟨qx0,qx1,qx2,qx3,qx4⟩:=(HC _ HB.out).out
 obtain⟨rx0,rx1⟩:=(HZ _ HB.out.size).out
 have HFZ:=fun(W1:World) (hb:Below W.heap.size W W1)=>Lib.hid (show∀j,W1.frozen? ⟨w.heap.size+1,j,none⟩=false from fun j=>(hb.frozen (p:=⟨w.heap.size+1,j,none⟩) (by show w.heap.size+1<W.heap.size;have:=HWs.out;omega)).trans (by rw[←hW];clear hW;go_simp))
 clear hW
 clear qx0 qx1 qx2 qx3 qx4 rx0 rx1
 go_loopw [11] (fun v wr=> ∃k:Nat,k≤vn∧v= .int .i64 k∧(∀(j:Nat) (u:Vx),j<k→vs[j]? =some u→isV id u=false)∧Below W.heap.size W wr) (fun v _=>vn - (intOf v).toNat)
 case atStart=>exact⟨0,Nat.zero_le _,rfl,fun j u hj=>absurd hj (by omega),HB.out⟩
 case round=>
  clear HB
  obtain⟨k,hk,rfl,hall,hb⟩:=hrel
  have HB:=Lib.hid hb
  have HA:=Lib.hid hall
  clear hb hall
  obtain⟨qx0,qx1,qx2,qx3,qx4⟩:=(HC _ HB.out).out
  obtain⟨rx0,rx1⟩:=(HZ _ HB.out.size).out
  have fz:=(HFZ _ HB.out).out
  by_cases hlt:k<vn
  ·obtain⟨vb,off,v,rfl,hvb,hv,e0,e1,e2⟩:=(HV.out.below (args_below HW.out HB.out hB (by have:=HWs.out;omega))).at_ hlt
   have HVK:=Lib.hid hv
   clear hv
   cases hon:isV id v
   ·have hq:(v.id==id)=false:=hon
    have HON:=Lib.hid hon
    clear hon
    have HB1:=Lib.hid (HB.out.alloc HB.out.size (.cells #[.int .i64 v.id, .int .i64 v.at_.x, .int .i64 v.at_.y] 53))
    go_wp2_with fail
    go_roundw
    case rel=>
     refine⟨k+1,by omega,by go_num,fun j u hj hu=> ?_,HB1.out⟩
     by_cases e:j=k
     ·subst e;rw[HVK.out] at hu;cases hu;exact HON.out
     ·exact HA.out j u (by omega) hu
    case measure=>simp[intOf];omega
   ·have hq:(v.id==id)=true:=hon
    have F:=Lib.hid (find_at HVK.out hon HA.out)
    have F1:Hid (findV vs id=v):=Lib.hid (by unfold findV;rw[F.out];rfl)
    have F2:Hid (hasV vs id=true):=Lib.hid (by unfold hasV;rw[F.out];rfl)
    have HB1:=Lib.hid (HB.out.alloc HB.out.size (.cells #[.int .i64 v.id, .int .i64 v.at_.x, .int .i64 v.at_.y] 53))
    clear hon
    go_wp2_with fail
    refine bodyPost_ret (v:= .tuple #[.agg #[.int .i64 v.id, .int .i64 v.at_.x, .int .i64 v.at_.y], .bool true]) (by simp[results,Try.results85,go_sem, *]) rfl ⟨by rw[F1.out,F2.out], ?_⟩
    have h3:Below w.heap.size w wr:=HW.out.trans (HB.out.mono HW.out.size)
    exact(((h3.setCell (by simp) _).setCell (by simp) _).setCell (by simp) _).alloc (by simp;exact h3.size) _
  ·obtain rfl:k=vn:=by omega
   have F:=Lib.hid (find_not (p:=isV id) (fun j u hj=>HA.out j u (by have:=(List.getElem?_eq_some_iff.1 hj).1;have:=HV.out.1;omega) hj))
   have F1:Hid (findV vs id=⟨0,⟨0,0⟩⟩):=Lib.hid (by unfold findV;rw[F.out];rfl)
   have F2:Hid (hasV vs id=false):=Lib.hid (by unfold hasV;rw[F.out];rfl)
   go_wp2_with fail
   refine bodyPost_ret (v:= .tuple #[.agg #[.int .i64 0, .int .i64 0, .int .i64 0], .bool false]) (by simp[results,Try.results85,go_sem, *]) rfl ⟨by rw[F1.out,F2.out], ?_⟩
   have h3:Below w.heap.size w wr:=HW.out.trans (HB.out.mono HW.out.size)
   exact((h3.setCell (by simp) _).setCell (by simp) _).setCell (by simp) _
set_option maxRecDepth 100000 in
set_option maxHeartbeats 4000000 in
theorem edge_any {w:World} {B en ec:Nat} {ea:Option Addr} {es:List Ed} (hv:EsIn w B ea en es) (hB:B≤w.heap.size) (hn:en≤100000) (vs:Value) (hvs: ∃a n c,vs= .slice a n c) (id:Int):
  Calls Try.prog 71 #[.agg #[vs, .slice ea en ec], .int .i64 id] w fun e w'=>e= .returned (.tuple #[.agg #[.int .i64 (findE es id).id, .int .i64 (findE es id).a, .int .i64 (findE es id).b], .bool (hasE es id)])∧Below w.heap.size w w':=by
 obtain⟨va,vn,vc,rfl⟩:=hvs
 have HV:=Lib.hid hv
 clear hv
 go_enter Try.func71,Try.ntmps71
 go_wp2_with fail
 first|refine wp_name (fun W hW=> ?_)|refine calls_name (fun W hW=> ?_)
 have HW:Hid (Below w.heap.size w W):=Lib.hid (by rw[←hW];repeat (first|exact Below.refl _ _|refine below_alloc ?_))
 have HWs:Hid (W.heap.size=w.heap.size+1+1):=Lib.hid (by rw[←hW];simp)
 have HBW:Hid (W.heap.size≤W.heap.size):=Lib.hid (by have:=HWs.out;omega)
 have HC:=fun(W1:World) (hb:Below (W.heap.size) W W1)=>Lib.hid (show W1.cell? ⟨w.heap.size,0,none⟩=some (.slice va vn vc)∧W1.cell? ⟨w.heap.size,1,none⟩=some (.slice ea en ec)∧W1.cell? ⟨w.heap.size+1,0,none⟩=some (.int .i64 0)∧W1.cell? ⟨w.heap.size+1,1,none⟩=some (.int .i64 0)∧W1.cell? ⟨w.heap.size+1,2,none⟩=some (.int .i64 0) from by have hs:=HWs.out;refine⟨?_, ?_, ?_, ?_, ?_⟩<;>(refine(hb.cell (by dsimp only;omega)).trans ?_;rw[←hW];clear hW;go_simp))
 have HB:=Lib.hid (Below.refl (W.heap.size) W)
 have HZ:=fun(W1:World) (hb:W.heap.size≤W1.heap.size)=>Lib.hid (show w.heap.size<W1.heap.size∧w.heap.size+1<W1.heap.size from by have:=HWs.out;refine⟨?_, ?_⟩<;>omega)
 obtain⟨qx0,qx1,qx2,qx3,qx4⟩:=(HC _ HB.out).out
 obtain⟨rx0,rx1⟩:=(HZ _ HB.out.size).out
 have HFZ:=fun(W1:World) (hb:Below W.heap.size W W1)=>Lib.hid (show∀j,W1.frozen? ⟨w.heap.size+1,j,none⟩=false from fun j=>(hb.frozen (p:=⟨w.heap.size+1,j,none⟩) (by show w.heap.size+1<W.heap.size;have:=HWs.out;omega)).trans (by rw[←hW];clear hW;go_simp))
 clear hW
 clear qx0 qx1 qx2 qx3 qx4 rx0 rx1
 go_loopw [11] (fun v wr=> ∃k:Nat,k≤en∧v= .int .i64 k∧(∀(j:Nat) (u:Ed),j<k→es[j]? =some u→isE id u=false)∧Below W.heap.size W wr) (fun v _=>en - (intOf v).toNat)
 case atStart=>exact⟨0,Nat.zero_le _,rfl,fun j u hj=>absurd hj (by omega),HB.out⟩
 case round=>
  clear HB
  obtain⟨k,hk,rfl,hall,hb⟩:=hrel
  have HB:=Lib.hid hb
  have HA:=Lib.hid hall
  clear hb hall
  obtain⟨qx0,qx1,qx2,qx3,qx4⟩:=(HC _ HB.out).out
  obtain⟨rx0,rx1⟩:=(HZ _ HB.out.size).out
  have fz:=(HFZ _ HB.out).out
  by_cases hlt:k<en
  ·obtain⟨vb,off,v,rfl,hvb,hv,e0,e1,e2⟩:=(HV.out.below (args_below HW.out HB.out hB (by have:=HWs.out;omega))).at_ hlt
   have HVK:=Lib.hid hv
   clear hv
   cases hon:isE id v
   ·have hq:(v.id==id)=false:=hon
    have HON:=Lib.hid hon
    clear hon
    have HB1:=Lib.hid (HB.out.alloc HB.out.size (.cells #[.int .i64 v.id, .int .i64 v.a, .int .i64 v.b] 63))
    go_wp2_with fail
    go_roundw
    case rel=>
     refine⟨k+1,by omega,by go_num,fun j u hj hu=> ?_,HB1.out⟩
     by_cases e:j=k
     ·subst e;rw[HVK.out] at hu;cases hu;exact HON.out
     ·exact HA.out j u (by omega) hu
    case measure=>simp[intOf];omega
   ·have hq:(v.id==id)=true:=hon
    have F:=Lib.hid (find_at HVK.out hon HA.out)
    have F1:Hid (findE es id=v):=Lib.hid (by unfold findE;rw[F.out];rfl)
    have F2:Hid (hasE es id=true):=Lib.hid (by unfold hasE;rw[F.out];rfl)
    have HB1:=Lib.hid (HB.out.alloc HB.out.size (.cells #[.int .i64 v.id, .int .i64 v.a, .int .i64 v.b] 63))
    clear hon
    go_wp2_with fail
    refine bodyPost_ret (v:= .tuple #[.agg #[.int .i64 v.id, .int .i64 v.a, .int .i64 v.b], .bool true]) (by simp[results,Try.results71,go_sem, *]) rfl ⟨by rw[F1.out,F2.out], ?_⟩
    have h3:Below w.heap.size w wr:=HW.out.trans (HB.out.mono HW.out.size)
    exact(((h3.setCell (by simp) _).setCell (by simp) _).setCell (by simp) _).alloc (by simp;exact h3.size) _
  ·obtain rfl:k=en:=by omega
   have F:=Lib.hid (find_not (p:=isE id) (fun j u hj=>HA.out j u (by have:=(List.getElem?_eq_some_iff.1 hj).1;have:=HV.out.1;omega) hj))
   have F1:Hid (findE es id=⟨0,0,0⟩):=Lib.hid (by unfold findE;rw[F.out];rfl)
   have F2:Hid (hasE es id=false):=Lib.hid (by unfold hasE;rw[F.out];rfl)
   go_wp2_with fail
   refine bodyPost_ret (v:= .tuple #[.agg #[.int .i64 0, .int .i64 0, .int .i64 0], .bool false]) (by simp[results,Try.results71,go_sem, *]) rfl ⟨by rw[F1.out,F2.out], ?_⟩
   have h3:Below w.heap.size w wr:=HW.out.trans (HB.out.mono HW.out.size)
   exact((h3.setCell (by simp) _).setCell (by simp) _).setCell (by simp) _
def degA (es:List Ed) (id:Int):Nat→Int
 |0=>0
 |k+1=>degA es id k+(match es[k]? with|some e=>(if e.a=id then 1 else 0)+(if e.b=id then 1 else 0)|none=>0)
def deg (es:List Ed) (id:Int):Int:=degA es id es.length
theorem degA_succ (es:List Ed) (id:Int) (k:Nat):degA es id (k+1)=degA es id k+(match es[k]? with|some e=>(if e.a=id then 1 else 0)+(if e.b=id then 1 else 0)|none=>0):=rfl
theorem degA_bd (es:List Ed) (id:Int): ∀k,0≤degA es id k∧degA es id k≤2*k
 |0=>⟨by simp[degA],by simp[degA]⟩
 |k+1=>by
  have:=degA_bd es id k
  rw[degA_succ]
  cases es[k]? with
  |none=>simp only;omega
  |some e=>simp only;split<;>split<;>omega
set_option maxRecDepth 100000 in
set_option maxHeartbeats 4000000 in
theorem degree_any {w:World} {B en ec:Nat} {ea:Option Addr} {es:List Ed} (hv:EsIn w B ea en es) (hB:B≤w.heap.size) (hn:en≤100000) (vs:Value) (hvs: ∃a n c,vs= .slice a n c) (id:Int):
  Calls Try.prog 17 #[.agg #[vs, .slice ea en ec], .int .i64 id] w fun e w'=>e= .returned (.int .i64 (deg es id))∧Below w.heap.size w w':=by
 obtain⟨va,vn,vc,rfl⟩:=hvs
 have HV:=Lib.hid hv
 clear hv
 go_enter Try.func17,Try.ntmps17
 go_wp2_with fail
 first|refine wp_name (fun W hW=> ?_)|refine calls_name (fun W hW=> ?_)
 have HW:Hid (Below w.heap.size w W):=Lib.hid (by rw[←hW];repeat (first|exact Below.refl _ _|refine below_alloc ?_))
 have HWs:Hid (W.heap.size=w.heap.size+1):=Lib.hid (by rw[←hW];simp)
 have HBW:Hid (W.heap.size≤W.heap.size):=Lib.hid (by have:=HWs.out;omega)
 have HC:=fun(W1:World) (hb:Below (W.heap.size) W W1)=>Lib.hid (show W1.cell? ⟨w.heap.size,0,none⟩=some (.slice va vn vc)∧W1.cell? ⟨w.heap.size,1,none⟩=some (.slice ea en ec) from by have hs:=HWs.out;refine⟨?_, ?_⟩<;>(refine(hb.cell (by dsimp only;omega)).trans ?_;rw[←hW];clear hW;go_simp))
 have HB:=Lib.hid (Below.refl (W.heap.size) W)
 clear hW
 have HZ:=fun(W1:World) (hb:W.heap.size≤W1.heap.size)=>Lib.hid (show w.heap.size<W1.heap.size from by have:=HWs.out;omega)
 obtain⟨qx0,qx1⟩:=(HC _ HB.out).out
 have rx0:=(HZ _ HB.out.size).out
 clear qx0 qx1 rx0
 go_loopw [5,11] (fun s v wr=> ∃k:Nat,k≤en∧v= .int .i64 k∧s= .int .i64 (degA es id k)∧Below W.heap.size W wr) (fun _ v _=>en - (intOf v).toNat)
 case atStart=>exact⟨0,Nat.zero_le _,rfl,rfl,HB.out⟩
 case round=>
  clear HB
  obtain⟨k,hk,rfl,rfl,hb⟩:=hrel
  have HB:=Lib.hid hb
  clear hb
  obtain⟨qx0,qx1⟩:=(HC _ HB.out).out
  have rx0:=(HZ _ HB.out.size).out
  by_cases hlt:k<en
  ·obtain⟨vb,off,v,rfl,hvb,hv,e0,e1,e2⟩:=(HV.out.below (args_below HW.out HB.out hB (by have:=HWs.out;omega))).at_ hlt
   have HB1:=Lib.hid (HB.out.alloc HB.out.size (.cells #[.int .i64 v.id, .int .i64 v.a, .int .i64 v.b] 63))
   have hbd:=degA_bd es id k
   have hnx:degA es id (k+1)=degA es id k+((if v.a=id then 1 else 0)+(if v.b=id then 1 else 0)):=by rw[degA_succ,hv]
   have HNX:=Lib.hid hnx
   clear hv hnx
   generalize degA es id k=d at*
   have hc:((v.a==id)=true∧(v.b==id)=true∧Hid (degA es id (k+1)=d+2))∨((v.a==id)=true∧(v.b==id)=false∧Hid (degA es id (k+1)=d+1))∨((v.a==id)=false∧(v.b==id)=true∧Hid (degA es id (k+1)=d+1))∨((v.a==id)=false∧(v.b==id)=false∧Hid (degA es id (k+1)=d)):=by
    simp only[beq_iff_eq,beq_eq_false_iff_ne]
    by_cases h1:v.a=id<;>by_cases h2:v.b=id
    ·exact .inl ⟨h1,h2,Lib.hid (by rw[HNX.out,if_pos h1,if_pos h2];omega)⟩
    ·exact .inr (.inl ⟨h1,h2,Lib.hid (by rw[HNX.out,if_pos h1,if_neg h2];omega)⟩)
    ·exact .inr (.inr (.inl ⟨h1,h2,Lib.hid (by rw[HNX.out,if_neg h1,if_pos h2];omega)⟩))
    ·exact .inr (.inr (.inr ⟨h1,h2,Lib.hid (by rw[HNX.out,if_neg h1,if_neg h2];omega)⟩))
   clear HNX
   rcases hc with ⟨q1,q2,HD⟩|⟨q1,q2,HD⟩|⟨q1,q2,HD⟩|⟨q1,q2,HD⟩
   all_goals
    go_wp2_with fail
    go_roundw
    case rel=>exact⟨k+1,by omega,by go_num,by rw[HD.out];try (first|rfl|go_num),HB1.out⟩
    case measure=>simp[intOf];omega
  ·obtain rfl:k=en:=by omega
   have F:Hid (degA es id k=deg es id):=Lib.hid (by unfold deg;rw[←HV.out.1])
   go_wp2_with fail
   go_ret
   exact⟨by rw[←F.out];rfl,bfn HW HB⟩
end Go.Proofs.Ythopjhifepijiaa
namespace Go.Proofs.Ythopjhifepijiaa
open Go.RowKit
open Go.Maps (Keyed)
abbrev evB (b:Bool):Value:= .bool b
abbrev ekQ (x:Int × Int):Value:= .agg #[.int .i64 x.1, .int .i64 x.2]
theorem ptV_inj (x y:Pt) (h:ptV y=ptV x):y=x:=by
 obtain⟨a,b⟩:=x
 obtain⟨c,d⟩:=y
 simp[ptV] at h
 simp[h]
theorem ekQ_inj (x y:Int × Int) (h:ekQ y=ekQ x):y=x:=by
 obtain⟨a,b⟩:=x
 obtain⟨c,d⟩:=y
 simp[ekQ] at h
 simp[h]
theorem key_pt {p:Pt} (h:fitP p):keyOf Try.prog 51 (ptV p)=some (.string (keyBytes [.int .i64 p.x, .int .i64 p.y])):=key_point p.x p.y (WalkArith.wf_i64 (by unfold fitP at h;omega)) (WalkArith.wf_i64 (by unfold fitP at h;omega))
theorem key_q {x:Int × Int} (h1:fitI x.1) (h2:fitI x.2):keyOf Try.prog 79 (ekQ x)=some (.string (keyBytes [.int .i64 x.1, .int .i64 x.2])):=key_pair x.1 x.2 (wf_int h1) (wf_int h2)
def metB (l:List Vx) (q:Pt):Bool:=l.any fun u=>decide (u.at_=q)
def metM (l:List Vx) (q:Pt):Option Bool:=if metB l q then some true else none
theorem metM_snoc (l:List Vx) (v:Vx):metM (l++[v])=updT (metM l) v.at_ true:=by
 funext q
 unfold updT metM
 have:metB (l++[v]) q=(metB l q||decide (v.at_=q)):=by simp[metB,List.any_append]
 rw[this]
 by_cases e:q=v.at_
 ·rw[if_pos e,decide_eq_true e.symm,Bool.or_true,if_pos rfl]
 ·rw[if_neg e,decide_eq_false (fun h=>e h.symm),Bool.or_false]
def pairB (l:List Ed) (x:Int × Int):Bool:=l.any fun f=>decide (ends f=x)
def pairM (l:List Ed) (x:Int × Int):Option Bool:=if pairB l x then some true else none
theorem pairM_snoc (l:List Ed) (v:Ed):pairM (l++[v])=updT (pairM l) (ends v) true:=by
 funext q
 unfold updT pairM
 have:pairB (l++[v]) q=(pairB l q||decide (ends v=q)):=by simp[pairB,List.any_append]
 rw[this]
 by_cases e:q=ends v
 ·rw[if_pos e,decide_eq_true e.symm,Bool.or_true,if_pos rfl]
 ·rw[if_neg e,decide_eq_false (fun h=>e h.symm),Bool.or_false]
def MetMap (w:World) (M n:Nat) (l:List Vx):Prop:=MapT w Try.prog 51 M n ptV evB (metM l)
def PairMap (w:World) (M n:Nat) (l:List Ed):Prop:=MapT w Try.prog 79 M n ekQ evB (pairM l)
theorem zeroBool (w:World):(zeroValue 4).run Try.prog w= .ok (.bool false) w:=by kernel_rfl
theorem MetMap.look {w:World} {M n:Nat} {l:List Vx} (h:MetMap w M n l) {q:Pt} (hq:fitP q):
  (Instr.lookup 101 (.map (some M)) (.agg #[.int .i64 q.x, .int .i64 q.y]) false).run Try.prog w= .ok (.bool (metB l q)) w:=by
 have:=MapT.look h Try.keyPoint Try.underlying101 (zeroBool w) (x:=q) (key_pt hq)
 rw[show(Value.agg #[.int .i64 q.x, .int .i64 q.y])=ptV q from rfl,this]
 unfold metM
 cases metB l q<;>rfl
theorem PairMap.look {w:World} {M n:Nat} {l:List Ed} (h:PairMap w M n l) {x:Int × Int} (h1:fitI x.1) (h2:fitI x.2):
  (Instr.lookup 102 (.map (some M)) (.agg #[.int .i64 x.1, .int .i64 x.2]) false).run Try.prog w= .ok (.bool (pairB l x)) w:=by
 have:=MapT.look h Try.keyPair Try.underlying102 (zeroBool w) (x:=x) (key_q h1 h2)
 rw[show(Value.agg #[.int .i64 x.1, .int .i64 x.2])=ekQ x from rfl,this]
 unfold pairM
 cases pairB l x<;>rfl
theorem metB_iff {l:List Vx} {q:Pt}:metB l q=true↔ ∃u∈l,u.at_=q:=by simp[metB]
theorem pairB_iff {l:List Ed} {x:Int × Int}:pairB l x=true↔ ∃u∈l,ends u=x:=by simp[pairB]
theorem mem_take {α:Type} {l:List α} {k:Nat} {u:α}:u∈l.take k↔ ∃j,j<k∧l[j]? =some u:=by
 rw[List.mem_iff_getElem?]
 constructor
 ·rintro ⟨j,hj⟩
  have h1:=(List.getElem?_eq_some_iff.1 hj).1
  rw[List.length_take] at h1
  exact⟨j,by omega,by rwa [List.getElem?_take_of_lt (by omega)] at hj⟩
 ·rintro ⟨j,hj,hu⟩
  exact⟨j,by rwa [List.getElem?_take_of_lt hj]⟩
theorem ends_fit {e:Ed} (h1:fitI e.a) (h2:fitI e.b):fitI (ends e).1∧fitI (ends e).2:=by
 unfold fitI at*
 unfold ends
 simp only
 constructor
 ·rcases Int.le_total e.a e.b with h|h
  ·rw[Int.min_eq_left h];omega
  ·rw[Int.min_eq_right h];omega
 ·rcases Int.le_total e.a e.b with h|h
  ·rw[Int.max_eq_right h];omega
  ·rw[Int.max_eq_left h];omega
theorem pid_fit {p:PL} (h:FitPL p) (k:Nat):fitI (pid p.vs k):=by
 cases k with
 |zero=>simp[fitI,pid]
 |succ k=>
  show fitI (((p.vs[k]?).map (·.id)).getD 0)
  cases hk:p.vs[k]? with
  |none=>unfold fitI;decide
  |some v=>exact(h.vs v (List.mem_of_getElem? hk)).1
theorem eid_fit {p:PL} (h:FitPL p) (k:Nat):fitI (eid p.es k):=by
 cases k with
 |zero=>simp[fitI,eid]
 |succ k=>
  show fitI (((p.es[k]?).map (·.id)).getD 0)
  cases hk:p.es[k]? with
  |none=>unfold fitI;decide
  |some v=>exact(h.es v (List.mem_of_getElem? hk)).1
theorem pid_succ {vs:List Vx} {k:Nat} {v:Vx} (h:vs[k]? =some v):pid vs (k+1)=v.id:=by show((vs[k]?).map (·.id)).getD 0=_;rw[h];rfl
theorem eid_succ {vs:List Ed} {k:Nat} {v:Ed} (h:vs[k]? =some v):eid vs (k+1)=v.id:=by show((vs[k]?).map (·.id)).getD 0=_;rw[h];rfl
abbrev rgF (w:World):List Nat:=[w.heap.size+1,w.heap.size+1+1]
abbrev rgG (w:World) (P:Nat):List Nat:=[w.heap.size+1,w.heap.size+1+1,P]
structure RgtV (w W wr:World) (p:PL) (k:Nat):Prop where
 le:k≤p.vs.length
 ok: ∀i v,i<k→p.vs[i]? =some v→VOk p.vs i v
 mat:AtMap wr (w.heap.size+1) k (p.vs.take k)
 met:MetMap wr (w.heap.size+1+1) k (p.vs.take k)
 tch:Touch (rgF w) W wr
structure RgtE (w W wr:World) (p:PL) (P k:Nat):Prop where
 le:k≤p.es.length
 ok: ∀i e,i<k→p.es[i]? =some e→ ∃A B,EOk p.vs p.es i e A B
 mat:AtMap wr (w.heap.size+1) p.vs.length p.vs
 pr:PairMap wr P k (p.es.take k)
 tch:Touch (rgG w P) W wr
theorem RgtV.later {w W wr w':World} {p:PL} {k:Nat} (h:RgtV w W wr p k) (hb:Below wr.heap.size wr w'):RgtV w W w' p k:=
 ⟨h.le,h.ok,MapT.below h.mat hb,MapT.below h.met hb,h.tch.trans (Touch.of_below (F:=rgF w) hb) (fun b hb=> .inl hb)⟩
theorem RgtE.later {w W wr w':World} {p:PL} {P k:Nat} (h:RgtE w W wr p P k) (hb:Below wr.heap.size wr w'):RgtE w W w' p P k:=
 ⟨h.le,h.ok,MapT.below h.mat hb,MapT.below h.pr hb,h.tch.trans (Touch.of_below (F:=rgG w P) hb) (fun b hb=> .inl hb)⟩
theorem RgtV.step {w W w2 w3 w4:World} {p:PL} {k:Nat} {v:Vx} (h:RgtV w W w2 p k) (hv:p.vs[k]? =some v) (ok:VOk p.vs k v)
  (hm3:MapT w3 Try.prog 3 (w.heap.size+1) (k+1) ekI ptV (updT (ptOf (p.vs.take k)) v.id v.at_)) (hg3:w2.grownBy w3 (some (w.heap.size+1)))
  (hm4:MapT w4 Try.prog 51 (w.heap.size+1+1) (k+1) ptV evB (updT (metM (p.vs.take k)) v.at_ true)) (hg4:w3.grownBy w4 (some (w.heap.size+1+1))):RgtV w W w4 p (k+1):=by
 have hlt:=(List.getElem?_eq_some_iff.1 hv).1
 refine⟨by omega,fun i u hi hu=> ?_, ?_, ?_,(h.tch.trans (Touch.of_grown hg3) (by simp)).trans (Touch.of_grown hg4) (by simp)⟩
 ·by_cases e:i=k
  ·subst e;rw[hv] at hu;cases hu;exact ok
  ·exact h.ok i u (by omega) hu
 ·have e:ptOf (p.vs.take (k+1))=updT (ptOf (p.vs.take k)) v.id v.at_:=by
   rw[take_snoc' hv]
   exact ptOf_snoc (fun u hu=>by have:=id_new (fun i v hi hv=>h.ok i v hi hv) hv ok.rise u hu;omega)
  unfold AtMap
  rw[e]
  exact MapT.touch hm3 (Touch.of_grown hg4) (by simp)
 ·unfold MetMap
  rw[take_snoc' hv,metM_snoc]
  exact hm4
theorem RgtE.step {w W w2 w3:World} {p:PL} {P j:Nat} {e:Ed} (h:RgtE w W w2 p P j) (he:p.es[j]? =some e) (ok: ∃A B,EOk p.vs p.es j e A B) (hP:P≠w.heap.size+1)
  (hm3:MapT w3 Try.prog 79 P (j+1) ekQ evB (updT (pairM (p.es.take j)) (ends e) true)) (hg3:w2.grownBy w3 (some P)):RgtE w W w3 p P (j+1):=by
 have hlt:=(List.getElem?_eq_some_iff.1 he).1
 refine⟨by omega,fun i u hi hu=> ?_,MapT.touch h.mat (Touch.of_grown hg3) (by simp;exact fun h=>hP h.symm), ?_,h.tch.trans (Touch.of_grown hg3) (by simp)⟩
 ·by_cases e':i=j
  ·subst e';rw[he] at hu;cases hu;exact ok
  ·exact h.ok i u (by omega) hu
 ·unfold PairMap
  rw[take_snoc' he,pairM_snoc]
  exact hm3
theorem RgtE.keep {w W w2 w3:World} {p:PL} {P j:Nat} {e:Ed} (h:RgtE w W w2 p P j) (hg3:w2.grownBy w3 (some P)) (hm3:MapT w3 Try.prog 79 P (j+1) ekQ evB (updT (pairM (p.es.take j)) (ends e) true)) (hP:P≠w.heap.size+1):Hid (Touch (rgG w P) W w3):=h.tch.trans (Touch.of_grown hg3) (by simp)
theorem crossed_no {vs:List Vx} {es:List Ed} {j:Nat} {a b:Pt} (h:crossedB vs (es.take j) a b=false): ∀i f,i<j→es[i]? =some f→meetB a b (ptZ vs f.a) (ptZ vs f.b)=false:=by
 intro i f hi hf
 unfold crossedB at h
 rw[List.any_eq_false] at h
 simpa using h f (mem_take.2 ⟨i,hi,hf⟩)
theorem crossed_yes {vs:List Vx} {es:List Ed} {j:Nat} {a b:Pt} (h:crossedB vs (es.take j) a b=true): ∃i f,i<j∧es[i]? =some f∧meetB a b (ptZ vs f.a) (ptZ vs f.b)=true:=by
 unfold crossedB at h
 rw[List.any_eq_true] at h
 obtain⟨f,hf,hm⟩:=h
 obtain⟨i,hi,hf⟩:=mem_take.1 hf
 exact⟨i,f,hi,hf,hm⟩
theorem ptZ_of {vs:List Vx} {id:Int} {q:Pt} (h:ptOf vs id=some q):ptZ vs id=q:=by unfold ptZ;rw[h];rfl
end Go.Proofs.Ythopjhifepijiaa
namespace Go.Proofs.Ythopjhifepijiaa
open Go.RowKit
open Go.Maps (Keyed)
def ekH (h:Hf):Value:= .agg #[.int .i64 h.edge, .bool h.back]
def vxV (v:Vx):Value:= .agg #[.int .i64 v.id, .int .i64 v.at_.x, .int .i64 v.at_.y]
theorem ekH_inj (x y:Hf) (h:ekH y=ekH x):y=x:=by
 obtain⟨a,b⟩:=x
 obtain⟨c,d⟩:=y
 simp[ekH] at h
 obtain⟨rfl,rfl⟩:=h
 rfl
theorem key_h {h:Hf} (hf:fitI h.edge):keyOf Try.prog 45 (ekH h)=some (.string (keyBytes [.int .i64 h.edge, .bool h.back])):=key_half _ _ (wf_int hf)
theorem key_i {x:Int} (hf:fitI x):keyOf Try.prog 3 (ekI x)=some (.int .i64 x):=key_int _ (wf_int hf)
theorem zeroVx (w:World):(zeroValue 53).run Try.prog w= .ok (.agg #[.int .i64 0, .int .i64 0, .int .i64 0]) w:=by kernel_rfl
theorem zeroInt (w:World):(zeroValue 3).run Try.prog w= .ok (.int .i64 0) w:=by kernel_rfl
theorem zeroHf (w:World):(zeroValue 45).run Try.prog w= .ok (.agg #[.int .i64 0, .bool false]) w:=by kernel_rfl
def frM (es:List Ed) (h:Hf):Option Int:=if h∈halvesE es then some (fromH es h) else none
def vxM (vs:List Vx) (id:Int):Option Vx:=vs.find? (isV id)
theorem fldAt (a b c:Value) (w:World):(Instr.field 53 (.agg #[a,b,c]) 1).run Try.prog w= .ok (.agg #[b,c]) w:=by kernel_rfl
section
variable {p:PL}
theorem FitPL.half (f:FitPL p) {h:Hf} (hm:h∈halvesE p.es):fitI h.edge:=by
 obtain⟨e,he,e1⟩:=mem_halves.1 hm
 rw[←e1]
 exact(f.es e he).1
theorem FitPL.from_ (f:FitPL p) (h:Hf):fitI (fromH p.es h):=by
 unfold fromH
 cases e:edgeOf p.es h.edge with
 |none=>exact(show fitI 0 from⟨by decide,by decide⟩)
 |some x=>
  have:=f.es x (List.mem_of_find?_eq_some e)
  simp only
  split
  ·exact this.2.2
  ·exact this.2.1
theorem vxM_pt (vs:List Vx) (id:Int):(vxM vs id).map (·.at_)=ptOf vs id:=rfl
theorem RightP.vx_of (r:RightP p) {h:Hf} (hm:h∈halvesE p.es): ∃v,vxM p.vs (toH p.es h)=some v∧ptH p (twinH h)=v.at_:=by
 obtain⟨-, -, -,⟨v,hv,e1, -⟩, -⟩:=r.half_pts hm
 have e2:=vxM_pt p.vs (toH p.es h)
 cases k:vxM p.vs (toH p.es h) with
 |none=>
  have:=List.find?_eq_none.1 k v hv
  simp[isV,e1] at this
 |some u=>
  rw[k] at e2
  refine⟨u,rfl, ?_⟩
  show ptZ p.vs (toH p.es h)=_
  unfold ptZ
  rw[←e2];rfl
theorem frM_of {es:List Ed} {h:Hf} (hm:h∈halvesE es):frM es h=some (fromH es h):=if_pos hm
end
namespace D
set_option maxRecDepth 100000 in
theorem twin_any (h:Hf) (w:World):Calls Try.prog 77 #[.agg #[.int .i64 h.edge, .bool h.back]] w fun e w'=>e= .returned (.agg #[.int .i64 (twinH h).edge, .bool (twinH h).back])∧Below w.heap.size w w':=by
 obtain⟨e,b⟩:=h
 simp only[twinH]
 cases b
 all_goals
  go_enter Try.func77,Try.ntmps77
  go_wp2_with fail
 ·refine bodyPost_ret (v:= .agg #[.int .i64 e, .bool true]) (by simp[results,Try.results77,go_sem]) rfl ⟨rfl, ?_⟩
  exact below_alloc (below_alloc (Below.refl _ _))
 ·refine bodyPost_ret (v:= .agg #[.int .i64 e, .bool false]) (by simp[results,Try.results77,go_sem]) rfl ⟨rfl, ?_⟩
  exact below_alloc (below_alloc (Below.refl _ _))
set_option maxRecDepth 100000 in
set_option maxHeartbeats 4000000 in
theorem cmp_any {p:PL} (r:RightP p) (hfit:FitPL p) {id:Int} (x y:LeavT p id) {w:World} {bo bw ma mf na nf:Nat}
  (ho:w.cell? ⟨bo,0,none⟩=some (.int .i64 (ptZ p.vs id).x)∧w.cell? ⟨bo,1,none⟩=some (.int .i64 (ptZ p.vs id).y)) (hw:w.cell? ⟨bw,0,none⟩=some (.map (some ma))∧w.cell? ⟨bw,1,none⟩=some (.map (some mf))) (lo:bo<w.heap.size) (lw:bw<w.heap.size)
  (hat:MapT w Try.prog 3 ma na ekI vxV (vxM p.vs)) (hfr:MapT w Try.prog 45 mf nf ekH ekI (frM p.es)):
  Calls Try.prog 75 (#[.agg #[.int .i64 x.1.edge, .bool x.1.back], .agg #[.int .i64 y.1.edge, .bool y.1.back]]++ #[.pointer (some ⟨bo,0,none⟩), .pointer (some ⟨bw,0,none⟩)]) w fun e w'=>e= .returned (.int .i64 (cfH p id x y))∧Below w.heap.size w w':=by
 obtain⟨vx,hvx,hax⟩:=r.vx_of x.2.1
 obtain⟨vy,hvy,hay⟩:=r.vx_of y.2.1
 rw[show cfH p id x y=arnd (ptZ p.vs id) vx.at_ vy.at_ by unfold cfH;rw[hax,hay]]
 have LX:=fun(W:World) (h:Below w.heap.size w W)=>Lib.hid (show(Instr.lookup 114 (.map (some mf)) (.agg #[.int .i64 (twinH x.1).edge, .bool (twinH x.1).back]) false).run Try.prog W= .ok (.int .i64 (toH p.es x.1)) W from by
  have:=MapT.look (t:=114) (hfr.below h.b) Try.keyHalf Try.underlying114 (zeroInt W) (x:=twinH x.1) (key_h (hfit.half (twin_mem x.2.1)))
  rw[frM_of (twin_mem x.2.1)] at this
  exact this)
 have LY:=fun(W:World) (h:Below w.heap.size w W)=>Lib.hid (show(Instr.lookup 114 (.map (some mf)) (.agg #[.int .i64 (twinH y.1).edge, .bool (twinH y.1).back]) false).run Try.prog W= .ok (.int .i64 (toH p.es y.1)) W from by
  have:=MapT.look (t:=114) (hfr.below h.b) Try.keyHalf Try.underlying114 (zeroInt W) (x:=twinH y.1) (key_h (hfit.half (twin_mem y.2.1)))
  rw[frM_of (twin_mem y.2.1)] at this
  exact this)
 have MX:=fun(W:World) (h:Below w.heap.size w W)=>Lib.hid (show(Instr.lookup 113 (.map (some ma)) (.int .i64 (toH p.es x.1)) false).run Try.prog W= .ok (.agg #[.int .i64 vx.id, .int .i64 vx.at_.x, .int .i64 vx.at_.y]) W from by
  have:=MapT.look (t:=113) (hat.below h.b) Try.keyInt Try.underlying113 (zeroVx W) (x:=toH p.es x.1) (key_i (hfit.from_ (twinH x.1)))
  rw[hvx] at this
  exact this)
 have MY:=fun(W:World) (h:Below w.heap.size w W)=>Lib.hid (show(Instr.lookup 113 (.map (some ma)) (.int .i64 (toH p.es y.1)) false).run Try.prog W= .ok (.agg #[.int .i64 vy.id, .int .i64 vy.at_.x, .int .i64 vy.at_.y]) W from by
  have:=MapT.look (t:=113) (hat.below h.b) Try.keyInt Try.underlying113 (zeroVx W) (x:=toH p.es y.1) (key_i (hfit.from_ (twinH y.1)))
  rw[hvy] at this
  exact this)
 have CO:=fun(W:World) (h:Below w.heap.size w W)=>Lib.hid (show W.cell? ⟨bo,0,none⟩=some (.int .i64 (ptZ p.vs id).x)∧W.cell? ⟨bo,1,none⟩=some (.int .i64 (ptZ p.vs id).y)∧W.cell? ⟨bw,0,none⟩=some (.map (some ma))∧W.cell? ⟨bw,1,none⟩=some (.map (some mf)) from
  ⟨(h.cell (p:=⟨bo,0,none⟩) lo).trans ho.1,(h.cell (p:=⟨bo,1,none⟩) lo).trans ho.2,(h.cell (p:=⟨bw,0,none⟩) lw).trans hw.1,(h.cell (p:=⟨bw,1,none⟩) lw).trans hw.2⟩)
 have TX:=fun W=>Lib.hid (twin_any x.1 W)
 have TY:=fun W=>Lib.hid (twin_any y.1 W)
 have AR:=fun W=>Lib.hid (around_any (ptZ p.vs id) vx.at_ vy.at_ W)
 clear hvx hvy hax hay ho hw hat hfr r hfit
 generalize toH p.es x.1=tx at*
 generalize toH p.es y.1=ty at*
 generalize ptZ p.vs id=o at*
 obtain⟨⟨hx,hx2⟩,kx⟩:=x
 obtain⟨⟨hy,hy2⟩,ky⟩:=y
 simp only[twinH] at LX LY TX TY ⊢
 clear kx ky
 have hfl:=fldAt
 go_enter Try.func75,Try.ntmps75
 go_wp2_with fail
 first|refine wp_name (fun W hW=> ?_)|refine calls_name (fun W hW=> ?_)
 have HW:Hid (Below w.heap.size w W):=Lib.hid (by rw[←hW];repeat (first|exact Below.refl _ _|refine below_alloc ?_))
 have HWs:Hid (W.heap.size=w.heap.size+1+1):=Lib.hid (by rw[←hW];simp)
 have HBW:Hid (W.heap.size≤W.heap.size):=Lib.hid (by have:=HWs.out;omega)
 have HC:=fun(W1:World) (hb:Below (W.heap.size) W W1)=>Lib.hid (show W1.cell? ⟨w.heap.size,0,none⟩=some (.int .i64 hx)∧W1.cell? ⟨w.heap.size,1,none⟩=some (.bool hx2)∧W1.cell? ⟨w.heap.size+1,0,none⟩=some (.int .i64 hy)∧W1.cell? ⟨w.heap.size+1,1,none⟩=some (.bool hy2) from by have hs:=HWs.out;refine⟨?_, ?_, ?_, ?_⟩<;>(refine(hb.cell (by dsimp only;omega)).trans ?_;rw[←hW];clear hW;go_simp))
 have HB:=Lib.hid (Below.refl (W.heap.size) W)
 clear hW
 have HZ:=fun(W1:World) (hb:W.heap.size≤W1.heap.size)=>Lib.hid (show w.heap.size<W1.heap.size∧w.heap.size+1<W1.heap.size from by have:=HWs.out;refine⟨?_, ?_⟩<;>omega)
 obtain⟨qx0,qx1,qx2,qx3⟩:=(HC _ HB.out).out
 obtain⟨rx0,rx1⟩:=(HZ _ HB.out.size).out
 refine wp_name (fun c2 hc2=> ?_)
 have HB:=bnm HB HBW hc2
 have YB:=fun(x:Later c2)=>HW.out.trans ((below_next HB.out (Nat.le_trans HBW.out HB.out.size) x.2).mono HW.out.size);have y0:=fun(x:Later c2)=>(CO x.1 (YB x)).out.1;have y1:=fun(x:Later c2)=>(CO x.1 (YB x)).out.2.1;have y2:=fun(x:Later c2)=>(CO x.1 (YB x)).out.2.2.1;have y3:=fun(x:Later c2)=>(CO x.1 (YB x)).out.2.2.2;have y4:=fun(x:Later c2)=>(LX x.1 (YB x)).out;have y5:=fun(x:Later c2)=>(LY x.1 (YB x)).out;have y6:=fun(x:Later c2)=>(MX x.1 (YB x)).out;have y7:=fun(x:Later c2)=>(MY x.1 (YB x)).out;clear YB
 clear hc2
 have xx:=fun(x:Later c2)=>(HC _ (bnl HB HBW x.2)).out
 simp only[forall_and] at xx
 obtain⟨xx0,xx1,xx2,xx3⟩:=xx
 refine wp_region_later (by kernel_rfl) (by kernel_rfl) ?_
 repeat (first|go_big_quiet_step (((first|(go_at_call 77;with_reducible refine Later.call (TX _).out)|(go_at_call 77;with_reducible refine Later.call (TY _).out)|(go_at_call 76;with_reducible refine Later.call (AR _).out))))|quiet_step (((first|(go_at_call 77;with_reducible refine Later.call (TX _).out)|(go_at_call 77;with_reducible refine Later.call (TY _).out)|(go_at_call 76;with_reducible refine Later.call (AR _).out)))))
 refine wpQuiet_nil ?_
 intro w2 hw2
 have hb2:=later_below hw2
 clear hw2
 have HB:=Lib.hid (bnl HB HBW hb2)
 clear xx0 xx1 xx2 xx3
 clear qx0 qx1 qx2 qx3 rx0 rx1
 obtain⟨qx0,qx1,qx2,qx3⟩:=(HC _ HB.out).out
 skip
 clear hb2
 obtain⟨rx0,rx1⟩:=(HZ _ HB.out.size).out
 go_wp2_with fail
 go_ret
 exact⟨rfl,bfn HW HB⟩
end D
end Go.Proofs.Ythopjhifepijiaa
namespace Go.Proofs.Ythopjhifepijiaa
inductive Conn {α:Type} (es:List (α × α)):α→α→Prop
 |refl (a:α):Conn es a a
 |fwd {a b c:α}:Conn es a b→(b,c)∈es→Conn es a c
 |bwd {a b c:α}:Conn es a b→(c,b)∈es→Conn es a c
section
variable {α:Type} {es:List (α × α)}
theorem Conn.trans {a b c:α} (h:Conn es a b) (k:Conn es b c):Conn es a c:=by
 induction k with
 |refl=>exact h
 |fwd _ e ih=>exact ih.fwd e
 |bwd _ e ih=>exact ih.bwd e
theorem Conn.symm {a b:α} (h:Conn es a b):Conn es b a:=by
 induction h with
 |refl=>exact Conn.refl _
 |fwd _ e ih=>exact((Conn.refl _).bwd e).trans ih
 |bwd _ e ih=>exact((Conn.refl _).fwd e).trans ih
theorem Conn.mono {fs:List (α × α)} {a b:α} (h:Conn es a b) (k: ∀e∈es,e∈fs):Conn fs a b:=by
 induction h with
 |refl=>exact Conn.refl _
 |fwd _ e ih=>exact ih.fwd (k _ e)
 |bwd _ e ih=>exact ih.bwd (k _ e)
theorem Conn.map {β:Type} (f:α→β) {a b:α} (h:Conn es a b):Conn (es.map fun e=>(f e.1,f e.2)) (f a) (f b):=by
 induction h with
 |refl=>exact Conn.refl _
 |fwd _ e ih=>exact ih.fwd (List.mem_map.2 ⟨_,e,rfl⟩)
 |bwd _ e ih=>exact ih.bwd (List.mem_map.2 ⟨_,e,rfl⟩)
end
variable {es:List (Nat × Nat)}
def relax (l:Nat→Nat) (e:Nat × Nat):Nat→Nat:=fun v=>if v=e.1∨v=e.2 then min (l e.1) (l e.2) else l v
theorem relax_le (l:Nat→Nat) (e:Nat × Nat) (v:Nat):relax l e v≤l v:=by
 unfold relax
 split
 ·rename_i h
  rcases h with rfl|rfl
  ·exact Nat.min_le_left _ _
  ·exact Nat.min_le_right _ _
 ·exact Nat.le_refl _
def roundL (l:Nat→Nat) (L:List (Nat × Nat)):Nat→Nat:=L.foldl relax l
theorem round_le: ∀(L:List (Nat × Nat)) (l:Nat→Nat) (v:Nat),roundL l L v≤l v
 | [],l,v=>Nat.le_refl _
 |e::L,l,v=>Nat.le_trans (round_le L (relax l e) v) (relax_le l e v)
theorem relax_conn {l:Nat→Nat} (h: ∀v,Conn es v (l v)) {e:Nat × Nat} (he:e∈es): ∀v,Conn es v (relax l e v):=fun v=>by
 unfold relax
 have k:Conn es e.1 e.2:=(Conn.refl _).fwd he
 split
 ·rename_i hv
  have h1:Conn es v e.1∧Conn es v e.2:=by
   rcases hv with rfl|rfl
   ·exact⟨Conn.refl _,k⟩
   ·exact⟨k.symm,Conn.refl _⟩
  rcases Nat.le_total (l e.1) (l e.2) with q|q
  ·rw[Nat.min_eq_left q];exact h1.1.trans (h _)
  ·rw[Nat.min_eq_right q];exact h1.2.trans (h _)
 ·exact h v
theorem round_conn: ∀(L:List (Nat × Nat)) (l:Nat→Nat),(∀e∈L,e∈es)→(∀v,Conn es v (l v))→ ∀v,Conn es v (roundL l L v)
 | [],l,_,h=>h
 |e::L,l,hL,h=>round_conn L (relax l e) (fun x hx=>hL x (by simp[hx])) (relax_conn h (hL e (by simp)))
def roundsL (es:List (Nat × Nat)):Nat→(Nat→Nat)
 |0=>fun v=>v
 |k+1=>roundL (roundsL es k) es
theorem rounds_conn: ∀k v,Conn es v (roundsL es k v)
 |0,v=>Conn.refl v
 |k+1,v=>round_conn es _ (fun e he=>he) (rounds_conn k) v
theorem round_next {m:Nat}: ∀(L:List (Nat × Nat)) (l:Nat→Nat),(∀v,Conn es v (l v))→(∀e∈L,e∈es)→(∀v,Conn es m v→m≤v)→ ∀ {a b:Nat},(a,b)∈L→Conn es m a→(l a=m∨l b=m)→roundL l L a=m∧roundL l L b=m
 | [],_,_,_,_,_,_,h,_,_=>by cases h
 |e::L,l,hc,hL,hm,a,b,h,ha,hl=>by
  have hc2:=relax_conn hc (hL e (by simp))
  have eab:Conn es a b:=(Conn.refl a).fwd (hL (a,b) h)
  have lo: ∀(l:Nat→Nat),(∀v,Conn es v (l v))→ ∀v,Conn es m v→m≤l v:=fun l hc v hv=>hm _ (hv.trans (hc v))
  have stay: ∀ {v},Conn es m v→relax l e v=m→roundL (relax l e) L v=m:=fun {v} hv h=>by
   have h1:=round_le L (relax l e) v
   have h2:=lo _ (round_conn L (relax l e) (fun x hx=>hL x (by simp[hx])) hc2) v hv
   omega
  have low: ∀ {v},Conn es m v→l v=m→relax l e v=m:=fun {v} hv h=>by
   have h1:=relax_le l e v
   have h2:=lo _ hc2 v hv
   omega
  rcases List.mem_cons.1 h with rfl|h
  ·have h1:=lo l hc a ha
   have h2:=lo l hc b (ha.trans eab)
   have e1:relax l (a,b) a=m:=by unfold relax;rw[if_pos (.inl rfl)];show min (l a) (l b)=m;omega
   have e2:relax l (a,b) b=m:=by unfold relax;rw[if_pos (.inr rfl)];show min (l a) (l b)=m;omega
   exact⟨stay ha e1,stay (ha.trans eab) e2⟩
  ·exact round_next L (relax l e) hc2 (fun x hx=>hL x (by simp[hx])) hm h ha (hl.imp (low ha) (low (ha.trans eab)))
theorem filter_grow {α:Type} {p q:α→Bool}: ∀ {l:List α},(∀x∈l,p x=true→q x=true)→(∃x∈l,p x=false∧q x=true)→(l.filter p).length<(l.filter q).length
 | [],_,⟨x,hx,_⟩=>by cases hx
 |y::l,h,⟨x,hx,h1,h2⟩=>by
  have mono: ∀ {l:List α},(∀x∈l,p x=true→q x=true)→(l.filter p).length≤(l.filter q).length:=fun {l}=>by
   induction l with
   |nil=>intro _;simp
   |cons z l ih=>
    intro h
    have:=ih (fun x hx=>h x (by simp[hx]))
    have hz:=h z (by simp)
    rw[List.filter_cons,List.filter_cons]
    cases hp:p z
    ·cases hq:q z<;>simp<;>omega
    ·rw[hz hp];simpa using this
  have hm:=mono (l:=l) (fun x hx=>h x (by simp[hx]))
  rw[List.filter_cons,List.filter_cons]
  rcases List.mem_cons.1 hx with rfl|hx
  ·rw[h1,h2]
   simp
   omega
  ·have ih:=filter_grow (l:=l) (fun x hx=>h x (by simp[hx])) ⟨x,hx,h1,h2⟩
   have hy:=h y (by simp)
   cases hp:p y
   ·cases hq:q y<;>simp<;>omega
   ·rw[hy hp];simpa using ih
theorem rounds_least {n m:Nat} (hes: ∀e∈es,e.1<n∧e.2<n) (hmn:m<n) (hm: ∀v,Conn es m v→m≤v): ∀v,Conn es m v→roundsL es n v=m:=by
 have lo: ∀k v,Conn es m v→m≤roundsL es k v:=fun k v hv=>hm _ (hv.trans (rounds_conn k v))
 have bd: ∀v,Conn es m v→v<n:=fun v hv=>by
  cases hv with
  |refl=>exact hmn
  |fwd _ e=>exact(hes _ e).2
  |bwd _ e=>exact(hes _ e).1
 have hself: ∀k,roundsL es k m=m:=by
  intro k
  induction k with
  |zero=>rfl
  |succ k ih=>
   have h1:=round_le es (roundsL es k) m
   have h2:=lo (k+1) m (Conn.refl m)
   rw[show roundsL es (k+1)=roundL (roundsL es k) es from rfl] at h2 ⊢
   omega
 have key: ∀k,(∀v,Conn es m v→roundsL es k v=m)∨k+1≤((List.range n).filter fun v=>decide (roundsL es k v=m)).length:=by
  intro k
  induction k with
  |zero=>
   right
   refine List.length_pos_of_mem (a:=m) ?_
   simp[hmn,hself 0]
  |succ k ih=>
   have mono: ∀v,Conn es m v→roundsL es k v=m→roundsL es (k+1) v=m:=fun v hv h=>by
    have h1:=round_le es (roundsL es k) v
    have h2:=lo (k+1) v hv
    rw[show roundsL es (k+1)=roundL (roundsL es k) es from rfl] at h2 ⊢
    omega
   have conn: ∀v,roundsL es k v=m→Conn es m v:=fun v h=>by
    have:=(rounds_conn (es:=es) k v).symm
    rw[h] at this;exact this
   rcases ih with ih|ih
   ·exact .inl (fun v hv=>mono v hv (ih v hv))
   ·by_cases hcl: ∀a b,(a,b)∈es→(roundsL es k a=m↔roundsL es k b=m)
    ·refine .inl (fun v hv=>mono v hv ?_)
     induction hv with
     |refl=>exact hself k
     |fwd _ e ih=>exact(hcl _ _ e).1 ih
     |bwd _ e ih=>exact(hcl _ _ e).2 ih
    ·right
     simp only[Classical.not_forall] at hcl
     obtain⟨a,b,he,hn⟩:=hcl
     have hor:roundsL es k a=m∨roundsL es k b=m:=by
      by_cases h1:roundsL es k a=m
      ·exact .inl h1
      ·by_cases h2:roundsL es k b=m
       ·exact .inr h2
       ·exact absurd ⟨fun h=>absurd h h1,fun h=>absurd h h2⟩ hn
     have ha:Conn es m a:=by
      rcases hor with h|h
      ·exact conn a h
      ·exact(conn b h).bwd he
     obtain⟨g1,g2⟩:=round_next (es:=es) (m:=m) es (roundsL es k) (rounds_conn k) (fun e he=>he) hm he ha hor
     have hlt:=filter_grow (l:=List.range n) (p:=fun v=>decide (roundsL es k v=m)) (q:=fun v=>decide (roundsL es (k+1) v=m)) (fun v _ h=>by
      rw[decide_eq_true_eq] at h ⊢
      exact mono v (conn v h) h) (by
      by_cases h1:roundsL es k a=m
      ·have h2:roundsL es k b≠m:=fun h2=>hn ⟨fun _=>h2,fun _=>h1⟩
       exact⟨b,List.mem_range.2 (hes _ he).2,decide_eq_false h2,decide_eq_true g2⟩
      ·exact⟨a,List.mem_range.2 (hes _ he).1,decide_eq_false h1,decide_eq_true g1⟩)
     omega
 intro v hv
 rcases key n with h|h
 ·exact h v hv
 ·exfalso
  have:=List.length_filter_le (fun v=>decide (roundsL es n v=m)) (List.range n)
  rw[List.length_range] at this
  omega
theorem rounds_iff {n:Nat} (hes: ∀e∈es,e.1<n∧e.2<n) {a b:Nat} (ha:a<n):roundsL es n a=roundsL es n b↔Conn es a b:=by
 constructor
 ·intro h
  have h1:=rounds_conn (es:=es) n a
  rw[h] at h1
  exact h1.trans (rounds_conn n b).symm
 ·intro h
  obtain⟨m,hm,hmin⟩: ∃m,Conn es a m∧ ∀v,Conn es a v→m≤v:=by
   have key: ∀k,k≤a→(∃m,Conn es a m∧ ∀v,Conn es a v→m≤v)∨ ∀v,Conn es a v→k≤v:=by
    intro k
    induction k with
    |zero=>exact fun _=> .inr (fun v _=>Nat.zero_le v)
    |succ k ih=>
     intro hk
     rcases ih (by omega) with h|h
     ·exact .inl h
     ·by_cases hc:Conn es a k
      ·exact .inl ⟨k,hc,h⟩
      ·refine .inr (fun v hv=> ?_)
       have h1:=h v hv
       rcases Nat.lt_or_ge k v with q|q
       ·exact q
       ·have:v=k:=by omega
        subst this;exact absurd hv hc
   rcases key a (Nat.le_refl _) with h|h
   ·exact h
   ·exact⟨a,Conn.refl a,h⟩
  have hl:=rounds_least hes (Nat.lt_of_le_of_lt (hmin a (Conn.refl a)) ha) (fun v hv=>hmin v (hm.trans hv))
  rw[hl a hm.symm,hl b (hm.symm.trans h)]
end Go.Proofs.Ythopjhifepijiaa
