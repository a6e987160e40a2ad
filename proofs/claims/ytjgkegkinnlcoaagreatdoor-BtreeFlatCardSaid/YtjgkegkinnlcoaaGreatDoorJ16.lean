/- Lemmas on the way to the statement: BtDel3, BtDel4, BtDel5, BtDel6, BtWhole, BtWhole2, BtWok, BtRef, Pairs, BtWkS, BtWkT, BtJoin, BtFeed, Pairs2, OwpNear. -/
import Derived.Test.YtjgkegkinnlcoaaGreatDoorJ15
import Derived.Deep.RegionLawGrows
import Derived.Lib.AppendZeros
set_option linter.unusedSimpArgs false
set_option linter.unusedVariables false
namespace Go.Proofs.YtjgkegkinnlcoaaGreatDoor
open Go.RowKit
theorem Segs.pw: ∀ {ks:List Int} {lo hi:Option Int} {ss:List (List (Int × Int))},Segs lo hi ks ss→(∀t∈ss,t≠ [])→ks.Pairwise (· < ·)∧ ∀l,lo=some l→ ∀k∈ks,l<k
 | [],_,_,_,_,_=>by simp
 |k::ks,_,_,[],h,_=>h.elim
 |k::ks,lo,hi,s::ss,h,hn=>by
  obtain⟨a,b⟩:=h.2.pw (fun t ht=>hn t (by simp[ht]))
  obtain⟨p,hp⟩:=List.exists_mem_of_ne_nil _ (hn s (by simp))
  have h1:=h.1 p hp
  refine⟨List.pairwise_cons.2 ⟨fun x hx=>b k rfl x hx,a⟩,fun l e x hx=> ?_⟩
  have:=h1.1 l e
  have:=h1.2 k rfl
  rcases List.mem_cons.1 hx with rfl|hx
  ·omega
  ·have:=b k rfl x hx;omega
theorem perm_two {α:Type} (x y:α) (A B:List α):((x::A)++(y::B)).Perm (x::y::(A++B)):=by
 show(x::(A++y::B)).Perm _
 exact List.Perm.cons _ List.perm_middle
section
variable {M:PM} {R:RM} {N:Nat} {G:Int} {n a b:ND} {KA KB:List Int} {s:Int} {ZA ZB:List KZ} {za zb:KZ}
theorem feed_fork {h:Nat} (hR:Rel M R N G) (hr:R.most≤R.room) (e1:n.keys=KA++s::KB) (e2:n.kids=(ZA++za::zb::ZB).map (·.1)) (e3:ZA.length=KA.length) (ta:TrAt M (h+1) za.1 za.2.1 za.2.2) (tb:TrAt M (h+1) zb.1 zb.2.1 zb.2.2) (ra:ndRead M za.1=(0,a)) (rb:ndRead M zb.1=(0,b)) (hsz:39≤a.keys.length+b.keys.length)
  (s1: ∀p∈za.2.1,p.1<s) (s2: ∀p∈zb.2.1,s≤p.1) (hsb:0≤s∧s≤18446744073709551615) (hnd:(za.2.2++zb.2.2).Nodup) (hlv: ∀q∈za.2.2++zb.2.2,Live R q):FeedPost M R N G (h+1) n KA KB ZA ZB za zb:=by
 obtain⟨na,kza,ra',la,da,za1,ga,pa,sa⟩:=ta
 obtain⟨nb,kzb,rb',lb,db,zb1,gb,pb,sb⟩:=tb
 rw[ra] at ra'
 rw[rb] at rb'
 injection ra' with _ ra'
 injection rb' with _ rb'
 subst ra' rb'
 have oka:=ndRead_ok ra
 have okb:=ndRead_ok rb
 obtain⟨ka1,ka2,ka3,ka4⟩:=oka.forks la
 obtain⟨kb1,kb2,kb3,kb4⟩:=okb.forks lb
 have hj:joinN a s b=⟨false,a.keys++s::b.keys,[],a.kids++b.kids⟩:=by unfold joinN;rw[if_neg (by rw[la];decide)]
 unfold FeedPost
 rw[feed_head e1 e2 e3 ra rb (by rw[la,lb]),hj]
 have hkz: ∀y∈kza++kzb,TrAt M h y.1 y.2.1 y.2.2∧thinN (ndRead M y.1).2=false:=fun y hy=>(List.mem_append.1 hy).elim (za1 y) (zb1 y)
 have hsg:Segs none none (a.keys++s::b.keys) ((kza++kzb).map (·.2.1)):=by
  rw[List.map_append]
  refine Segs.join (sa.strHi (fun t ht p hp=>s1 p ?_)) (sb.strLo (fun t ht p hp=>s2 p ?_))
  ·rw[ga];exact List.mem_flatten.2 ⟨t,ht,hp⟩
  ·rw[gb];exact List.mem_flatten.2 ⟨t,ht,hp⟩
 have hne: ∀t∈(kza++kzb).map (·.2.1),t≠ []:=fun t ht=>by
  obtain⟨y,hy,rfl⟩:=List.mem_map.1 ht
  exact(hkz y hy).1.some
 have hpw:=(hsg.pw hne).1
 have hkd:a.kids++b.kids=(kza++kzb).map (·.1):=by rw[da,db,List.map_append]
 have hkb: ∀k∈a.keys++s::b.keys,0≤k∧k≤18446744073709551615:=fun k hk=>by
  rcases List.mem_append.1 hk with hk|hk
  ·exact oka.kb k hk
  ·rcases List.mem_cons.1 hk with rfl|hk
   ·exact hsb
   ·exact okb.kb k hk
 have hdb: ∀v∈a.kids++b.kids,0<v∧v≤4294967295:=fun v hv=>(List.mem_append.1 hv).elim (ka4 v) (kb4 v)
 have hjl:(a.keys++s::b.keys).length=a.keys.length+b.keys.length+1:=by simp;omega
 have hdl:(a.kids++b.kids).length=(a.keys++s::b.keys).length+1:=by rw[List.length_append,ka2,kb2,hjl];omega
 have hpa:za.2.2=za.1::pgZ kza:=pa
 have hpb:zb.2.2=zb.1::pgZ kzb:=pb
 have hga:za.2.1++zb.2.1=sgZ (kza++kzb):=by rw[sgZ_app,ga,gb];rfl
 have hpp:(za.2.2++zb.2.2).Perm (za.1::zb.1::pgZ (kza++kzb)):=by rw[hpa,hpb,pgZ_app];exact perm_two _ _ _ _
 have hnd2:=hpp.nodup_iff.1 hnd
 obtain⟨m1,m2⟩:=List.nodup_cons.1 hnd2
 obtain⟨m3,m4⟩:=List.nodup_cons.1 m2
 have hab:za.1≠zb.1:=fun e=>m1 (by rw[e];simp)
 have haz:za.1∉pgZ (kza++kzb):=fun hm=>m1 (by simp[hm])
 have hma:za.1∈za.2.2++zb.2.2:=hpp.mem_iff.2 (by simp)
 have hmb:zb.1∈za.2.2++zb.2.2:=hpp.mem_iff.2 (by simp)
 have hmk: ∀y∈kza++kzb, ∀q∈y.2.2,q∈za.2.2++zb.2.2∧q≠za.1∧q≠zb.1:=fun y hy q hq=>by
  have:=pgZ_mem hy q hq
  exact⟨hpp.mem_iff.2 (by simp[this]),fun e=>haz (e▸this),fun e=>m3 (e▸this)⟩
 generalize a.keys++s::b.keys=K at*
 generalize hD:a.kids++b.kids=D at*
 have hfull:fullN ⟨false,K,[],D⟩=decide (40<K.length):=fullN_fork rfl
 by_cases hf:40<K.length
 ·have hff:fullN ⟨false,K,[],D⟩=true:=by rw[hfull,decide_eq_true_iff];exact hf
  obtain⟨Z1,Z2,z1,z2,z3,z4,z5,z6,z7,z8,z9,z10,z11,z12⟩:=half_fork (n:=⟨false,K,[],D⟩) (kz:=kza++kzb) rfl hkd hsg hpw (show 1≤K.length by omega)
  simp only at z2 z3 z4 z5 z6 z7 z10 z11 z12
  have hd1: ∀v∈Z1.map (·.1),0<v∧v≤4294967295:=fun v hv=>hdb v (by rw[hkd,z1];simp at hv ⊢;obtain⟨a,b,h⟩:=hv;exact .inl ⟨a,b,h⟩)
  have hd2: ∀v∈Z2.map (·.1),0<v∧v≤4294967295:=fun v hv=>hdb v (by rw[hkd,z1];simp at hv ⊢;obtain⟨a,b,h⟩:=hv;exact .inr ⟨a,b,h⟩)
  have okA:NdOk ⟨false,K.take (K.length / 2),[],Z1.map (·.1)⟩:=⟨by simp;omega,risL_iff.2 z11,fun k hk'=>hkb k (List.mem_of_mem_take hk'),fun e=>(by cases e),fun _=>⟨rfl,by simp;omega,by simp;omega,hd1⟩⟩
  have okB:NdOk ⟨false,K.drop (K.length / 2+1),[],Z2.map (·.1)⟩:=⟨by simp;omega,risL_iff.2 z12,fun k hk'=>hkb k (List.mem_of_mem_drop hk'),fun e=>(by cases e),fun _=>⟨rfl,by simp;omega,by simp;omega,hd2⟩⟩
  obtain⟨M1,R1,w1,w2,w3,w4,w5⟩:=st_writeB hR hr okA hnd hlv hma
  obtain⟨M2,R2,x1,x2,x3,x4,x5⟩:=st_writeB w2 (by rw[w3.most,w3.room];exact hr) okB w3.nd w3.live hmb
  have rA:ndRead M2 za.1=(0,⟨false,K.take (K.length / 2),[],Z1.map (·.1)⟩):=by rw[x5 za.1 (w3.live _ hma) hab,w4]
  have hsame: ∀q∈za.2.2++zb.2.2,q≠za.1→q≠zb.1→ndRead M2 q=ndRead M q:=fun q hq h1 h2=>by rw[x5 q (w3.live q hq) h2,w5 q (hlv q hq) h1]
  have hkz2: ∀y∈kza++kzb,TrAt M2 h y.1 y.2.1 y.2.2∧thinN (ndRead M2 y.1).2=false:=fun y hy=>by
   obtain⟨a,b⟩:=hkz y hy
   have hq: ∀q∈y.2.2,ndRead M2 q=ndRead M q:=fun q hq=>by
    obtain⟨c1,c2,c3⟩:=hmk y hy q hq
    exact hsame q c1 c2 c3
   refine⟨a.congr hq, ?_⟩
   obtain⟨_,_,_,_,rest,hrest⟩:=a.head
   rw[hq y.1 (by rw[hrest];exact List.mem_cons_self)]
   exact b
  refine⟨[halfK ⟨false,K,[],D⟩],[(za.1,sgZ Z1,za.1::pgZ Z1),(zb.1,sgZ Z2,zb.1::pgZ Z2)],M2,R2, ?_,x2, ?_,fun q hq hnq=> ?_,fun y hy=> ?_, .inr ⟨_,_,_,rfl,rfl,rfl,rfl,by rw[hga,z1,sgZ_app],(hkb _ z10).1,(hkb _ z10).2,z8,z9⟩⟩
  ·simp only
   rw[hff,if_neg (by decide),z2,w1]
   simp only
   rw[if_neg (by simp),z3,x1,e2]
   simp
  ·refine(w3.trans x3).perm ?_
   have:pgZ [(za.1,sgZ Z1,za.1::pgZ Z1),(zb.1,sgZ Z2,zb.1::pgZ Z2)]=(za.1::pgZ Z1)++(zb.1::pgZ Z2):=by simp[pgZ]
   rw[this]
   refine hpp.trans ?_
   rw[z1,pgZ_app]
   exact(perm_two _ _ _ _).symm
  ·have hq1:Live R1 q:=(w3.oth q hq hnq).1
   rw[x5 q hq1 (fun e=>hnq (e▸hmb)),w5 q hq (fun e=>hnq (e▸hma))]
  ·simp at hy
   rcases hy with rfl|rfl
   ·refine⟨⟨_,Z1,rA,rfl,rfl,fun y hy=>hkz2 y (by rw[z1];simp[hy]),rfl,rfl,z6⟩, ?_⟩
    rw[rA]
    rw[thinN_fork rfl,decide_eq_false_iff_not]
    simp;omega
   ·refine⟨⟨_,Z2,x4,rfl,rfl,fun y hy=>hkz2 y (by rw[z1];simp[hy]),rfl,rfl,z7⟩, ?_⟩
    rw[x4]
    rw[thinN_fork rfl,decide_eq_false_iff_not]
    simp;omega
 ·have hff:fullN ⟨false,K,[],D⟩=false:=by rw[hfull,decide_eq_false_iff_not];exact hf
  have ok:NdOk ⟨false,K,[],D⟩:=⟨by show 1≤K.length;omega,risL_iff.2 hpw,hkb,fun e=>(by cases e),fun _=>⟨rfl,hdl,by show K.length≤40;omega,hdb⟩⟩
  obtain⟨M1,R1,f1,f2,f3,f4⟩:=st_free hR hr hnd hlv (no:=zb.1) (P0:=za.1::pgZ (kza++kzb)) (hpp.trans (List.Perm.swap _ _ _))
  obtain⟨M2,R2,x1,x2,x3,x4,x5⟩:=st_writeB f2 (by rw[f3.most,f3.room];exact hr) ok f3.nd f3.live (no:=za.1) (by simp)
  have hkz2: ∀y∈kza++kzb,TrAt M2 h y.1 y.2.1 y.2.2∧thinN (ndRead M2 y.1).2=false:=fun y hy=>by
   obtain⟨a,b⟩:=hkz y hy
   have hq: ∀q∈y.2.2,ndRead M2 q=ndRead M q:=fun q hq=>by
    obtain⟨c1,c2,c3⟩:=hmk y hy q hq
    rw[x5 q (f3.live q (by simp[pgZ_mem hy q hq])) c2,f4 q (hlv q c1) c3]
   refine⟨a.congr hq, ?_⟩
   obtain⟨_,_,_,_,rest,hrest⟩:=a.head
   rw[hq y.1 (by rw[hrest];exact List.mem_cons_self)]
   exact b
  refine⟨[],[(za.1,za.2.1++zb.2.1,za.1::pgZ (kza++kzb))],M2,R2, ?_,x2, ?_,fun q hq hnq=> ?_,fun y hy=> ?_, .inl ⟨rfl,_,rfl,rfl,rfl⟩⟩
  ·simp only
   rw[hff,if_pos rfl,f1]
   simp only
   rw[if_neg (by simp),x1]
   simp
  ·have:pgZ [(za.1,za.2.1++zb.2.1,za.1::pgZ (kza++kzb))]=za.1::pgZ (kza++kzb):=by simp[pgZ]
   rw[this]
   exact f3.trans x3
  ·have hq1:Live R1 q:=(f3.oth q hq hnq).1
   rw[x5 q hq1 (fun e=>hnq (e▸hma)),f4 q hq (fun e=>hnq (e▸hmb))]
  ·simp at hy
   subst hy
   refine⟨⟨_,kza++kzb,x4,rfl,hkd,hkz2,hga,rfl,hsg⟩, ?_⟩
   rw[x4]
   rw[thinN_fork rfl,decide_eq_false_iff_not]
   show¬K.length<20
   omega
end
end Go.Proofs.YtjgkegkinnlcoaaGreatDoor
namespace Go.Proofs.YtjgkegkinnlcoaaGreatDoor
open Go.RowKit
def BtDelPost (M:PM) (R:RM) (N:Nat) (G key:Int) (h:Nat) (no:Int) (seg:List (Int × Int)) (pgs:List Int) (n':ND) (M':PM) (R':RM):Prop:=
 Rel M' R' N G∧(∀q,Live R q→q∉pgs→ndRead M' q=ndRead M q)∧ ∃P',Chg R R' pgs P'∧
  ((1≤n'.keys.length∧TrAt M' h no (delP key seg) P'∧ndRead M' no=(0,n')∧(ndRead M no).2.keys.length≤n'.keys.length+1)∨
   (h=0∧n'.leaf=true∧n'.keys.length=0∧delP key seg=[]∧P'=[no]∧(ndRead M no).2.keys.length≤1)∨
   (∃h' kid Q,h=h'+1∧n'.leaf=false∧n'.keys.length=0∧n'.kids=[kid]∧P'=no::Q∧TrAt M' h' kid (delP key seg) Q∧(ndRead M no).2.keys.length≤1))
section
variable {M:PM} {R:RM} {N:Nat} {G:Int} {P:List Int}
theorem st_writeS (h:Rel M R N G) (hr:R.most≤R.room) {n:ND} (hn:(ndB n).length≤496) {no:Int} (hP:P.Nodup) (hl: ∀q∈P,Live R q) (hm:no∈P):
  ∃M' R',writeB M no n=(0,M')∧Rel M' R' N G∧Chg R R' P P∧(∀q,Live R q→q≠no→ndRead M' q=ndRead M q)∧(NdOk n→ndRead M' no=(0,n)):=by
 have hk:=ndK_bd n
 obtain⟨M',R',e1,e2,e3,e4,e5,e6,e7⟩:=h.stWrite hr (hl no hm) (kind:=ndK n) (room:=S (ndB n)) (by omega) (by omega) (by rw[S_size];exact hn)
 have hno:Live R' no:=⟨(hl no hm).1,by rw[e4];exact(hl no hm).2.1,by rw[e7];show ndK n≠255;omega⟩
 refine⟨M',R',e1,e2,⟨e3.room,e3.most,e6,hP,fun q hq=> ?_,fun q hq=> .inl hq,fun q hq hnq=>e3.live hq (fun e=>hnq (e▸hm)),by rw[e4,e5]⟩,fun q hq hne=> ?_,fun hok=> ?_⟩
 ·by_cases e:q=no
  ·rw[e];exact hno
  ·exact(e3.live (hl q hq) e).1
 ·obtain⟨a,b⟩:=e3.live hq hne
  exact read_same h e2 hq a b
 ·refine ndRead_of hok ?_
  rw[e2.readC (by have:=hno.1;omega) hno.2.1,e7]
theorem del_leaf {key:Int} {no:Int} {seg:List (Int × Int)} {pgs:List Int} {f:Nat} (h:Rel M R N G) (hr:R.most≤R.room) (t:TrAt M 0 no seg pgs) (hn:pgs.Nodup) (hl: ∀q∈pgs,Live R q) (hk: ∃p∈seg,p.1=key):
  ∃n' M' R',delL key (f+1) M no=(n',0,M')∧BtDelPost M R N G key 0 no seg pgs n' M' R':=by
 obtain⟨n,h1,h2,h3,h4⟩:=t
 subst h4
 have hok:=ndRead_ok h1
 obtain⟨l1,l2,l3,l4⟩:=hok.leafs h2
 have hh:hasL n.keys key=true:=by
  obtain⟨p,hp,e⟩:=hk
  rw[h3] at hp
  unfold hasL
  rw[List.contains_eq_mem,decide_eq_true_iff, ←e]
  exact zip_mem hp
 obtain⟨z1,z2,z3,z4,z6,z7,z8,z9⟩:=ndOut_zip (n:=n) (key:=key) hok.pw l2 hh
 rw[h2] at z8
 rw[l1] at z9
 have hdel:delL key (f+1) M no=endD M no (ndOut n key):=by
  show(let x:=ndRead M no;if x.1≠0 then _ else _)=_
  rw[h1]
  simp only
  rw[if_neg (by simp),if_pos h2,hh,if_neg (by decide)]
 rw[hdel]
 clear hdel
 have hkb: ∀k∈(ndOut n key).keys,0≤k∧k≤18446744073709551615:=fun k hk'=>hok.kb k (z6 k hk')
 have hvb: ∀v∈(ndOut n key).vals,0≤v∧v≤18446744073709551615:=fun v hv'=>l4 v (z7 v hv')
 generalize ndOut n key=m at z1 z2 z3 z4 z8 z9 hkb hvb
 unfold endD
 by_cases h0:m.keys.length=0
 ·rw[if_pos ⟨h0,z8⟩]
  refine⟨m,M,R,rfl,h,fun _ _ _=>rfl,[no],Chg.refl hn hl, .inr (.inl ⟨rfl,z8,h0, ?_,rfl,by rw[h1];show n.keys.length≤1;omega⟩)⟩
  rw[h3, ←z1,List.eq_nil_of_length_eq_zero h0];rfl
 ·rw[if_neg (fun e=>h0 e.1)]
  have ok:NdOk m:=⟨by omega,risL_iff.2 z2,hkb,fun _=>⟨z9,z3,by omega,hvb⟩,fun e=>by rw[z8] at e;cases e⟩
  obtain⟨M',R',e1,e2,e3,e4,e5⟩:=st_writeB h hr ok hn hl (no:=no) (by simp)
  rw[e1]
  refine⟨m,M',R',rfl,e2,fun q hq hnq=>e5 q hq (by simpa using hnq),[no],e3, .inl ⟨by omega,⟨m,e4,z8,by rw[h3, ←z1],rfl⟩,e4,by rw[h1];show n.keys.length≤m.keys.length+1;omega⟩⟩
theorem end_fork {h:Nat} {n:ND} {kz:List KZ} {no:Int} (hR:Rel M R N G) (hr:R.most≤R.room) (hlf:n.leaf=false) (hvl:n.vals=[]) (hkd:n.kids=kz.map (·.1)) (hz: ∀y∈kz,TrAt M h y.1 y.2.1 y.2.2∧thinN (ndRead M y.1).2=false) (hsg:Segs none none n.keys (kz.map (·.2.1)))
  (hkb: ∀k∈n.keys,0≤k∧k≤18446744073709551615) (hdb: ∀v∈n.kids,0<v∧v≤4294967295) (l2:n.keys.length≤40) (hnd:(no::pgZ kz).Nodup) (hlv: ∀q∈no::pgZ kz,Live R q):
  ∃M' R',endD M no n=(n,0,M')∧Rel M' R' N G∧(∀q,Live R q→q≠no→ndRead M' q=ndRead M q)∧Chg R R' (no::pgZ kz) (no::pgZ kz)∧
   ((1≤n.keys.length∧TrAt M' (h+1) no (sgZ kz) (no::pgZ kz)∧ndRead M' no=(0,n))∨(n.keys.length=0∧ ∃m,kz=[m]∧TrAt M' h m.1 m.2.1 m.2.2)):=by
 have hkl:n.kids.length=n.keys.length+1:=by rw[hkd,List.length_map, ←List.length_map (f:=fun x:KZ=>x.2.1)];exact hsg.length
 have hne: ∀t∈kz.map (·.2.1),t≠ []:=fun t ht=>by
  obtain⟨y,hy,rfl⟩:=List.mem_map.1 ht
  exact(hz y hy).1.some
 have hpw:=(hsg.pw hne).1
 have hno:no∉pgZ kz:=(List.nodup_cons.1 hnd).1
 have hsz:(ndB n).length≤496:=by
  unfold ndB
  rw[if_neg (by rw[hlf];decide),List.length_append,leB_length,List.length_append,leB_length,flat_len pairs_len,List.length_zipWith,List.length_tail,hkl,Nat.add_sub_cancel,Nat.min_self]
  omega
 obtain⟨M',R',e1,e2,e3,e4,e5⟩:=st_writeS hR hr hsz hnd hlv (no:=no) (by simp)
 have hz': ∀y∈kz,TrAt M' h y.1 y.2.1 y.2.2∧thinN (ndRead M' y.1).2=false:=fun y hy=>by
  obtain⟨a,b⟩:=hz y hy
  have hq: ∀q∈y.2.2,ndRead M' q=ndRead M q:=fun q hq=>e4 q (hlv q (by simp[pgZ_mem hy q hq])) (fun e=>hno (e▸pgZ_mem hy q hq))
  refine⟨a.congr hq, ?_⟩
  obtain⟨_,_,_,_,rest,hrest⟩:=a.head
  rw[hq y.1 (by rw[hrest];exact List.mem_cons_self)]
  exact b
 unfold endD
 rw[if_neg (by rw[hlf];simp),e1]
 refine⟨M',R',rfl,e2,e4,e3, ?_⟩
 by_cases h0:n.keys.length=0
 ·right
  refine⟨h0, ?_⟩
  rw[hkd,List.length_map,h0] at hkl
  cases kz with
  |nil=>simp at hkl
  |cons m kz=>
   have:kz=[]:=List.eq_nil_of_length_eq_zero (by simpa using hkl)
   subst this
   exact⟨m,rfl,(hz' m (by simp)).1⟩
 ·left
  have ok:NdOk n:=⟨by omega,risL_iff.2 hpw,hkb,fun e=>(by rw[hlf] at e;cases e),fun _=>⟨hvl,hkl,l2,hdb⟩⟩
  exact⟨by omega,⟨n,kz,e5 ok,hlf,hkd,hz',rfl,rfl,hsg⟩,e5 ok⟩
end
theorem feed_segs {KA KB:List Int} {s:Int} {SA SB:List (List (Int × Int))} {za zb:KZ} {KM:List Int} {Zm:List KZ} (h:Segs none none (KA++s::KB) (SA++za.2.1::zb.2.1::SB)) (hl:SA.length=KA.length) (na:za.2.1≠ []) (nb:zb.2.1≠ [])
  (hp:(KM=[]∧ ∃m:KZ,Zm=[m]∧m.1=za.1∧m.2.1=za.2.1++zb.2.1)∨(∃k, ∃m1 m2:KZ,KM=[k]∧Zm=[m1,m2]∧m1.1=za.1∧m2.1=zb.1∧m1.2.1++m2.2.1=za.2.1++zb.2.1∧0≤k∧k≤18446744073709551615∧(∀p∈m1.2.1,p.1<k)∧ ∀p∈m2.2.1,k≤p.1)):
  Segs none none (KA++(KM++KB)) (SA++(Zm.map (·.2.1)++SB))∧sgZ Zm=za.2.1++zb.2.1∧(∀v∈Zm.map (·.1),v=za.1∨v=zb.1)∧(∀k∈KM,0≤k∧k≤18446744073709551615)∧KM.length≤1:=by
 rcases hp with ⟨rfl,m,rfl,e1,e2⟩|⟨k,m1,m2,rfl,rfl,e1,e2,e3,k0,k1,b1,b2⟩
 ·refine⟨?_,by simp[sgZ,e2],fun v hv=>by simp at hv;exact .inl (hv.trans e1),by simp,by simp⟩
  have:=Segs.merge na nb h hl
  simpa[e2] using this
 ·refine⟨?_,by simp[sgZ,e3],fun v hv=> ?_,fun x hx=>by simp at hx;subst hx;exact⟨k0,k1⟩,by simp⟩
  ·have:=Segs.share (k:=k) (sa':=m1.2.1) (sb':=m2.2.1) na nb (fun p hp=>by
    have:p∈m1.2.1++m2.2.1:=by simpa using hp
    rw[e3] at this
    simpa using this) b1 b2 h hl
   simpa using this
  ·simp at hv
   rcases hv with rfl|rfl
   ·exact .inl e1
   ·exact .inr e2
section
variable {M:PM} {R:RM} {N:Nat} {G:Int}
theorem feed_end {h:Nat} {n a b:ND} {KA KB:List Int} {s:Int} {ZA ZB:List KZ} {za zb:KZ} {no:Int} (hR:Rel M R N G) (hr:R.most≤R.room) (hlf:n.leaf=false) (hvl:n.vals=[]) (e1:n.keys=KA++s::KB) (e2:n.kids=(ZA++za::zb::ZB).map (·.1)) (e3:ZA.length=KA.length)
  (hz: ∀y,y∈ZA∨y∈ZB→TrAt M h y.1 y.2.1 y.2.2∧thinN (ndRead M y.1).2=false) (ta:TrAt M h za.1 za.2.1 za.2.2) (tb:TrAt M h zb.1 zb.2.1 zb.2.2) (ra:ndRead M za.1=(0,a)) (rb:ndRead M zb.1=(0,b)) (hsz:(h=0→29≤a.keys.length+b.keys.length)∧(h≠0→39≤a.keys.length+b.keys.length))
  (hsg:Segs none none (KA++s::KB) ((ZA++za::zb::ZB).map (·.2.1))) (hkb: ∀k∈n.keys,0≤k∧k≤18446744073709551615) (hdb: ∀v∈n.kids,0<v∧v≤4294967295) (l2:n.keys.length≤40) (hnd:(no::pgZ (ZA++za::zb::ZB)).Nodup) (hlv: ∀q∈no::pgZ (ZA++za::zb::ZB),Live R q):
  ∃n' M1 M' R' kz,feedB M n KA.length=(0,n',M1)∧endD M1 no n'=(n',0,M')∧Rel M' R' N G∧(∀q,Live R q→q∉no::pgZ (ZA++za::zb::ZB)→ndRead M' q=ndRead M q)∧Chg R R' (no::pgZ (ZA++za::zb::ZB)) (no::pgZ kz)∧sgZ kz=sgZ (ZA++za::zb::ZB)∧n'.leaf=false∧n'.kids=kz.map (·.1)∧n.keys.length≤n'.keys.length+1∧
   ((1≤n'.keys.length∧TrAt M' (h+1) no (sgZ kz) (no::pgZ kz)∧ndRead M' no=(0,n'))∨(n'.keys.length=0∧ ∃m,kz=[m]∧TrAt M' h m.1 m.2.1 m.2.2)):=by
 have hsg':=hsg
 simp only[List.map_append,List.map_cons] at hsg'
 obtain⟨s1,s2⟩:=hsg'.parts (by simpa using e3)
 have hpgs:no::pgZ (ZA++za::zb::ZB)=(no::pgZ ZA)++((za.2.2++zb.2.2)++pgZ ZB):=by simp[pgZ]
 rw[hpgs] at hnd hlv ⊢
 have hnd0:=hnd
 rw[List.nodup_append] at hnd0
 obtain⟨d1,d2,d3⟩:=hnd0
 rw[List.nodup_append] at d2
 obtain⟨d4,d5,d6⟩:=d2
 have hlv2: ∀q∈za.2.2++zb.2.2,Live R q:=fun q hq=>hlv q (List.mem_append_right _ (List.mem_append_left _ hq))
 have hfeed:FeedPost M R N G h n KA KB ZA ZB za zb:=by
  cases h with
  |zero=>exact feed_leaf hR hr e1 e2 e3 ta tb ra rb (hsz.1 rfl) s1 s2 d4 hlv2
  |succ h=>exact feed_fork hR hr e1 e2 e3 ta tb ra rb (hsz.2 (by omega)) s1 s2 (hkb s (by rw[e1];simp)) d4 hlv2
 obtain⟨KM,Zm,M1,R1,f1,f2,f3,f4,f5,f6⟩:=hfeed
 obtain⟨g1,g2,g3,g4,g5⟩:=feed_segs hsg' (by simpa using e3) ta.some tb.some f6
 have hch:=f3.ctx (A:=no::pgZ ZA) (B:=pgZ ZB) hnd hlv
 have hpg2:(no::pgZ ZA)++(pgZ Zm++pgZ ZB)=no::pgZ (ZA++(Zm++ZB)):=by simp[pgZ]
 rw[hpg2] at hch
 have hsib: ∀y,y∈ZA∨y∈ZB→TrAt M1 h y.1 y.2.1 y.2.2∧thinN (ndRead M1 y.1).2=false:=fun y hy=>by
  obtain⟨c1,c2⟩:=hz y hy
  have hq: ∀q∈y.2.2,ndRead M1 q=ndRead M q:=fun q hq=>by
   refine f4 q (hlv q ?_) (fun hm=> ?_)
   ·rcases hy with hy|hy
    ·simp[pgZ_mem hy q hq]
    ·simp[pgZ_mem hy q hq]
   ·rcases hy with hy|hy
    ·exact d3 q (by simp[pgZ_mem hy q hq]) q (List.mem_append_left _ hm) rfl
    ·exact d6 q hm q (pgZ_mem hy q hq) rfl
  refine⟨c1.congr hq, ?_⟩
  obtain⟨_,_,_,_,rest,hrest⟩:=c1.head
  rw[hq y.1 (by rw[hrest];exact List.mem_cons_self)]
  exact c2
 have hlen:n.keys.length=KA.length+KB.length+1:=by rw[e1];simp;omega
 obtain⟨M',R',u1,u2,u3,u4,u5⟩:=end_fork (h:=h) (n:=⟨n.leaf,KA++(KM++KB),n.vals,(ZA++(Zm++ZB)).map (·.1)⟩) (kz:=ZA++(Zm++ZB)) (no:=no) f2 (by rw[f3.most,f3.room];exact hr) hlf hvl rfl
  (fun y hy=>by
   rcases List.mem_append.1 hy with hy|hy
   ·exact hsib y (.inl hy)
   ·rcases List.mem_append.1 hy with hy|hy
    ·exact f5 y hy
    ·exact hsib y (.inr hy))
  (by simp only[List.map_append];exact g1)
  (fun k hk=>by
   simp at hk
   rcases hk with hk|hk|hk
   ·exact hkb k (by rw[e1];simp[hk])
   ·exact g4 k hk
   ·exact hkb k (by rw[e1];simp[hk]))
  (fun v hv=>by
   have hv:v∈(ZA++(Zm++ZB)).map (·.1):=hv
   rw[List.map_append,List.map_append] at hv
   rcases List.mem_append.1 hv with hv|hv
   ·exact hdb v (by rw[e2,List.map_append];exact List.mem_append_left _ hv)
   ·rcases List.mem_append.1 hv with hv|hv
    ·rcases g3 v hv with rfl|rfl
     ·exact hdb _ (by rw[e2];simp)
     ·exact hdb _ (by rw[e2];simp)
    ·exact hdb v (by rw[e2,List.map_append];exact List.mem_append_right _ (List.mem_cons_of_mem _ (List.mem_cons_of_mem _ hv))))
  (by simp;omega) hch.nd hch.live
 refine⟨_,M1,M',R',ZA++(Zm++ZB),f1,u1,u2,fun q hq hnq=> ?_,hch.trans u4, ?_,hlf,rfl,by simp;omega,u5⟩
 ·have hq1:=(hch.oth q hq hnq).1
  rw[u3 q hq1 (fun e=>hnq (by simp[e])),f4 q hq (fun hm=>hnq (List.mem_append_right _ (List.mem_append_left _ hm)))]
 ·rw[sgZ_app,sgZ_app,g2,sgZ_app];simp[sgZ]
end
end Go.Proofs.YtjgkegkinnlcoaaGreatDoor
namespace Go.Proofs.YtjgkegkinnlcoaaGreatDoor
open Go.RowKit
theorem thin_ge {n:ND} (ht:thinN n=false):15≤n.keys.length∧(n.leaf=false→20≤n.keys.length):=by
 cases hl:n.leaf
 ·rw[thinN_fork hl,decide_eq_false_iff_not] at ht
  exact⟨by omega,fun _=>by omega⟩
 ·rw[thinN_leaf hl,decide_eq_false_iff_not] at ht
  exact⟨by omega,fun e=>by cases e⟩
theorem delP_mem {key:Int} {l:List (Int × Int)} {p:Int × Int} (h:p∈delP key l):p∈l:=(List.mem_filter.1 h).1
theorem del_tr {N:Nat} {G key:Int}: ∀ {h:Nat} {M:PM} {R:RM} {no:Int} {seg:List (Int × Int)} {pgs:List Int} {f:Nat},Rel M R N G→R.most≤R.room→TrAt M h no seg pgs→pgs.Nodup→(∀q∈pgs,Live R q)→(∃p∈seg,p.1=key)→h<f→
  ∃n' M' R',delL key f M no=(n',0,M')∧BtDelPost M R N G key h no seg pgs n' M' R'
 |0,M,R,no,seg,pgs,0,_,_,_,_,_,_,hf=>by omega
 |h+1,M,R,no,seg,pgs,0,_,_,_,_,_,_,hf=>by omega
 |0,M,R,no,seg,pgs,f+1,hR,hr,t,hn,hl,hk,hf=>del_leaf hR hr t hn hl hk
 |h+1,M,R,no,seg,pgs,f+1,hR,hr,t,hn,hl,hk,hf=>by
  obtain⟨n,KA,KB,ZA,z,ZB,h1,hok,h2,e1,e2,e3,e4,e5,e6,ka,kb,hz,e7,e8,hsg,g1,g2⟩:=t.split key
  obtain⟨fk1,fk2,fk3,fk4⟩:=hok.forks h2
  have hk1:=hok.k1
  have e8':pgs=(no::pgZ ZA)++(z.2.2++pgZ ZB):=by rw[e8];rfl
  have hn':=hn
  rw[e8',List.nodup_append] at hn'
  obtain⟨d1,d2,d3⟩:=hn'
  rw[List.nodup_append] at d2
  obtain⟨d4,d5,d6⟩:=d2
  have hzp: ∀q∈z.2.2,q∈pgs:=fun q hq=>by rw[e8'];simp[hq]
  obtain⟨tz,thz⟩:=hz z (.inr (.inl rfl))
  have hkz: ∃p∈z.2.1,p.1=key:=by
   obtain⟨p,hp,e⟩:=hk
   rw[e7] at hp
   rcases List.mem_append.1 hp with hp|hp
   ·have:=g1 p hp;omega
   ·rcases List.mem_append.1 hp with hp|hp
    ·exact⟨p,hp,e⟩
    ·have:=g2 p hp;omega
  obtain⟨n1,M1,R1,c1,cR,cfr,Pz,c3,cc⟩:=del_tr (f:=f) hR hr tz d4 (fun q hq=>hl q (hzp q hq)) hkz (by omega)
  obtain⟨nz,hnz,oknz,lfnz,rz,hrz⟩:=tz.head
  rw[hnz] at thz cc
  have thz:thinN nz=false:=thz
  obtain⟨t1,t2⟩:=thin_ge thz
  have hlz:nz.leaf=false↔h≠0:=by
   cases hh:nz.leaf
   ·exact⟨fun _ e=>by rw[hh] at lfnz;simp[e] at lfnz,fun _=>rfl⟩
   ·exact⟨fun e=>(by cases e),fun e=>absurd (lfnz.1 hh) e⟩
  rcases cc with ⟨c4,c5,c6,c7⟩|⟨-, -, -, -, -,c9⟩|⟨_,_,_, -, -, -, -, -, -,c9⟩
  rotate_left
  ·have c9:nz.keys.length≤1:=c9;omega
  ·have c9:nz.keys.length≤1:=c9;omega
  have c7:nz.keys.length≤n1.keys.length+1:=c7
  have hdel:delL key (f+1) M no=(if thinN n1=true∧1<n.kids.length then(let q:=feedB M1 n (placeN n key - 1);if q.1≠0 then(nd0,q.1,q.2.2) else endD q.2.2 no q.2.1) else endD M1 no n):=by
   show(let x:=ndRead M no;if x.1≠0 then _ else _)=_
   rw[h1]
   simp only
   rw[if_neg (by simp),if_neg (by rw[h2];decide),e6,c1]
   simp only
   rw[if_neg (by simp)]
  rw[hdel]
  have hkz0:no∉z.2.2:=fun hm=>d3 no (by simp) no (by simp[hm]) rfl
  have hsib: ∀y,y∈ZA∨y∈ZB→TrAt M1 h y.1 y.2.1 y.2.2∧thinN (ndRead M1 y.1).2=false:=fun y hy=>by
   obtain⟨a,b⟩:=hz y (hy.imp id .inr)
   have hq: ∀q∈y.2.2,ndRead M1 q=ndRead M q:=fun q hq=>by
    refine cfr q (hl q ?_) (fun hm=> ?_)
    ·rw[e8']
     rcases hy with hy|hy
     ·simp[pgZ_mem hy q hq]
     ·simp[pgZ_mem hy q hq]
    ·rcases hy with hy|hy
     ·exact d3 q (by simp[pgZ_mem hy q hq]) q (by simp[hm]) rfl
     ·exact d6 q hm q (pgZ_mem hy q hq) rfl
   refine⟨a.congr hq, ?_⟩
   obtain⟨_,_,_,_,rest,hrest⟩:=a.head
   rw[hq y.1 (by rw[hrest];exact List.mem_cons_self)]
   exact b
  have hseg:delP key seg=sgZ (ZA++(z.1,delP key z.2.1,Pz)::ZB):=by
   rw[e7,delP_app (fun p hp=>by have:=g1 p hp;omega) (fun p hp=>by have:=g2 p hp;omega)]
   simp[sgZ]
  have hch:=c3.ctx (A:=no::pgZ ZA) (B:=pgZ ZB) (by rw[←e8'];exact hn) (by rw[←e8'];exact hl)
  rw[←e8',show(no::pgZ ZA)++(Pz++pgZ ZB)=no::pgZ (ZA++(z.1,delP key z.2.1,Pz)::ZB) by simp[pgZ]] at hch
  have hsg1:Segs none none (KA++KB) ((ZA++(z.1,delP key z.2.1,Pz)::ZB).map (·.2.1)):=by
   simp only[List.map_append,List.map_cons]
   exact Segs.repl hsg (by simpa using e3) (fun lo' hi' hb _ _ p hp=>hb p (delP_mem hp))
  have hfr: ∀ {M':PM},(∀q,Live R1 q→q∉no::pgZ (ZA++(z.1,delP key z.2.1,Pz)::ZB)→ndRead M' q=ndRead M1 q)→ ∀q,Live R q→q∉pgs→ndRead M' q=ndRead M q:=fun hm q hq hnq=>by
   rw[hm q (hch.oth q hq hnq).1 (fun hmem=>(hch.sub q hmem).elim hnq (fun h=>h hq)),cfr q hq (fun hmem=>hnq (hzp q hmem))]
  have hr1:R1.most≤R1.room:=by rw[hch.most,hch.room];exact hr
  by_cases hthin:thinN n1=true
  ·rw[if_pos ⟨hthin,by omega⟩]
   have fin: ∀ {n':ND} {Mq M':PM} {R':RM} {kz:List KZ},feedB M1 n (placeN n key - 1)=(0,n',Mq)→endD Mq no n'=(n',0,M')→Rel M' R' N G→(∀q,Live R1 q→q∉no::pgZ (ZA++(z.1,delP key z.2.1,Pz)::ZB)→ndRead M' q=ndRead M1 q)→Chg R1 R' (no::pgZ (ZA++(z.1,delP key z.2.1,Pz)::ZB)) (no::pgZ kz)→sgZ kz=sgZ (ZA++(z.1,delP key z.2.1,Pz)::ZB)→n'.leaf=false→n'.kids=kz.map (·.1)→n.keys.length≤n'.keys.length+1→
     ((1≤n'.keys.length∧TrAt M' (h+1) no (sgZ kz) (no::pgZ kz)∧ndRead M' no=(0,n'))∨(n'.keys.length=0∧ ∃m,kz=[m]∧TrAt M' h m.1 m.2.1 m.2.2))→
     ∃n'' M'' R'',(let q:=feedB M1 n (placeN n key - 1);if q.1≠0 then(nd0,q.1,q.2.2) else endD q.2.2 no q.2.1)=(n'',0,M'')∧BtDelPost M R N G key (h+1) no seg pgs n'' M'' R'':=by
    intro n' Mq M' R' kz u1 u2 u3 u4 u5 u6 u7 u8 u9 u10
    rw[u1]
    simp only
    rw[if_neg (by simp),u2]
    refine⟨n',M',R',rfl,u3,hfr u4,no::pgZ kz,hch.trans u5, ?_⟩
    rcases u10 with ⟨v1,v2,v3⟩|⟨v1,m,rfl,v2⟩
    ·exact .inl ⟨v1,by rw[hseg, ←u6];exact v2,v3,by rw[h1];exact u9⟩
    ·refine .inr (.inr ⟨h,m.1,m.2.2,rfl,u7,v1,by rw[u8];rfl,by simp[pgZ], ?_,by rw[h1];show n.keys.length≤1;omega⟩)
     rw[hseg, ←u6]
     simpa[sgZ] using v2
   have hsz: ∀(y:KZ) (b:ND),y∈ZA∨y∈ZB→ndRead M1 y.1=(0,b)→(h=0→29≤n1.keys.length+b.keys.length)∧(h≠0→39≤n1.keys.length+b.keys.length):=fun y b hy hb=>by
    obtain⟨ty,thy⟩:=hsib y hy
    obtain⟨_,hb',_,lb,_⟩:=ty.head
    rw[hb] at hb'
    injection hb' with _ hb'
    subst hb'
    rw[hb] at thy
    have thy:thinN b=false:=thy
    obtain⟨x1,x2⟩:=thin_ge thy
    refine⟨fun _=>by omega,fun hh=> ?_⟩
    have:=t2 (hlz.2 hh)
    have:b.leaf=false:=by
     cases hbl:b.leaf
     ·rfl
     ·exact absurd (lb.1 hbl) hh
    have:=x2 this
    omega
   rcases List.eq_nil_or_concat KA with hKA|⟨KA',s,hKA⟩
   ·subst hKA
    have hZA:ZA=[]:=List.eq_nil_of_length_eq_zero (by simpa using e3)
    subst hZA
    cases KB with
    |nil=>rw[e1] at hk1;simp at hk1
    |cons s KB=>
     cases ZB with
     |nil=>simp at e4
     |cons zb ZB=>
      obtain⟨tb,_⟩:=hsib zb (.inr (by simp))
      obtain⟨b,hb,_,_,_⟩:=tb.head
      obtain⟨n',Mq,M',R',kz,u1,u2,u3,u4,u5,u6,u7,u8,u9,u10⟩:=feed_end (h:=h) (n:=n) (a:=n1) (b:=b) (KA:=[]) (KB:=KB) (s:=s) (ZA:=[]) (ZB:=ZB) (za:=(z.1,delP key z.2.1,Pz)) (zb:=zb) (no:=no) cR hr1 h2 fk1 (by simpa using e1) (by rw[e2];simp) rfl (fun y hy=>hsib y (.inr (by simp at hy;simp[hy]))) c5 tb c6 hb (hsz zb b (.inr (by simp)) hb) hsg1 hok.kb fk4 fk3 hch.nd hch.live
      have e5:placeN n key=0:=by simpa using e5.symm
      exact fin (by rw[e5];exact u1) u2 u3 u4 u5 u6 u7 u8 u9 u10
   ·rw[List.concat_eq_append] at hKA
    subst hKA
    rcases List.eq_nil_or_concat ZA with hZA|⟨ZA',za,hZA⟩
    ·subst hZA;simp at e3
    ·rw[List.concat_eq_append] at hZA
     subst hZA
     obtain⟨ta,_⟩:=hsib za (.inl (by simp))
     obtain⟨a,ha,_,_,_⟩:=ta.head
     have hszz:=hsz za a (.inl (by simp)) ha
     have hlist:ZA'++[za]++(z.1,delP key z.2.1,Pz)::ZB=ZA'++za::(z.1,delP key z.2.1,Pz)::ZB:=by simp
     rw[hlist] at hch hsg1 hseg fin
     obtain⟨n',Mq,M',R',kz,u1,u2,u3,u4,u5,u6,u7,u8,u9,u10⟩:=feed_end (h:=h) (n:=n) (a:=a) (b:=n1) (KA:=KA') (KB:=KB) (s:=s) (ZA:=ZA') (ZB:=ZB) (za:=za) (zb:=(z.1,delP key z.2.1,Pz)) (no:=no) cR hr1 h2 fk1 (by rw[e1];simp) (by rw[e2];simp) (by simpa using e3) (fun y hy=>hsib y (hy.imp (fun h=>by simp[h]) id)) ta c5 ha c6 ⟨fun e=>by have:=hszz.1 e;omega,fun e=>by have:=hszz.2 e;omega⟩ (by simpa using hsg1) hok.kb fk4 fk3 hch.nd hch.live
     have e5:placeN n key - 1=KA'.length:=by rw[←e5];simp
     exact fin (by rw[e5];exact u1) u2 u3 u4 u5 u6 u7 u8 u9 u10
  ·have hthin:thinN n1=false:=by simpa using hthin
   rw[if_neg (fun e=>by rw[hthin] at e;cases e.1)]
   obtain⟨M',R',u1,u2,u3,u4,u5⟩:=end_fork (h:=h) (n:=n) (kz:=ZA++(z.1,delP key z.2.1,Pz)::ZB) (no:=no) cR hr1 h2 fk1 (by rw[e2];simp) (fun y hy=>by
     rcases List.mem_append.1 hy with hy|hy
     ·exact hsib y (.inl hy)
     ·rcases List.mem_cons.1 hy with rfl|hy
      ·exact⟨c5,by rw[c6];exact hthin⟩
      ·exact hsib y (.inr hy)) (by rw[e1];exact hsg1) hok.kb fk4 fk3 hch.nd hch.live
   rw[u1]
   refine⟨n,M',R',rfl,u2,hfr (fun q hq hnq=>u3 q hq (fun e=>hnq (by simp[e]))),_,hch.trans u4, ?_⟩
   rcases u5 with ⟨v1,v2,v3⟩|⟨v1,_⟩
   ·exact .inl ⟨v1,by rw[hseg];exact v2,v3,by rw[h1];exact Nat.le_succ _⟩
   ·omega
end Go.Proofs.YtjgkegkinnlcoaaGreatDoor
namespace Go.Proofs.YtjgkegkinnlcoaaGreatDoor
open Go.RowKit
section
variable {M:PM} {R:RM} {N:Nat} {G:Int}
theorem getB_tr {key:Int} {i h:Nat} {seg:List (Int × Int)} {pgs:List Int} (hR:Rel M R N G) (hi:i<8) (t:RootAt M R i h seg pgs) (hl: ∀q∈pgs,Live R q) (hh:h≤15):getB M i key=findP key seg:=by
 have htop:=topB_of hR hi (t.small hR hl)
 unfold getB
 rw[htop]
 simp only
 rw[if_neg (by simp)]
 rcases t with ⟨e,e2,e3,e4⟩|⟨e,t⟩
 ·rw[e,e2]
  rfl
 ·exact t.get (by omega) e
theorem findP_some {key:Int} {l:List (Int × Int)} (h: ∃p∈l,p.1=key):(findP key l).2=0:=by
 unfold findP
 cases e:l.find? (fun p=>p.1==key) with
 |some p=>rfl
 |none=>
  obtain⟨p,hp,e2⟩:=h
  have:=List.find?_eq_none.1 e p hp
  simp[e2] at this
theorem findP_none {key:Int} {l:List (Int × Int)} (h: ¬ ∃p∈l,p.1=key):findP key l=(0,6):=by
 unfold findP
 rw[List.find?_eq_none.2]
 intro p hp e
 exact h ⟨p,hp,by simpa using e⟩
theorem delB_tr {key:Int} {i h:Nat} {seg:List (Int × Int)} {pgs:List Int} (hR:Rel M R N G) (hr:R.most≤R.room) (hi:i<8) (t:RootAt M R i h seg pgs) (hn:pgs.Nodup) (hl: ∀q∈pgs,Live R q) (hh:h≤15):
  ((¬ ∃p∈seg,p.1=key)→delB M i key=(6,M))∧((∃p∈seg,p.1=key)→ ∃M' R' h' P',delB M i key=(0,M')∧Rel M' R' N G∧RootAt M' R' i h' (delP key seg) P'∧ChgT M R M' R' i pgs P'∧h'≤h):=by
 have htop:=topB_of hR hi (t.small hR hl)
 have hget:=getB_tr (key:=key) hR hi t hl hh
 have hr8:=hR.way.r8
 have hbig:=hR.big
 refine⟨fun hk=> ?_,fun hk=> ?_⟩
 ·unfold delB
  rw[hget,findP_none hk]
  simp
 have hg0:=findP_some hk
 rcases t with ⟨e,e2,e3,e4⟩|⟨e,t⟩
 ·obtain⟨p,hp,_⟩:=hk
  rw[e2] at hp
  cases hp
 obtain⟨n',M1,R1,c1,cR,cfr,P1,c3,cc⟩:=del_tr (f:=16) hR hr t hn hl hk (by omega)
 have hdel:delB M i key=(if nextD n' (R.way.roots.getD i 0)=R.way.roots.getD i 0 then(0,M1) else(let s:=setRootP M1 i (nextD n' (R.way.roots.getD i 0));if s.1≠0 then s else freeP s.2 (R.way.roots.getD i 0))):=by
  unfold delB
  rw[hget,htop]
  simp only
  rw[if_neg (by rw[hg0];simp),c1]
  simp only
  rw[if_neg (by simp)]
 rw[hdel]
 obtain⟨n0,hn0,ok0,lf0,r0,hr0⟩:=t.head
 have hno:Live R (R.way.roots.getD i 0):=hl _ (by rw[hr0];exact List.mem_cons_self)
 have hr1:R1.most≤R1.room:=by rw[c3.most,c3.room];exact hr
 have hroots:=c3.roots
 have hroot1:R1.way.roots.getD i 0=R.way.roots.getD i 0:=by rw[hroots]
 generalize R.way.roots.getD i 0=no at*
 -- what is done where the top page goes
 have top: ∀ {x:Int} {Q:List Int},P1=no::Q→0≤x→x≤65536→x≠no→nextD n' no=x→(∀q∈Q,Live R1 q)→ ∃M' R',(if nextD n' no=no then((0:Int),M1) else(let s:=setRootP M1 i (nextD n' no);if s.1≠0 then s else freeP s.2 no))=(0,M')∧Rel M' R' N G∧ChgT M R M' R' i pgs Q∧R'.way.roots.getD i 0=x∧ ∀q∈Q,ndRead M' q=ndRead M1 q:=by
  intro x Q hP hx0 hx1 hxn hnx hQ
  rw[hnx,if_neg hxn]
  obtain⟨M2,R2,g1,g2,g3,g4,g5,g6,g7,g8⟩:=cR.stRoot hr1 (i:=i) (n:=x) hi hx0 (by omega)
  have hlv: ∀q,Live R1 q→Live R2 q:=fun q hq=>⟨hq.1,by rw[g5];exact hq.2.1,by rw[g8 q hq.1];exact hq.2.2⟩
  have hnd1:=c3.nd
  rw[hP] at hnd1
  obtain⟨q1,q2⟩:=List.nodup_cons.1 hnd1
  have hlv1:=c3.live
  rw[hP] at hlv1
  obtain⟨M3,R3,f1,f2,f3,f4⟩:=st_free g2 (by rw[g4,g3];exact hr1) (P:=no::Q) (no:=no) (P0:=Q) hnd1 (fun q hq=>hlv q (hlv1 q hq)) (List.Perm.refl _)
  rw[g1]
  simp only
  rw[if_neg (by simp),f1]
  have hr81:=cR.way.r8
  refine⟨M3,R3,rfl,f2,⟨f3.room.trans (g3.trans c3.room),f3.most.trans (g4.trans c3.most),⟨x,by rw[f3.roots,g7,hroots]⟩,f3.nd,f3.live,fun q hq hnq=> ?_, ?_⟩,by rw[f3.roots,g7,getD_set_same (by omega)],fun q hq=> ?_⟩
  ·obtain⟨a,b⟩:=c3.oth q hq hnq
   have hnP:q∉no::Q:=fun hm=>(c3.sub q (by rw[hP];exact hm)).elim hnq (fun h=>h hq)
   obtain⟨a2,b2⟩:=f3.oth q (hlv q a) hnP
   exact⟨a2,b2.trans ((g8 q a.1).trans b),fun hm=>hnP (List.mem_cons_of_mem _ hm)⟩
  ·have h1:=c3.cnt
   have h2:=f3.cnt
   rw[hP] at h1
   rw[g5,g6] at h2
   omega
  ·have hq1:=hlv1 q (List.mem_cons_of_mem _ hq)
   rw[f4 q (hlv q hq1) (fun e=>q1 (e▸hq))]
   exact read_same cR g2 hq1 (hlv q hq1) (g8 q hq1.1)
 have hnb:no≤65536:=by
  have h2:=hR.way.le
  have h3:lenR R=R.way.kinds.length:=rfl
  have:=hno.2.1
  omega
 rcases cc with ⟨c4,c5,c6,c7⟩|⟨c4,c5,c6,c7,c8,c9⟩|⟨h',kid,Q,c4,c5,c6,c7,c8,c9,c10⟩
 ·have hnx:nextD n' no=no:=by
   unfold nextD
   rw[if_neg (fun e=>by omega),if_neg]
   rintro ⟨hf,hl1⟩
   have ok:=ndRead_ok c6
   have:=(ok.forks hf).2.1
   omega
  rw[hnx,if_pos rfl]
  exact⟨M1,R1,h,P1,rfl,cR, .inr ⟨by rw[hroot1];exact e,by rw[hroot1];exact c5⟩,c3.toT hr8 hi,Nat.le_refl _⟩
 ·have hnx:nextD n' no=0:=by unfold nextD;rw[if_pos ⟨c5,c6⟩]
  obtain⟨M',R',u1,u2,u3,u4,u5⟩:=top (x:=0) (Q:=[]) c8 (by omega) (by omega) (fun e'=>e e'.symm) hnx (by simp)
  exact⟨M',R',0,[],u1,u2, .inl ⟨u4,c7,rfl,rfl⟩,u3,Nat.zero_le _⟩
 ·have hnx:nextD n' no=kid:=by
   unfold nextD
   rw[if_neg (fun e=>by rw[c5] at e;cases e.1),if_pos ⟨c5,by rw[c7];rfl⟩,c7];rfl
  obtain⟨nk,hnk,okk,lfk,rk,hrk⟩:=c9.head
  have hnd1:=c3.nd
  rw[c8] at hnd1
  have hkm:kid∈Q:=by rw[hrk];exact List.mem_cons_self
  have hkn:kid≠no:=fun e'=>(List.nodup_cons.1 hnd1).1 (e'▸hkm)
  have hQ: ∀q∈Q,Live R1 q:=fun q hq=>c3.live q (by rw[c8];exact List.mem_cons_of_mem _ hq)
  have hkl:=hQ kid hkm
  have hkb:kid≤65536:=by
   have h1:=cR.big
   have h2:=cR.way.le
   have h3:lenR R1=R1.way.kinds.length:=rfl
   have:=hkl.2.1
   omega
  obtain⟨M',R',u1,u2,u3,u4,u5⟩:=top (x:=kid) c8 (by have:=hkl.1;omega) hkb hkn hnx hQ
  exact⟨M',R',h',Q,u1,u2, .inr ⟨by rw[u4];have:=hkl.1;omega,by rw[u4];exact c9.congr u5⟩,u3,by omega⟩
end
end Go.Proofs.YtjgkegkinnlcoaaGreatDoor
namespace Go.Proofs.YtjgkegkinnlcoaaGreatDoor
open Go.RowKit
theorem Segs.idx: ∀ {ks:List Int} {lo hi:Option Int} {ss:List (List (Int × Int))},Segs lo hi ks ss→ ∀(i:Nat) (s:List (Int × Int)),ss[i]? =some s→ ∀p∈s,(i=0→ ∀l,lo=some l→l≤p.1)∧(0<i→ks.getD (i - 1) 0≤p.1)∧(i<ks.length→p.1<ks.getD i 0)∧(i=ks.length→ ∀u,hi=some u→p.1<u)
 | [],lo,hi,[t],h,i,s,hs,p,hp=>by
  cases i with
  |zero=>
   simp at hs;subst hs
   exact⟨fun _=>(h p hp).1,by simp,by simp,fun _=>(h p hp).2⟩
  |succ i=>simp at hs
 | [],_,_,[],h,_,_,_,_,_=>h.elim
 | [],_,_,_::_::_,h,_,_,_,_,_=>h.elim
 |k::ks,_,_,[],h,_,_,_,_,_=>h.elim
 |k::ks,lo,hi,t::ss,h,i,s,hs,p,hp=>by
  cases i with
  |zero=>
   simp at hs;subst hs
   exact⟨fun _=>(h.1 p hp).1,by simp,fun _=>(h.1 p hp).2 k rfl,by simp⟩
  |succ i=>
   obtain⟨a,b,c,d⟩:=Segs.idx h.2 i s (by simpa using hs) p hp
   refine⟨by simp,fun _=> ?_,fun hi'=> ?_,fun hi'=>d (by simpa using hi')⟩
   ·cases i with
    |zero=>exact a rfl k rfl
    |succ i=>exact b (by omega)
   ·exact c (by simpa using hi')
theorem Segs.of_idx: ∀ {ks:List Int} {lo hi:Option Int} {ss:List (List (Int × Int))},ss.length=ks.length+1→(∀(i:Nat) (s:List (Int × Int)),ss[i]? =some s→ ∀p∈s,(i=0→ ∀l,lo=some l→l≤p.1)∧(0<i→ks.getD (i - 1) 0≤p.1)∧(i<ks.length→p.1<ks.getD i 0)∧(i=ks.length→ ∀u,hi=some u→p.1<u))→Segs lo hi ks ss
 | [],lo,hi,[t],hl,h=>fun p hp=>⟨(h 0 t rfl p hp).1 rfl,(h 0 t rfl p hp).2.2.2 rfl⟩
 | [],_,_,[],hl,_=>by simp at hl
 | [],_,_,_::_::_,hl,_=>by simp at hl
 |k::ks,_,_,[],hl,_=>by simp at hl
 |k::ks,lo,hi,t::ss,hl,h=>by
  refine⟨fun p hp=>⟨(h 0 t rfl p hp).1 rfl,fun u e=> ?_⟩,Segs.of_idx (by simpa using hl) (fun i s hs p hp=> ?_)⟩
  ·have:=(h 0 t rfl p hp).2.2.1 (by simp)
   injection e with e;subst e
   exact this
  ·obtain⟨a,b,c,d⟩:=h (i+1) s (by simpa using hs) p hp
   refine⟨fun e l e2=> ?_,fun hi'=> ?_,fun hi'=> ?_,fun hi'=>d (by simp[hi'])⟩
   ·injection e2 with e2;subst e2 e
    exact b (by omega)
   ·obtain⟨j,rfl⟩: ∃j,i=j+1:=⟨i - 1,by omega⟩
    exact b (by omega)
   ·exact c (by simp;omega)
theorem Segs.ris: ∀ {ks:List Int} {lo hi:Option Int} {ss:List (List (Int × Int))},Segs lo hi ks ss→(∀s∈ss,RisP s)→ks.Pairwise (· < ·)→RisP ss.flatten
 | [],_,_,[s],h,hr,_=>by simpa using hr s (by simp)
 | [],_,_,[],h,_,_=>h.elim
 | [],_,_,_::_::_,h,_,_=>h.elim
 |k::ks,_,_,[],h,_,_=>h.elim
 |k::ks,lo,hi,s::ss,h,hr,hp=>by
  obtain⟨p1,p2⟩:=List.pairwise_cons.1 hp
  unfold RisP
  rw[List.flatten_cons,List.pairwise_append]
  refine⟨hr s (by simp),Segs.ris h.2 (fun t ht=>hr t (by simp[ht])) p2,fun p hps q hq=> ?_⟩
  obtain⟨t,ht,hq⟩:=List.mem_flatten.1 hq
  have:=(h.1 p hps).2 k rfl
  have:=Segs.low h.2 (fun x hx=>Int.le_of_lt (p1 x hx)) p2 t ht q hq
  omega
theorem TrAt.ris {M:PM}: ∀ {h:Nat} {no:Int} {seg:List (Int × Int)} {pgs:List Int},TrAt M h no seg pgs→RisP seg
 |0,no,seg,pgs,⟨n,h1,h2,h3,_⟩=>by rw[h3];exact zip_ris (ndRead_ok h1).pw
 |h+1,no,seg,pgs,⟨n,kz,h1,h2,h3,h4,h5,h6,h7⟩=>by
  rw[h5]
  refine h7.ris (fun s hs=> ?_) (ndRead_ok h1).pw
  obtain⟨z,hz,rfl⟩:=List.mem_map.1 hs
  exact(h4 z hz).1.ris
theorem TrAt.keys {M:PM} {h:Nat} {no:Int} {seg:List (Int × Int)} {pgs:List Int} {n:ND} (t:TrAt M h no seg pgs) (hn:ndRead M no=(0,n)):(∀l:Int,(∀p∈seg,l≤p.1)→ ∀k∈n.keys,l≤k)∧ ∀u:Int,(∀p∈seg,p.1<u)→ ∀k∈n.keys,k<u:=by
 cases h with
 |zero=>
  obtain⟨n',h1,h2,h3,_⟩:=t
  rw[hn] at h1
  injection h1 with _ h1
  subst h1
  have hv:=((ndRead_ok hn).leafs h2).2.1
  have hm: ∀k∈n.keys, ∃p∈seg,p.1=k:=fun k hk=>by
   rw[←zip_fst hv.symm] at hk
   obtain⟨p,hp,e⟩:=List.mem_map.1 hk
   exact⟨p,by rw[h3];exact hp,e⟩
  refine⟨fun l hl k hk=> ?_,fun u hu k hk=> ?_⟩
  ·obtain⟨p,hp,e⟩:=hm k hk;have:=hl p hp;omega
  ·obtain⟨p,hp,e⟩:=hm k hk;have:=hu p hp;omega
 |succ h=>
  obtain⟨n',kz,h1,h2,h3,h4,h5,h6,h7⟩:=t
  rw[hn] at h1
  injection h1 with _ h1
  subst h1
  have hne: ∀t∈kz.map (·.2.1),t≠ []:=fun t ht=>by
   obtain⟨y,hy,rfl⟩:=List.mem_map.1 ht
   exact(h4 y hy).1.some
  refine⟨fun l hl k hk=>Int.le_of_lt (h7.keysGt hne (fun t ht p hp=>hl p ?_) k hk),fun u hu k hk=>(h7.keysLt hne (fun t ht p hp=>hu p ?_)).2 k hk⟩
  ·rw[h5];exact List.mem_flatten.2 ⟨t,ht,hp⟩
  ·rw[h5];exact List.mem_flatten.2 ⟨t,ht,hp⟩
abbrev SpK:=Int × Int × Int × Bool
def AllSp (ok:SpK→KZ→Prop):List SpK→List KZ→Prop
 | [],[]=>True
 |x::L,z::kz=>ok x z∧AllSp ok L kz
 |_,_=>False
theorem AllSp.of_idx {ok:SpK→KZ→Prop}: ∀ {L:List SpK} {kz:List KZ},L.length=kz.length→(∀(i:Nat) x z,L[i]? =some x→kz[i]? =some z→ok x z)→AllSp ok L kz
 | [],[],_,_=>trivial
 | [],_::_,h,_=>by simp at h
 |_::_,[],h,_=>by simp at h
 |x::L,z::kz,h,hi=>⟨hi 0 x z rfl rfl,AllSp.of_idx (by simpa using h) (fun i y w h1 h2=>hi (i+1) y w (by simpa using h1) (by simpa using h2))⟩
theorem span_get {n:ND} {low high:Int} {op:Bool} {i:Nat} {x:SpK} (h:(spanN n low high op)[i]? =some x):i<n.kids.length∧x=(n.kids.getD i 0,(if 0<i then n.keys.getD (i - 1) 0 else low),(if i<n.keys.length then n.keys.getD i 0 else high),(if i<n.keys.length then false else op)):=by
 unfold spanN at h
 rw[List.getElem?_map] at h
 by_cases hi:i<n.kids.length
 ·rw[List.getElem?_range hi] at h
  injection h with h
  exact⟨hi,h.symm⟩
 ·rw[List.getElem?_eq_none (by simpa using hi)] at h
  cases h
theorem TrAt.walk {M:PM}: ∀ {h:Nat} {no:Int} {seg:List (Int × Int)} {pgs:List Int} {f:Nat} {low high:Int} {op:Bool} {s:WS},TrAt M h no seg pgs→h≤f→f≤15→(f<15→thinN (ndRead M no).2=false)→pgs.Nodup→(∀q∈pgs,q∉s.pages)→(∀p∈seg,low≤p.1∧(op=true∨p.1<high))→(s.depth=0∨s.depth=16 - f+h)→
  wlkL M (f+1) no low high op s=(0,⟨s.pages++pgs,s.out++seg,16 - f+h⟩)
 |h,no,seg,pgs,f,low,high,op,s,t,hf,hf2,hth,hnd,hdj,hin,hd=>by
  obtain⟨n,hn,hok,hlf,rest,hr⟩:=t.head
  have hc:s.pages.contains no=false:=by
   rw[List.contains_eq_mem,decide_eq_false_iff_not]
   exact hdj no (by rw[hr];exact List.mem_cons_self)
  have hki:keysIn low high op n.keys=true:=by
   unfold keysIn
   rw[List.all_eq_true]
   intro k hk
   rw[Bool.and_eq_true,decide_eq_true_iff]
   refine⟨(t.keys hn).1 low (fun p hp=>(hin p hp).1) k hk, ?_⟩
   cases op
   ·simp
    exact(t.keys hn).2 high (fun p hp=>((hin p hp).2).elim (fun e=>by cases e) id) k hk
   ·simp
  have hth2: ¬(f<15∧thinN n=true):=fun⟨a,b⟩=>by
   have:=hth a
   rw[hn] at this
   rw[show thinN n=false from this] at b
   cases b
  unfold wlkL
  simp only
  rw[hc,if_neg (by decide),hn]
  simp only
  rw[if_neg (by simp),hki,if_neg (by decide),if_neg hth2]
  cases h with
  |zero=>
   obtain⟨n',h1,h2,h3,h4⟩:=t
   rw[hn] at h1
   injection h1 with _ h1
   subst h1
   rw[if_pos h2,h4,h3]
   by_cases h0:s.depth=0
   ·rw[if_pos h0,if_neg (by simp)];rfl
   ·rw[if_neg h0]
    rcases hd with hd|hd
    ·exact absurd hd h0
    ·rw[hd,if_neg (by simp)]
  |succ h=>
   obtain⟨n',kz,h1,h2,h3,h4,h5,h6,h7⟩:=t
   rw[hn] at h1
   injection h1 with _ h1
   subst h1
   rw[if_neg (by rw[h2];decide)]
   obtain⟨f',rfl⟩: ∃f',f=f'+1:=⟨f - 1,by omega⟩
   have hsp:AllSp (fun x z=>x.1=z.1∧ ∀p∈z.2.1,x.2.1≤p.1∧(x.2.2.2=true∨p.1<x.2.2.1)) (spanN n low high op) kz:=by
    refine AllSp.of_idx (by unfold spanN;rw[h3];simp) (fun i x z hx hz=> ?_)
    obtain⟨hi,rfl⟩:=span_get hx
    refine⟨?_,fun p hp=> ?_⟩
    ·simp only
     rw[h3,List.getD_eq_getElem?_getD,List.getElem?_map,hz];rfl
    ·have hseg:p∈seg:=by rw[h5];exact List.mem_flatten.2 ⟨_,List.mem_map.2 ⟨z,List.mem_of_getElem? hz,rfl⟩,hp⟩
     obtain⟨a,b,c,d⟩:=h7.idx i z.2.1 (by rw[List.getElem?_map,hz];rfl) p hp
     obtain⟨g1,g2⟩:=hin p hseg
     simp only
     refine⟨?_, ?_⟩
     ·split
      ·rename_i hi0;exact b hi0
      ·exact g1
     ·split
      ·rename_i hi0;exact .inr (c hi0)
      ·exact g2
   have hno:no∉(kz.map (·.2.2)).flatten:=by rw[h6] at hnd;exact(List.nodup_cons.1 hnd).1
   have hnd2:((kz.map (·.2.2)).flatten).Nodup:=by rw[h6] at hnd;exact(List.nodup_cons.1 hnd).2
   have loop: ∀(L:List SpK) (zs:List KZ) (st:WS),AllSp (fun x z=>x.1=z.1∧ ∀p∈z.2.1,x.2.1≤p.1∧(x.2.2.2=true∨p.1<x.2.2.1)) L zs→(∀z∈zs,z∈kz)→((zs.map (·.2.2)).flatten).Nodup→(∀q∈(zs.map (·.2.2)).flatten,q∉st.pages)→(st.depth=0∨st.depth=16 - f'+h)→
     L.foldl (fun a q=>if a.1≠0 then a else wlkL M (f'+1) q.1 q.2.1 q.2.2.1 q.2.2.2 a.2) (0,st)=(0,⟨st.pages++(zs.map (·.2.2)).flatten,st.out++(zs.map (·.2.1)).flatten,if zs=[] then st.depth else 16 - f'+h⟩):=by
    intro L
    induction L with
    |nil=>
     intro zs st ha _ _ _ _
     cases zs with
     |nil=>simp
     |cons z zs=>exact ha.elim
    |cons x L ih=>
     intro zs st ha hz hn1 hn2 hdd
     cases zs with
     |nil=>exact ha.elim
     |cons z zs=>
      obtain⟨⟨a1,a2⟩,a3⟩:=ha
      obtain⟨tz,thz⟩:=h4 z (hz z (by simp))
      simp only[List.map_cons,List.flatten_cons] at hn1 hn2 ⊢
      rw[List.nodup_append] at hn1
      obtain⟨m1,m2,m3⟩:=hn1
      rw[List.foldl_cons]
      simp only
      rw[if_neg (by simp),a1,tz.walk (by omega) (by omega) (fun _=>thz) m1 (fun q hq=>hn2 q (List.mem_append_left _ hq)) a2 hdd]
      rw[ih zs ⟨st.pages++z.2.2,st.out++z.2.1,16 - f'+h⟩ a3 (fun y hy=>hz y (by simp[hy])) m2 (fun q hq hm=> ?_) (.inr rfl)]
      ·simp
      ·rcases List.mem_append.1 hm with hm|hm
       ·exact hn2 q (List.mem_append_right _ hq) hm
       ·exact m3 q hm q hq rfl
   have:=loop (spanN n low high op) kz ⟨s.pages++[no],s.out,s.depth⟩ hsp (fun _ h=>h) hnd2 (fun q hq hm=>by
    rcases List.mem_append.1 hm with hm|hm
    ·exact hdj q (by rw[h6];simp[hq]) hm
    ·simp at hm;subst hm;exact hno hq) (by rcases hd with hd|hd;exact .inl hd;exact .inr (by simp only;omega))
   rw[this]
   have hkz:kz≠ []:=fun e=>by
    have:=hok.k1
    have h8:=(hok.forks h2).2.1
    rw[h3,e] at h8
    simp at h8
   rw[if_neg hkz,h5,h6]
   simp
   omega
end Go.Proofs.YtjgkegkinnlcoaaGreatDoor
namespace Go.Proofs.YtjgkegkinnlcoaaGreatDoor
open Go.RowKit
theorem fold_bad {M:PM} {f:Nat}: ∀(L:List SpK) (e:Int) (s:WS),e≠0→L.foldl (fun a q=>if a.1≠0 then a else wlkL M f q.1 q.2.1 q.2.2.1 q.2.2.2 a.2) (e,s)=(e,s)
 | [],e,s,_=>rfl
 |x::L,e,s,h=>by
  rw[List.foldl_cons,if_pos h]
  exact fold_bad L e s h
theorem AllSp.get {ok:SpK→KZ→Prop}: ∀ {L:List SpK} {kz:List KZ},AllSp ok L kz→L.length=kz.length∧ ∀(i:Nat) x z,L[i]? =some x→kz[i]? =some z→ok x z
 | [],[],_=>⟨rfl,fun i x z h=>by simp at h⟩
 | [],_::_,h=>h.elim
 |_::_,[],h=>h.elim
 |x::L,z::kz,⟨h1,h2⟩=>by
  obtain⟨a,b⟩:=h2.get
  refine⟨by simp[a],fun i y w hy hw=> ?_⟩
  cases i with
  |zero=>simp at hy hw;subst hy hw;exact h1
  |succ i=>exact b i y w (by simpa using hy) (by simpa using hw)
section
variable {M:PM} {R:RM} {N:Nat} {G:Int}
theorem wholeB_tr {i h:Nat} {seg:List (Int × Int)} {pgs:List Int} (hR:Rel M R N G) (hi:i<8) (t:RootAt M R i h seg pgs) (hn:pgs.Nodup) (hl: ∀q∈pgs,Live R q) (hh:h≤15) (hlo: ∀p∈seg,0≤p.1):wholeB M i=(seg,pgs,0):=by
 have htop:=topB_of hR hi (t.small hR hl)
 unfold wholeB
 rw[htop]
 simp only
 rcases t with ⟨e,e2,e3,e4⟩|⟨e,t⟩
 ·rw[if_pos (.inr e),e2,e3]
 ·rw[if_neg (by simpa using e),t.walk (f:=15) (s:=⟨[],[],0⟩) (op:=true) (low:=0) hh (Nat.le_refl _) (fun h=>by omega) hn (by simp) (fun p hp=>⟨hlo p hp, .inl rfl⟩) (.inl rfl)]
  simp
end
theorem TrAt.deep {M:PM}: ∀ {h:Nat} {no:Int} {seg:List (Int × Int)} {pgs:List Int} {f:Nat},TrAt M h no seg pgs→h<f→f≤16→no≠0→deepL M f no=(((17 - f+h:Nat):Int),0)
 |0,no,seg,pgs,0,_,hf,_,_=>by omega
 |h+1,no,seg,pgs,0,_,hf,_,_=>by omega
 |0,no,seg,pgs,f+1,⟨n,h1,h2,h3,_⟩,hf,hf2,hn=>by
  unfold deepL
  rw[if_neg hn,h1]
  simp only
  rw[if_neg (by simp),if_pos h2]
  rw[show 17 - (f+1)+0=16 - f by omega]
 |h+1,no,seg,pgs,f+1,t,hf,hf2,hn=>by
  have hne:=t.ne
  obtain⟨n,kz,h1,h2,h3,h4,h5,h6,h7⟩:=t
  have hok:=ndRead_ok h1
  have hkl:=(hok.forks h2).2.1
  cases kz with
  |nil=>rw[h3] at hkl;simp at hkl
  |cons z kz=>
   have e:n.kids.getD 0 0=z.1:=by rw[h3];rfl
   have hz:=(h4 z (by simp)).1
   unfold deepL
   rw[if_neg hn,h1]
   simp only
   rw[if_neg (by simp),if_neg (by rw[h2];decide),e,TrAt.deep hz (by omega) (by omega) (hne n h1 z.1 (by rw[h3];simp))]
   rw[show 17 - f+h=17 - (f+1)+(h+1) by omega]
end Go.Proofs.YtjgkegkinnlcoaaGreatDoor
namespace Go.Proofs.YtjgkegkinnlcoaaGreatDoor
open Go.RowKit
structure WOk (M:PM) (s:WS):Prop where
 nd:s.pages.Nodup
 rg: ∀q∈s.pages,0≤q∧q<M.most
section
variable {M:PM} {s:WS}
theorem WOk.few (h:WOk M s):s.pages.length≤M.most:=by
 have h1:=h.nd
 have h2:s.pages ⊆ (List.range M.most).map (fun n:Nat=>(n:Int)):=fun q hq=>by
  have:=h.rg q hq
  rw[List.mem_map]
  exact⟨q.toNat,List.mem_range.2 (by omega),by omega⟩
 have h3:s.pages.length≤((List.range M.most).map (fun n:Nat=>(n:Int))).length:=h1.length_le_of_subset h2
 simpa using h3
theorem readP_rg {no:Int} (hs:Snd M) (h:(readP M no).2.2=0):0≤no∧no<M.most:=by
 unfold readP at h
 split at h
 ·simp at h
 ·split at h
  ·rename_i h1 h2;exact absurd h h2
  ·rename_i h0 h1
   split at h
   ·simp at h
   ·rename_i h2
    obtain⟨-,b, -⟩:=hs (by simpa using h1)
    omega
theorem ndRead_rg {no:Int} (hs:Snd M) (h:(ndRead M no).1=0):0≤no∧no<M.most:=by
 refine readP_rg hs ?_
 unfold ndRead at h
 simp only at h
 split at h
 ·rename_i h1;exact absurd h h1
 ·rename_i h1;simpa using h1
theorem WOk.add (h:WOk M s) {no:Int} (hn:s.pages.contains no=false) (hr:0≤no∧no<M.most) (o:List (Int × Int)) (d:Nat):WOk M ⟨s.pages++[no],o,d⟩:=by
 have hn':no∉s.pages:=by simpa using hn
 refine⟨?_,fun q hq=> ?_⟩
 ·show(s.pages++[no]).Nodup
  rw[List.nodup_append]
  refine⟨h.nd,by simp,fun a ha b hb e=> ?_⟩
  simp at hb
  subst hb;subst e
  exact hn' ha
 ·simp only[List.mem_append,List.mem_singleton] at hq
  rcases hq with hq|rfl
  ·exact h.rg q hq
  ·exact hr
end
end Go.Proofs.YtjgkegkinnlcoaaGreatDoor
namespace Go.Proofs.YtjgkegkinnlcoaaGreatDoor
open Go.RowKit
def hasP (key:Int) (l:List (Int × Int)):Bool:=l.any fun p=>p.1==key
def refDelE (key:Int) (l:List (Int × Int)):Int:=if hasP key l=true then 0 else 6
theorem hasP_iff {key:Int} {l:List (Int × Int)}:hasP key l=true↔ ∃p∈l,p.1=key:=by
 unfold hasP
 rw[List.any_eq_true]
 simp
theorem delP_none {key:Int} {l:List (Int × Int)} (h: ¬ ∃p∈l,p.1=key):delP key l=l:=by
 unfold delP
 exact filter_all (fun p hp=>by simp;exact fun e=>h ⟨p,hp,e⟩)
end Go.Proofs.YtjgkegkinnlcoaaGreatDoor
namespace Go.Proofs.YtjgkegkinnlcoaaGreatDoor
open Go.RowKit Go.Maps Go.Joins
def prF (l:List (Int × Int)):List Value:=l.flatMap fun p=>[.int .u64 p.1, .int .u64 p.2]
theorem prF_app (a b:List (Int × Int)):prF (a++b)=prF a++prF b:=by unfold prF;rw[List.flatMap_append]
theorem prF_at: ∀ {l:List (Int × Int)} {i:Nat} {p:Int × Int},l[i]? =some p→(prF l)[i*2]? =some (.int .u64 p.1)∧(prF l)[i*2+1]? =some (.int .u64 p.2)
 | [],i,p,h=>by simp at h
 |q::l,0,p,h=>by
  simp at h
  subst h
  exact⟨rfl,rfl⟩
 |q::l,i+1,p,h=>by
  have h:l[i]? =some p:=by simpa using h
  obtain⟨h1,h2⟩:=prF_at h
  have e:prF (q::l)= .int .u64 q.1:: .int .u64 q.2::prF l:=rfl
  rw[e,show(i+1)*2=(i*2+1)+1 by omega,List.getElem?_cons_succ,List.getElem?_cons_succ,List.getElem?_cons_succ]
  exact⟨h1,h2⟩
def IsP (w:World) (v:Value) (l:List (Int × Int)):Prop:=
 (l=[]∧ ∃a c,v= .slice a 0 c)∨ ∃g o c,v= .slice (some ⟨g,o,none⟩) l.length c∧g<w.heap.size∧ ∀(i:Nat) p,l[i]? =some p→w.cell? ⟨g,o+i*2,none⟩=some (.int .u64 p.1)∧w.cell? ⟨g,o+i*2+1,none⟩=some (.int .u64 p.2)
section
variable {w w':World} {v:Value} {l:List (Int × Int)} {X F:List Nat} {B:Nat} {e:TypeId}
theorem IsP.form (h:IsP w v l): ∃a c,v= .slice a l.length c:=by
 rcases h with ⟨rfl,a,c,rfl⟩|⟨g,o,c,rfl, -⟩
 ·exact⟨a,c,rfl⟩
 ·exact⟨_,c,rfl⟩
theorem IsP.at_ (h:IsP w v l) (hl:0<l.length): ∃g o c,v= .slice (some ⟨g,o,none⟩) l.length c∧g<w.heap.size∧ ∀(i:Nat) p,l[i]? =some p→w.cell? ⟨g,o+i*2,none⟩=some (.int .u64 p.1)∧w.cell? ⟨g,o+i*2+1,none⟩=some (.int .u64 p.2):=by
 rcases h with ⟨rfl, -⟩|h
 ·simp at hl
 ·exact h
theorem IsP.touch (h:IsP w v l) (t:Touch F w w') (hx: ∀g∈blkOf v,g∉F):IsP w' v l:=by
 rcases h with h|⟨g,o,c,rfl,hg,h⟩
 ·exact .inl h
 ·refine .inr ⟨g,o,c,rfl,Nat.lt_of_lt_of_le hg t.size,fun i p hp=> ?_⟩
  rw[t.cell (p:=⟨g,o+i*2,none⟩) hg (hx g (by simp[blkOf])),t.cell (p:=⟨g,o+i*2+1,none⟩) hg (hx g (by simp[blkOf]))]
  exact h i p hp
theorem IsP.below (h:IsP w v l) (hb:Below w.heap.size w w'):IsP w' v l:=h.touch (F:=[]) (Touch.of_below hb) (by simp)
theorem IsP.same (h:IsP w v l) (s:SameX X w w') (hx: ∀g∈blkOf v,g∈X):IsP w' v l:=by
 rcases h with h|⟨g,o,c,rfl,hg,h⟩
 ·exact .inl h
 ·refine .inr ⟨g,o,c,rfl,Nat.lt_of_lt_of_le hg s.size,fun i p hp=> ?_⟩
  rw[s.cell (hx g (by simp[blkOf])),s.cell (hx g (by simp[blkOf]))]
  exact h i p hp
theorem IsP.own (h:w.ownsRow B e 2 v l.length (prF l)):IsP w v l:=by
 rcases ownsRow_forms h with ⟨rfl,h0⟩|⟨g,c,rfl⟩
 ·exact .inl ⟨List.eq_nil_of_length_eq_zero h0,none,0,rfl⟩
 ·obtain⟨h1,h2⟩:=h.lt g rfl
  refine .inr ⟨g,0,c,rfl,h2,fun i p hp=> ?_⟩
  have hi:=(List.getElem?_eq_some_iff.1 hp).1
  obtain⟨a1,a2⟩:=prF_at hp
  rw[Nat.zero_add,h.cellAt (i*2) (by omega),h.cellAt (i*2+1) (by omega)]
  exact⟨a1,a2⟩
end
end Go.Proofs.YtjgkegkinnlcoaaGreatDoor
namespace Go.Proofs.YtjgkegkinnlcoaaGreatDoor
open Go.RowKit Go.Maps Go.Joins
def metG (s:List Int) (k:Int):Option Bool:=if s.contains k=true then some true else none
theorem metG_add (s:List Int) (no:Int):(fun k=>metG (s++[no]) k)=updT (metG s) no true:=by
 funext k
 unfold metG updT
 by_cases h:k=no
 ·subst h;simp
 ·rw[if_neg h]
  simp only[List.contains_iff_mem,List.mem_append,List.mem_singleton]
  by_cases h2:k∈s
  ·rw[if_pos (.inl h2),if_pos h2]
  ·rw[if_neg (fun e=>e.elim h2 h),if_neg h2]
structure WkB where
 cm:Nat
 cp:Nat
 cq:Nat
 cd:Nat
 co:Nat
 cw:Nat
 mb:Nat
def WkB.l (c:WkB):List Nat:=[c.cm,c.cp,c.cq,c.cd,c.co,c.cw,c.mb]
def wkFn (c:WkB):Value:= .func (.func 139) #[] #[.pointer (some ⟨c.cm,0,none⟩), .pointer (some ⟨c.cp,0,none⟩), .pointer (some ⟨c.cq,0,none⟩), .pointer (some ⟨c.cd,0,none⟩), .pointer (some ⟨c.co,0,none⟩), .pointer (some ⟨c.cw,0,none⟩)]
structure WkAt (w0 w:World) (p K:Nat) (M:PM) (X:List Nat) (B:Nat) (c:WkB) (vp vo:Value) (s:WS):Prop where
 pg:PgX w0 w p K M (c.l++(blkOf vp++(blkOf vo++X)))
 rm:w.rowIs c.cm 175 1 (fun _=> .map (some c.mb))
 rp:w.rowIs c.cp 67 1 (fun _=>vp)
 rq:w.rowIs c.cq 24 1 (fun _=> .pointer (some ⟨p,0,none⟩))
 rd:w.rowIs c.cd 3 1 (fun _=> .int .i64 s.depth)
 ro:w.rowIs c.co 41 1 (fun _=>vo)
 rf:w.rowIs c.cw 206 1 (fun _=>wkFn c)
 mp:MapT w Tryz.prog 3 c.mb s.pages.length (Value.int .i64) Value.bool (metG s.pages)
 op:w.ownsRow B 3 1 vp s.pages.length (s.pages.map (Value.int .i64))
 oo:w.ownsRow B 54 2 vo s.out.length (prF s.out)
 nd:(c.l++(blkOf vp++blkOf vo)).Nodup
 xx: ∀x∈X,x∉c.l∧x∉blkOf vp∧x∉blkOf vo
 lo:w0.heap.size≤B
 lc: ∀x∈c.l,w0.heap.size≤x
section
variable {w0 w w':World} {p K J B:Nat} {M M':PM} {X:List Nat} {c:WkB} {vp vo:Value} {s:WS}
theorem blkOf_ownP {e:TypeId} {l:List (Int × Int)} {v:Value} (h:w.ownsRow B e 2 v l.length (prF l)):blkOf v=v.ownBlock.toList:=by
 rcases ownsRow_forms h with ⟨rfl,h0⟩|⟨g,c,rfl⟩
 ·rfl
 ·rfl
theorem MapT.of_block {α β:Type} {P:Program} {k:TypeId} {b n:Nat} {ek:α→Value} {ev:β→Value} {g:α→Option β} (h:MapT w P k b n ek ev g) (hb:w'.heap[b]? =w.heap[b]?):MapT w' P k b n ek ev g:=by
 obtain⟨D,⟨es,clock,h1,r⟩,h2⟩:=h
 exact⟨D,⟨es,clock,hb.trans h1,r⟩,h2⟩
theorem ownsRow_of_block {b:Nat} {e:TypeId} {z n:Nat} {v:Value} {xs:List Value} (h:w.ownsRow b e z v n xs) (hb: ∀g,v.ownBlock=some g→w'.heap[g]? =w.heap[g]?):w'.ownsRow b e z v n xs:=by
 refine⟨h.1, ?_⟩
 rcases h.2 with h0|⟨g,cap,cur,hv,hbb,hg,hh⟩
 ·exact .inl h0
 ·exact .inr ⟨g,cap,cur,hv,hbb,(hb g (by rw[hv];rfl)).trans hg,hh⟩
theorem WkAt.keep (h:WkAt w0 w p K M X B c vp vo s) (hp:PgX w0 w' p J M' (c.l++(blkOf vp++(blkOf vo++X)))) (hb: ∀g,g∈c.l∨g∈blkOf vp∨g∈blkOf vo→w'.heap[g]? =w.heap[g]?):WkAt w0 w' p J M' X B c vp vo s:=by
 have hc: ∀g,g∈c.l→w'.heap[g]? =w.heap[g]? :=fun g hg=>hb g (.inl hg)
 exact⟨hp,World.rowIs.of_block h.rm (hc _ (by simp[WkB.l])),World.rowIs.of_block h.rp (hc _ (by simp[WkB.l])),World.rowIs.of_block h.rq (hc _ (by simp[WkB.l])),World.rowIs.of_block h.rd (hc _ (by simp[WkB.l])),World.rowIs.of_block h.ro (hc _ (by simp[WkB.l])),World.rowIs.of_block h.rf (hc _ (by simp[WkB.l])),h.mp.of_block (hc _ (by simp[WkB.l])),
  ownsRow_of_block h.op (fun g hg=>hb g (.inr (.inl (by rw[blkOf_own h.op];simp[hg])))),ownsRow_of_block h.oo (fun g hg=>hb g (.inr (.inr (by rw[blkOf_ownP h.oo];simp[hg])))),h.nd,h.xx,h.lo,h.lc⟩
theorem WkAt.lt (h:WkAt w0 w p K M X B c vp vo s) {g:Nat} (hg:g∈c.l∨g∈blkOf vp∨g∈blkOf vo):g<w.heap.size:=h.pg.lt g (by simp only[List.mem_append];rcases hg with hg|hg|hg<;>simp[hg])
theorem WkAt.below (h:WkAt w0 w p K M X B c vp vo s) (hb:Below w.heap.size w w'):WkAt w0 w' p K M X B c vp vo s:=
 h.keep (h.pg.moveX hb) (fun g hg=>hb.block g (h.lt hg))
theorem WkAt.go (h:WkAt w0 w p K M X B c vp vo s) (hp:PgX w0 w' p J M' (c.l++(blkOf vp++(blkOf vo++X)))) (hs:SameX (c.l++(blkOf vp++(blkOf vo++X))) w w'):WkAt w0 w' p J M' X B c vp vo s:=
 h.keep hp (fun g hg=>hs.blk g (by simp only[List.mem_append];rcases hg with hg|hg|hg<;>simp[hg]))
end
end Go.Proofs.YtjgkegkinnlcoaaGreatDoor
namespace Go.Proofs.YtjgkegkinnlcoaaGreatDoor
open Go.RowKit Go.Maps Go.Joins
section
variable {w0 w w':World} {p K J B:Nat} {M M':PM} {X:List Nat} {c:WkB} {vp vo v':Value} {s:WS}
theorem own_geP {e:TypeId} {l:List (Int × Int)} {v:Value} (h:w.ownsRow B e 2 v l.length (prF l)): ∀g∈blkOf v,B≤g∧g<w.heap.size:=fun g hg=>by
 rw[blkOf_ownP h,Option.mem_toList] at hg
 exact h.lt g hg
theorem WkB.ne (h:c.l.Nodup):c.cm≠c.cp∧c.cm≠c.cd∧c.cm≠c.co∧c.cm≠c.mb∧c.cp≠c.cq∧c.cp≠c.cd∧c.cp≠c.co∧c.cp≠c.cw∧c.cp≠c.mb∧c.cq≠c.cd∧c.cq≠c.co∧c.cq≠c.mb∧c.cd≠c.co∧c.cd≠c.cw∧c.cd≠c.mb∧c.co≠c.cw∧c.co≠c.mb∧c.cw≠c.mb:=by
 unfold WkB.l at h
 simp only[List.nodup_cons,List.mem_cons,List.not_mem_nil,or_false,not_or] at h
 obtain⟨⟨a1,a2,a3,a4,a5,a6⟩,⟨b1,b2,b3,b4,b5⟩,⟨c1,c2,c3,c4⟩,⟨d1,d2,d3⟩,⟨e1,e2⟩,f1, -⟩:=h
 exact⟨a1,a3,a4,a6,b1,b2,b3,b4,b5,c1,c2,c4,d1,d2,d3,e1,e2,f1⟩
theorem WkAt.nds (h:WkAt w0 w p K M X B c vp vo s):c.l.Nodup∧(blkOf vp).Nodup∧(blkOf vo).Nodup∧(∀g∈blkOf vp,g∉c.l)∧(∀g∈blkOf vo,g∉c.l)∧ ∀g∈blkOf vp,g∉blkOf vo:=by
 have:=h.nd
 rw[List.nodup_append,List.nodup_append] at this
 obtain⟨h1,⟨h2,h3,h4⟩,h5⟩:=this
 exact⟨h1,h2,h3,fun g hg hc=>h5 g hc g (by simp[hg]) rfl,fun g hg hc=>h5 g hc g (by simp[hg]) rfl,fun g hg hc=>h4 g hg g hc rfl⟩
theorem WkAt.add (h:WkAt w0 w p K M X B c vp vo s) {no:Int} (hm:MapT w' Tryz.prog 3 c.mb (s.pages.length+1) (Value.int .i64) Value.bool (updT (metG s.pages) no true)) (ho:w'.ownsRow B 3 1 v' (s.pages++[no]).length ((s.pages++[no]).map (Value.int .i64)))
  (hr:w'.rowIs c.cp 67 1 (fun _=>v')) (hn: ∀g∈blkOf v',g∈blkOf vp∨w.heap.size≤g) (t:Touch (c.mb::c.cp::blkOf vp) w w'):WkAt w0 w' p K M X B c v' vo ⟨s.pages++[no],s.out,s.depth⟩:=by
 obtain⟨n1,n2,n3,n4,n5,n6⟩:=h.nds
 obtain⟨a1,a2,a3,a4,a5,a6,a7,a8,a9,b1,b2,b3,b4,b5,b6,b7,b8,b9⟩:=WkB.ne n1
 have hl:=fun g hg=>h.lt (g:=g) hg
 have hxl: ∀x∈X,x<w.heap.size:=fun x hx=>h.pg.lt x (by simp[hx])
 have hF: ∀g,g∈c.l→g≠c.mb→g≠c.cp→g∉c.mb::c.cp::blkOf vp:=fun g hg h1 h2=>by
  simp only[List.mem_cons,not_or]
  exact⟨h1,h2,fun hm=>n4 g hm hg⟩
 refine⟨h.pg.turn t (fun x hx=> ?_) (fun y hy=> ?_),rowIs_touch h.rm t (hF _ (by simp[WkB.l]) a4 a1),hr,rowIs_touch h.rq t (hF _ (by simp[WkB.l]) b3 a5.symm),rowIs_touch h.rd t (hF _ (by simp[WkB.l]) b6 a6.symm),rowIs_touch h.ro t (hF _ (by simp[WkB.l]) b8 a7.symm),rowIs_touch h.rf t (hF _ (by simp[WkB.l]) b9 a8.symm),
  ?_,ho,ownsRow_touch h.oo t (fun g hg=> ?_), ?_,fun x hx=>⟨(h.xx x hx).1,fun hv=> ?_,(h.xx x hx).2.2⟩,h.lo,h.lc⟩
 ·simp only[List.mem_cons] at hx
  rcases hx with rfl|rfl|hx
  ·exact⟨by simp[WkB.l],h.lc _ (by simp[WkB.l])⟩
  ·exact⟨by simp[WkB.l],h.lc _ (by simp[WkB.l])⟩
  ·exact⟨by simp[hx],Nat.le_trans h.lo (own_ge h.op x hx).1⟩
 ·simp only[List.mem_append] at hy ⊢
  rcases hy with hy|hy|hy
  ·simp[hy]
  ·rcases hn y hy with h1|h1
   ·simp[h1]
   ·exact .inr ⟨h1,(own_ge ho y hy).2⟩
  ·simp[hy]
 ·show MapT w' Tryz.prog 3 c.mb (s.pages++[no]).length (Value.int .i64) Value.bool (fun k=>metG (s.pages++[no]) k)
  rw[metG_add,List.length_append]
  exact hm
 ·have hg':g∈blkOf vo:=by rw[blkOf_ownP h.oo];simp[hg]
  have h1:=n5 g hg'
  simp only[List.mem_cons,not_or]
  refine⟨fun e=>h1 (by rw[e];simp[WkB.l]),fun e=>h1 (by rw[e];simp[WkB.l]),fun hm=>n6 g hm hg'⟩
 ·exact nodup_swap (A:=c.l) (C:=blkOf vp) (D:=blkOf vo) (s:=w.heap.size) h.nd (blkOf_nodup v') hn (fun g hg=>hl g (.inl hg)) (fun g hg=>hl g (.inr (.inr hg)))
 ·rcases hn x hv with h1|h1
  ·exact(h.xx x hx).2.1 h1
  ·have:=hxl x hx;omega
theorem WkAt.setD (h:WkAt w0 w p K M X B c vp vo s) {d:Nat} (hr:w'.rowIs c.cd 3 1 (fun _=> .int .i64 d)) (t:Touch [c.cd] w w'):WkAt w0 w' p K M X B c vp vo ⟨s.pages,s.out,d⟩:=by
 obtain⟨n1,n2,n3,n4,n5,n6⟩:=h.nds
 obtain⟨a1,a2,a3,a4,a5,a6,a7,a8,a9,b1,b2,b3,b4,b5,b6,b7,b8,b9⟩:=WkB.ne n1
 have hcd:c.cd∈c.l:=by simp[WkB.l]
 refine⟨h.pg.touch t (fun x hx=>by simp at hx;subst hx;exact⟨by simp[hcd],h.lc _ hcd⟩),rowIs_touch h.rm t (by simpa using a2),rowIs_touch h.rp t (by simpa using a6),rowIs_touch h.rq t (by simpa using b1),hr,rowIs_touch h.ro t (by simpa using b4.symm),rowIs_touch h.rf t (by simpa using b5.symm),h.mp.touch t (by simpa using b6.symm),ownsRow_touch h.op t (fun g hg=> ?_),ownsRow_touch h.oo t (fun g hg=> ?_),h.nd,h.xx,h.lo,h.lc⟩
 ·have:=n4 g (by rw[blkOf_own h.op];simp[hg])
  simp;intro e;exact this (by rw[e];exact hcd)
 ·have:=n5 g (by rw[blkOf_ownP h.oo];simp[hg])
  simp;intro e;exact this (by rw[e];exact hcd)
theorem WkAt.pair (h:WkAt w0 w p K M X B c vp vo s) {q:Int × Int} (ho:w'.ownsRow B 54 2 v' (s.out++[q]).length (prF (s.out++[q]))) (hr:w'.rowIs c.co 41 1 (fun _=>v')) (hn: ∀g∈blkOf v',g∈blkOf vo∨w.heap.size≤g) (t:Touch (c.co::blkOf vo) w w'):
  WkAt w0 w' p K M X B c vp v' ⟨s.pages,s.out++[q],s.depth⟩:=by
 obtain⟨n1,n2,n3,n4,n5,n6⟩:=h.nds
 obtain⟨a1,a2,a3,a4,a5,a6,a7,a8,a9,b1,b2,b3,b4,b5,b6,b7,b8,b9⟩:=WkB.ne n1
 have hl:=fun g hg=>h.lt (g:=g) hg
 have hxl: ∀x∈X,x<w.heap.size:=fun x hx=>h.pg.lt x (by simp[hx])
 have hF: ∀g,g∈c.l→g≠c.co→g∉c.co::blkOf vo:=fun g hg h1=>by
  simp only[List.mem_cons,not_or]
  exact⟨h1,fun hm=>n5 g hm hg⟩
 refine⟨h.pg.turn t (fun x hx=> ?_) (fun y hy=> ?_),rowIs_touch h.rm t (hF _ (by simp[WkB.l]) a3),rowIs_touch h.rp t (hF _ (by simp[WkB.l]) a7),rowIs_touch h.rq t (hF _ (by simp[WkB.l]) b2),rowIs_touch h.rd t (hF _ (by simp[WkB.l]) b4),hr,rowIs_touch h.rf t (hF _ (by simp[WkB.l]) b7.symm),
  h.mp.touch t (hF _ (by simp[WkB.l]) b8.symm),ownsRow_touch h.op t (fun g hg=> ?_),ho, ?_,fun x hx=>⟨(h.xx x hx).1,(h.xx x hx).2.1,fun hv=> ?_⟩,h.lo,h.lc⟩
 ·simp only[List.mem_cons] at hx
  rcases hx with rfl|hx
  ·exact⟨by simp[WkB.l],h.lc _ (by simp[WkB.l])⟩
  ·exact⟨by simp[hx],Nat.le_trans h.lo (own_geP h.oo x hx).1⟩
 ·simp only[List.mem_append] at hy ⊢
  rcases hy with hy|hy|hy|hy
  ·simp[hy]
  ·simp[hy]
  ·rcases hn y hy with h1|h1
   ·simp[h1]
   ·exact .inr ⟨h1,(own_geP ho y hy).2⟩
  ·simp[hy]
 ·have hg':g∈blkOf vp:=by rw[blkOf_own h.op];simp[hg]
  have h1:=n4 g hg'
  simp only[List.mem_cons,not_or]
  exact⟨fun e=>h1 (by rw[e];simp[WkB.l]),n6 g hg'⟩
 ·have:=nodup_swap (A:=c.l++blkOf vp) (C:=blkOf vo) (D:=[]) (E:=blkOf v') (s:=w.heap.size) (by simpa[List.append_assoc] using h.nd) (blkOf_nodup v') hn (fun g hg=>by rcases List.mem_append.1 hg with hg|hg<;>exact hl g (by simp[hg])) (fun g hg=>by cases hg)
  simpa[List.append_assoc] using this
 ·rcases hn x hv with h1|h1
  ·exact(h.xx x hx).2.2 h1
  ·have:=hxl x hx;omega
end
end Go.Proofs.YtjgkegkinnlcoaaGreatDoor
namespace Go.Proofs.YtjgkegkinnlcoaaGreatDoor
open Go.RowKit Go.Maps Go.Joins
theorem own_lower {w:World} {B B' n s:Nat} {e:TypeId} {v:Value} {xs:List Value} (h:w.ownsRow B e s v n xs) (hB:B'≤B):w.ownsRow B' e s v n xs:=by
 refine⟨h.1, ?_⟩
 rcases h.2 with h0|⟨g,cap,cur,hv,hb,h⟩
 ·exact .inl h0
 ·exact .inr ⟨g,cap,cur,hv,Nat.le_trans hB hb,h⟩
end Go.Proofs.YtjgkegkinnlcoaaGreatDoor
namespace Go.Proofs.YtjgkegkinnlcoaaGreatDoor
open Go.RowKit Go.Maps Go.Joins
section
variable {w0 w w1 w':World} {p K J B b:Nat} {M M':PM} {X Y Z:List Nat} {kv vv cv:Value} {lk lv lc:List Int} {f:Nat→Value}
theorem InSt.goZ (h:InSt w0 w w1 p K M X b B kv vv cv lk lv lc f) (hp:PgX w0 w' p J M' (Z++(ndBk kv vv cv++(b::X)))) (hs:SameX (ndBk kv vv cv++(b::X)) w1 w') (hZ: ∀z∈Z,w1.heap.size≤z):InSt w0 w' w' p J M' (Z++X) b B kv vv cv lk lv lc f:=by
 have h2:=h.go (hp.sub (fun y hy=>by simp only[List.mem_append] at hy ⊢;exact .inr hy)) hs
 have hlt:=h.pg.lt
 refine⟨hp.sub (fun y hy=> ?_),h2.box,h2.ks,h2.vs,h2.cs,h2.nd,fun x hx=> ?_,h2.hb,h2.hB,SameX.refl _ _⟩
 ·simp only[List.mem_append,List.mem_cons] at hy ⊢
  rcases hy with hy|hy|hy|hy<;>simp[hy]
 ·rcases List.mem_append.1 hx with hx|hx
  ·have:=hZ x hx
   exact⟨fun hm=>by have:=hlt x (by simp[hm]);omega,fun e=>by have:=hlt b (by simp);omega⟩
  ·exact h.xx x hx
end
end Go.Proofs.YtjgkegkinnlcoaaGreatDoor
namespace Go.Proofs.YtjgkegkinnlcoaaGreatDoor
open Go.RowKit Go.Maps Go.Joins
theorem Tryz.infoRP:(Tryz.prog.info? 106).map (fun i=>(i.zero,i.size,i.bytes))=some (some (.agg #[.int .u64 0, .int .u64 0]),2,16):=by kernel_rfl
theorem take_one {l:List (Int × Int)} {j:Nat} {p:Int × Int} (h:l[j]? =some p):l.take (j+1)=l.take j++[p]:=by
 rw[List.take_add_one,h];rfl
structure PrRow (w wr:World) (v:Value) (l:List (Int × Int)):Prop where
 own:wr.ownsRow w.heap.size 106 2 v l.length (prF l)
 below:Below w.heap.size w wr
theorem PrRow.form {w wr:World} {v:Value} {l:List (Int × Int)} (h:PrRow w wr v l): ∃a c,v= .slice a l.length c:=(IsP.own h.own).form
theorem cell_two_new {w:World} {t:TypeId} {a b u:Value} {q:Nat} (h:[a,b][q]? =some u):(w.alloc (.cells #[a,b] t)).cell? ⟨w.heap.size,q,none⟩=some u:=by
 unfold World.cell?
 rw[heap_alloc_new]
 rcases q with _|_|q
 ·simpa using h
 ·simpa using h
 ·simp at h
end Go.Proofs.YtjgkegkinnlcoaaGreatDoor
namespace Go.Proofs.YtjgkegkinnlcoaaGreatDoor
open Go.RowKit
theorem owp_append_near {P:Program} {o:Oper} {a:Act} {w:World} {K:Act→World→Prop} {Q:Exit→Act→World→Prop}
  (hg:o.guard=none) (s x:Operand) (t:TypeId) (hop:o.op=Op.call { callee:=Callee.builtin Builtin.append,args:= #[s,x],argTypes:= #[t,t] })
  (base:Nat) (e:TypeId) (i:TypeInfo) (z:Value) (size bytes:Nat) (h1:P.underlying t=some (.slice e)) (h2:P.info? e=some i) (h3:i.zero=some z) (h4:i.size=size) (h5:i.bytes=bytes) (h6:z.cells.size=size) (h7:0<size)
  (v:Value) (n:Nat) (xs:List Value) (hs:a.eval s=v) (hown:w.ownsRow base e size v n xs)
  (ad:Addr) (m c:Nat) (news:List Value) (hx:a.eval x= .slice (some ad) m c) (hm:0<m) (hn:news.length=m*size) (hc: ∀j u,news[j]? =some u→w.cell? (ad.add j)=some u) (h1c: ∀u∈news,u.oneCell'=true)
  (b1:n+m≤maxLen) (b2:(n+m)*bytes≤140737488355328) (hbase:base≤w.heap.size)
  (hK: ∀g cap w',w'.ownsRow base e size (.slice (some ⟨g,0,none⟩) (n+m) cap) (n+m) (xs++news)→w.grownBy w' v.ownBlock→(v.ownBlock=some g∨w.heap.size≤g)→K (a.put o.dst (.slice (some ⟨g,0,none⟩) (n+m) cap)) w'):Owp P o a w K Q:=by
 have wide: ∀ {w':World} {row:Option Nat},w.grownBy w' none→w.grownBy w' row:=fun h=>⟨h.os,h.tape,h.output,h.size,fun b hb _=>h.block b hb (by simp)⟩
 have hw:Region.wanted o (yielded (#[]:Array Oper) a.tmps)=true:=by simp[Region.wanted,hg]
 have up: ∀ {E:Prop},(if Region.wanted o (yielded (#[]:Array Oper) a.tmps)=true then Oper.wp P o a w K Q else E)→Owp P o a w K Q:=fun h=>⟨by rw[if_pos hw] at h;exact h⟩
 rcases Go.Joins.ownsRow_forms hown with ⟨rfl,rfl⟩|⟨g,cap,rfl⟩
 ·have hx0:xs=[]:=List.eq_nil_of_length_eq_zero (by simpa using hown.1)
  subst hx0
  refine up (E:=True) (step_append_grows hg s x t hop e i z size bytes h1 h2 h3 h4 h5 h6 h7 none 0 0 [] hs (fun _=>⟨rfl,rfl⟩) (by simp) (fun b h=>by cases h) ad m c news hx hn hc h1c (by omega) b1 b2 ?_)
  intro v' w' ho hgr
  obtain⟨g',cap',rfl⟩:=Go.Joins.ownsRow_form ho (by omega)
  exact hK g' cap' w' (Go.Joins.ownsRow_le ho hbase) hgr (.inr (ho.lt g' rfl).1)
 ·by_cases hcap:n+m≤cap
  ·obtain⟨w',hrun,r1,r2⟩:=run_append_fits (P:=P) w base t o.type e i size h1 h2 h4 g n cap xs hown ad m c news hn hc h1c hcap
   exact⟨Lib.wp_append_run w s x t t hop _ _ hs hx _ _ hrun (hK g cap w' r1 r2 (.inl rfl))⟩
  ·refine up (E:=True) (step_append_grows hg s x t hop e i z size bytes h1 h2 h3 h4 h5 h6 h7 (some ⟨g,0,none⟩) n cap xs hs (fun h=>by cases h) hown.1 (fun b hb=>by cases hb;exact hown.cells rfl) ad m c news hx hn hc h1c (by omega) b1 b2 ?_)
   intro v' w' ho hgr
   obtain⟨g',cap',rfl⟩:=Go.Joins.ownsRow_form ho (by omega)
   exact hK g' cap' w' (Go.Joins.ownsRow_le ho hbase) (wide hgr) (.inr (ho.lt g' rfl).1)
end Go.Proofs.YtjgkegkinnlcoaaGreatDoor
