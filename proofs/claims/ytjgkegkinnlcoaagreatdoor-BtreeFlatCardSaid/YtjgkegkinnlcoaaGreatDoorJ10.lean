/- Lemmas on the way to the statement: BtTree, BtRead, BtRead2. -/
import Derived.Test.YtjgkegkinnlcoaaGreatDoorJ9
set_option linter.unusedSimpArgs false
set_option linter.unusedVariables false
namespace Go.Proofs.YtjgkegkinnlcoaaGreatDoor
open Go.RowKit
theorem cut_bd8 (s:ByteArray) (a:Nat):0≤leN (cut s a 8)∧leN (cut s a 8)≤18446744073709551615:=by
 by_cases h:a<s.size
 ·rw[cut_cons s a 7 h]
  have:=cut_leN s (a+1) 7 (by omega)
  have hb:=(s[a]).toNat_lt
  show 0≤((s[a]).toNat:Int)+256*leN (cut s (a+1) 7)∧((s[a]).toNat:Int)+256*leN (cut s (a+1) 7)≤_
  omega
 ·have:cut s a 8=[]:=by
   unfold cut
   rw[List.drop_eq_nil_of_le (by simpa using h)];rfl
  rw[this]
  exact⟨by decide,by decide⟩
abbrev KZ:=Int × List (Int × Int) × List Int
theorem ndRead_ok {M:PM} {no:Int} {n:ND} (h:ndRead M no=(0,n)):NdOk n:=by
 unfold ndRead at h
 generalize readP M no=x at h
 obtain⟨kind,r,e⟩:=x
 simp only at h
 split at h
 ·rename_i he;injection h with h1 h2;exact absurd h1 he
 ·split at h
  ·injection h with h1 h2;cases h1
  ·rename_i hc
   split at h
   ·rename_i hb
    injection h with h1 h2
    subst h2
    have hc:ndC kind r=true:=by simpa using hc
    unfold ndC at hc
    unfold ndOkB at hb
    simp only[Bool.and_eq_true,Bool.or_eq_true,decide_eq_true_eq,Bool.not_eq_true'] at hc hb
    obtain⟨⟨-,h0⟩,hr⟩:=hb
    obtain⟨c1,c2⟩:=hc
    have hkb: ∀(a b:Nat) (k:Int),k∈(List.range (leN (cut r 0 2)).toNat).map (fun i=>leN (cut r (a+b*i) 8))→0≤k∧k≤18446744073709551615:=fun a b k hk=>by
     rw[List.mem_map] at hk
     obtain⟨i, -,rfl⟩:=hk
     exact cut_bd8 _ _
    by_cases hk:kind=2
    ·have e:ndOf kind r=⟨true,(List.range (leN (cut r 0 2)).toNat).map (fun i=>leN (cut r (2+16*i) 8)),(List.range (leN (cut r 0 2)).toNat).map (fun i=>leN (cut r (10+16*i) 8)),[]⟩:=by unfold ndOf;rw[if_pos hk]
     rw[e] at hr ⊢
     have c30:leN (cut r 0 2)≤30:=by rcases c2 with c2|c2<;>omega
     exact⟨by simp;omega,hr,fun k hk=>hkb 2 16 k hk,fun _=>⟨rfl,by simp,by simp;omega,fun v hv=>hkb 10 16 v hv⟩,fun h=>by cases h⟩
    ·have e:ndOf kind r=⟨false,(List.range (leN (cut r 0 2)).toNat).map (fun i=>leN (cut r (6+12*i) 8)),[],leN (cut r 2 4)::(List.range (leN (cut r 0 2)).toNat).map (fun i=>leN (cut r (14+12*i) 4))⟩:=by unfold ndOf;rw[if_neg hk]
     rw[e] at hr h0 ⊢
     have c40:leN (cut r 0 2)≤40:=by rcases c2 with c2|c2<;>omega
     refine⟨by simp;omega,hr,fun k hk=>hkb 6 12 k hk,fun h=>by(cases h),fun _=>⟨rfl,by simp,by simp;omega,fun v hv=> ?_⟩⟩
     have hne:v≠0:=fun e=>by
      rw[List.contains_eq_mem,decide_eq_false_iff_not] at h0
      exact h0 (e▸hv)
     have: ∃a,v=leN (cut r a 4):=by
      rcases List.mem_cons.1 hv with rfl|hv
      ·exact⟨_,rfl⟩
      ·rw[List.mem_map] at hv
       obtain⟨i, -,rfl⟩:=hv
       exact⟨_,rfl⟩
     obtain⟨a,rfl⟩:=this
     have:=cut_bd4 r a
     omega
   ·injection h with h1 h2;cases h1
theorem NdOk.pw {n:ND} (h:NdOk n):n.keys.Pairwise (· < ·):=risL_iff.1 h.ris
def InB (lo hi:Option Int) (s:List (Int × Int)):Prop:= ∀p∈s,(∀l,lo=some l→l≤p.1)∧ ∀h,hi=some h→p.1<h
def Segs:Option Int→Option Int→List Int→List (List (Int × Int))→Prop
 |lo,hi,[],[s]=>InB lo hi s
 |lo,hi,k::ks,s::ss=>InB lo (some k) s∧Segs (some k) hi ks ss
 |_,_,_,_=>False
theorem Segs.length: ∀ {ks:List Int} {lo hi:Option Int} {ss:List (List (Int × Int))},Segs lo hi ks ss→ss.length=ks.length+1
 | [],_,_,[s],_=>rfl
 | [],_,_,[],h=>h.elim
 | [],_,_,_::_::_,h=>h.elim
 |k::ks,_,_,[],h=>h.elim
 |k::ks,_,_,s::ss,h=>by rw[List.length_cons,List.length_cons,Segs.length h.2]
theorem Segs.low: ∀ {ks:List Int} {l:Int} {hi:Option Int} {ss:List (List (Int × Int))},Segs (some l) hi ks ss→(∀k∈ks,l≤k)→ks.Pairwise (· < ·)→ ∀s∈ss, ∀p∈s,l≤p.1
 | [],l,_,[s],h,_,_,t,ht,p,hp=>by simp at ht;subst ht;exact(h p hp).1 l rfl
 | [],_,_,[],h,_,_,_,_,_,_=>h.elim
 | [],_,_,_::_::_,h,_,_,_,_,_,_=>h.elim
 |k::ks,_,_,[],h,_,_,_,_,_,_=>h.elim
 |k::ks,l,hi,s::ss,h,hk,hp,t,ht,p,hpt=>by
  rcases List.mem_cons.1 ht with rfl|ht
  ·exact(h.1 p hpt).1 l rfl
  ·obtain⟨p1,p2⟩:=List.pairwise_cons.1 hp
   have:=Segs.low h.2 (fun x hx=>Int.le_of_lt (p1 x hx)) p2 t ht p hpt
   have:=hk k (by simp)
   omega
theorem Segs.high: ∀ {ks:List Int} {u:Int} {lo:Option Int} {ss:List (List (Int × Int))},Segs lo (some u) ks ss→(∀k∈ks,k≤u)→ ∀s∈ss, ∀p∈s,p.1<u
 | [],u,_,[s],h,_,t,ht,p,hp=>by simp at ht;subst ht;exact(h p hp).2 u rfl
 | [],_,_,[],h,_,_,_,_,_=>h.elim
 | [],_,_,_::_::_,h,_,_,_,_,_=>h.elim
 |k::ks,_,_,[],h,_,_,_,_,_=>h.elim
 |k::ks,u,lo,s::ss,h,hk,t,ht,p,hpt=>by
  rcases List.mem_cons.1 ht with rfl|ht
  ·have:=(h.1 p hpt).2 k rfl
   have:=hk k (by simp)
   omega
  ·exact Segs.high h.2 (fun x hx=>hk x (by simp[hx])) t ht p hpt
theorem Segs.mid {key:Int}: ∀ {KA KB:List Int} {lo hi:Option Int} {SA SB:List (List (Int × Int))} {s:List (Int × Int)},Segs lo hi (KA++KB) (SA++s::SB)→SA.length=KA.length→(KA++KB).Pairwise (· < ·)→(∀a∈KA,a≤key)→(∀b∈KB,key<b)→
  (∀t∈SA, ∀p∈t,p.1<key)∧ ∀t∈SB, ∀p∈t,key<p.1
 | [],KB,lo,hi,SA,SB,s,h,hl,hp,ha,hb=>by
  have:SA=[]:=List.eq_nil_of_length_eq_zero hl
  subst this
  refine⟨by simp,fun t ht p hpt=> ?_⟩
  cases KB with
  |nil=>
   have:=h.length
   simp at this
   subst this
   cases ht
  |cons b KB=>
   obtain⟨p1,p2⟩:=List.pairwise_cons.1 hp
   have:=Segs.low h.2 (fun x hx=>Int.le_of_lt (p1 x hx)) p2 t ht p hpt
   have:=hb b (by simp)
   omega
 |a::KA,KB,lo,hi,SA,SB,s,h,hl,hp,ha,hb=>by
  cases SA with
  |nil=>simp at hl
  |cons t0 SA=>
   obtain⟨h1,h2⟩:=h
   obtain⟨g1,g2⟩:=Segs.mid h2 (by simpa using hl) (List.pairwise_cons.1 hp).2 (fun x hx=>ha x (by simp[hx])) hb
   refine⟨fun t ht p hpt=> ?_,g2⟩
   rcases List.mem_cons.1 ht with rfl|ht
   ·have:=(h1 p hpt).2 a rfl
    have:=ha a (by simp)
    omega
   ·exact g1 t ht p hpt
def TrAt (M:PM):Nat→Int→List (Int × Int)→List Int→Prop
 |0,no,seg,pgs=> ∃n,ndRead M no=(0,n)∧n.leaf=true∧seg=n.keys.zip n.vals∧pgs=[no]
 |h+1,no,seg,pgs=> ∃n, ∃kz:List KZ,ndRead M no=(0,n)∧n.leaf=false∧n.kids=kz.map (·.1)∧(∀z∈kz,TrAt M h z.1 z.2.1 z.2.2∧thinN (ndRead M z.1).2=false)∧
   seg=(kz.map (·.2.1)).flatten∧pgs=no::(kz.map (·.2.2)).flatten∧Segs none none n.keys (kz.map (·.2.1))
theorem TrAt.head {M:PM} {h:Nat} {no:Int} {seg:List (Int × Int)} {pgs:List Int} (t:TrAt M h no seg pgs): ∃n,ndRead M no=(0,n)∧NdOk n∧(n.leaf=true↔h=0)∧ ∃rest,pgs=no::rest:=by
 cases h with
 |zero=>
  obtain⟨n,h1,h2, -,rfl⟩:=t
  exact⟨n,h1,ndRead_ok h1,by simp[h2],[],rfl⟩
 |succ h=>
  obtain⟨n,kz,h1,h2, -, -, -,rfl, -⟩:=t
  exact⟨n,h1,ndRead_ok h1,by simp[h2],_,rfl⟩
theorem TrAt.congr {M M':PM}: ∀ {h:Nat} {no:Int} {seg:List (Int × Int)} {pgs:List Int},TrAt M h no seg pgs→(∀q∈pgs,ndRead M' q=ndRead M q)→TrAt M' h no seg pgs
 |0,no,seg,pgs,⟨n,h1,h2,h3,h4⟩,e=>⟨n,by rw[e no (by rw[h4];simp)];exact h1,h2,h3,h4⟩
 |h+1,no,seg,pgs,⟨n,kz,h1,h2,h3,h4,h5,h6,h7⟩,e=>by
  refine⟨n,kz,by rw[e no (by rw[h6];simp)];exact h1,h2,h3,fun z hz=> ?_,h5,h6,h7⟩
  obtain⟨a,b⟩:=h4 z hz
  have hsub: ∀q∈z.2.2,q∈pgs:=fun q hq=>by
   rw[h6]
   exact List.mem_cons_of_mem _ (List.mem_flatten.2 ⟨_,List.mem_map.2 ⟨z,hz,rfl⟩,hq⟩)
  refine⟨TrAt.congr a (fun q hq=>e q (hsub q hq)), ?_⟩
  obtain⟨_,_,_,_,rest,hr⟩:=a.head
  rw[e z.1 (hsub _ (by rw[hr];simp))]
  exact b
def findP (key:Int) (l:List (Int × Int)):Int × Int:=match l.find? (fun p=>p.1==key) with|some p=>(p.2,0)|none=>(0,6)
theorem findP_app {key:Int} {A B s:List (Int × Int)} (ha: ∀p∈A,p.1≠key) (hb: ∀p∈B,p.1≠key):findP key (A++(s++B))=findP key s:=by
 unfold findP
 have e1:A.find? (fun p=>p.1==key)=none:=List.find?_eq_none.2 (fun p hp=>by simpa using ha p hp)
 have e2:B.find? (fun p=>p.1==key)=none:=List.find?_eq_none.2 (fun p hp=>by simpa using hb p hp)
 rw[List.find?_append,e1,List.find?_append,e2]
 simp
theorem TrAt.split {M:PM} {h:Nat} {no:Int} {seg:List (Int × Int)} {pgs:List Int} (key:Int) (t:TrAt M (h+1) no seg pgs):
  ∃(n:ND) (KA KB:List Int) (ZA:List KZ) (z:KZ) (ZB:List KZ),ndRead M no=(0,n)∧NdOk n∧n.leaf=false∧n.keys=KA++KB∧n.kids=ZA.map (·.1)++z.1::ZB.map (·.1)∧ZA.length=KA.length∧ZB.length=KB.length∧KA.length=placeN n key∧n.kids.getD (placeN n key) 0=z.1∧
   (∀a∈KA,a≤key)∧(∀b∈KB,key<b)∧
   (∀y:KZ,y∈ZA∨y=z∨y∈ZB→TrAt M h y.1 y.2.1 y.2.2∧thinN (ndRead M y.1).2=false)∧
   seg=(ZA.map (·.2.1)).flatten++(z.2.1++(ZB.map (·.2.1)).flatten)∧pgs=no::((ZA.map (·.2.2)).flatten++(z.2.2++(ZB.map (·.2.2)).flatten))∧
   Segs none none (KA++KB) (ZA.map (·.2.1)++z.2.1::ZB.map (·.2.1))∧(∀p∈(ZA.map (·.2.1)).flatten,p.1<key)∧(∀p∈(ZB.map (·.2.1)).flatten,key<p.1):=by
 obtain⟨n,kz,h1,h2,h3,h4,h5,h6,h7⟩:=t
 have hok:=ndRead_ok h1
 obtain⟨KA,KB,e1,e2,a,b⟩:=ris_place (key:=key) hok.pw
 have hlen:kz.length=n.keys.length+1:=by
  have:=(hok.forks h2).2.1
  rw[h3] at this
  simpa using this
 obtain⟨ZA,ZC,e3,e4,e5⟩:=part_as (l:=kz) (A:=KA) (B:=key::KB) (by rw[hlen,e1];simp;omega)
 cases ZC with
 |nil=>simp at e5
 |cons z ZB=>
  have e5:ZB.length=KB.length:=by simpa using e5
  subst e3
  rw[e1] at h7
  have hseg:(List.map (fun x=>x.2.1) (ZA++z::ZB))=ZA.map (·.2.1)++z.2.1::ZB.map (·.2.1):=by simp
  rw[hseg] at h7
  obtain⟨g1,g2⟩:=Segs.mid h7 (by simpa using e4) (by rw[←e1];exact hok.pw) a b
  refine⟨n,KA,KB,ZA,z,ZB,h1,hok,h2,e1,by rw[h3];simp,e4,e5,e2, ?_,a,b,fun y hy=>h4 y ?_,by rw[h5];simp,by rw[h6];simp,h7,fun p hp=> ?_,fun p hp=> ?_⟩
  ·rw[h3,List.map_append,List.map_cons]
   exact getD_app (by simp[e4,e2])
  ·rcases hy with hy|rfl|hy
   ·simp[hy]
   ·simp
   ·simp[hy]
  ·obtain⟨t,ht,hp⟩:=List.mem_flatten.1 hp
   exact g1 t ht p hp
  ·obtain⟨t,ht,hp⟩:=List.mem_flatten.1 hp
   exact g2 t ht p hp
theorem TrAt.ne {M:PM} {h:Nat} {no:Int} {seg:List (Int × Int)} {pgs:List Int} (t:TrAt M (h+1) no seg pgs): ∀n,ndRead M no=(0,n)→ ∀k∈n.kids,k≠0:=fun n e k hk=>by
 have hok:=ndRead_ok e
 obtain⟨n',e',_,hl,_⟩:=t.head
 rw[e'] at e
 injection e with _ e
 subst e
 have hf:n'.leaf=false:=by
  cases hh:n'.leaf
  ·rfl
  ·have:=hl.1 hh;omega
 have:=(hok.forks hf).2.2.2 k hk
 omega
theorem TrAt.get {M:PM} {key:Int}: ∀ {h:Nat} {no:Int} {seg:List (Int × Int)} {pgs:List Int} {f:Nat},TrAt M h no seg pgs→h<f→no≠0→bgetL M key f no=findP key seg
 |0,no,seg,pgs,0,_,hf,_=>by omega
 |h+1,no,seg,pgs,0,_,hf,_=>by omega
 |0,no,seg,pgs,f+1,⟨n,h1,h2,h3,_⟩,hf,hn=>by
  have hok:=ndRead_ok h1
  have hvl:=(hok.leafs h2).2.1
  unfold bgetL
  rw[if_neg hn,h1]
  simp only
  rw[if_neg (by simp),if_pos h2,h3]
  cases hh:hasL n.keys key
  ·rw[if_neg (by decide)]
   unfold findP
   rw[List.find?_eq_none.2]
   intro p hp
   have:p.1≠key:=fun e=>by
    unfold hasL at hh
    rw[List.contains_eq_mem,decide_eq_false_iff_not] at hh
    exact hh (e▸zip_mem hp)
   simpa using this
  ·rw[if_pos rfl]
   obtain⟨A,B,e1,e2,a,b⟩:=ris_has hok.pw hh
   obtain⟨C,D,e3,e4,e5⟩:=part_as (l:=n.vals) (A:=A) (B:=key::B) (by rw[hvl,e1])
   cases D with
   |nil=>simp at e5
   |cons v D=>
    rw[e1,e3,List.zip_append e4.symm,List.zip_cons_cons, ←e1, ←e2,getD_app e4]
    have:=findP_app (key:=key) (A:=A.zip C) (B:=B.zip D) (s:=[(key,v)]) (fun p hp=>by have:=a _ (zip_mem hp);omega) (fun p hp=>by have:=b _ (zip_mem hp);omega)
    rw[show A.zip C++(key,v)::B.zip D=A.zip C++([(key,v)]++B.zip D) from rfl,this]
    unfold findP
    simp
 |h+1,no,seg,pgs,f+1,t,hf,hn=>by
  obtain⟨n,KA,KB,ZA,z,ZB,h1,hok,h2,e1,e2,e3,e4,e5,e6,a,b,hz,e7,e8,hs,g1,g2⟩:=t.split key
  have hne:=t.ne n h1 z.1 (by rw[e2];simp)
  unfold bgetL
  rw[if_neg hn,h1]
  simp only
  rw[if_neg (by simp),h2,if_neg (by decide),e6,TrAt.get (hz z (.inr (.inl rfl))).1 (by omega) hne,e7,findP_app]
  ·intro p hp;have:=g1 p hp;omega
  ·intro p hp;have:=g2 p hp;omega
end Go.Proofs.YtjgkegkinnlcoaaGreatDoor
namespace Go.Proofs.YtjgkegkinnlcoaaGreatDoor
open Go.RowKit Go.Maps Go.Joins
structure RdN (w1 wr:World) (g b:Nat) (r:ByteArray) (kv vv cv:Value) (n:ND):Prop where
 room:wr.rowIs g 9 1 (fun _=> .string r)
 box:wr.rowIs b 109 4 (ndF kv vv cv n)
 own:NdO wr (b+1) kv vv cv n
 below:Below w1.heap.size w1 wr
 gb:w1.heap.size≤g∧g<b
section
variable {w1 wr w5:World} {g b:Nat} {r:ByteArray} {kv vv cv:Value} {n:ND} {x:Int} {g' cap:Nat}
theorem RdN.later (h:RdN w1 wr g b r kv vv cv n) (hb:Below wr.heap.size wr w5):RdN w1 w5 g b r kv vv cv n:=
 ⟨rowIs_touch h.room (F:=[]) (Touch.of_below hb) (by simp),rowIs_touch h.box (F:=[]) (Touch.of_below hb) (by simp),h.own.below hb,below_step hb h.below,h.gb⟩
theorem RdN.cells (h:RdN w1 wr g b r kv vv cv n):wr.cell? ⟨b,0,none⟩=some (.bool n.leaf)∧wr.cell? ⟨b,1,none⟩=some kv∧wr.cell? ⟨b,2,none⟩=some vv∧wr.cell? ⟨b,3,none⟩=some cv∧wr.cell? ⟨g,0,none⟩=some (.string r)∧(∀i,wr.frozen? ⟨b,i,none⟩=false):=
 ⟨World.rowIs.cell h.box (i:=0) (by decide),World.rowIs.cell h.box (i:=1) (by decide),World.rowIs.cell h.box (i:=2) (by decide),World.rowIs.cell h.box (i:=3) (by decide),World.rowIs.cell h.room (i:=0) (by decide),fun i=>World.rowIs.frozen h.box i⟩
theorem ownBlock_of {v:Value} {B:Nat} {w:World} {e:TypeId} {m:Nat} {xs:List Value} (h:w.ownsRow B e 1 v m xs):blkOf v=v.ownBlock.toList:=by
 rcases ownsRow_forms h with ⟨rfl,h0⟩|⟨g,c,rfl⟩
 ·rfl
 ·rfl
theorem nodup_mid {A B C:List Nat} {y:Nat} (hn:(A++(B++C)).Nodup) (hy:y∈B∨y∉A++(B++C)):(A++([y]++C)).Nodup:=by
 obtain⟨h1,h2,h3⟩:=List.nodup_append.1 hn
 obtain⟨h4,h5,h6⟩:=List.nodup_append.1 h2
 have hyA:y∉A:=fun hm=>by
  rcases hy with hy|hy
  ·exact h3 y hm y (by simp[hy]) rfl
  ·exact hy (by simp[hm])
 have hyC:y∉C:=fun hm=>by
  rcases hy with hy|hy
  ·exact h6 y hy y hm rfl
  ·exact hy (by simp[hm])
 rw[List.singleton_append]
 refine List.nodup_append.2 ⟨h1,List.nodup_cons.2 ⟨hyC,h5⟩,fun a ha b hb=> ?_⟩
 rcases List.mem_cons.1 hb with rfl|hb
 ·exact fun e=>hyA (e▸ha)
 ·exact h3 a ha b (by simp[hb])
theorem RdN.addKey (h:RdN w1 wr g b r kv vv cv n) {W:World} (hW:Below wr.heap.size wr W) (hown:w5.ownsRow (b+1) 28 1 (.slice (some ⟨g',0,none⟩) (n.keys.length+1) cap) (n.keys.length+1) (n.keys.map (Value.int .u64)++[.int .u64 x]))
  (hgr:W.grownBy w5 kv.ownBlock) (hat:kv.ownBlock=some g'∨W.heap.size≤g'):
  RdN w1 (w5.setCell ⟨b,1,none⟩ (.slice (some ⟨g',0,none⟩) (n.keys.length+1) cap)) g b r (.slice (some ⟨g',0,none⟩) (n.keys.length+1) cap) vv cv { n with keys:=n.keys++[x] }:=by
 have hb:=ownBlock_of h.own.ks
 have hlt:=fun y hy=>h.own.ge y hy
 have hbl:=World.rowIs.lt h.box
 have hsz:=hW.size
 have hn:=h.own.nd
 unfold ndBk at hn
 have t1:Touch (blkOf kv) wr w5:=by
  rw[hb]
  exact(Touch.of_below (F:=kv.ownBlock.toList) hW).trans (Touch.of_grown hgr) (fun y hy=> .inl hy)
 have hbF:b∉blkOf kv:=fun hm=>by have:=(hlt b (by simp[ndBk,hm])).1;omega
 have hgF:g∉blkOf kv:=fun hm=>by have:=(hlt g (by simp[ndBk,hm])).1;have:=h.gb;omega
 have hg1:g'∈blkOf kv∨wr.heap.size≤g':=by
  rcases hat with h1|h1
  ·exact .inl (by rw[hb,h1];simp)
  ·exact .inr (by omega)
 have hg2:b+1≤g':=by
  rcases hg1 with h1|h1
  ·exact(hlt g' (by simp[ndBk,h1])).1
  ·omega
 have t2:Touch [b] w5 (w5.setCell ⟨b,1,none⟩ (.slice (some ⟨g',0,none⟩) (n.keys.length+1) cap)):=(Touch.refl _ _).setCell (.inl (by simp)) _
 have hll:(n.keys++[x]).length=n.keys.length+1:=by simp
 have o1:(w5.setCell ⟨b,1,none⟩ (.slice (some ⟨g',0,none⟩) (n.keys.length+1) cap)).ownsRow (b+1) 28 1 (.slice (some ⟨g',0,none⟩) (n.keys.length+1) cap) (n.keys++[x]).length ((n.keys++[x]).map (Value.int .u64)):=by
  rw[hll,List.map_append]
  exact ownsRow_touch hown t2 (fun y hy=>by simp[Value.ownBlock] at hy;simp;omega)
 have off: ∀ {v:Value} {e:TypeId} {m:Nat} {xs:List Value},wr.ownsRow (b+1) e 1 v m xs→(∀y∈blkOf v,y∉blkOf kv)→(w5.setCell ⟨b,1,none⟩ (.slice (some ⟨g',0,none⟩) (n.keys.length+1) cap)).ownsRow (b+1) e 1 v m xs:=fun {v e m xs} hv hf=>
  ownsRow_touch (ownsRow_touch hv t1 (fun y hy=>hf y (by rw[ownBlock_of hv,hy];simp))) t2 (fun y hy=>by have:=(hv.lt y hy).1;simp;omega)
 obtain⟨n1,n2,n3⟩:=List.nodup_append.1 hn
 obtain⟨n4,n5,n6⟩:=List.nodup_append.1 n2
 have hdis_vs: ∀y∈blkOf vv,y∉blkOf kv:=fun y hy hm=>n3 y hm y (by simp[hy]) rfl
 have hdis_cs: ∀y∈blkOf cv,y∉blkOf kv:=fun y hy hm=>n3 y hm y (by simp[hy]) rfl
 have hnd:(ndBk (.slice (some ⟨g',0,none⟩) (n.keys.length+1) cap) vv cv).Nodup:=by
  have h1:=nodup_mid (A:=[]) (B:=blkOf kv) (C:=blkOf vv++blkOf cv) (y:=g') (by simpa using hn) (by
   rcases hg1 with h1|h1
   ·exact .inl h1
   ·refine .inr (fun hm=> ?_)
    have:=(hlt g' (by simp only[ndBk,List.mem_append,List.nil_append,List.append_nil,List.not_mem_nil,false_or,or_false,or_assoc] at hm ⊢;exact hm)).2
    omega)
  simpa[ndBk,blkOf] using h1
 refine⟨rowIs_touch (rowIs_touch h.room t1 hgF) t2 (by have:=h.gb;simp;omega), ?_,⟨o1,off h.own.vs (fun y hy hm=>hdis_vs y hy hm),off h.own.cs (fun y hy hm=>hdis_cs y hy hm),hnd⟩,(h.below.trans (t1.below h.below.size (fun y hy=>by have:=(hlt y (by simp[ndBk,hy])).1;have:=h.gb;omega))).trans (t2.below (Nat.le_trans h.below.size t1.size) (fun y hy=>by simp at hy;have:=h.gb;omega)),h.gb⟩
 refine World.rowIs.congr ((rowIs_touch h.box t1 hbF).set 1 _) (fun j hj=> ?_)
 rcases j with _|_|_|_|j<;>first|rfl|(exfalso;omega)
theorem RdN.addVal (h:RdN w1 wr g b r kv vv cv n) {W:World} (hW:Below wr.heap.size wr W) (hown:w5.ownsRow (b+1) 28 1 (.slice (some ⟨g',0,none⟩) (n.vals.length+1) cap) (n.vals.length+1) (n.vals.map (Value.int .u64)++[.int .u64 x]))
  (hgr:W.grownBy w5 vv.ownBlock) (hat:vv.ownBlock=some g'∨W.heap.size≤g'):
  RdN w1 (w5.setCell ⟨b,2,none⟩ (.slice (some ⟨g',0,none⟩) (n.vals.length+1) cap)) g b r kv (.slice (some ⟨g',0,none⟩) (n.vals.length+1) cap) cv { n with vals:=n.vals++[x] }:=by
 have hb:=ownBlock_of h.own.vs
 have hlt:=fun y hy=>h.own.ge y hy
 have hbl:=World.rowIs.lt h.box
 have hsz:=hW.size
 have hn:=h.own.nd
 unfold ndBk at hn
 have t1:Touch (blkOf vv) wr w5:=by
  rw[hb]
  exact(Touch.of_below (F:=vv.ownBlock.toList) hW).trans (Touch.of_grown hgr) (fun y hy=> .inl hy)
 have hbF:b∉blkOf vv:=fun hm=>by have:=(hlt b (by simp[ndBk,hm])).1;omega
 have hgF:g∉blkOf vv:=fun hm=>by have:=(hlt g (by simp[ndBk,hm])).1;have:=h.gb;omega
 have hg1:g'∈blkOf vv∨wr.heap.size≤g':=by
  rcases hat with h1|h1
  ·exact .inl (by rw[hb,h1];simp)
  ·exact .inr (by omega)
 have hg2:b+1≤g':=by
  rcases hg1 with h1|h1
  ·exact(hlt g' (by simp[ndBk,h1])).1
  ·omega
 have t2:Touch [b] w5 (w5.setCell ⟨b,2,none⟩ (.slice (some ⟨g',0,none⟩) (n.vals.length+1) cap)):=(Touch.refl _ _).setCell (.inl (by simp)) _
 have hll:(n.vals++[x]).length=n.vals.length+1:=by simp
 have o1:(w5.setCell ⟨b,2,none⟩ (.slice (some ⟨g',0,none⟩) (n.vals.length+1) cap)).ownsRow (b+1) 28 1 (.slice (some ⟨g',0,none⟩) (n.vals.length+1) cap) (n.vals++[x]).length ((n.vals++[x]).map (Value.int .u64)):=by
  rw[hll,List.map_append]
  exact ownsRow_touch hown t2 (fun y hy=>by simp[Value.ownBlock] at hy;simp;omega)
 have off: ∀ {v:Value} {e:TypeId} {m:Nat} {xs:List Value},wr.ownsRow (b+1) e 1 v m xs→(∀y∈blkOf v,y∉blkOf vv)→(w5.setCell ⟨b,2,none⟩ (.slice (some ⟨g',0,none⟩) (n.vals.length+1) cap)).ownsRow (b+1) e 1 v m xs:=fun {v e m xs} hv hf=>
  ownsRow_touch (ownsRow_touch hv t1 (fun y hy=>hf y (by rw[ownBlock_of hv,hy];simp))) t2 (fun y hy=>by have:=(hv.lt y hy).1;simp;omega)
 obtain⟨n1,n2,n3⟩:=List.nodup_append.1 hn
 obtain⟨n4,n5,n6⟩:=List.nodup_append.1 n2
 have hdis_ks: ∀y∈blkOf kv,y∉blkOf vv:=fun y hy hm=>n3 y hy y (by simp[hm]) rfl
 have hdis_cs: ∀y∈blkOf cv,y∉blkOf vv:=fun y hy hm=>n6 y hm y hy rfl
 have hnd:(ndBk kv (.slice (some ⟨g',0,none⟩) (n.vals.length+1) cap) cv).Nodup:=by
  have h1:=nodup_mid (A:=blkOf kv) (B:=blkOf vv) (C:=blkOf cv) (y:=g') (by simpa using hn) (by
   rcases hg1 with h1|h1
   ·exact .inl h1
   ·refine .inr (fun hm=> ?_)
    have:=(hlt g' (by simp only[ndBk,List.mem_append,List.nil_append,List.append_nil,List.not_mem_nil,false_or,or_false,or_assoc] at hm ⊢;exact hm)).2
    omega)
  simpa[ndBk,blkOf] using h1
 refine⟨rowIs_touch (rowIs_touch h.room t1 hgF) t2 (by have:=h.gb;simp;omega), ?_,⟨off h.own.ks (fun y hy hm=>hdis_ks y hy hm),o1,off h.own.cs (fun y hy hm=>hdis_cs y hy hm),hnd⟩,(h.below.trans (t1.below h.below.size (fun y hy=>by have:=(hlt y (by simp[ndBk,hy])).1;have:=h.gb;omega))).trans (t2.below (Nat.le_trans h.below.size t1.size) (fun y hy=>by simp at hy;have:=h.gb;omega)),h.gb⟩
 refine World.rowIs.congr ((rowIs_touch h.box t1 hbF).set 2 _) (fun j hj=> ?_)
 rcases j with _|_|_|_|j<;>first|rfl|(exfalso;omega)
theorem RdN.addKid (h:RdN w1 wr g b r kv vv cv n) {W:World} (hW:Below wr.heap.size wr W) (hown:w5.ownsRow (b+1) 3 1 (.slice (some ⟨g',0,none⟩) (n.kids.length+1) cap) (n.kids.length+1) (n.kids.map (Value.int .i64)++[.int .i64 x]))
  (hgr:W.grownBy w5 cv.ownBlock) (hat:cv.ownBlock=some g'∨W.heap.size≤g'):
  RdN w1 (w5.setCell ⟨b,3,none⟩ (.slice (some ⟨g',0,none⟩) (n.kids.length+1) cap)) g b r kv vv (.slice (some ⟨g',0,none⟩) (n.kids.length+1) cap) { n with kids:=n.kids++[x] }:=by
 have hb:=ownBlock_of h.own.cs
 have hlt:=fun y hy=>h.own.ge y hy
 have hbl:=World.rowIs.lt h.box
 have hsz:=hW.size
 have hn:=h.own.nd
 unfold ndBk at hn
 have t1:Touch (blkOf cv) wr w5:=by
  rw[hb]
  exact(Touch.of_below (F:=cv.ownBlock.toList) hW).trans (Touch.of_grown hgr) (fun y hy=> .inl hy)
 have hbF:b∉blkOf cv:=fun hm=>by have:=(hlt b (by simp[ndBk,hm])).1;omega
 have hgF:g∉blkOf cv:=fun hm=>by have:=(hlt g (by simp[ndBk,hm])).1;have:=h.gb;omega
 have hg1:g'∈blkOf cv∨wr.heap.size≤g':=by
  rcases hat with h1|h1
  ·exact .inl (by rw[hb,h1];simp)
  ·exact .inr (by omega)
 have hg2:b+1≤g':=by
  rcases hg1 with h1|h1
  ·exact(hlt g' (by simp[ndBk,h1])).1
  ·omega
 have t2:Touch [b] w5 (w5.setCell ⟨b,3,none⟩ (.slice (some ⟨g',0,none⟩) (n.kids.length+1) cap)):=(Touch.refl _ _).setCell (.inl (by simp)) _
 have hll:(n.kids++[x]).length=n.kids.length+1:=by simp
 have o1:(w5.setCell ⟨b,3,none⟩ (.slice (some ⟨g',0,none⟩) (n.kids.length+1) cap)).ownsRow (b+1) 3 1 (.slice (some ⟨g',0,none⟩) (n.kids.length+1) cap) (n.kids++[x]).length ((n.kids++[x]).map (Value.int .i64)):=by
  rw[hll,List.map_append]
  exact ownsRow_touch hown t2 (fun y hy=>by simp[Value.ownBlock] at hy;simp;omega)
 have off: ∀ {v:Value} {e:TypeId} {m:Nat} {xs:List Value},wr.ownsRow (b+1) e 1 v m xs→(∀y∈blkOf v,y∉blkOf cv)→(w5.setCell ⟨b,3,none⟩ (.slice (some ⟨g',0,none⟩) (n.kids.length+1) cap)).ownsRow (b+1) e 1 v m xs:=fun {v e m xs} hv hf=>
  ownsRow_touch (ownsRow_touch hv t1 (fun y hy=>hf y (by rw[ownBlock_of hv,hy];simp))) t2 (fun y hy=>by have:=(hv.lt y hy).1;simp;omega)
 obtain⟨n1,n2,n3⟩:=List.nodup_append.1 hn
 obtain⟨n4,n5,n6⟩:=List.nodup_append.1 n2
 have hdis_ks: ∀y∈blkOf kv,y∉blkOf cv:=fun y hy hm=>n3 y hy y (by simp[hm]) rfl
 have hdis_vs: ∀y∈blkOf vv,y∉blkOf cv:=fun y hy hm=>n6 y hy y hm rfl
 have hnd:(ndBk kv vv (.slice (some ⟨g',0,none⟩) (n.kids.length+1) cap)).Nodup:=by
  have h1:=nodup_mid (A:=blkOf kv++blkOf vv) (B:=blkOf cv) (C:=[]) (y:=g') (by simpa using hn) (by
   rcases hg1 with h1|h1
   ·exact .inl h1
   ·refine .inr (fun hm=> ?_)
    have:=(hlt g' (by simp only[ndBk,List.mem_append,List.nil_append,List.append_nil,List.not_mem_nil,false_or,or_false,or_assoc] at hm ⊢;exact hm)).2
    omega)
  simpa[ndBk,blkOf] using h1
 refine⟨rowIs_touch (rowIs_touch h.room t1 hgF) t2 (by have:=h.gb;simp;omega), ?_,⟨off h.own.ks (fun y hy hm=>hdis_ks y hy hm),off h.own.vs (fun y hy hm=>hdis_vs y hy hm),o1,hnd⟩,(h.below.trans (t1.below h.below.size (fun y hy=>by have:=(hlt y (by simp[ndBk,hy])).1;have:=h.gb;omega))).trans (t2.below (Nat.le_trans h.below.size t1.size) (fun y hy=>by simp at hy;have:=h.gb;omega)),h.gb⟩
 refine World.rowIs.congr ((rowIs_touch h.box t1 hbF).set 3 _) (fun j hj=> ?_)
 rcases j with _|_|_|_|j<;>first|rfl|(exfalso;omega)
end
end Go.Proofs.YtjgkegkinnlcoaaGreatDoor
namespace Go.Proofs.YtjgkegkinnlcoaaGreatDoor
open Go.RowKit Go.Maps Go.Joins
section
variable {w0 w w1 wr wf:World} {p K R B:Nat} {M:PM} {X:List Nat} {kv vv cv:Value} {n:ND} {o:Obj}
theorem rd_fin (h1:PgX w0 w1 p K M (w.heap.size::X)) (hs:SameX (w.heap.size::X) (w.alloc o) w1) (hX: ∀x∈X,x<w.heap.size) (hw:w0.heap.size≤w.heap.size) (hb:Below w1.heap.size w1 wr) (ho:NdO wr B kv vv cv n) (hB:w1.heap.size≤B) (t:Touch [w.heap.size] wr wf):
  NdO wf w.heap.size kv vv cv n∧PgX w0 wf p K M (ndBk kv vv cv++X)∧SameX X w wf:=by
 have hsz:w.heap.size+1≤w1.heap.size:=by have:=hs.size;simpa using this
 have hge:=ho.ge
 have h2:=(h1.move (Y:=w.heap.size::(ndBk kv vv cv++X)) hb (fun y hy=>by
  simp only[List.mem_cons,List.mem_append] at hy ⊢
  rcases hy with rfl|hy|hy
  ·exact .inl (.inl rfl)
  ·have:=hge y hy;exact .inr ⟨by omega,this.2⟩
  ·exact .inl (.inr hy))).touch t (fun x hx=>by simp at hx;subst hx;exact⟨by simp,hw⟩)
 refine⟨?_,h2.sub (fun y hy=>by simp at hy ⊢;exact .inr hy), ?_⟩
 ·have h3:=ho.touch t (fun y hy=>by have:=hge y hy;simp;omega)
  exact⟨ownsRow_le h3.ks (by omega),ownsRow_le h3.vs (by omega),ownsRow_le h3.cs (by omega),h3.nd⟩
 ·refine⟨by have:=hb.size;have:=t.size;omega,fun x hx=> ?_⟩
  have hlt:=hX x hx
  rw[t.block (by have:=hb.size;omega) (by simp;omega),hb.block x (by omega),hs.blk x (by simp[hx])]
  exact Below.heap_alloc w o x hlt
end
theorem Tryz.sizeNode:(Tryz.prog.info? 109).map (·.size)=some 4:=by kernel_rfl
theorem wpList_store_node {ops:Array Oper} {rest:List Oper} {o:Oper} {a:Act} {w:World} {Q:Exit→Act→World→Prop} (hgd:o.guard=none) (x y:Operand) (ho:o.op= .store 109 x y)
  (g:Nat) (b:Bool) (kv vv cv:Value) (n:ND) (hb:n.leaf=b) (hx:a.eval x= .pointer (some ⟨g,0,none⟩)) (hy:a.eval y= .agg #[.bool b,kv,vv,cv]) {f:Nat→Value} (hr:w.rowIs g 109 4 f) (h1:(#[.bool b,kv,vv,cv]:Array Value).all (·.oneCell')=true)
  (h: ∀w',w'.rowIs g 109 4 (ndF kv vv cv n)→Touch [g] w w'→wpList Tryz.prog ops Q rest (a.put o.dst undef) w'):wpList Tryz.prog ops Q (o::rest) a w:=by
 refine wpList_store_at hgd 109 x y ho g 0 4 #[.bool b,kv,vv,cv] hx hy 109 f hr Tryz.sizeNode (show 0+4≤4 by decide) h1 (fun w' hw' ht=>h w' (World.rowIs.congr hw' (fun j hj=> ?_)) ht)
 subst hb
 rcases j with _|_|_|_|j<;>first|rfl|(exfalso;omega)
theorem ndF_cells {w:World} {g:Nat} {kv vv cv:Value} {n:ND} (h:w.rowIs g 109 4 (ndF kv vv cv n)):w.cell? ⟨g,0,none⟩=some (.bool n.leaf)∧w.cell? ⟨g,1,none⟩=some kv∧w.cell? ⟨g,2,none⟩=some vv∧w.cell? ⟨g,3,none⟩=some cv:=
 ⟨World.rowIs.cell h (i:=0) (by decide),World.rowIs.cell h (i:=1) (by decide),World.rowIs.cell h (i:=2) (by decide),World.rowIs.cell h (i:=3) (by decide)⟩
theorem res_node2 {fn:Func} {p u:Tmp} {tmps:Array Value} {W:World} {g:Nat} {kv vv cv:Value} {n:ND} (h:fn.results= #[.cell p 109, .tmp u]) (hp:tmps.getD p undef= .pointer (some ⟨g,0,none⟩)) (hr:W.rowIs g 109 4 (ndF kv vv cv n)):
  (results fn tmps).run Tryz.prog W= .ok (.tuple #[ndV kv vv cv n,tmps.getD u undef]) W:=by
 obtain⟨c,hc,hs,hi⟩:=hr
 have hcs:c= #[.bool n.leaf,kv,vv,cv]:=by
  apply Array.ext_getElem?
  intro i
  by_cases hlt:i<4
  ·rw[hi i hlt]
   rcases i with _|_|_|_|i<;>first|rfl|(exfalso;omega)
  ·rw[Array.getElem?_eq_none (by omega),Array.getElem?_eq_none (by simp;omega)]
 subst hcs
 rw[results_cell_tmp h]
 have hl:=run_loadVar_row (P:=Tryz.prog) W g _ 109 _ _ _ hc Tryz.underlying109 rfl (by kernel_rfl)
 simp only[hp,asAddr,Sem.run_pure,Result.andThen_ok,hl]
 rfl
theorem cut_bd2 (r:ByteArray) (a:Nat):0≤leN (cut r a 2)∧leN (cut r a 2)≤65535:=by
 obtain⟨h1,h2⟩:=leN_bd (cut r a 2)
 have hl:(cut r a 2).length≤2:=by unfold cut;rw[List.length_take];omega
 refine⟨h1, ?_⟩
 have:(256:Int) ^ (cut r a 2).length≤256 ^ 2:=by
  rcases h:(cut r a 2).length with _|_|_|k
  ·decide
  ·decide
  ·decide
  ·omega
 omega
theorem readP_size {M:PM} {no:Int} (h:(readP M no).2.2=0):(readP M no).2.1.size=496:=by
 unfold readP at h ⊢
 split at h
 ·simp at h
 ·rename_i h1
  split at h
  ·rename_i h2;exact absurd h h2
  ·rename_i h2
   split at h
   ·simp at h
   ·rename_i h3
    rw[if_neg h1,if_neg h2,if_neg h3]
    exact rdP_size h
theorem node0_row (w1:World) (o:Obj):((w1.alloc o).alloc (.cells #[.bool false, .slice none 0 0, .slice none 0 0, .slice none 0 0] 109)).rowIs (w1.heap.size+1) 109 4 (ndF (.slice none 0 0) (.slice none 0 0) (.slice none 0 0) nd0):=by
 have h:=ndF_new (w1.alloc o) (.slice none 0 0) (.slice none 0 0) (.slice none 0 0) nd0
 rw[show(w1.alloc o).heap.size=w1.heap.size+1 by simp] at h
 exact h
theorem RdN.start {w1 w3:World} {r:ByteArray} {b:Bool} (hr:w3.rowIs (w1.heap.size+1) 109 4 (ndF (.slice none 0 0) (.slice none 0 0) (.slice none 0 0) ⟨b,[],[],[]⟩))
  (t:Touch [w1.heap.size+1] ((w1.alloc (.cells #[.string r] 9)).alloc (.cells #[.bool false, .slice none 0 0, .slice none 0 0, .slice none 0 0] 109)) w3):RdN w1 w3 w1.heap.size (w1.heap.size+1) r (.slice none 0 0) (.slice none 0 0) (.slice none 0 0) ⟨b,[],[],[]⟩:=by
 have h0:(w1.alloc (.cells #[.string r] 9)).rowIs w1.heap.size 9 1 (fun _=> .string r):=World.rowIs_alloc w1 _ _ _ (fun i hi=>by rcases i with _|i<;>first|rfl|(exfalso;simp at hi;done)|(exfalso;simp at hi;omega))
 refine⟨rowIs_touch (rowIs_touch h0 (F:=[]) ((Touch.refl _ _).alloc _) (by simp)) t (by simp),hr,⟨World.ownsRow_nil _ _ _ _,World.ownsRow_nil _ _ _ _,World.ownsRow_nil _ _ _ _,by simp[ndBk,blkOf]⟩, ?_,Nat.le_refl _,Nat.lt_succ_self _⟩
 exact(below_alloc (below_alloc (Below.refl _ _))).trans (t.below (by simp;omega) (fun x hx=>by simp at hx;omega))
structure RdLp (w1 wr:World) (g b:Nat) (r:ByteArray) (nf:Nat→ND) (c:Nat) (v:Value):Prop where
 ex: ∃(i:Nat) (kv vv cv:Value),v= .int .i64 i∧i≤c∧RdN w1 wr g b r kv vv cv (nf i)
theorem ndC_leaf {r:ByteArray} {c:Nat} (h:leN (cut r 0 2)=(c:Int)):ndC 2 r=decide (1≤c∧c≤30):=by
 unfold ndC
 rw[h,Bool.eq_iff_iff]
 simp
 try omega
theorem ndC_fork {r:ByteArray} {c:Nat} (h:leN (cut r 0 2)=(c:Int)):ndC 3 r=decide (1≤c∧c≤40):=by
 unfold ndC
 rw[h,Bool.eq_iff_iff]
 simp
 try omega
theorem ndC_no {r:ByteArray} {k:Int} (h2:k≠2) (h3:k≠3):ndC k r=false:=by
 unfold ndC
 simp[h2,h3]
def lfN (r:ByteArray) (i j:Nat):ND:=⟨true,(List.range i).map (fun i=>leN (cut r (2+16*i) 8)),(List.range j).map (fun i=>leN (cut r (10+16*i) 8)),[]⟩
def fkN (r:ByteArray) (i j:Nat):ND:=⟨false,(List.range i).map (fun i=>leN (cut r (6+12*i) 8)),[],leN (cut r 2 4)::(List.range j).map (fun i=>leN (cut r (14+12*i) 4))⟩
theorem lfN_key (r:ByteArray) (i j:Nat): { lfN r i j with keys:=(lfN r i j).keys++[leN (cut r (2+16*i) 8)] }=lfN r (i+1) j:=by unfold lfN;simp[List.range_succ]
theorem lfN_val (r:ByteArray) (i j:Nat): { lfN r i j with vals:=(lfN r i j).vals++[leN (cut r (10+16*j) 8)] }=lfN r i (j+1):=by unfold lfN;simp[List.range_succ]
theorem fkN_key (r:ByteArray) (i j:Nat): { fkN r i j with keys:=(fkN r i j).keys++[leN (cut r (6+12*i) 8)] }=fkN r (i+1) j:=by unfold fkN;simp[List.range_succ]
theorem fkN_kid (r:ByteArray) (i j:Nat): { fkN r i j with kids:=(fkN r i j).kids++[leN (cut r (14+12*j) 4)] }=fkN r i (j+1):=by unfold fkN;simp[List.range_succ]
theorem ndOf_leaf {r:ByteArray} {c:Nat} (h:leN (cut r 0 2)=(c:Int)):ndOf 2 r=lfN r c c:=by
 unfold ndOf lfN
 rw[h]
 simp
theorem ndOf_fork {r:ByteArray} {c:Nat} (h:leN (cut r 0 2)=(c:Int)):ndOf 3 r=fkN r c c:=by
 unfold ndOf fkN
 rw[h]
 simp
theorem lfN_kl (r:ByteArray) (i j:Nat):(lfN r i j).keys.length=i:=by simp[lfN]
theorem lfN_vl (r:ByteArray) (i j:Nat):(lfN r i j).vals.length=j:=by simp[lfN]
theorem fkN_kl (r:ByteArray) (i j:Nat):(fkN r i j).keys.length=i:=by simp[fkN]
theorem fkN_cl (r:ByteArray) (i j:Nat):(fkN r i j).kids.length=j+1:=by simp[fkN]
theorem u64_bd (r:ByteArray) (a:Nat):0≤leN (cut r a 8)∧leN (cut r a 8)≤18446744073709551615:=cut_bd8 r a
theorem lfN_sh (r:ByteArray) (c:Nat) (h:c≤30):NdSh (lfN r c c) 40:=by
 refine⟨by rw[lfN_kl];omega,fun k hk=> ?_,fun _=>⟨rfl,by rw[lfN_vl,lfN_kl],fun k hk=> ?_⟩,(fun h=>by cases h)⟩
 ·obtain⟨j, -,rfl⟩:=List.mem_map.1 hk
  exact u64_bd r _
 ·obtain⟨j, -,rfl⟩:=List.mem_map.1 hk
  exact u64_bd r _
theorem fkN_sh (r:ByteArray) (c:Nat) (h:c≤40):NdSh (fkN r c c) 40:=by
 refine⟨by rw[fkN_kl];omega,fun k hk=> ?_,(fun h=>by cases h),fun _=>⟨rfl,by rw[fkN_cl,fkN_kl],fun k hk=> ?_⟩⟩
 ·obtain⟨j, -,rfl⟩:=List.mem_map.1 hk
  exact u64_bd r _
 ·have hb: ∀a,0≤leN (cut r a 4)∧leN (cut r a 4)≤4294967295:=fun a=>by have:=cut_bd4 r a;omega
  rcases List.mem_cons.1 hk with rfl|hk
  ·exact hb 2
  ·obtain⟨j, -,rfl⟩:=List.mem_map.1 hk
   exact hb _
theorem lfN_len (r:ByteArray) (c:Nat) (h:c≤30):(ndB (lfN r c c)).length≤496:=by
 rw[←lfB_all (n:=lfN r c c) rfl (by rw[lfN_vl,lfN_kl]),lfB_length _ (Nat.le_refl _) (by rw[lfN_vl,lfN_kl];omega),lfN_kl]
 omega
theorem fkN_len (r:ByteArray) (c:Nat) (h:c≤40):(ndB (fkN r c c)).length≤496:=by
 rw[←fkB_all (n:=fkN r c c) rfl (by rw[fkN_cl,fkN_kl]),fkB_length _ (Nat.le_refl _) (by rw[fkN_cl,fkN_kl];omega),fkN_kl]
 omega
theorem getC0 {w:World} {rb:Nat} {r:ByteArray} (hc:w.cell? ⟨rb,0,none⟩=some (.string r)) (hr:r.size=496):
  Calls Tryz.prog 134 #[.int .i64 0, .int .i64 2, .pointer (some ⟨rb,0,none⟩)] w fun e w'=>e= .returned (.int .u64 (leN (cut r 0 2)))∧w=w':=getC_any hc hr 0 2 (by omega) (by omega)
theorem new_one (w:World) (v:Value) (t:TypeId): ∀(j:Nat) (u:Value),[v][j]? =some u→(w.alloc (.cells #[v] t)).cell? ((⟨w.heap.size,0,none⟩:Addr).add j)=some u:=fun j u h=>cell_one_new w v t j u h
theorem RdN.base {w1 wr W:World} {g b:Nat} {r:ByteArray} {kv vv cv:Value} {n:ND} (h:RdN w1 wr g b r kv vv cv n) (hW:Below wr.heap.size wr W):b+1≤W.heap.size:=by
 have h1:=World.rowIs.lt h.box
 have h2:=hW.size
 omega
theorem RdN.boxK {w1 wr W w5:World} {g b:Nat} {r:ByteArray} {kv vv cv v:Value} {n:ND} {e:TypeId} {m:Nat} {xs:List Value} (h:RdN w1 wr g b r kv vv cv n) (hW:Below wr.heap.size wr W) (ho:wr.ownsRow (b+1) e 1 v m xs) (hgr:W.grownBy w5 v.ownBlock):w5.rowIs b 109 4 (ndF kv vv cv n):=
 rowIs_touch (rowIs_touch h.box (F:=[]) (Touch.of_below hW) (by simp)) (Touch.of_grown hgr) (fun hm=>by have:=(ho.lt b (Option.mem_toList.1 hm)).1;omega)
theorem getCI {w:World} {rb:Nat} {r:ByteArray} {A Z:Int} {a k:Nat} (hc:w.cell? ⟨rb,0,none⟩=some (.string r)) (hr:r.size=496) (hA:A=(a:Int)) (hZ:Z=(k:Int)) (hk:k≤8) (ha:a+k≤496):
  Calls Tryz.prog 134 #[.int .i64 A, .int .i64 Z, .pointer (some ⟨rb,0,none⟩)] w fun e w'=>e= .returned (.int .u64 (leN (cut r a k)))∧w=w':=by
 subst hA;subst hZ
 exact getC_any hc hr a k hk ha
end Go.Proofs.YtjgkegkinnlcoaaGreatDoor
