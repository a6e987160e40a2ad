/- Lemmas on the way to the statement. -/
import Derived.Test.YtjgkegkinnlcoaaGreatDoorJ37
set_option linter.unusedSimpArgs false
set_option linter.unusedVariables false
namespace Go.Proofs.YtjgkegkinnlcoaaGreatDoor
open Go.RowKit Go.Maps Go.Joins
structure BfDel (w0 wr:World) (p K used:Nat) (seg:List (Int × Int)) (X:List Nat):Prop where
 ex: ∃M R P,PgX w0 wr p K M X∧BtI M R 6000 1 0 seg P∧pagesP M=used
theorem bf_del {w0 w:World} {p K used:Nat} {seg:List (Int × Int)} {X:List Nat} (h:BfDel w0 w p K used seg X) (hs:seg.length≤2600) (hK:K≤400000000000) (key:Int) (hk:0≤key∧key≤18446744073709551615):
  Calls Tryz.prog 16 #[.pointer (some ⟨p,0,none⟩), .int .i64 0, .int .u64 key] w fun e w'=>e= .returned (.int .i64 (refDelE key seg))∧BfDel w0 w' p (K+2100) used (delP key seg) X∧SameX X w w':=by
 obtain⟨M,R,P,h,hb,hu⟩:=h
 obtain⟨M',R',P',e1,e2,e3,e4⟩:=hb.del (by decide) hs key
 have hp:=pages_delB (M:=M) 0 key
 refine(Del_any h (by omega) 0 key hk).mono ?_
 have e1':delB M 0 key=(refDelE key seg,M'):=e1
 rw[e1'] at hp ⊢
 rintro e w' ⟨he,hp',hx⟩
 exact⟨he,⟨M',R',P',hp',e2,by simp only at hp;rw[hp];exact hu⟩,hx⟩
theorem u64_rgF (n:Int):0≤IntKind.u64.wrap n∧IntKind.u64.wrap n≤18446744073709551615:=by
 rw[IntKind.wrap_u64]
 omega
theorem insP_bd {key val:Int} {seg:List (Int × Int)} (hk:0≤key∧key≤18446744073709551615) (h: ∀p∈seg,0≤p.1∧p.1≤18446744073709551615): ∀p∈insP key val seg,0≤p.1∧p.1≤18446744073709551615:=fun p hp=>by
 rcases insP_mem hp with rfl|hp
 ·exact hk
 ·exact h p hp
theorem delP_bd {key:Int} {seg:List (Int × Int)} (h: ∀p∈seg,0≤p.1∧p.1≤18446744073709551615): ∀p∈delP key seg,0≤p.1∧p.1≤18446744073709551615:=fun p hp=>h p (delP_mem hp)
def bfX (a:Option Addr) (n c:Nat) (b:Option Addr) (m d:Nat):List Nat:=blkOf (.slice a n c)++(blkOf (.slice b m d)++[])
structure BfRnd (w0 wr:World) (p K N:Nat) (X:List Nat) (seg:List (Int × Int)):Prop where
 t:IsT w0 wr p K 0 seg X
 len:seg.length≤N
 bd: ∀q∈seg,0≤q.1∧q.1≤18446744073709551615
set_option maxRecDepth 1000000 in
set_option maxHeartbeats 8000000 in
theorem btreeFlat_walk {w:World} {n c:Nat} {a:Option Addr} {l:List ActD} (hl:ActsIn w w.heap.size a n l):
  Calls Tryz.prog 6 #[.slice a n c] w fun e w'=>e= .returned (.bool true)∧Below w.heap.size w w':=by
 have HAW:=Lib.hid (fun W=>awake13_any W)
 have hfit:=hl.2.1
 have HL:=Lib.hid hl
 clear hl
 by_cases h40:40<n
 ·have d1:(40:Int)<(n:Int):=by omega
  clear h40
  go_enter Tryz.func6,Tryz.ntmps6
  go_wp2_with fail
  refine(HAW.out _).mono ?_
  rintro e w1 ⟨rfl,hb1⟩
  go_wp2_with fail
  refine(HAW.out _).mono ?_
  rintro e w2 ⟨rfl,hb2⟩
  go_wp2_with fail
  go_ret
  exact⟨rfl,below_step hb2 hb1⟩
 have d1: ¬((40:Int)<(n:Int)):=by omega
 go_enter Tryz.func6,Tryz.ntmps6
 go_wp2_with fail
 refine(HAW.out _).mono ?_
 rintro e w1 ⟨rfl,hb1⟩
 have HB1:=Lib.hid hb1
 clear hb1
 go_wp2_with fail
 refine(made13_any w1).mono ?_
 rintro e w2 ⟨p,M,rfl,⟨nd,hp⟩,hr⟩
 have HT0:=Lib.hid (IsT.new (i:=0) hp hr (by decide))
 clear hp hr
 go_wp2_with fail
 clear d1
 go_loopw [4] (fun v4 wr=> ∃(i:Nat) (seg:List (Int × Int)),i≤n∧v4= .int .i64 i∧BfRnd (atD w1 nd) wr p (1000000*i+2) (63*i) [] seg) (fun v4 _=>n - (intOf v4).toNat)
 case atStart=>exact⟨0,[],Nat.zero_le _,rfl,HT0.out,by simp,by simp⟩
 case round=>
  clear HT0
  obtain⟨i,seg,hi,rfl,hr⟩:=hrel
  have HR:=Lib.hid hr
  clear hr
  by_cases hlt:i<n
  rotate_left
  ·obtain rfl:i=n:=by omega
   have hls:seg.length≤2520:=by have:=HR.out.len;omega
   have HBD:=Lib.hid HR.out.bd
   go_wp2_with fail
   refine(t_all HR.out.t (by decide) (by omega) (by omega)).mono ?_
   rintro e w3 ⟨vo,rfl,ho,ht, -⟩
   obtain⟨va,vc,rfl⟩:=(IsP.own ho).form
   have HI3:=Lib.hid (IsP.own ho)
   obtain⟨⟨M,R,P,hp,hb,hm,hro⟩⟩:=ht
   obtain⟨used,hused⟩: ∃u:Nat,pagesP M=(u:Int):=⟨R.way.kinds.length,hb.rel.pages⟩
   have hu1:1≤used:=by have:=hb.rel.way.one;have h2:pagesP M=lenR R:=hb.rel.pages;have h3:lenR R=R.way.kinds.length:=rfl;omega
   have hu2:used≤637:=by have:=hb.rel.way.le;have h2:pagesP M=lenR R:=hb.rel.pages;have h3:lenR R=R.way.kinds.length:=rfl;omega
   have hpg:=px_pages hp (by omega)
   rw[hused] at hpg
   have HPG:=Lib.hid hpg
   have HB:=Lib.hid hb
   have HU:=Lib.hid hused
   clear ho hp hb hm hro hused hpg HR
   go_wp2_with fail
   refine HPG.out.mono ?_
   rintro e w4 ⟨rfl,hp4,hs4⟩
   have hps:=Pages_any hp4 (by omega) 0
   have hwh:=HB.out.whole (by decide) (by omega)
   rw[show wholeB M 0=(seg,P,0) from hwh] at hps
   have HPS:=Lib.hid hps
   have HI4:=Lib.hid (HI3.out.same hs4 (fun g hg=>by simp[hg]))
   clear hp4 hs4 hps hwh HPG HI3
   go_wp2_with fail
   refine HPS.out.mono ?_
   rintro e w5 ⟨vp,rfl,ho,hp5,hs5,hpl⟩
   obtain⟨Q,hQ⟩: ∃Q,Q=sortP P:=⟨_,rfl⟩
   have hql:Q.length=P.length:=by rw[hQ];exact sortP_len P
   have hIq:IsI w5 .i64 vp Q:=IsI.own (B:=w4.heap.size) (e:=3) (by rw[hql,hQ];exact ho)
   obtain⟨pa,pc,rfl⟩:=hIq.form
   have hqm: ∀q∈Q,(readP M q).2.2=0∧((readP M q).1=2∨(readP M q).1=3):=fun q hq=>HB.out.kinds q (sortP_mem.1 (by rw[←hQ];exact hq))
   have hqs:Q.Pairwise (· < ·):=by rw[hQ];exact sortP_lt HB.out.nd
   have hqn:Q.length=0↔seg.length=0:=by
    obtain⟨k,t⟩:=HB.out.root
    rw[hql,List.length_eq_zero_iff,List.length_eq_zero_iff]
    exact t.none_iff
   have hq6:Q.length≤65536:=by omega
   have HQ:=Lib.hid (And.intro hqm hqs)
   have HQI:=Lib.hid hIq
   have HP5:=Lib.hid (hp5.mono (show _≤100000000 by omega))
   have HI5:=Lib.hid (HI4.out.same hs5 (fun g hg=>by simp[hg]))
   clear ho hp5 hs5 hQ hIq hqm hqs hpl hql HPS HI4
   go_upto_region 23 with fail
   go_cut [137] (fun t wx=>t= .bool false∧wx=w5)
   case first=>
    have zz:(!(decide (0<Q.length)==decide (0<seg.length)))=false:=by
     have:(0<Q.length)↔(0<seg.length):=by omega
     simp[this]
    have HZ:=Lib.hid zz
    clear zz hqn
    go_wp2_with fail
    go_meet
    exact⟨by rw[HZ.out],rfl⟩
   case rest=>
   obtain⟨rfl,rfl⟩:=hcut
   clear hqn
   go_wp2_with fail
   go_loopw [17] (fun v17 wr=> ∃j:Nat,j≤Q.length∧v17= .int .i64 j∧PgX (atD w1 nd) wr p (100000000+4*j) M (bfX pa Q.length pc va seg.length vc)∧SameX (bfX pa Q.length pc va seg.length vc) wc wr) (fun v17 _=>Q.length - (intOf v17).toNat)
   case atStart=>exact⟨0,Nat.zero_le _,rfl,HP5.out,SameX.refl _ _⟩
   case round=>
    clear HP5
    obtain⟨j,hj,rfl,hp,hs⟩:=hrel
    have HP:=Lib.hid hp
    have HS:=Lib.hid hs
    clear hp hs
    by_cases hjl:j<Q.length
    ·obtain⟨g,o,c3,hv, -, -,hg,hcs⟩:=HQI.out.at_ (by omega)
     injection hv with hva hvn hvc
     subst hva
     subst hvc
     have hx:=hcs j hjl
     obtain⟨q,hq⟩: ∃q,q=Q.getD j 0:=⟨_,rfl⟩
     have hqj:=getElem?_getD hjl
     rw[←hq] at hx hqj
     obtain⟨e1,e2⟩:=HQ.out.1 q (List.mem_of_getElem? hqj)
     have HRD:=Lib.hid (px_read HP.out (by omega) q)
     generalize readP M q=RD at e1 e2 HRD
     obtain⟨kd,rm,er⟩:=RD
     simp only at e1 e2 HRD
     subst e1
     have hx1:=(HS.out.cell (g:=g) (o:=o+j) (by simp[bfX,blkOf])).trans hx
     have y1:(j:Int)<(Q.length:Int):=by omega
     have HC:=Lib.hid hcs
     have HQJ:=Lib.hid hqj
     clear hcs hvn hq hx hqj
     go_wp2_with fail
     refine HRD.out.mono ?_
     rintro e w6 ⟨rfl,hp6,hs6⟩
     have HP6:=Lib.hid hp6
     have HS6:=Lib.hid (HS.out.trans hs6)
     clear hp6 hs6 HRD hx1
     go_upto_region 29 with fail
     go_cut [179] (fun t wx=>t= .bool false∧Below w6.heap.size w6 wx)
     case first=>
      rcases j with _|jj
      ·clear y1
       rcases e2 with rfl|rfl<;>(go_quiet (fail);go_wp2_with fail;go_meet;exact⟨rfl,drewN_below (Below.refl _ _) _⟩)
      ·have hlt1:Q.getD jj 0<q:=by
        have h1:=getElem?_getD (l:=Q) (i:=jj) (by omega)
        obtain⟨h1a,h1b⟩:=List.getElem?_eq_some_iff.1 h1
        obtain⟨h2a,h2b⟩:=List.getElem?_eq_some_iff.1 HQJ.out
        rw[←h1b, ←h2b]
        exact List.pairwise_iff_getElem.1 HQ.out.2 jj (jj+1) h1a h2a (by omega)
       have hx2:=HC.out (jj+1) hjl
       have hx0:=HC.out jj (by omega)
       rw[show Q.getD (jj+1) 0=q from by rw[List.getD_eq_getElem?_getD,HQJ.out];rfl] at hx2
       generalize Q.getD jj 0=q0 at hx0 hlt1
       have f0:=(HS6.out.cell (g:=g) (o:=o+jj) (by simp[bfX,blkOf])).trans hx0
       have f1:=(HS6.out.cell (g:=g) (o:=o+(jj+1)) (by simp[bfX,blkOf])).trans hx2
       have q5:IntKind.i64.wrap ((jj:Int)+1 - 1)=(jj:Int):=by rw[show(jj:Int)+1 - 1=jj by omega];exact IntWalk.i64_in _ (by omega)
       have q6:((jj:Int)+1).toNat=jj+1:=by omega
       have y4:(jj:Int)+1<(Q.length:Int):=by omega
       have y5:(jj:Int)<(Q.length:Int):=by omega
       have y6:(0:Int)<(jj:Int)+1:=by omega
       have y7: ¬(q≤q0):=by omega
       clear hx0 hx2 hlt1 y1
       rw[show((jj+1:Nat):Int)=(jj:Int)+1 from rfl]
       rcases e2 with rfl|rfl<;>(go_quiet (fail);go_wp2_with fail;go_meet;exact⟨rfl,drewN_below (Below.refl _ _) _⟩)
     case rest=>
     obtain⟨rfl,hbc⟩:=hcut
     go_wp2_with fail
     go_roundw
     case rel=>exact⟨j+1,by omega,by go_num,(HP6.out.moveX hbc).mono (by omega),HS6.out.trans (SameX.of_below hbc HP6.out.lt)⟩
     case measure=>simp[intOf];omega
    ·obtain rfl:j=Q.length:=by omega
     have HD0:=Lib.hid (⟨⟨M,R,P,HP.out.mono (show _≤200000000 by omega),HB.out,HU.out⟩⟩:BfDel (atD w1 nd) wr p 200000000 used seg _)
     have HI6:=Lib.hid (HI5.out.same HS.out (fun g hg=>by simp[bfX,hg]))
     have HR6:=Lib.hid HB.out.ris
     clear HP HS HQ HQI HB HU HI5 hjl
     go_wp2_with fail
     go_loopw [21] (fun v21 wr2=> ∃j:Nat,j≤seg.length∧v21= .int .i64 j∧BfDel (atD w1 nd) wr2 p (200000000+2100*j) used (seg.drop j) (bfX pa Q.length pc va seg.length vc)∧SameX (bfX pa Q.length pc va seg.length vc) wr wr2) (fun v21 _=>seg.length - (intOf v21).toNat)
     case atStart=>exact⟨0,Nat.zero_le _,rfl,HD0.out,SameX.refl _ _⟩
     case round=>
      clear HD0
      obtain⟨j,hj,rfl,hd,hs⟩:=hrel
      have HD:=Lib.hid hd
      have HS:=Lib.hid hs
      clear hd hs
      by_cases hjl:j<seg.length
      ·obtain⟨g,o,c3,hv,hg,hcs⟩:=HI6.out.at_ (by omega)
       injection hv with hva hvn hvc
       subst hva
       subst hvc
       have hx:=(hcs j _ (List.getElem?_eq_getElem hjl)).1
       obtain⟨d1,d2⟩:=drop_del HR6.out (List.getElem?_eq_getElem hjl)
       have hkb:=HBD.out seg[j] (List.getElem_mem hjl)
       generalize seg[j]=x0 at hx d1 d2 hkb
       have hdl:=bf_del HD.out (by rw[List.length_drop];omega) (by omega) x0.1 hkb
       rw[d1,d2] at hdl
       have HDL:=Lib.hid hdl
       have hx1:=(HS.out.cell (g:=g) (o:=o+j*2) (by simp[bfX,blkOf])).trans hx
       have y1:(j:Int)<(seg.length:Int):=by omega
       clear hcs hvn hx d1 d2 hdl hkb
       go_wp2_with fail
       refine HDL.out.mono ?_
       rintro e w7 ⟨rfl,hd7,hs7⟩
       have HD7:=Lib.hid hd7
       have HS7:=Lib.hid (HS.out.trans hs7)
       clear hd7 hs7 HDL hx1
       go_wp2_with fail
       go_roundw
       case rel=>exact⟨j+1,by omega,by go_num,by rw[show 200000000+2100*(j+1)=200000000+2100*j+2100 by omega];exact HD7.out,HS7.out⟩
       case measure=>simp[intOf];omega
      ·obtain rfl:j=seg.length:=by omega
       have hd:=HD.out
       rw[List.drop_length] at hd
       obtain⟨⟨M2,R2,P2,hp,hb2,hp2⟩⟩:=hd
       obtain⟨r1,r2⟩:=hb2.bare (by decide)
       have r3: ∀q:Nat,1≤q→q<used→(readP M2 q).1=255:=fun q q1 q2=>r2 q q1 (by have h2:pagesP M2=lenR R2:=hb2.rel.pages;omega)
       have hrt:=px_root hp (by omega) 0
       rw[show rootP M2 0=(0,0) from r1] at hrt
       have HRT:=Lib.hid hrt
       have H255:=Lib.hid r3
       clear hp hb2 hp2 r1 r2 r3 hrt HD hjl
       go_wp2_with fail
       refine HRT.out.mono ?_
       rintro e w8 ⟨rfl,hp8, -⟩
       have HP8:=Lib.hid (hp8.mono (show _≤300000000 by omega))
       clear hp8 HRT
       go_wp2_with fail
       go_loopw [24,25] (fun v24 v25 wr3=> ∃j:Nat,j+1≤used∧v24= .int .i64 j∧v25= .int .i64 ((j:Int)+1)∧PgX (atD w1 nd) wr3 p (300000000+4*j) M2 (bfX pa Q.length pc va seg.length vc)) (fun _ v25 _=>used+1 - (intOf v25).toNat)
       case atStart=>exact⟨0,by omega,rfl,rfl,HP8.out⟩
       case round=>
        clear HP8
        obtain⟨j,hj,rfl,rfl,hp⟩:=hrel
        have HP:=Lib.hid hp
        clear hp
        by_cases hjl:j+1<used
        ·have y1:(j:Int)+1<(used:Int):=by omega
         have hk:=H255.out (j+1) (by omega) hjl
         have HRD:=Lib.hid (px_read HP.out (by omega) ((j:Int)+1))
         rw[show(((j+1:Nat):Int))=(j:Int)+1 from rfl] at hk
         generalize readP M2 ((j:Int)+1)=RD at hk HRD
         obtain⟨kd,rm,er⟩:=RD
         simp only at hk HRD
         subst hk
         go_wp2_with fail
         refine HRD.out.mono ?_
         rintro e w9 ⟨rfl,hp9, -⟩
         have HP9:=Lib.hid hp9
         clear hp9 HRD
         go_wp2_with fail
         go_roundw
         case rel=>exact⟨j+1,by omega,by go_num,by go_num,by rw[show 300000000+4*(j+1)=300000000+4*j+4 by omega];exact HP9.out⟩
         case measure=>simp[intOf];omega
        ·obtain rfl:used=j+1:=by omega
         have y1: ¬((j:Int)+1<((j+1:Nat):Int)):=by omega
         go_wp2_with fail
         go_ret
         exact⟨rfl,below_step (below_atD HP.out.below) HB1.out⟩
  obtain⟨lb,off,x,rfl,hat,hlb⟩:=HL.out.at_ (below_step (below_atD HR.out.t.below) HB1.out) hlt
  have y1:(i:Int)<(n:Int):=by omega
  have x0:=hat.c0
  have x1:=hat.c1
  have x2:=hat.c2
  have x3:=hat.c3
  have x4:=hat.c4
  have HOK:=Lib.hid hat.ok
  clear hat
  go_upto_region 8 with fail
  refine wp_name (fun W hW=> ?_)
  have hbW:Below wr.heap.size wr W:=by rw[←hW];exact below_alloc (Below.refl _ _)
  have hrW:W.rowIs wr.heap.size 30 5 (actF x):=by rw[←hW];exact act_new wr x
  have hXW:BfRnd (atD w1 nd) W p (1000000*i+2) (63*i) [wr.heap.size] seg:=⟨HR.out.t.move hbW (fun y hy=>by
   simp only[List.mem_singleton] at hy
   subst hy
   exact .inr ⟨Nat.le_refl _,World.rowIs.lt hrW⟩),HR.out.len,HR.out.bd⟩
  obtain⟨bx,hbx⟩: ∃b,b=wr.heap.size:=⟨_,rfl⟩
  rw[←hbx] at hrW hXW ⊢
  have HX:=Lib.hid hXW
  have HRW:=Lib.hid hrW
  obtain⟨mm,hmm⟩: ∃m:Nat,x.b2.tmod 64=(m:Int):=⟨(x.b2 % 64).toNat,by have:=HOK.out.u2;rw[Int.tmod_eq_emod_of_nonneg (by omega)];omega⟩
  have hm64:mm≤63:=by have:=HOK.out.u2;rw[Int.tmod_eq_emod_of_nonneg (by omega)] at hmm;omega
  obtain⟨dd,hdd⟩: ∃m:Nat,x.b1.tmod 8=(m:Int):=⟨(x.b1 % 8).toNat,by have:=HOK.out.u1;rw[Int.tmod_eq_emod_of_nonneg (by omega)];omega⟩
  obtain⟨ss,hss⟩: ∃m:Nat,x.step.tmod 5=(m:Int):=⟨(x.step % 5).toNat,by have:=HOK.out.s;rw[Int.tmod_eq_emod_of_nonneg (by omega)];omega⟩
  have hs4:ss≤4:=by have:=HOK.out.s;rw[Int.tmod_eq_emod_of_nonneg (by omega)] at hss;omega
  have HKK:=Lib.hid (show IntKind.u64.wrap x.key=x.key from IntWalk.u64_in _ (by have:=HOK.out.k;omega))
  have HMM:=Lib.hid (show wrap64 (x.b2.tmod 64)=(mm:Int) by rw[hmm];exact IntWalk.wrap64_in _ ⟨by omega,by omega⟩)
  have HDD:=Lib.hid hdd
  have HSS:=Lib.hid hss
  obtain⟨c0,c1,c2,c3,c4⟩:=actF_cells hrW
  clear hbW hXW hW hrW hbx hdd hss hmm x0 x1 x2 x3 x4
  go_upto_region 9 with fail
  clear c0 c1 c2 c3 c4
  go_wp2_with fail
  go_loopw [6,7] (fun v7 v8 wi=> ∃(j:Nat) (k:Int) (sg:List (Int × Int)),j≤mm∧v8= .int .i64 j∧v7= .int .u64 k∧0≤k∧k≤65535+6*j∧BfRnd (atD w1 nd) wi p (1000000*i+2+3000*j) (63*i+j) [bx] sg∧wi.rowIs bx 30 5 (actF x)) (fun _ v8 _=>mm - (intOf v8).toNat)
  case atStart=>exact⟨0,x.key,seg,Nat.zero_le _,rfl,by rw[HKK.out],HOK.out.k.1,by have:=HOK.out.k.2;omega,HX.out,HRW.out⟩
  case round=>
   clear HX HRW
   obtain⟨j,k,sg,hj,rfl,rfl,k0,k1,hrd,hrw⟩:=hrel
   have HX:=Lib.hid hrd
   have HRW:=Lib.hid hrw
   obtain⟨c0,c1,c2,c3,c4⟩:=actF_cells hrw
   clear hrd hrw
   go_upto_if 56 with fail
   rw[HMM.out]
   by_cases hjl:j<mm
   rotate_left
   ·obtain rfl:j=mm:=by omega
    have y3: ¬((j:Int)<(j:Int)):=by omega
    clear c0 c1 c2 c3 c4
    go_wp2_with fail
    refine(t_all HX.out.t (by decide) (by have:=HX.out.len;omega) (by omega)).mono ?_
    rintro e wj ⟨vo,rfl,ho,ht,hs⟩
    obtain⟨va,vc,rfl⟩:=(IsP.own ho).form
    have HT:=Lib.hid (t_deep ht (by decide) (by have:=HX.out.len;omega) (by omega))
    clear ho ht hs
    go_wp2_with fail
    refine HT.out.mono ?_
    rintro e wk ⟨d,rfl,⟨g1,g2,g3,g4⟩,ht, -⟩
    have HT2:=Lib.hid ((ht.sub (Y:=[]) (fun y hy=>by cases hy)).mono (show _≤1000000*(i+1)+2 by omega))
    have HG:=Lib.hid (And.intro g1 (And.intro g2 (And.intro g3 g4)))
    clear ht HT g1 g2 g3 g4
    have hn:(d=0↔sg.length=0):=by rw[HG.out.2.1];exact List.length_eq_zero_iff.symm
    go_upto_region 18 with fail
    obtain⟨L,hL⟩: ∃L,L=sg.length:=⟨_,rfl⟩
    have hg:=HG.out
    rw[←hL] at hg hn ⊢
    go_cut [114] (fun t wx=>t= .bool false∧wx=wk)
    case first=>
     obtain⟨g1,g2,g3,g4⟩:=hg
     clear HG HX g2 hL
     by_cases hz:L=0
     ·subst hz
      obtain rfl:d=0:=hn.2 rfl
      clear g3 g4 hn g1
      go_wp2_with fail
      go_meet
      exact⟨rfl,rfl⟩
     ·have e0:((d:Int)==0)=false:=by simp;omega
      have e1:((L:Int)==0)=false:=by simp;omega
      by_cases h30:L<30
      ·have f1:(L:Int)<30:=by omega
       have f2: ¬(1:Int)<d:=by omega
       have f3:(L:Int)<630:=by omega
       have f4: ¬(2:Int)<d:=by omega
       clear g3 g4 hn g1 hz h30
       go_wp2_with fail
       go_meet
       exact⟨rfl,rfl⟩
      ·have f1: ¬(L:Int)<30:=by omega
       by_cases h63:L<630
       ·have f3:(L:Int)<630:=by omega
        have f4: ¬(2:Int)<d:=by omega
        clear g3 g4 hn g1 hz h30 h63
        go_wp2_with fail
        go_meet
        exact⟨rfl,rfl⟩
       ·have f3: ¬(L:Int)<630:=by omega
        clear g3 g4 hn g1 hz h30 h63
        go_wp2_with fail
        go_meet
        exact⟨rfl,rfl⟩
    case rest=>
    obtain⟨rfl,rfl⟩:=hcut
    clear hn HG hg hL
    go_wp2_with fail
    go_roundw
    case rel=>exact⟨i+1,sg,by omega,by go_num,HT2.out,by have:=HX.out.len;omega,HX.out.bd⟩
    case measure=>simp[intOf];omega
   have y3:(j:Int)<(mm:Int):=by omega
   go_upto_if 62 with fail
   rw[HDD.out]
   go_cut [66] (fun _ wx=> ∃sg',BfRnd (atD w1 nd) wx p (1000000*i+2+3000*j+3000) (63*i+j+1) [bx] sg'∧wx.rowIs bx 30 5 (actF x))
   case first=>
    by_cases h5:dd<5
    ·have y4:(dd:Int)<5:=by omega
     clear y3 hjl h5 c0 c1 c2 c3 c4
     go_wp2_with fail
     refine(t_put HX.out.t (by decide) (by have:=HX.out.len;omega) (by omega) k k (by omega) (by omega)).mono ?_
     rintro e wj ⟨rfl,ht,hs⟩
     have HT:=Lib.hid ht
     have HRJ:=Lib.hid (hs.row HRW.out (by simp))
     clear ht hs
     go_wp2_with fail
     go_meet
     exact⟨_,⟨HT.out.mono (by omega),by have:=HX.out.len;have:=insP_length k k HX.out.t.ris;omega,insP_bd (by omega) HX.out.bd⟩,HRJ.out⟩
    ·have y4: ¬(dd:Int)<5:=by omega
     clear y3 hjl h5 c0 c1 c2 c3 c4
     go_wp2_with fail
     refine(t_del HX.out.t (by decide) (by have:=HX.out.len;omega) (by omega) k (by omega)).mono ?_
     rintro e wj ⟨rfl,ht,hs⟩
     have HT:=Lib.hid ht
     have HRJ:=Lib.hid (hs.row HRW.out (by simp))
     clear ht hs
     generalize refDelE k sg=ee
     go_wp2_with fail
     go_meet
     exact⟨_,⟨HT.out.mono (by omega),by have:=HX.out.len;have:=delP_length k sg;omega,delP_bd HX.out.bd⟩,HRJ.out⟩
   case rest=>
   obtain⟨sg',hrd,hrw⟩:=hcut
   have HX:=Lib.hid hrd
   have HRW:=Lib.hid hrw
   clear c0 c1 c2 c3 c4
   obtain⟨c0,c1,c2,c3,c4⟩:=actF_cells hrw
   clear hrd hrw c0 c1 c2 c4
   go_wp2_with fail
   go_roundw
   case rel=>exact⟨j+1,_,sg',by omega,by go_num,rfl,(u64_rgF _).1,by rw[HSS.out,IntKind.wrap_u64,IntKind.wrap_u64];omega,⟨HX.out.t.mono (by omega),by have:=HX.out.len;omega,HX.out.bd⟩,HRW.out⟩
   case measure=>simp[intOf];omega
end Go.Proofs.YtjgkegkinnlcoaaGreatDoor
