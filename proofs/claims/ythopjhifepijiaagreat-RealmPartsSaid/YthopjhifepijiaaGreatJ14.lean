/- Lemmas on the way to the statement. -/
import Derived.Test.YthopjhifepijiaaGreatJ13
set_option linter.unusedSimpArgs false
set_option linter.unusedVariables false
namespace Go.Proofs.YthopjhifepijiaaGreat
open Go.RowKit Go.Joins
section
variable {p:PL} {k:Nat} {L:List (List Hf)} {M R:List Hf} {h0 h:Hf}
def PreM (p:PL) (M:List Hf):Prop:= ∀x∈halvesE p.es,nextP p x∈M→x∈M
structure OrbT (p:PL) (M:List Hf) (h0:Hf) (R:List Hf) (h:Hf):Prop where
 s:OrbS p M h0 R h
 pre:PreM p M
 new:h0∉M
 from_:(R=[]∧h=h0)∨ ∃y∈R,h=nextP p y
theorem OrbT.notM (o:OrbT p M h0 R h):h∉M:=by
 rcases o.from_ with ⟨_,e⟩|⟨y,hy,e⟩
 ·rw[e];exact o.new
 ·intro hm
  rw[e] at hm
  have h1:=o.pre y (o.s.mem y (List.mem_append_right _ hy)) hm
  exact(List.nodup_append.1 o.s.nd).2.2 y h1 y hy rfl
theorem OrbT.step (r:RightP p) (o:OrbT p M h0 R h) (hh:h∉R):OrbT p M h0 (R++[h]) (nextP p h):=
 ⟨o.s.step r (fun hm=>(List.mem_append.1 hm).elim o.notM hh),o.pre,o.new, .inr ⟨h,by simp,rfl⟩⟩
theorem OrbT.ring (r:RightP p) (o:OrbT p M h0 R h) (hh:h∈R):Ring (nextP p) (halvesE p.es) M h0 R:=by
 rw[o.s.stop (List.mem_append_right _ hh)]
 have h0a:h0∈halvesE p.es:=by
  obtain⟨⟨m,hm,e,_⟩,_⟩:=o.s
  have:=orb_ring (f:=nextP p) (all:=halvesE p.es) (met:=M) (fun x hx=>r.next_half hx) (fun x hx y hy e=>r.next_inj hx hy e) o.pre (h:=h) o.s.hm o.notM (n:=2*p.es.length+1) (by rw[halves_len];omega)
  by_cases hR:R=[]
  ·subst hR;cases hh
  ·obtain⟨z,R',rfl⟩: ∃z R',R=z::R':=by cases R with
    |nil=>exact absurd rfl hR
    |cons z R'=>exact⟨z,R',rfl⟩
   have hz:=o.s.mem z (by simp)
   have e2:=e
   rw[List.cons_append] at e2
   unfold orbF at e2
   rw[if_neg o.new] at e2
   injection e2 with e3 _
   rw[←e3]
   exact hz
 exact orb_ring (fun x hx=>r.next_half hx) (fun x hx y hy e=>r.next_inj hx hy e) o.pre h0a o.new (by rw[halves_len];omega)
theorem OrbT.full (o:OrbT p M h0 R h) (hl:R.length=2*p.es.length):h∈R:=by
 by_cases hh:h∈R
 ·exact hh
 ·have:=nodup_len (P:=h::R) (all:=halvesE p.es) (List.nodup_cons.2 ⟨hh,(List.nodup_append.1 o.s.nd).2.1⟩) (fun x hx=>by
   rcases List.mem_cons.1 hx with rfl|hx
   ·exact o.s.hm
   ·exact o.s.mem x (List.mem_append_right _ hx))
  rw[halves_len] at this
  simp at this
  omega
theorem PreM.add (r:RightP p) (pre:PreM p M) (hr:Ring (nextP p) (halvesE p.es) M h0 R):PreM p (M++R):=fun x hx hn=>by
 rcases List.mem_append.1 hn with hn|hn
 ·exact List.mem_append_left _ (pre x hx hn)
 ·obtain⟨y,hy,e⟩:=hr.has_prev hn
  rw[←r.next_inj (hr.mem y hy).1 hx e]
  exact List.mem_append_right _ hy
end
def ziv (L:List (List Hf)) (Z:List (Nat × Nat)):List Value:=List.zipWith (fun R z=>Value.slice (some ⟨z.1,0,none⟩) R.length z.2) L Z
theorem ziv_app {L:List (List Hf)} {Z:List (Nat × Nat)} (h:Z.length=L.length) (R:List Hf) (z:Nat × Nat):ziv (L++[R]) (Z++[z])=ziv L Z++[.slice (some ⟨z.1,0,none⟩) R.length z.2]:=by
 unfold ziv
 rw[List.zipWith_append h.symm]
 rfl
structure RiG (tS:TypeId) (lo:Nat) (w:World) (v:Value) (L:List (List Hf)) (Z:List (Nat × Nat)):Prop where
 own:w.ownsRow lo tS 1 v L.length (ziv L Z)
 len:Z.length=L.length
 apart: ∀z∈Z,v.ownBlock≠some z.1
 rows: ∀(i:Nat) (R:List Hf) (z:Nat × Nat),L[i]? =some R→Z[i]? =some z→lo≤z.1∧z.1<w.heap.size∧HsAt w z.1 0 R
theorem RiG.nil (tS:TypeId) (lo:Nat) (w:World):RiG tS lo w (.slice none 0 0) [] []:=⟨World.ownsRow_nil _ _ _ _,rfl,by simp,by simp⟩
theorem RiG.touch {tS:TypeId} {lo:Nat} {w w':World} {v:Value} {L:List (List Hf)} {Z:List (Nat × Nat)} {F:List Nat} (h:RiG tS lo w v L Z) (t:Touch F w w') (hv: ∀g,v.ownBlock=some g→g∉F) (hz: ∀z∈Z,z.1∉F):RiG tS lo w' v L Z:=
 ⟨ownsRow_touch h.own t hv,h.len,h.apart,fun i R z hR hZ=>by
  obtain⟨h0,h1,h2⟩:=h.rows i R z hR hZ
  exact⟨h0,Nat.lt_of_lt_of_le h1 t.size,h2.touch t h1 (hz z (List.mem_of_getElem? hZ))⟩⟩
theorem RiG.lt {tS:TypeId} {lo:Nat} {w:World} {v:Value} {L:List (List Hf)} {Z:List (Nat × Nat)} (h:RiG tS lo w v L Z) {z:Nat × Nat} (hz:z∈Z):z.1<w.heap.size:=by
 obtain⟨i,hi⟩:=List.mem_iff_getElem?.1 hz
 have hl:=(List.getElem?_eq_some_iff.1 hi).1
 have hR:=List.getElem?_eq_getElem (l:=L) (i:=i) (by rw[←h.len];exact hl)
 exact(h.rows i _ z hR hi).2.1
theorem RiG.add {tS:TypeId} {lo g c:Nat} {w w':World} {v v':Value} {L:List (List Hf)} {Z:List (Nat × Nat)} {R:List Hf} {q:Obj} (h:RiG tS lo w v L Z) (hl:lo≤g) (hg:g<w.heap.size) (hR:HsAt w g 0 R) (hne:v.ownBlock≠some g)
  (hown:w'.ownsRow lo tS 1 v' (L.length+1) (ziv L Z++[.slice (some ⟨g,0,none⟩) R.length c])) (hgr:(w.alloc q).grownBy w' v.ownBlock) (hat: ∀b,v'.ownBlock=some b→v.ownBlock=some b∨(w.alloc q).heap.size≤b):RiG tS lo w' v' (L++[R]) (Z++[(g,c)]):=by
 have t:Touch v.ownBlock.toList w w':=(Touch.of_below (F:=v.ownBlock.toList) (below_alloc (o:=q) (Below.refl w.heap.size w))).trans (Touch.of_grown hgr) (fun x hx=> .inl hx)
 have h2:=h.touch (F:=v.ownBlock.toList) t
 refine⟨by rw[ziv_app h.len,List.length_append];exact hown,by simp[h.len],fun z hz e=> ?_,fun i S z hS hZ=> ?_⟩
 ·have hz':v.ownBlock≠some z.1∧z.1<w.heap.size:=by
   rcases List.mem_append.1 hz with hz|hz
   ·exact⟨h.apart z hz,h.lt hz⟩
   ·simp at hz;subst hz;exact⟨hne,hg⟩
  rcases hat _ e with h1|h1
  ·exact hz'.1 h1
  ·simp at h1;omega
 ·by_cases hi:i<L.length
  ·rw[List.getElem?_append_left hi] at hS
   rw[List.getElem?_append_left (by rw[h.len];exact hi)] at hZ
   obtain⟨h0,h1,h3⟩:=h.rows i S z hS hZ
   exact⟨h0,Nat.lt_of_lt_of_le h1 t.size,h3.touch t h1 (fun hm=>h.apart z (List.mem_of_getElem? hZ) (Option.mem_toList.1 hm))⟩
  ·have hlt:=(List.getElem?_eq_some_iff.1 hS).1
   simp at hlt
   obtain rfl:i=L.length:=by omega
   rw[List.getElem?_append_right (Nat.le_refl _)] at hS
   rw[List.getElem?_append_right (by rw[h.len];exact Nat.le_refl _),h.len] at hZ
   simp at hS hZ
   subst hS hZ
   exact⟨hl,Nat.lt_of_lt_of_le hg t.size,hR.touch t hg (fun hm=>hne (Option.mem_toList.1 hm))⟩
theorem RiG.in_ {tS:TypeId} {lo n c:Nat} {w:World} {a:Option Addr} {L:List (List Hf)} {Z:List (Nat × Nat)} (h:RiG tS lo w (.slice a n c) L Z) (hn:n=L.length):RgIn w w.heap.size a n L:=by
 subst hn
 refine⟨rfl, ?_⟩
 rcases Nat.eq_zero_or_pos L.length with h0|h0
 ·exact .inl h0
 ·obtain⟨g,cap,e⟩:=ownsRow_form h.own h0
  injection e with e1 e2 e3
  subst e1
  refine .inr ⟨g,0,rfl,(h.own.lt g rfl).2,fun i R hi=> ?_⟩
  have hl:=(List.getElem?_eq_some_iff.1 hi).1
  have hZ:=List.getElem?_eq_getElem (l:=Z) (i:=i) (by rw[h.len];exact hl)
  obtain⟨h0,h1,h2⟩:=h.rows i R _ hi hZ
  have hc:=(addr_add0 g i)▸h.own.cells (g:=g) rfl (j:=i) (u:= .slice (some ⟨(Z[i]'(by rw[h.len];exact hl)).1,0,none⟩) R.length (Z[i]'(by rw[h.len];exact hl)).2) (by unfold ziv;rw[List.getElem?_zipWith,hi,hZ])
  exact⟨_,_,by simpa using hc,rfl, .inr ⟨_,0,rfl,h1,h2⟩⟩
theorem RiG.out_ {tS:TypeId} {lo n c:Nat} {w:World} {a:Option Addr} {L:List (List Hf)} {Z:List (Nat × Nat)} (h:RiG tS lo w (.slice a n c) L Z) (hn:n=L.length):RgOut lo w a L:=by
 subst hn
 rcases Nat.eq_zero_or_pos L.length with h0|h0
 ·exact .inl (List.eq_nil_of_length_eq_zero h0)
 ·obtain⟨g,cap,e⟩:=ownsRow_form h.own h0
  injection e with e1 e2 e3
  subst e1
  refine .inr ⟨g,rfl,(h.own.lt g rfl).1,(h.own.lt g rfl).2,fun i R hi=> ?_⟩
  have hl:=(List.getElem?_eq_some_iff.1 hi).1
  have hZ:=List.getElem?_eq_getElem (l:=Z) (i:=i) (by rw[h.len];exact hl)
  obtain⟨h0,h1,h2⟩:=h.rows i R _ hi hZ
  have hc:=(addr_add0 g i)▸h.own.cells (g:=g) rfl (j:=i) (u:= .slice (some ⟨(Z[i]'(by rw[h.len];exact hl)).1,0,none⟩) R.length (Z[i]'(by rw[h.len];exact hl)).2) (by unfold ziv;rw[List.getElem?_zipWith,hi,hZ])
  exact⟨_,_,by simpa using hc,h0,h1,h2⟩
theorem RgOut.at_ {lo lb loff c k:Nat} {w:World} {a:Option Addr} {L:List (List Hf)} {R:List Hf} (h:RgOut lo w (some ⟨lb,loff,none⟩) L) (hR:L[k]? =some R) (hc:w.cell? ⟨lb,loff+k,none⟩=some (.slice a R.length c)): ∃g,a=some ⟨g,0,none⟩∧lo≤g∧g<w.heap.size∧HsAt w g 0 R:=by
 rcases h with rfl|⟨b,e, -, -,hs⟩
 ·simp at hR
 ·injection e with e
  injection e with e1 e2
  subst e1 e2
  obtain⟨g,c',hx,h1,h2,h3⟩:=hs k R hR
  rw[Nat.zero_add,hx] at hc
  injection hc with hc
  injection hc with hc
  exact⟨g,hc.symm,h1,h2,h3⟩
end Go.Proofs.YthopjhifepijiaaGreat
namespace Go.Proofs.YthopjhifepijiaaGreat
open Go.RowKit Go.Joins
theorem hfC_one {R:List Hf}: ∀u∈hfC R,u.oneCell'=true:=fun u hu=>by
 unfold hfC at hu
 obtain⟨h,_,hh⟩:=List.mem_flatMap.1 hu
 simp at hh
 rcases hh with rfl|rfl<;>rfl
theorem hfC_len (R:List Hf):(hfC R).length=R.length*2:=by
 unfold hfC
 induction R with
 |nil=>rfl
 |cons h R ih=>rw[List.flatMap_cons,List.length_append,ih];simp;omega
structure RgT (p:PL) (w1 wr:World) (k:Nat) (ov mv:Value) (L:List (List Hf)) (Z:List (Nat × Nat)) (Mt:List Hf):Prop where
 s:RngS p k L Mt
 pre:PreM p Mt
 out:RiG 33 w1.heap.size wr ov L Z
 met:wr.ownsRow w1.heap.size 91 2 mv Mt.length (hfC Mt)
 sep: ∀z∈Z,mv.ownBlock≠some z.1
 blw:Below w1.heap.size w1 wr
theorem RgT.later {p:PL} {w1 wr w5:World} {k:Nat} {ov mv:Value} {L:List (List Hf)} {Z:List (Nat × Nat)} {Mt:List Hf} (h:RgT p w1 wr k ov mv L Z Mt) (b:Below wr.heap.size wr w5):RgT p w1 w5 k ov mv L Z Mt:=
 ⟨h.s,h.pre,h.out.touch (Touch.of_below (F:=[]) b) (by simp) (by simp),ownsRow_touch h.met (Touch.of_below (F:=[]) b) (by simp),h.sep,below_step b h.blw⟩
theorem RgT.box {p:PL} {w1 w4 W:World} {k:Nat} {ov mv:Value} {L:List (List Hf)} {Z:List (Nat × Nat)} {Mt:List Hf} (h:RgT p w1 w4 k ov mv L Z Mt) (t:Touch [w4.heap.size] w4 W):RgT p w1 W k ov mv L Z Mt:=
 ⟨h.s,h.pre,h.out.touch t (fun g hg hm=>by have:=(h.out.own.lt g hg).2;simp at hm;omega) (fun z hz hm=>by have:=h.out.lt hz;simp at hm;omega),ownsRow_touch h.met t (fun g hg hm=>by have:=(h.met.lt g hg).2;simp at hm;omega),h.sep,h.blw.trans (Touch.below t h.blw.size (by intro b hb;have:=h.blw.size;simp at hb;omega))⟩
theorem own_cells {w:World} {base n c g:Nat} {t:TypeId} {l:List Value} {size:Nat} (h:w.ownsRow base t size (.slice (some ⟨g,0,none⟩) n c) n l): ∀(j:Nat) (u:Value),l[j]? =some u→w.cell? ((⟨g,0,none⟩:Addr).add j)=some u:=fun j u hu=>h.cells (g:=g) rfl (j:=j) (u:=u) hu
set_option maxRecDepth 100000 in
set_option maxHeartbeats 16000000 in
theorem r16rings_any {w:World} {B vn vc en ec:Nat} {va ea:Option Addr} {p:PL} (r:RightP p) (hv:VsIn w B va vn p.vs) (he:EsIn w B ea en p.es) (hB:B≤w.heap.size):
  Calls Tryz.prog 31 #[.agg #[.slice va vn vc, .slice ea en ec]] w fun e w'=>(∃a n c,e= .returned (.slice a n c)∧RgIn w' w'.heap.size a n (ringsP p)∧RgOut w.heap.size w' a (ringsP p))∧Below w.heap.size w w':=by
 have hm:en≤1024:=by have:=r.ne;have:=he.1;omega
 have hlen:(halvesE p.es).length=2*en:=by rw[halves_len,he.1]
 have HHV:=fun(W:World) (hb:Below w.heap.size w W)=>Lib.hid (r16halves_any (w:=W) (ec:=ec) (he.below (hb.mono hB)) (Nat.le_trans hB hb.size) (by omega) (.slice va vn vc) ⟨_,_,_,rfl⟩)
 have HNX:=fun(W:World) (hb:Below w.heap.size w W) (h:Hf) (hm:h∈halvesE p.es)=>Lib.hid (r16next_any (w:=W) (vc:=vc) (ec:=ec) r (hv.below (hb.mono hB)) (he.below (hb.mono hB)) (Nat.le_trans hB hb.size) h hm)
 obtain⟨i0,hi,hz0,hz1,hz2⟩:=info_parts Tryz.infoHf
 obtain⟨j0,hj0,hy0,hy1,hy2⟩:=info_parts Tryz.infoHs
 obtain⟨M,hM⟩: ∃M,M=2*en:=⟨_,rfl⟩
 have hM3:M=2*p.es.length:=by have:=he.1;omega
 rw[←hM] at HHV hlen
 have hM2:M≤2048:=by omega
 have HLN:=Lib.hid hlen
 have HML:=Lib.hid hM3
 have HR:=Lib.hid r
 clear hv he r hlen hM hM3
 go_enter Tryz.func31,Tryz.ntmps31
 go_wp2_with fail
 first|refine wp_name (fun W hW=> ?_)|refine calls_name (fun W hW=> ?_)
 have HW:Hid (Below w.heap.size w W):=Lib.hid (by rw[←hW];repeat (first|exact Below.refl _ _|refine below_alloc ?_))
 have HWs:Hid (W.heap.size=w.heap.size+1):=Lib.hid (by rw[←hW];simp)
 have HBW:Hid (W.heap.size≤W.heap.size):=Lib.hid (by have:=HWs.out;omega)
 have HC:=fun(W1:World) (hb:Below (W.heap.size) W W1)=>Lib.hid (show W1.cell? ⟨w.heap.size,0,none⟩=some (.slice va vn vc)∧W1.cell? ⟨w.heap.size,1,none⟩=some (.slice ea en ec) from by have hs:=HWs.out;refine⟨?_, ?_⟩<;>(refine(hb.cell (by dsimp only;omega)).trans ?_;rw[←hW];clear hW;go_simp))
 have HB:=Lib.hid (Below.refl (W.heap.size) W)
 clear hW
 have HZ:=fun(W1:World) (hb:W.heap.size≤W1.heap.size)=>Lib.hid (show w.heap.size<W1.heap.size from by have:=HWs.out;omega)
 obtain⟨qx0,qx1⟩:=(HC _ HB.out).out
 have rx0:=(HZ _ HB.out.size).out
 refine((HHV _ HW.out).out).mono ?_
 rintro e w1 ⟨⟨aa,ca,rfl,hall⟩,hb2⟩
 have HB:=bnx HB HBW hb2
 clear qx0 qx1 rx0
 obtain⟨qx0,qx1⟩:=(HC _ HB.out).out
 clear hb2
 have rx0:=(HZ _ HB.out.size).out
 have HAL:=Lib.hid hall
 clear hall
 go_wp2_with fail
 have HX1:=Lib.hid (HW.out.trans (HB.out.mono HW.out.size))
 have HSW:=Lib.hid (show W.heap.size≤w1.heap.size from HB.out.size)
 clear qx0 qx1 rx0
 go_loopw [3,4,6] (fun o mt v wr=> ∃(k:Nat) (ov mv:Value) (L:List (List Hf)) (Z:List (Nat × Nat)) (Mt:List Hf),k≤M∧v= .int .i64 k∧ov=o∧mv=mt∧RgT p w1 wr k ov mv L Z Mt) (fun _ _ v _=>M - (intOf v).toNat)
 case atStart=>exact⟨0,_,_,[],[],[],Nat.zero_le _,rfl,rfl,rfl,RngS.start p,fun x hx hn=>by simp at hn,RiG.nil _ _ _,World.ownsRow_nil _ _ _ _,by simp,Below.refl _ _⟩
 case round=>
  obtain⟨k,ov,mv,L,Z,Mt,hk,rfl,rfl,rfl,hI⟩:=hrel
  obtain⟨wq,rfl⟩: ∃x:World,x=wr:=⟨_,rfl⟩
  have HI:=Lib.hid hI
  have HB:=Lib.hid (HB.out.trans (hI.blw.mono HB.out.size))
  have HX:=Lib.hid (HX1.out.trans (hI.blw.mono HX1.out.size))
  clear hI
  obtain⟨qx0,qx1⟩:=(HC _ HB.out).out
  have rx0:=(HZ _ HB.out.size).out
  by_cases hlt:k<M
  ·obtain⟨x,hx⟩: ∃x,(halvesE p.es)[k]? =some x:=⟨_,List.getElem?_eq_getElem (by have:=HLN.out;omega)⟩
   have HXK:=Lib.hid hx
   have HXM:=Lib.hid (List.mem_of_getElem? hx)
   obtain⟨ab,aoff,rfl,hab,hcell⟩:=(hsIn_of_own HAL.out HLN.out.symm).row (by omega)
   obtain⟨c8,c9⟩:=hcell wq HI.out.blw k x hx
   clear hcell hx
   obtain⟨ma,mc,rfl⟩:=own_form HI.out.met
   have HML2:=Lib.hid (show Mt.length≤M from by have h1:=nodup_len HI.out.s.nd HI.out.s.mem;have:=HLN.out;omega)
   have HHS:=Lib.hid (r16has_any (c:=mc) (hsIn_of_own HI.out.met rfl) (Nat.le_refl _) (by have:=HML2.out;omega) x)
   cases hin:decide (x∈Mt)
   ·rw[hin] at HHS
    have HNI:=Lib.hid (of_decide_eq_false hin)
    clear hin
    obtain⟨m,hml⟩: ∃m,m=Mt.length:=⟨_,rfl⟩
    rw[←hml] at HHS ⊢
    have HMM:=Lib.hid hml
    clear hml
    go_wp2_with fail
    refine HHS.out.mono ?_
    rintro e w4 ⟨rfl,hb4⟩
    have HI:=Lib.hid (HI.out.later hb4)
    have HX:=Lib.hid (below_step hb4 HX.out)
    have HB:=Lib.hid (below_next HB.out (Nat.le_trans HBW.out HB.out.size) hb4)
    obtain⟨d8,d9⟩:w4.cell? ⟨ab,aoff+k*2,none⟩=some (.int .i64 x.edge)∧w4.cell? ⟨ab,aoff+k*2+1,none⟩=some (.bool x.back):=by
     have habq:ab<wq.heap.size:=by have:=HB.out.size;exact cell_lt c8
     exact⟨(hb4.cell (p:=⟨ab,_,none⟩) habq).trans c8,(hb4.cell (p:=⟨ab,_,none⟩) habq).trans c9⟩
    clear hb4
    clear qx0 qx1 rx0
    obtain⟨qx0,qx1⟩:=(HC _ HB.out).out
    have rx0:=(HZ _ HB.out.size).out
    go_wp2_with fail
    first|refine wp_name (fun W2 hW2=> ?_)|refine calls_name (fun W2 hW2=> ?_)
    have HW2:Hid (Below w4.heap.size w4 W2):=Lib.hid (by rw[←hW2];repeat (first|exact Below.refl _ _|refine below_alloc ?_))
    have HWs2:Hid (W2.heap.size=w4.heap.size+1):=Lib.hid (by rw[←hW2];simp)
    have HBW2:Hid (W2.heap.size≤W2.heap.size):=Lib.hid (by have:=HWs2.out;omega)
    have HC2:=fun(W1:World) (hb:Below (W2.heap.size) W2 W1)=>Lib.hid (show W1.cell? ⟨w.heap.size,0,none⟩=some (.slice va vn vc)∧W1.cell? ⟨w.heap.size,1,none⟩=some (.slice ea en ec)∧W1.cell? ⟨w4.heap.size,0,none⟩=some (.int .i64 x.edge)∧W1.cell? ⟨w4.heap.size,1,none⟩=some (.bool x.back) from by have ho:=(HC W1 (in_of HB.out HW2.out hb (Nat.le_trans HBW.out HB.out.size) (by have h1:=HBW.out;have h2:=HB.out.size;have h3:=HW2.out.size;have h4:=HWs2.out;omega))).out;have hs:=HWs2.out;have z1:=HWs.out;have z2:=HB.out.size;refine⟨ho.1,ho.2, ?_, ?_⟩<;>(refine(hb.cell (by dsimp only;omega)).trans ?_;rw[←hW2];clear hW2;go_simp))
    have HB2:=Lib.hid (Below.refl (W2.heap.size) W2)
    have HZ2:=fun(W1:World) (hb:W2.heap.size≤W1.heap.size)=>Lib.hid (show w.heap.size<W1.heap.size∧w4.heap.size<W1.heap.size from by have o0:=(HZ _ HB.out.size).out;have h3:=HW2.out.size;have:=HWs2.out;refine⟨?_, ?_⟩<;>omega)
    clear qx0 qx1 rx0
    obtain⟨qx0,qx1,qx2,qx3⟩:=(HC2 _ HB2.out).out
    obtain⟨rx0,rx1⟩:=(HZ2 _ HB2.out.size).out
    have HBX:=Lib.hid (show W2.rowIs w4.heap.size 91 2 (hfF x) from by
     have:=World.rowIs_alloc w4 #[.int .i64 x.edge, .bool x.back] 91 (hfF x) (fun i hi=>by rcases i with _|_|i<;>first|rfl|(simp at hi;omega))
     rw[hW2] at this
     exact this)
    clear hW2 d8 d9 c8 c9
    have HI2:=Lib.hid (HI.out.later HW2.out)
    have HX2:=Lib.hid (below_step HW2.out HX.out)
    have hws:=HWs2.out
    clear qx0 qx1 qx2 qx3 rx0 rx1
    go_loopw [7,9] (fun rv0 jv wi=> ∃(rv:Value) (R:List Hf) (h:Hf),jv= .int .i64 R.length∧rv=rv0∧OrbT p Mt x R h∧wi.ownsRow W2.heap.size 91 2 rv R.length (hfC R)∧wi.rowIs w4.heap.size 91 2 (hfF h)∧Touch [w4.heap.size] W2 wi) (fun _ jv _=>M - (intOf jv).toNat)
    case atStart=>exact⟨_,[],x,rfl,rfl,⟨OrbS.start HI.out.s.nd HI.out.s.mem HXM.out,HI.out.pre,HNI.out, .inl ⟨rfl,rfl⟩⟩,World.ownsRow_nil _ _ _ _,HBX.out,Touch.refl _ _⟩
    case round=>
     obtain⟨rv,R,h,rfl,rfl,ho,how,hbx,ht⟩:=hrel
     have HO:=Lib.hid ho
     have HOW:=Lib.hid how
     have HBH:=Lib.hid hbx
     have HT:=Lib.hid ht
     have hwr:w4.heap.size<wr.heap.size:=by have:=ht.size;omega
     have HXR:=Lib.hid (HX2.out.trans (Touch.below ht (B:=w.heap.size) (Nat.le_trans HX2.out.size (Nat.le_refl _)) (by intro b hb;simp at hb;have:=HX.out.size;omega)))
     have HBR:=Lib.hid (show Below W.heap.size W wr from(HB.out.trans (HW2.out.mono HB.out.size)).trans (Touch.below ht (by have:=HB.out.size;omega) (by intro b hb;simp at hb;have:=HB.out.size;omega)))
     have HRLN:=Lib.hid (show R.length≤M from by have:=ho.s.len;have:=HML.out;omega)
     have hrl:=HRLN.out
     obtain⟨p0,p1⟩:=(HC _ HBR.out).out
     have b0:wr.cell? ⟨w4.heap.size,0,none⟩=some (.int .i64 h.edge):=World.rowIs.cell hbx (i:=0) (by decide)
     have b1:wr.cell? ⟨w4.heap.size,1,none⟩=some (.bool h.back):=World.rowIs.cell hbx (i:=1) (by decide)
     have bf:=fun i=>World.rowIs.frozen hbx i
     obtain⟨ra,rc,rfl⟩:=own_form how
     have HHR:=Lib.hid (r16has_any (c:=rc) (hsIn_of_own how rfl) (Nat.le_refl _) (by omega) h)
     have HNH:=fun(W1:World) (hb:Below w.heap.size w W1)=>HNX W1 hb h ho.s.hm
     clear ho how hbx ht
     by_cases hrm:R.length<M
     ·cases hin2:decide (h∈R)
      ·rw[hin2] at HHR
       have HNR:=Lib.hid (of_decide_eq_false hin2)
       clear hin2
       go_wp2_with fail
       refine HHR.out.mono ?_
       rintro e w6 ⟨rfl,hb6⟩
       have HT6:=Lib.hid (touch_later HT.out hb6)
       have HO6:=Lib.hid (ownsRow_touch HOW.out (Touch.of_below (F:=[]) hb6) (by simp))
       have HH6:=Lib.hid (rowIs_touch HBH.out (Touch.of_below (F:=[]) hb6) (by simp))
       have hs6:=hb6.size
       clear hb6 b0 b1 bf p0 p1
       have b0:w6.cell? ⟨w4.heap.size,0,none⟩=some (.int .i64 h.edge):=World.rowIs.cell HH6.out (i:=0) (by decide)
       have b1:w6.cell? ⟨w4.heap.size,1,none⟩=some (.bool h.back):=World.rowIs.cell HH6.out (i:=1) (by decide)
       go_wp2_with (at_builtin;go_loud (refine wpList_append_near _ rfl (.tmp 40) (.tmp 42) 33 rfl W2.heap.size 91 i0 (.agg #[.int .i64 0, .bool false]) 2 16 Tryz.underlying33 hi hz0 hz1 hz2 rfl (by decide) (.slice ra R.length rc) R.length _ rfl (HO6.out.alloc _) ⟨w6.heap.size,0,none⟩ 1 1 [.int .i64 h.edge, .bool h.back] rfl (by decide) rfl (cell_list_at _ [.int .i64 h.edge, .bool h.back] _ rfl) (by intro u hu;simp at hu;rcases hu with rfl|rfl<;>rfl) (by unfold maxLen;omega) (by omega) (by have:=HT6.out.size;simp;omega) ?_;intro g6 cap6 w7 hown hgr hat;have HO7:=Lib.hid hown;have kk:=(Touch.of_below (F:=(Value.slice ra R.length rc).ownBlock.toList) (below_alloc (o:= .cells #[.int .i64 h.edge, .bool h.back] 91) (Below.refl w6.heap.size w6))).trans (Touch.of_grown hgr) (fun x hx=> .inl hx);have HH7:=Lib.hid (rowIs_touch HH6.out kk (fun hm=>by have:=(HO6.out.lt _ (Option.mem_toList.1 hm)).1;omega));have HT7:=Lib.hid (HT6.out.trans kk (fun q hq=> .inr (HO6.out.lt q (Option.mem_toList.1 hq)).1));have HX7:=Lib.hid (show Below w.heap.size w w7 from HX2.out.trans (Touch.below HT7.out (B:=w.heap.size) HX2.out.size (by intro b hb;simp at hb;have:=HX.out.size;omega)));have HB7:=Lib.hid (show Below W.heap.size W w7 from(HB.out.trans (HW2.out.mono HB.out.size)).trans (Touch.below HT7.out (by have:=HB.out.size;omega) (by intro b hb;simp at hb;have:=HB.out.size;omega)));clear hown hgr hat kk b0 b1;obtain⟨p0,p1⟩:=(HC _ HB7.out).out;have b0:w7.cell? ⟨w4.heap.size,0,none⟩=some (.int .i64 h.edge):=World.rowIs.cell HH7.out (i:=0) (by decide);have b1:w7.cell? ⟨w4.heap.size,1,none⟩=some (.bool h.back):=World.rowIs.cell HH7.out (i:=1) (by decide)))
       refine(HNH _ HX7.out).out.mono ?_
       rintro e w8 ⟨rfl,hb8⟩
       have HO8:=Lib.hid (ownsRow_touch HO7.out (Touch.of_below (F:=[]) hb8) (by simp))
       have HH8:=Lib.hid (rowIs_touch HH7.out (Touch.of_below (F:=[]) hb8) (by simp))
       have HT8:=Lib.hid (touch_later HT7.out hb8)
       clear hb8 b0 b1 p0 p1
       have b0:w8.cell? ⟨w4.heap.size,0,none⟩=some (.int .i64 h.edge):=World.rowIs.cell HH8.out (i:=0) (by decide)
       have b1:w8.cell? ⟨w4.heap.size,1,none⟩=some (.bool h.back):=World.rowIs.cell HH8.out (i:=1) (by decide)
       have bf:=fun i=>World.rowIs.frozen HH8.out i
       have hlt8:=World.rowIs.lt HH8.out
       go_wp2_with fail
       go_roundw
       case rel=>
        refine⟨_,R++[h],nextP p h,by rw[List.length_append];go_num,rfl,HO.out.step HR.out HNR.out, ?_,World.rowIs.congr (World.rowIs.set (World.rowIs.set HH8.out 0 _) 1 _) (fun i hi=>by rcases i with _|_|i<;>first|rfl|exact absurd hi (by omega)),(HT8.out.setCell (.inl (by simp)) _).setCell (.inl (by simp)) _⟩
        rw[List.length_append,hfC_app]
        exact ownsRow_touch HO8.out (((Touch.refl [w4.heap.size] w8).setCell (.inl (by simp)) _).setCell (.inl (by simp)) _) (fun q hq hm=>by have:=(HO8.out.lt q hq).1;simp at hm;omega)
       case measure=>simp[intOf];omega
      ·rw[hin2] at HHR
       have HRI:=Lib.hid (of_decide_eq_true hin2)
       clear hin2
       go_wp2_with fail
       refine HHR.out.mono ?_
       rintro e w6 ⟨rfl,hb6⟩
       have HT6:=Lib.hid (touch_later HT.out hb6)
       have HO6:=Lib.hid (ownsRow_touch HOW.out (Touch.of_below (F:=[]) hb6) (by simp))
       clear hb6 b0 b1 bf p0 p1
       have HIW:=Lib.hid (HI.out.box ((Touch.of_below (F:=[w4.heap.size]) HW2.out).trans HT6.out (fun b hb=> .inl hb)))
       have hpos:0<R.length:=List.length_pos_iff.2 (by intro e;have:=HRI.out;rw[e] at this;cases this)
       obtain⟨rg,rcap,eqs⟩:=ownsRow_form HO6.out hpos
       injection eqs with eq1 eq2 eq3
       subst eq1 eq3
       clear eq2
       have HMT:=Lib.hid (show w6.ownsRow w1.heap.size 91 2 (.slice ma m mc) m (hfC Mt) from by rw[HMM.out];exact HIW.out.met)
       have HSP:=Lib.hid (show∀z∈Z,(Value.slice ma m mc).ownBlock≠some z.1 from by rw[HMM.out];exact HIW.out.sep)
       have HMX:=Lib.hid (show∀g,(Value.slice ma m mc).ownBlock=some g→g<w4.heap.size from fun g hg=>by rw[HMM.out] at hg;exact(HI.out.met.lt g hg).2)
       have HRX:=Lib.hid (show W2.heap.size≤rg∧rg<w6.heap.size from HO6.out.lt rg rfl)
       have HLS:=Lib.hid (HO.out.s.len)
       have HLL:=Lib.hid (HI.out.s.len HR.out)
       go_wp2_with (first|(at_builtin;go_loud (refine wpList_append_near _ rfl (.tmp 47) (.tmp 48) 33 rfl w1.heap.size 91 i0 (.agg #[.int .i64 0, .bool false]) 2 16 Tryz.underlying33 hi hz0 hz1 hz2 rfl (by decide) (.slice ma m mc) m _ rfl HMT.out ⟨rg,0,none⟩ R.length rc (hfC R) rfl hpos (hfC_len R) (own_cells HO6.out) hfC_one (by have:=HLS.out;have:=HMM.out;have:=HML.out;unfold maxLen;omega) (by have:=HLS.out;have:=HMM.out;have:=HML.out;omega) HIW.out.blw.size ?_;intro g5 cap5 w9 hown hgr hat;have HM9:=Lib.hid hown;have kk:=Touch.of_grown hgr;have hs9:=kk.size;have HO9:=Lib.hid (ownsRow_touch HO6.out kk (fun q hq hm=>by have e:rg=q:=Option.some.inj hq;have h8:=HMX.out q (Option.mem_toList.1 hm);have:=HRX.out;have:=HW2.out.size;omega));have HU9:=Lib.hid (HIW.out.out.touch kk (fun g hg hm=>own_apart HIW.out.out.own HMT.out (by decide) hg (Option.mem_toList.1 hm)) (fun z hz hm=>HSP.out z hz (Option.mem_toList.1 hm)));have HS9:=Lib.hid (show(∀z∈Z,g5≠z.1)∧g5≠rg from⟨fun z hz e=>by rcases hat with h1|h1;exact HSP.out z hz (e▸h1);have:=HIW.out.out.lt hz;omega,fun e=>by rcases hat with h1|h1;have:=HMX.out _ h1;have:=HRX.out;omega;have:=HRX.out;omega⟩);have HB9:=Lib.hid (show Below w1.heap.size w1 w9 from HIW.out.blw.grown hgr HIW.out.blw.size (fun q hq=>(HMT.out.lt q hq).1));clear hown hgr hat kk))|(at_builtin;go_loud (refine wpList_append_near _ rfl (.tmp 50) (.tmp 52) 34 rfl w1.heap.size 33 j0 (.slice none 0 0) 1 24 Tryz.underlying34 hj0 hy0 hy1 hy2 rfl (by decide) ov L.length (ziv L Z) rfl (HU9.out.own.alloc _) ⟨w9.heap.size,0,none⟩ 1 1 [.slice (some ⟨rg,0,none⟩) R.length rc] rfl (by decide) rfl (cell_list_at _ [.slice (some ⟨rg,0,none⟩) R.length rc] _ rfl) (by simp[Value.oneCell']) (by have:=HLL.out;have:=HML.out;unfold maxLen;omega) (by have:=HLL.out;have:=HML.out;omega) (by have:=HB9.out.size;simp;omega) ?_;intro g7 cap7 w10 hown hgr hat;have HU10:=Lib.hid (HU9.out.add (g:=rg) (c:=rc) (R:=R) (by have h1:=HRX.out;have h2:=HI.out.blw.size;have h3:=HW2.out.size;omega) (by have:=HRX.out;omega) (own_hs HO9.out) (fun e=>by have:=(HI.out.out.own.lt rg e).2;have:=HRX.out;omega) hown hgr (fun b hb=>by cases hb;exact hat));have HM10:=Lib.hid (ownsRow_touch (HM9.out.alloc (.cells #[.slice (some ⟨rg,0,none⟩) R.length rc] 33)) (Touch.of_grown hgr) (fun q hq hm=>own_apart HU9.out.own HM9.out (by decide) (Option.mem_toList.1 hm) hq));have HB10:=Lib.hid (show Below w1.heap.size w1 w10 from(HB9.out.alloc HB9.out.size _).grown hgr (by have:=HB9.out.size;simp;omega) (fun q hq=>(HU9.out.own.lt q hq).1));clear hown hgr hat)))
       go_roundw
       case rel=>
        have hring:=HO.out.ring HR.out HRI.out
        have hs:=HI.out.s.step HXK.out HO.out.s (List.mem_append_right _ HRI.out)
        rw[if_neg hring.ne] at hs
        refine⟨k+1,_,_,L++[R],Z++[(rg,rc)],Mt++R,by omega,by go_num,rfl,rfl,hs,HI.out.pre.add HR.out hring,HU10.out, ?_,fun z hz e=> ?_,HB10.out⟩
        ·rw[List.length_append, ←HMM.out,hfC_app]
         exact HM10.out
        ·injection e with e
         rcases List.mem_append.1 hz with hz|hz
         ·exact HS9.out.1 z hz e
         ·simp at hz;subst hz;exact HS9.out.2 e
       case measure=>simp[intOf];omega
     ·have HRI:=Lib.hid (HO.out.full (by have:=HML.out;omega))
      clear b0 b1 bf p0 p1
      have HIW:=Lib.hid (HI.out.box ((Touch.of_below (F:=[w4.heap.size]) HW2.out).trans HT.out (fun b hb=> .inl hb)))
      have hpos:0<R.length:=List.length_pos_iff.2 (by intro e;have:=HRI.out;rw[e] at this;cases this)
      obtain⟨rg,rcap,eqs⟩:=ownsRow_form HOW.out hpos
      injection eqs with eq1 eq2 eq3
      subst eq1 eq3
      clear eq2
      have HMT:=Lib.hid (show wr.ownsRow w1.heap.size 91 2 (.slice ma m mc) m (hfC Mt) from by rw[HMM.out];exact HIW.out.met)
      have HSP:=Lib.hid (show∀z∈Z,(Value.slice ma m mc).ownBlock≠some z.1 from by rw[HMM.out];exact HIW.out.sep)
      have HMX:=Lib.hid (show∀g,(Value.slice ma m mc).ownBlock=some g→g<w4.heap.size from fun g hg=>by rw[HMM.out] at hg;exact(HI.out.met.lt g hg).2)
      have HRX:=Lib.hid (show W2.heap.size≤rg∧rg<wr.heap.size from HOW.out.lt rg rfl)
      have HLS:=Lib.hid (HO.out.s.len)
      have HLL:=Lib.hid (HI.out.s.len HR.out)
      go_wp2_with (first|(at_builtin;go_loud (refine wpList_append_near _ rfl (.tmp 47) (.tmp 48) 33 rfl w1.heap.size 91 i0 (.agg #[.int .i64 0, .bool false]) 2 16 Tryz.underlying33 hi hz0 hz1 hz2 rfl (by decide) (.slice ma m mc) m _ rfl HMT.out ⟨rg,0,none⟩ R.length rc (hfC R) rfl hpos (hfC_len R) (own_cells HOW.out) hfC_one (by have:=HLS.out;have:=HMM.out;have:=HML.out;unfold maxLen;omega) (by have:=HLS.out;have:=HMM.out;have:=HML.out;omega) HIW.out.blw.size ?_;intro g5 cap5 w9 hown hgr hat;have HM9:=Lib.hid hown;have kk:=Touch.of_grown hgr;have hs9:=kk.size;have HO9:=Lib.hid (ownsRow_touch HOW.out kk (fun q hq hm=>by have e:rg=q:=Option.some.inj hq;have h8:=HMX.out q (Option.mem_toList.1 hm);have:=HRX.out;have:=HW2.out.size;omega));have HU9:=Lib.hid (HIW.out.out.touch kk (fun g hg hm=>own_apart HIW.out.out.own HMT.out (by decide) hg (Option.mem_toList.1 hm)) (fun z hz hm=>HSP.out z hz (Option.mem_toList.1 hm)));have HS9:=Lib.hid (show(∀z∈Z,g5≠z.1)∧g5≠rg from⟨fun z hz e=>by rcases hat with h1|h1;exact HSP.out z hz (e▸h1);have:=HIW.out.out.lt hz;omega,fun e=>by rcases hat with h1|h1;have:=HMX.out _ h1;have:=HRX.out;omega;have:=HRX.out;omega⟩);have HB9:=Lib.hid (show Below w1.heap.size w1 w9 from HIW.out.blw.grown hgr HIW.out.blw.size (fun q hq=>(HMT.out.lt q hq).1));clear hown hgr hat kk))|(at_builtin;go_loud (refine wpList_append_near _ rfl (.tmp 50) (.tmp 52) 34 rfl w1.heap.size 33 j0 (.slice none 0 0) 1 24 Tryz.underlying34 hj0 hy0 hy1 hy2 rfl (by decide) ov L.length (ziv L Z) rfl (HU9.out.own.alloc _) ⟨w9.heap.size,0,none⟩ 1 1 [.slice (some ⟨rg,0,none⟩) R.length rc] rfl (by decide) rfl (cell_list_at _ [.slice (some ⟨rg,0,none⟩) R.length rc] _ rfl) (by simp[Value.oneCell']) (by have:=HLL.out;have:=HML.out;unfold maxLen;omega) (by have:=HLL.out;have:=HML.out;omega) (by have:=HB9.out.size;simp;omega) ?_;intro g7 cap7 w10 hown hgr hat;have HU10:=Lib.hid (HU9.out.add (g:=rg) (c:=rc) (R:=R) (by have h1:=HRX.out;have h2:=HI.out.blw.size;have h3:=HW2.out.size;omega) (by have:=HRX.out;omega) (own_hs HO9.out) (fun e=>by have:=(HI.out.out.own.lt rg e).2;have:=HRX.out;omega) hown hgr (fun b hb=>by cases hb;exact hat));have HM10:=Lib.hid (ownsRow_touch (HM9.out.alloc (.cells #[.slice (some ⟨rg,0,none⟩) R.length rc] 33)) (Touch.of_grown hgr) (fun q hq hm=>own_apart HU9.out.own HM9.out (by decide) (Option.mem_toList.1 hm) hq));have HB10:=Lib.hid (show Below w1.heap.size w1 w10 from(HB9.out.alloc HB9.out.size _).grown hgr (by have:=HB9.out.size;simp;omega) (fun q hq=>(HU9.out.own.lt q hq).1));clear hown hgr hat)))
      go_roundw
      case rel=>
       have hring:=HO.out.ring HR.out HRI.out
       have hs:=HI.out.s.step HXK.out HO.out.s (List.mem_append_right _ HRI.out)
       rw[if_neg hring.ne] at hs
       refine⟨k+1,_,_,L++[R],Z++[(rg,rc)],Mt++R,by omega,by go_num,rfl,rfl,hs,HI.out.pre.add HR.out hring,HU10.out, ?_,fun z hz e=> ?_,HB10.out⟩
       ·rw[List.length_append, ←HMM.out,hfC_app]
        exact HM10.out
       ·injection e with e
        rcases List.mem_append.1 hz with hz|hz
        ·exact HS9.out.1 z hz e
        ·simp at hz;subst hz;exact HS9.out.2 e
      case measure=>simp[intOf];omega
   ·rw[hin] at HHS
    have HII:=Lib.hid (of_decide_eq_true hin)
    clear hin
    go_wp2_with fail
    refine HHS.out.mono ?_
    rintro e w4 ⟨rfl,hb4⟩
    have HI4:=Lib.hid (HI.out.later hb4)
    clear hb4
    go_wp2_with fail
    go_roundw
    case rel=>
     have hs:=HI4.out.s.step HXK.out (OrbS.start HI4.out.s.nd HI4.out.s.mem HXM.out) (by simpa using HII.out)
     rw[if_pos rfl,List.append_nil] at hs
     exact⟨k+1,_,_,L,Z,Mt,by omega,by go_num,rfl,rfl,hs,HI4.out.pre,HI4.out.out,HI4.out.met,HI4.out.sep,HI4.out.blw⟩
    case measure=>simp[intOf];omega
  ·have hL:=HI.out.s
   obtain rfl:M=k:=by omega
   rw[HML.out] at hL
   have HD:=Lib.hid hL.done
   clear hL
   obtain⟨oa,oc,rfl⟩:=own_form HI.out.out.own
   have HRG:=Lib.hid (HI.out.out.in_ rfl)
   have HRU:=Lib.hid ((HI.out.out.out_ rfl).mono (show w.heap.size≤w1.heap.size from HX1.out.size))
   obtain⟨m,hml⟩: ∃m,m=L.length:=⟨_,rfl⟩
   rw[←hml] at HRG ⊢
   rw[HD.out] at HRG HRU
   clear hml HI
   go_wp2_with fail
   go_ret
   exact⟨⟨oa,m,oc,rfl,HRG.out,HRU.out⟩,HX.out⟩
end Go.Proofs.YthopjhifepijiaaGreat
namespace Go.Proofs.YthopjhifepijiaaGreat
def valD:List Int→Int
 | []=>0
 |d::l=>d+65536*valD l
def okD (l:List Int):Prop:= ∀d∈l,0≤d∧d<65536
def topD (l:List Int):Prop:=l.getLast? ≠some 0
theorem okD_cons {d:Int} {l:List Int}:okD (d::l)↔(0≤d∧d<65536)∧okD l:=by unfold okD;simp
theorem okD_tail {l:List Int} (h:okD l):okD l.tail:=fun d hd=>h d (List.mem_of_mem_tail hd)
theorem okD_head {l:List Int} (h:okD l):0≤l.headD 0∧l.headD 0<65536:=by
 cases l with
 |nil=>simp
 |cons x l=>exact(okD_cons.1 h).1
theorem valD_cut (l:List Int):valD l=l.headD 0+65536*valD l.tail:=by
 cases l with
 |nil=>rfl
 |cons x l=>rfl
theorem valD_nn: ∀ {l:List Int},okD l→0≤valD l
 | [],_=>Int.le_refl _
 |d::l,h=>by
  have h1:=okD_cons.1 h
  have:=valD_nn h1.2
  show 0≤d+65536*valD l
  omega
theorem topD_tail {d:Int} {l:List Int} (h:topD (d::l)):topD l:=by
 unfold topD at*
 cases l with
 |nil=>simp
 |cons x l=>simpa using h
def plusL (n:Nat) (a b:List Int) (c:Int):List Int:=match n with
 |0=>[]
 |n+1=>if a=[]∧b=[]∧c≤0 then [] else(c+a.headD 0+b.headD 0) % 65536::plusL n a.tail b.tail ((c+a.headD 0+b.headD 0) / 65536)
theorem plusL_end (n:Nat):plusL n [] [] 0=[]:=by cases n<;>rfl
theorem plusL_ok: ∀ {n:Nat} {a b:List Int} {c:Int},okD (plusL n a b c)
 |0,_,_,_=>by simp[okD,plusL]
 |n+1,a,b,c=>by
  unfold plusL
  split
  ·simp[okD]
  ·rw[okD_cons]
   exact⟨⟨Int.emod_nonneg _ (by decide),Int.emod_lt_of_pos _ (by decide)⟩,plusL_ok⟩
theorem plusL_val: ∀ {n:Nat} {a b:List Int} {c:Int},okD a→okD b→0≤c→c≤1→a.length<n→b.length<n→valD (plusL n a b c)=valD a+valD b+c
 |0,_,_,_,_,_,_,_,h,_=>absurd h (by omega)
 |n+1,a,b,c,ha,hb,h0,h1,hla,hlb=>by
  have hc:=okD_head ha
  have hd:=okD_head hb
  have ih:(a=[]∧b=[])∨valD (plusL n a.tail b.tail ((c+a.headD 0+b.headD 0) / 65536))=valD a.tail+valD b.tail+(c+a.headD 0+b.headD 0) / 65536:=by
   by_cases hn:n=0
   ·subst hn
    exact .inl ⟨List.eq_nil_of_length_eq_zero (by omega),List.eq_nil_of_length_eq_zero (by omega)⟩
   ·exact .inr (plusL_val (okD_tail ha) (okD_tail hb) (by omega) (by omega) (by rw[List.length_tail];omega) (by rw[List.length_tail];omega))
  unfold plusL
  split
  ·rename_i h
   obtain⟨rfl,rfl,h2⟩:=h
   show(0:Int)=0+0+c
   omega
  ·rename_i hne
   rcases ih with ⟨rfl,rfl⟩|ih
   ·have:c=1:=by
     have: ¬c≤0:=fun h=>hne ⟨rfl,rfl,h⟩
     omega
    subst this
    show(1:Int)+65536*valD (plusL n [] [] 0)=0+0+1
    rw[plusL_end]
    rfl
   ·rw[valD_cut a,valD_cut b]
    show(c+a.headD 0+b.headD 0) % 65536+65536*valD (plusL n a.tail b.tail ((c+a.headD 0+b.headD 0) / 65536))=_
    rw[ih]
    omega
theorem plusL_len: ∀ {n:Nat} {a b:List Int} {c:Int},okD a→okD b→0≤c→c≤1→(plusL n a b c).length≤max a.length b.length+1
 |0,_,_,_,_,_,_,_=>by simp[plusL]
 |n+1,a,b,c,ha,hb,h0,h1=>by
  have hc:=okD_head ha
  have hd:=okD_head hb
  unfold plusL
  split
  ·simp
  ·rename_i hne
   have:=plusL_len (n:=n) (okD_tail ha) (okD_tail hb) (c:=(c+a.headD 0+b.headD 0) / 65536) (by omega) (by omega)
   rw[List.length_tail,List.length_tail] at this
   rw[List.length_cons]
   by_cases h:a=[]∧b=[]
   ·obtain⟨rfl,rfl⟩:=h
    have:c=1:=by
     have: ¬c≤0:=fun h=>hne ⟨rfl,rfl,h⟩
     omega
    subst this
    show(plusL n [] [] 0).length+1≤_
    rw[plusL_end]
    simp
   ·have:0<a.length∨0<b.length:=by
     rcases a with _|⟨x,a⟩
     ·rcases b with _|⟨y,b⟩
      ·exact absurd ⟨rfl,rfl⟩ h
      ·right;simp
     ·left;simp
    omega
theorem plusL_step {n:Nat} {a b:List Int} {c:Int} {k:Nat} (h:k<a.length∨k<b.length∨0<c):plusL (n+1) (a.drop k) (b.drop k) c=(c+(a[k]?).getD 0+(b[k]?).getD 0) % 65536::plusL n (a.drop (k+1)) (b.drop (k+1)) ((c+(a[k]?).getD 0+(b[k]?).getD 0) / 65536):=by
 have e: ∀l:List Int,(l.drop k).headD 0=(l[k]?).getD 0:=fun l=>by
  rw[List.headD_eq_head?_getD,List.head?_drop]
 have e2: ∀l:List Int,(l.drop k).tail=l.drop (k+1):=fun l=>by rw[List.tail_drop]
 show(if _ then _ else _)=_
 rw[if_neg,e,e,e2,e2]
 rintro ⟨h1,h2,h3⟩
 rw[List.drop_eq_nil_iff] at h1 h2
 omega
def minusL:List Int→List Int→Int→List Int
 | [],_,_=>[]
 |x::a,b,w=>(if x - w - b.headD 0<0 then x - w - b.headD 0+65536 else x - w - b.headD 0)::minusL a b.tail (if x - w - b.headD 0<0 then 1 else 0)
theorem minusL_len: ∀(a b:List Int) (w:Int),(minusL a b w).length=a.length
 | [],_,_=>rfl
 |x::a,b,w=>by simp[minusL,minusL_len a]
theorem minusL_ok: ∀ {a b:List Int} {w:Int},okD a→okD b→0≤w→w≤1→okD (minusL a b w)
 | [],_,_,_,_,_,_=>by simp[minusL,okD]
 |x::a,b,w,ha,hb,h0,h1=>by
  have hd:=okD_head hb
  have hx:=(okD_cons.1 ha).1
  unfold minusL
  rw[okD_cons]
  refine⟨by split<;>omega,minusL_ok (okD_cons.1 ha).2 (okD_tail hb) (by split<;>omega) (by split<;>omega)⟩
theorem minusL_val: ∀ {a b:List Int} {w:Int},okD a→okD b→0≤w→w≤1→valD b+w≤valD a→valD (minusL a b w)=valD a - valD b - w
 | [],b,w,_,hb,h0,h1,h=>by
  have:=valD_nn hb
  have h2:valD b+w≤0:=h
  show(0:Int)=0 - valD b - w
  omega
 |x::a,b,w,ha,hb,h0,h1,h=>by
  have hd:=okD_head hb
  have hx:=(okD_cons.1 ha).1
  have hv:=valD_cut b
  have h2:valD b+w≤x+65536*valD a:=h
  unfold minusL
  show(if _ then _ else _)+65536*valD (minusL a b.tail _)=x+65536*valD a - valD b - w
  by_cases hn:x - w - b.headD 0<0
  ·rw[if_pos hn,if_pos hn,minusL_val (okD_cons.1 ha).2 (okD_tail hb) (by omega) (by omega) (by omega)]
   omega
  ·rw[if_neg hn,if_neg hn,minusL_val (okD_cons.1 ha).2 (okD_tail hb) (by omega) (by omega) (by omega)]
   omega
theorem val_top: ∀ {b:List Int},okD b→topD b→b≠ []→0<valD b
 | [],_,_,h=>absurd rfl h
 | [y],hb,ht,_=>by
  have:=(okD_cons.1 hb).1
  have h0:y≠0:=fun e=>ht (by simp[e])
  show 0<y+65536*0
  omega
 |y::z::b,hb,ht,_=>by
  have:=val_top (okD_cons.1 hb).2 (topD_tail ht) (by simp)
  have:=(okD_cons.1 hb).1
  show 0<y+65536*valD (z::b)
  omega
theorem val_len: ∀ {a b:List Int},okD a→okD b→topD b→a.length<b.length→valD a<valD b
 | [],b,_,hb,ht,hl=>val_top hb ht (by intro e;subst e;simp at hl)
 |x::a,[],_,_,_,hl=>absurd hl (by simp)
 |x::a,y::b,ha,hb,ht,hl=>by
  have:=val_len (okD_cons.1 ha).2 (okD_cons.1 hb).2 (topD_tail ht) (by simpa using hl)
  have:=(okD_cons.1 ha).1
  have:=(okD_cons.1 hb).1
  show x+65536*valD a<y+65536*valD b
  omega
theorem val_at: ∀ {a b:List Int} {i:Nat},okD a→okD b→a.length=b.length→a.drop (i+1)=b.drop (i+1)→(a[i]?).getD 0<(b[i]?).getD 0→valD a<valD b
 | [],[],i,_,_,_,_,h=>absurd h (by simp)
 | [],_::_,_,_,_,hl,_,_=>absurd hl (by simp)
 |_::_,[],_,_,_,hl,_,_=>absurd hl (by simp)
 |x::a,y::b,0,ha,hb,hl,hd,h=>by
  have e:a=b:=by simpa using hd
  subst e
  have:x<y:=by simpa using h
  show x+65536*valD a<y+65536*valD a
  omega
 |x::a,y::b,i+1,ha,hb,hl,hd,h=>by
  have:=val_at (i:=i) (okD_cons.1 ha).2 (okD_cons.1 hb).2 (by simpa using hl) (by simpa using hd) (by simpa using h)
  have:=(okD_cons.1 ha).1
  have:=(okD_cons.1 hb).1
  show x+65536*valD a<y+65536*valD b
  omega
def sizeD (a b:List Int):Int:=if valD a<valD b then -1 else if valD b<valD a then 1 else 0
def trimD (l:List Int):List Int:=(l.reverse.dropWhile (fun d=>d==0)).reverse
theorem trimD_nil:trimD []=[]:=rfl
theorem trimD_snoc (l:List Int) (d:Int):trimD (l++[d])=if d=0 then trimD l else l++[d]:=by
 unfold trimD
 rw[List.reverse_append]
 show(((d::l.reverse).dropWhile _).reverse)=_
 rw[List.dropWhile_cons]
 by_cases h:d=0
 ·simp[h]
 ·simp[h]
theorem valD_app (l:List Int):valD (l++[0])=valD l:=by
 induction l with
 |nil=>rfl
 |cons x l ih=>show x+65536*valD (l++[0])=x+65536*valD l;rw[ih]
theorem list_rev {α:Type} {P:List α→Prop} (h0:P []) (h1: ∀l x,P l→P (l++[x])) (l:List α):P l:=by
 rw[←List.reverse_reverse l]
 induction l.reverse with
 |nil=>exact h0
 |cons x l ih=>rw[List.reverse_cons];exact h1 _ _ ih
theorem trimD_val (l:List Int):valD (trimD l)=valD l:=by
 refine list_rev (P:=fun l=>valD (trimD l)=valD l) rfl (fun l x ih=> ?_) l
 show valD (trimD (l++[x]))=valD (l++[x])
 rw[trimD_snoc]
 split
 ·rename_i e
  subst e
  rw[valD_app,ih]
 ·rfl
theorem trimD_top (l:List Int):topD (trimD l):=by
 refine list_rev (P:=fun l=>topD (trimD l)) (by simp[topD,trimD_nil]) (fun l x ih=> ?_) l
 show topD (trimD (l++[x]))
 rw[trimD_snoc]
 split
 ·exact ih
 ·rename_i e
  unfold topD
  simp[e]
theorem trimD_take (l:List Int): ∃k,k≤l.length∧trimD l=l.take k:=by
 refine list_rev (P:=fun l=> ∃k,k≤l.length∧trimD l=l.take k) ⟨0,Nat.le_refl _,rfl⟩ (fun l x ih=> ?_) l
 show∃k,k≤(l++[x]).length∧trimD (l++[x])=(l++[x]).take k
 rw[trimD_snoc]
 split
 ·obtain⟨k,hk,e⟩:=ih
  exact⟨k,by simp;omega,by rw[e,List.take_append_of_le_length hk]⟩
 ·exact⟨l.length+1,by simp,by rw[List.take_of_length_le (by simp)]⟩
theorem trimD_ok {l:List Int} (h:okD l):okD (trimD l):=by
 obtain⟨k,_,e⟩:=trimD_take l
 rw[e]
 exact fun d hd=>h d (List.mem_of_mem_take hd)
structure NumD (x:Int) (g:Bool) (l:List Int):Prop where
 ok:okD l
 top:topD l
 neg:g=decide (x<0)
 val:valD l=x.natAbs
theorem NumD.zero:NumD 0 false []:=⟨by simp[okD],by simp[topD],by decide,rfl⟩
theorem NumD.nil {x:Int} {g:Bool} (h:NumD x g []):x=0∧g=false:=by
 have:=h.val
 have h0:(0:Int)=x.natAbs:=this
 have hx:x=0:=by omega
 exact⟨hx,by rw[h.neg,hx];decide⟩
theorem NumD.len {x:Int} {g:Bool} {l:List Int} (h:NumD x g l):(decide (l.length=0)=decide (x=0)):=by
 refine decide_eq_decide.2 ⟨fun e=> ?_,fun e=> ?_⟩
 ·rw[List.eq_nil_of_length_eq_zero e] at h
  exact h.nil.1
 ·subst e
  by_cases hl:l=[]
  ·rw[hl];rfl
  ·have:=val_top h.ok h.top hl
   have:=h.val
   simp at this
   omega
theorem NumD.trim {x:Int} {l:List Int} (h:okD l) (g:Bool) (e:(if g=true then -valD l else valD l)=x):NumD x (if trimD l=[] then false else g) (trimD l):=by
 have hv:=trimD_val l
 have hn:=valD_nn h
 refine⟨trimD_ok h,trimD_top l, ?_, ?_⟩
 ·split
  ·rename_i h0
   rw[h0] at hv
   have:valD l=0:=hv.symm
   rw[this] at e
   have:x=0:=by rw[←e];split<;>rfl
   rw[this];decide
  ·rename_i h0
   have:=val_top (trimD_ok h) (trimD_top l) h0
   cases g
   ·simp at e
    symm
    simp
    omega
   ·simp at e
    symm
    simp
    omega
 ·rw[hv]
  cases g
  ·simp at e;omega
  ·simp at e;omega
end Go.Proofs.YthopjhifepijiaaGreat
namespace Go.Proofs.YthopjhifepijiaaGreat
open Go.RowKit Go.Joins
theorem NsIn.row {w:World} {B:Nat} {a:Option Addr} {n:Nat} {l:List Int} (h:NsIn w B a n l) (hn:0<n): ∃b off,a=some ⟨b,off,none⟩∧b<B∧ ∀w',Below B w w'→ ∀i x,l[i]? =some x→w'.cell? ⟨b,off+i,none⟩=some (.int .i64 x):=by
 obtain⟨h1,h2|⟨b,off,ha,hlt,hc⟩⟩:=h
 ·omega
 ·exact⟨b,off,ha,hlt,fun w' hb i v hv=>(hb.cell (p:=⟨b,_,none⟩) hlt).trans (hc i v hv)⟩
theorem NsIn.take {w:World} {B:Nat} {a:Option Addr} {n:Nat} {l:List Int} (h:NsIn w B a n l) {k:Nat} (hk:k≤n):NsIn w B a k (l.take k):=by
 obtain⟨h1,h2|⟨b,off,ha,hlt,hc⟩⟩:=h
 ·exact⟨by rw[List.length_take];omega, .inl (by omega)⟩
 ·refine⟨by rw[List.length_take];omega, .inr ⟨b,off,ha,hlt,fun i v hv=>hc i v ?_⟩⟩
  rw[List.getElem?_take] at hv
  split at hv
  ·exact hv
  ·cases hv
def intC (l:List Int):List Value:=l.map (.int .i64)
theorem intC_app (l m:List Int):intC (l++m)=intC l++intC m:=List.map_append
theorem own_ns {w:World} {base n c:Nat} {a:Option Addr} {t:TypeId} {l:List Int} (h:w.ownsRow base t 1 (.slice a n c) n (intC l)) (hn:n=l.length):NsIn w w.heap.size a n l:=by
 refine⟨hn, ?_⟩
 rcases Nat.eq_zero_or_pos n with h0|h0
 ·exact .inl h0
 ·obtain⟨g,cap,e⟩:=ownsRow_form h h0
  injection e with e1 e2 e3
  subst e1
  refine .inr ⟨g,0,rfl,(h.lt g rfl).2,fun i v hv=> ?_⟩
  have hc:=(addr_add0 g i)▸h.cells (g:=g) rfl (j:=i) (u:= .int .i64 v) (by unfold intC;rw[List.getElem?_map,hv];rfl)
  simpa using hc
theorem sizeD_lt {a b:List Int} (h:valD a<valD b):sizeD a b= -1:=by unfold sizeD;rw[if_pos h]
theorem sizeD_gt {a b:List Int} (h:valD b<valD a):sizeD a b=1:=by unfold sizeD;rw[if_neg (by omega),if_pos h]
theorem sizeD_eq (a:List Int):sizeD a a=0:=by unfold sizeD;rw[if_neg (by omega),if_neg (by omega)]
set_option maxRecDepth 100000 in
set_option maxHeartbeats 4000000 in
theorem r3size_any {w:World} {B na ca nb cb:Nat} {aa ab:Option Addr} {l m:List Int} (ha:NsIn w B aa na l) (hb:NsIn w B ab nb m) (ol:okD l) (om:okD m) (tl:topD l) (tm:topD m) (hB:B≤w.heap.size) (hna:na≤1000) (hnb:nb≤1000):
  Calls Tryz.prog 93 #[.slice aa na ca, .slice ab nb cb] w fun e w'=>e= .returned (.int .i64 (sizeD l m))∧Below w.heap.size w w':=by
 have hl:=ha.1
 have hm:=hb.1
 by_cases h1:na<nb
 ·rw[sizeD_lt (val_len ol om tm (by omega))]
  have hne: ¬na=nb:=by omega
  clear ha hb ol om tl tm
  go_enter Tryz.func93,Tryz.ntmps93
  go_wp2_with fail
  go_ret
  exact⟨rfl,Below.refl _ _⟩
 by_cases h2:nb<na
 ·rw[sizeD_gt (val_len om ol tl (by omega))]
  have hne: ¬na=nb:=by omega
  clear ha hb ol om tl tm
  go_enter Tryz.func93,Tryz.ntmps93
  go_wp2_with fail
  go_ret
  exact⟨rfl,Below.refl _ _⟩
 obtain rfl:na=nb:=by omega
 have HL:=Lib.hid hl
 have HM:=Lib.hid hm
 have HA:=Lib.hid ha
 have HBB:=Lib.hid hb
 have HO:=Lib.hid (show okD l∧okD m from⟨ol,om⟩)
 clear ha hb ol om tl tm hl hm h1 h2
 go_enter Tryz.func93,Tryz.ntmps93
 go_wp2_with fail
 go_loopw [5] (fun v wr=> ∃k:Nat,k≤na∧v= .int .i64 ((k:Int) - 1)∧l.drop k=m.drop k∧Below w.heap.size w wr) (fun v _=>(intOf v+1).toNat)
 case atStart=>exact⟨na,Nat.le_refl _,by go_num,by rw[List.drop_of_length_le (by have:=HL.out;omega),List.drop_of_length_le (by have:=HM.out;omega)],Below.refl _ _⟩
 case round=>
  obtain⟨k,hk,rfl,hd,hb⟩:=hrel
  have HD:=Lib.hid hd
  have HB:=Lib.hid hb
  clear hd hb
  rcases k with _|k
  ·have F:=Lib.hid (show sizeD l m=0 from by
    have:=HD.out
    simp at this
    rw[this,sizeD_eq])
   go_wp2_with fail
   go_ret
   exact⟨by rw[F.out];rfl,HB.out⟩
  ·obtain⟨ba,oa,rfl,hba,hca⟩:=HA.out.row (by omega)
   obtain⟨bb,ob,rfl,hbb,hcb⟩:=HBB.out.row (by omega)
   obtain⟨x,hx⟩: ∃x,l[k]? =some x:=⟨_,List.getElem?_eq_getElem (by have:=HL.out;omega)⟩
   obtain⟨y,hy⟩: ∃y,m[k]? =some y:=⟨_,List.getElem?_eq_getElem (by have:=HM.out;omega)⟩
   have HX:=Lib.hid hx
   have HY:=Lib.hid hy
   have HCA:=fun(W1:World) (hb:Below w.heap.size w W1)=>Lib.hid (hca W1 (hb.mono hB) k x hx)
   have HCB:=fun(W1:World) (hb:Below w.heap.size w W1)=>Lib.hid (hcb W1 (hb.mono hB) k y hy)
   clear hca hcb hx hy
   have hk1:k<na:=by omega
   by_cases h1:x<y
   ·have F:=Lib.hid (sizeD_lt (val_at (i:=k) HO.out.1 HO.out.2 (by rw[←HL.out, ←HM.out]) HD.out (by rw[HX.out,HY.out];exact h1)))
    go_wp2_with fail
    refine wp_name (fun c1 hc1=> ?_)
    have HB:=bnm HB (Lib.hid (Nat.le_refl _)) hc1
    have YB:=fun(x:Later c1)=>HB.out.trans (x.2.mono HB.out.size);have y8:=fun(x:Later c1)=>(HCA x.1 (YB x)).out;have y9:=fun(x:Later c1)=>(HCB x.1 (YB x)).out;clear YB
    clear hc1
    refine wp_region_later (by kernel_rfl) (by kernel_rfl) ?_
    repeat (first|go_big_quiet_step ((fail))|quiet_step ((fail)))
    refine wpQuiet_nil ?_
    intro w1 hw1
    have hb1:=later_below hw1
    clear hw1
    have HB:=Lib.hid (bnl HB (Lib.hid (Nat.le_refl _)) hb1)
    skip
    clear hb1
    go_wp2_with fail
    go_ret
    exact⟨by rw[F.out];rfl,HB.out⟩
   ·by_cases h2:y<x
    ·have F:=Lib.hid (sizeD_gt (val_at (i:=k) HO.out.2 HO.out.1 (by rw[←HL.out, ←HM.out]) HD.out.symm (by rw[HX.out,HY.out];exact h2)))
     go_wp2_with fail
     refine wp_name (fun c2 hc2=> ?_)
     have HB:=bnm HB (Lib.hid (Nat.le_refl _)) hc2
     have YB:=fun(x:Later c2)=>HB.out.trans (x.2.mono HB.out.size);have y8:=fun(x:Later c2)=>(HCA x.1 (YB x)).out;have y9:=fun(x:Later c2)=>(HCB x.1 (YB x)).out;clear YB
     clear hc2
     refine wp_region_later (by kernel_rfl) (by kernel_rfl) ?_
     repeat (first|go_big_quiet_step ((fail))|quiet_step ((fail)))
     refine wpQuiet_nil ?_
     intro w2 hw2
     have hb2:=later_below hw2
     clear hw2
     have HB:=Lib.hid (bnl HB (Lib.hid (Nat.le_refl _)) hb2)
     skip
     clear hb2
     go_wp2_with fail
     refine wp_name (fun c3 hc3=> ?_)
     have HB:=bnm HB (Lib.hid (Nat.le_refl _)) hc3
     have YB:=fun(x:Later c3)=>HB.out.trans (x.2.mono HB.out.size);have y8:=fun(x:Later c3)=>(HCA x.1 (YB x)).out;have y9:=fun(x:Later c3)=>(HCB x.1 (YB x)).out;clear YB
     clear hc3
     refine wp_region_later (by kernel_rfl) (by kernel_rfl) ?_
     repeat (first|go_big_quiet_step ((fail))|quiet_step ((fail)))
     refine wpQuiet_nil ?_
     intro w3 hw3
     have hb3:=later_below hw3
     clear hw3
     have HB:=Lib.hid (bnl HB (Lib.hid (Nat.le_refl _)) hb3)
     skip
     clear hb3
     go_wp2_with fail
     go_ret
     exact⟨by rw[F.out];rfl,HB.out⟩
    ·obtain rfl:x=y:=by omega
     go_wp2_with fail
     refine wp_name (fun c4 hc4=> ?_)
     have HB:=bnm HB (Lib.hid (Nat.le_refl _)) hc4
     have YB:=fun(x:Later c4)=>HB.out.trans (x.2.mono HB.out.size);have y8:=fun(x:Later c4)=>(HCA x.1 (YB x)).out;have y9:=fun(x:Later c4)=>(HCB x.1 (YB x)).out;clear YB
     clear hc4
     refine wp_region_later (by kernel_rfl) (by kernel_rfl) ?_
     repeat (first|go_big_quiet_step ((fail))|quiet_step ((fail)))
     refine wpQuiet_nil ?_
     intro w4 hw4
     have hb4:=later_below hw4
     clear hw4
     have HB:=Lib.hid (bnl HB (Lib.hid (Nat.le_refl _)) hb4)
     skip
     clear hb4
     go_wp2_with fail
     refine wp_name (fun c5 hc5=> ?_)
     have HB:=bnm HB (Lib.hid (Nat.le_refl _)) hc5
     have YB:=fun(x:Later c5)=>HB.out.trans (x.2.mono HB.out.size);have y8:=fun(x:Later c5)=>(HCA x.1 (YB x)).out;have y9:=fun(x:Later c5)=>(HCB x.1 (YB x)).out;clear YB
     clear hc5
     refine wp_region_later (by kernel_rfl) (by kernel_rfl) ?_
     repeat (first|go_big_quiet_step ((fail))|quiet_step ((fail)))
     refine wpQuiet_nil ?_
     intro w5 hw5
     have hb5:=later_below hw5
     clear hw5
     have HB:=Lib.hid (bnl HB (Lib.hid (Nat.le_refl _)) hb5)
     skip
     clear hb5
     go_wp2_with fail
     go_roundw
     case rel=>
      refine⟨k,by omega,by go_num, ?_,HB.out⟩
      have h1:=(List.getElem?_eq_some_iff.1 HX.out)
      have h2:=(List.getElem?_eq_some_iff.1 HY.out)
      rw[List.drop_eq_getElem_cons h1.1,List.drop_eq_getElem_cons h2.1,h1.2,h2.2,HD.out]
     case measure=>simp[intOf]
end Go.Proofs.YthopjhifepijiaaGreat
namespace Go.Proofs.YthopjhifepijiaaGreat
open Go.RowKit Go.Joins
structure PlS (w wr:World) (R:Nat→Int→List Int) (T:List Int) (N k:Nat) (c:Int) (o:List Int) (ov:Value):Prop where
 own:wr.ownsRow w.heap.size 3 1 ov k (intC o)
 len:o.length=k
 c0:0≤c
 c1:c≤1
 sum:o++R k c=T
 stop:k<N∨c=0
 blw:Below w.heap.size w wr
theorem PlS.next {w wr w5:World} {R:Nat→Int→List Int} {T:List Int} {N k:Nat} {c:Int} {o:List Int} {ov v:Value} {d c':Int} {q:Obj} (h:PlS w wr R T N k c o ov) (hown:w5.ownsRow w.heap.size 3 1 v (k+1) (intC o++[.int .i64 d])) (hgr:(wr.alloc q).grownBy w5 ov.ownBlock)
  (h0:0≤c') (h1:c'≤1) (hr:R k c=d::R (k+1) c') (hs:k+1<N∨c'=0):PlS w w5 R T N (k+1) c' (o++[d]) v:=
 ⟨by rw[intC_app];exact hown,by simp[h.len],h0,h1,by rw[List.append_assoc,List.singleton_append, ←hr];exact h.sum,hs,
  (h.blw.alloc h.blw.size q).grown hgr (Nat.le_trans h.blw.size (below_alloc (o:=q) (Below.refl wr.heap.size wr)).size) (fun x hx=>(h.own.lt x hx).1)⟩
theorem get_of {l:List Int} {k:Nat} {x:Int} (h:l[k]? =some x) (o:okD l):0≤x∧x<65536:=o x (List.mem_of_getElem? h)
set_option maxRecDepth 100000 in
set_option maxHeartbeats 8000000 in
theorem r3plus_any {w:World} {B na ca nb cb:Nat} {aa ab:Option Addr} {l m:List Int} (ha:NsIn w B aa na l) (hb:NsIn w B ab nb m) (ol:okD l) (om:okD m) (hB:B≤w.heap.size) (hna:na≤1000) (hnb:nb≤1000):
  Calls Tryz.prog 92 #[.slice aa na ca, .slice ab nb cb] w fun e w'=>(∃a n c,e= .returned (.slice a n c)∧n=(plusL (max na nb+1) l m 0).length∧w'.ownsRow w.heap.size 3 1 (.slice a n c) n (intC (plusL (max na nb+1) l m 0)))∧Below w.heap.size w w':=by
 have HL:=Lib.hid ha.1
 have HM:=Lib.hid hb.1
 have HA:=Lib.hid ha
 have HBB:=Lib.hid hb
 have HO:=Lib.hid (show okD l∧okD m from⟨ol,om⟩)
 obtain⟨l0,hl,hl0,hl1,hl2⟩:=info_parts Tryz.infoIn9
 obtain⟨N,hN⟩: ∃N,N=max na nb+1:=⟨_,rfl⟩
 have hN1:na<N:=by omega
 have hN2:nb<N:=by omega
 have HNN:=Lib.hid hN
 rw[←hN]
 have hN3:N≤1001:=by omega
 clear ha hb ol om hN
 go_enter Tryz.func92,Tryz.ntmps92
 go_wp2_with fail
 go_loopw [5,6,7] (fun o c v wr=> ∃(k:Nat) (cc:Int) (ol:List Int) (ov:Value),k≤N∧v= .int .i64 k∧ov=o∧c= .int .i64 cc∧PlS w wr (fun k c=>plusL (N - k) (l.drop k) (m.drop k) c) (plusL N l m 0) N k cc ol ov) (fun _ _ v _=>N - (intOf v).toNat)
 case atStart=>exact⟨0,0,[],_,Nat.zero_le _,rfl,rfl,rfl,World.ownsRow_nil _ _ _ _,rfl,by omega,by omega,by simp, .inr rfl,Below.refl _ _⟩
 case round=>
  obtain⟨k,c,o,ov,hk,rfl,rfl,rfl,hI⟩:=hrel
  have HI:=Lib.hid hI
  have hc0:=hI.c0
  have hc1:=hI.c1
  have hst:=hI.stop
  clear hI
  by_cases h1:k<na
  ·obtain⟨ba,oa,rfl,hba,hca⟩:=HA.out.row (by omega)
   obtain⟨x,hx⟩: ∃x,l[k]? =some x:=⟨_,List.getElem?_eq_getElem (by have:=HL.out;omega)⟩
   have hxo:=get_of hx HO.out.1
   have HX:=Lib.hid hx
   have e1:=hca wr (HI.out.blw.mono hB) k x hx
   have hNk:N - k=N - (k+1)+1:=by omega
   clear hca hx
   by_cases h2:k<nb
   ·obtain⟨bb,ob,rfl,hbb,hcb⟩:=HBB.out.row (by omega)
    obtain⟨y,hy⟩: ∃y,m[k]? =some y:=⟨_,List.getElem?_eq_getElem (by have:=HM.out;omega)⟩
    have hyo:=get_of hy HO.out.2
    have HY:=Lib.hid hy
    have e2:=hcb wr (HI.out.blw.mono hB) k y hy
    clear hcb hy
    go_wp2_with (at_builtin;go_loud (refine wpList_append_near _ rfl (.tmp 46) (.tmp 49) 35 rfl w.heap.size 3 l0 (.int .i64 0) 1 8 Tryz.underlying35 hl hl0 hl1 hl2 rfl (by decide) ov k _ rfl (HI.out.own.alloc _) ⟨wr.heap.size,0,none⟩ 1 1 [.int .i64 ((c+x+y) % 65536)] rfl (by decide) rfl (cell_list_at _ [.int .i64 ((c+x+y) % 65536)] _ rfl) (by simp[Value.oneCell']) (by unfold maxLen;omega) (by omega) (by have:=HI.out.blw.size;simp;omega) ?_;intro g cap w5 hown hgr hat;have HN:=Lib.hid (HI.out.next hown hgr (c':=((c+x+y) / 65536)) (by omega) (by omega) (by have:=plusL_step (n:=N - (k+1)) (a:=l) (b:=m) (c:=c) (k:=k) (.inl (by have:=HL.out;omega));rw[HX.out,HY.out] at this;show plusL (N - k) _ _ _=_;rw[hNk];exact this) (by omega));clear hown hgr hat))
    go_roundw
    case rel=>exact⟨k+1,((c+x+y) / 65536),_,_,by omega,by go_num,rfl,by first|rfl|go_num,HN.out⟩
    case measure=>simp[intOf];omega
   ·have HY:=Lib.hid (show m[k]? =none from List.getElem?_eq_none (by have:=HM.out;omega))
    go_wp2_with (at_builtin;go_loud (refine wpList_append_near _ rfl (.tmp 46) (.tmp 49) 35 rfl w.heap.size 3 l0 (.int .i64 0) 1 8 Tryz.underlying35 hl hl0 hl1 hl2 rfl (by decide) ov k _ rfl (HI.out.own.alloc _) ⟨wr.heap.size,0,none⟩ 1 1 [.int .i64 ((c+x) % 65536)] rfl (by decide) rfl (cell_list_at _ [.int .i64 ((c+x) % 65536)] _ rfl) (by simp[Value.oneCell']) (by unfold maxLen;omega) (by omega) (by have:=HI.out.blw.size;simp;omega) ?_;intro g cap w5 hown hgr hat;have HN:=Lib.hid (HI.out.next hown hgr (c':=((c+x) / 65536)) (by omega) (by omega) (by have:=plusL_step (n:=N - (k+1)) (a:=l) (b:=m) (c:=c) (k:=k) (.inl (by have:=HL.out;omega));rw[HX.out,HY.out] at this;show plusL (N - k) _ _ _=_;rw[hNk, ←Int.add_zero (c+x)];exact this) (by omega));clear hown hgr hat))
    go_roundw
    case rel=>exact⟨k+1,((c+x) / 65536),_,_,by omega,by go_num,rfl,by first|rfl|go_num,HN.out⟩
    case measure=>simp[intOf];omega
  ·have HX:=Lib.hid (show l[k]? =none from List.getElem?_eq_none (by have:=HL.out;omega))
   by_cases h2:k<nb
   ·obtain⟨bb,ob,rfl,hbb,hcb⟩:=HBB.out.row (by omega)
    obtain⟨y,hy⟩: ∃y,m[k]? =some y:=⟨_,List.getElem?_eq_getElem (by have:=HM.out;omega)⟩
    have hyo:=get_of hy HO.out.2
    have HY:=Lib.hid hy
    have e2:=hcb wr (HI.out.blw.mono hB) k y hy
    have hNk:N - k=N - (k+1)+1:=by omega
    clear hcb hy
    go_wp2_with (at_builtin;go_loud (refine wpList_append_near _ rfl (.tmp 46) (.tmp 49) 35 rfl w.heap.size 3 l0 (.int .i64 0) 1 8 Tryz.underlying35 hl hl0 hl1 hl2 rfl (by decide) ov k _ rfl (HI.out.own.alloc _) ⟨wr.heap.size,0,none⟩ 1 1 [.int .i64 ((c+y) % 65536)] rfl (by decide) rfl (cell_list_at _ [.int .i64 ((c+y) % 65536)] _ rfl) (by simp[Value.oneCell']) (by unfold maxLen;omega) (by omega) (by have:=HI.out.blw.size;simp;omega) ?_;intro g cap w5 hown hgr hat;have HN:=Lib.hid (HI.out.next hown hgr (c':=((c+y) / 65536)) (by omega) (by omega) (by have:=plusL_step (n:=N - (k+1)) (a:=l) (b:=m) (c:=c) (k:=k) (.inr (.inl (by have:=HM.out;omega)));rw[HX.out,HY.out] at this;simp only[Option.getD_none,Option.getD_some,Int.add_zero] at this;show plusL (N - k) _ _ _=_;rw[hNk];exact this) (by omega));clear hown hgr hat))
    go_roundw
    case rel=>exact⟨k+1,((c+y) / 65536),_,_,by omega,by go_num,rfl,by first|rfl|go_num,HN.out⟩
    case measure=>simp[intOf];omega
   ·have HY:=Lib.hid (show m[k]? =none from List.getElem?_eq_none (by have:=HM.out;omega))
    by_cases h3:0<c
    ·have hNk:N - k=N - (k+1)+1:=by omega
     go_wp2_with (at_builtin;go_loud (refine wpList_append_near _ rfl (.tmp 46) (.tmp 49) 35 rfl w.heap.size 3 l0 (.int .i64 0) 1 8 Tryz.underlying35 hl hl0 hl1 hl2 rfl (by decide) ov k _ rfl (HI.out.own.alloc _) ⟨wr.heap.size,0,none⟩ 1 1 [.int .i64 (c % 65536)] rfl (by decide) rfl (cell_list_at _ [.int .i64 (c % 65536)] _ rfl) (by simp[Value.oneCell']) (by unfold maxLen;omega) (by omega) (by have:=HI.out.blw.size;simp;omega) ?_;intro g cap w5 hown hgr hat;have HN:=Lib.hid (HI.out.next hown hgr (c':=(c / 65536)) (by omega) (by omega) (by have:=plusL_step (n:=N - (k+1)) (a:=l) (b:=m) (c:=c) (k:=k) (.inr (.inr h3));rw[HX.out,HY.out] at this;show plusL (N - k) _ _ _=_;rw[hNk];simpa using this) (by omega));clear hown hgr hat))
     go_roundw
     case rel=>exact⟨k+1,(c / 65536),_,_,by omega,by go_num,rfl,by first|rfl|go_num,HN.out⟩
     case measure=>simp[intOf];omega
    ·have hT:=HI.out.sum
     have hr:plusL (N - k) (l.drop k) (m.drop k) c=[]:=by
      rw[List.drop_of_length_le (by have:=HL.out;omega),List.drop_of_length_le (by have:=HM.out;omega),show c=0 by omega,plusL_end]
     simp only[hr,List.append_nil] at hT
     have HT:=Lib.hid hT
     clear hT hr
     obtain⟨ra,rc,rfl⟩:=own_form HI.out.own
     go_wp2_with fail
     go_ret
     exact⟨⟨ra,k,rc,rfl,by rw[←HT.out,HI.out.len],by rw[←HT.out];exact HI.out.own⟩,HI.out.blw⟩
theorem minusL_step {l m:List Int} {w x:Int} {k:Nat} (hx:l[k]? =some x):minusL (l.drop k) (m.drop k) w=(if x - w - (m[k]?).getD 0<0 then x - w - (m[k]?).getD 0+65536 else x - w - (m[k]?).getD 0)::minusL (l.drop (k+1)) (m.drop (k+1)) (if x - w - (m[k]?).getD 0<0 then 1 else 0):=by
 obtain⟨h1,h2⟩:=List.getElem?_eq_some_iff.1 hx
 rw[List.drop_eq_getElem_cons h1,h2]
 have e:(m.drop k).headD 0=(m[k]?).getD 0:=by rw[List.headD_eq_head?_getD,List.head?_drop]
 have e2:(m.drop k).tail=m.drop (k+1):=by rw[List.tail_drop]
 unfold minusL
 rw[e,e2]
 cases hd:l.drop (k+1)<;>rfl
set_option maxRecDepth 100000 in
set_option maxHeartbeats 8000000 in
theorem r3minus_any {w:World} {B na ca nb cb:Nat} {aa ab:Option Addr} {l m:List Int} (ha:NsIn w B aa na l) (hb:NsIn w B ab nb m) (ol:okD l) (om:okD m) (hB:B≤w.heap.size) (hna:na≤1000) (hnb:nb≤1000):
  Calls Tryz.prog 94 #[.slice aa na ca, .slice ab nb cb] w fun e w'=>(∃a n c,e= .returned (.slice a n c)∧n=(minusL l m 0).length∧w'.ownsRow w.heap.size 3 1 (.slice a n c) n (intC (minusL l m 0)))∧Below w.heap.size w w':=by
 have HL:=Lib.hid ha.1
 have HM:=Lib.hid hb.1
 have HA:=Lib.hid ha
 have HBB:=Lib.hid hb
 have HO:=Lib.hid (show okD l∧okD m from⟨ol,om⟩)
 obtain⟨l0,hl,hl0,hl1,hl2⟩:=info_parts Tryz.infoIn9
 clear ha hb ol om
 go_enter Tryz.func94,Tryz.ntmps94
 go_wp2_with fail
 go_loopw [5,6,7] (fun o c v wr=> ∃(k:Nat) (cc:Int) (ol:List Int) (ov:Value),k≤na∧v= .int .i64 k∧ov=o∧c= .int .i64 cc∧PlS w wr (fun k c=>minusL (l.drop k) (m.drop k) c) (minusL l m 0) (na+1) k cc ol ov) (fun _ _ v _=>na - (intOf v).toNat)
 case atStart=>exact⟨0,0,[],_,Nat.zero_le _,rfl,rfl,rfl,World.ownsRow_nil _ _ _ _,rfl,by omega,by omega,by simp, .inr rfl,Below.refl _ _⟩
 case round=>
  obtain⟨k,c,o,ov,hk,rfl,rfl,rfl,hI⟩:=hrel
  have HI:=Lib.hid hI
  have hc0:=hI.c0
  have hc1:=hI.c1
  clear hI
  by_cases h1:k<na
  ·obtain⟨ba,oa,rfl,hba,hca⟩:=HA.out.row (by omega)
   obtain⟨x,hx⟩: ∃x,l[k]? =some x:=⟨_,List.getElem?_eq_getElem (by have:=HL.out;omega)⟩
   have hxo:=get_of hx HO.out.1
   have HX:=Lib.hid hx
   have e1:=hca wr (HI.out.blw.mono hB) k x hx
   clear hca hx
   by_cases h2:k<nb
   ·obtain⟨bb,ob,rfl,hbb,hcb⟩:=HBB.out.row (by omega)
    obtain⟨y,hy⟩: ∃y,m[k]? =some y:=⟨_,List.getElem?_eq_getElem (by have:=HM.out;omega)⟩
    have hyo:=get_of hy HO.out.2
    have HY:=Lib.hid hy
    have e2:=hcb wr (HI.out.blw.mono hB) k y hy
    clear hcb hy
    by_cases h3:x - c - y<0
    ·go_wp2_with (at_builtin;go_loud (refine wpList_append_near _ rfl (.tmp 35) (.tmp 37) 35 rfl w.heap.size 3 l0 (.int .i64 0) 1 8 Tryz.underlying35 hl hl0 hl1 hl2 rfl (by decide) ov k _ rfl (HI.out.own.alloc _) ⟨wr.heap.size,0,none⟩ 1 1 [.int .i64 (x - c - y+65536)] rfl (by decide) rfl (cell_list_at _ [.int .i64 (x - c - y+65536)] _ rfl) (by simp[Value.oneCell']) (by unfold maxLen;omega) (by omega) (by have:=HI.out.blw.size;simp;omega) ?_;intro g cap w5 hown hgr hat;have HN:=Lib.hid (HI.out.next hown hgr (c':=(1)) (by omega) (by omega) (by have:=minusL_step (m:=m) (w:=c) HX.out;rw[HY.out] at this;simp only[Option.getD_none,Option.getD_some] at this;rw[if_pos h3,if_pos h3] at this;exact this) (by omega));clear hown hgr hat))
     go_roundw
     case rel=>exact⟨k+1,(1),_,_,by omega,by go_num,rfl,by first|rfl|go_num,HN.out⟩
     case measure=>simp[intOf];omega
    ·go_wp2_with (at_builtin;go_loud (refine wpList_append_near _ rfl (.tmp 35) (.tmp 37) 35 rfl w.heap.size 3 l0 (.int .i64 0) 1 8 Tryz.underlying35 hl hl0 hl1 hl2 rfl (by decide) ov k _ rfl (HI.out.own.alloc _) ⟨wr.heap.size,0,none⟩ 1 1 [.int .i64 (x - c - y)] rfl (by decide) rfl (cell_list_at _ [.int .i64 (x - c - y)] _ rfl) (by simp[Value.oneCell']) (by unfold maxLen;omega) (by omega) (by have:=HI.out.blw.size;simp;omega) ?_;intro g cap w5 hown hgr hat;have HN:=Lib.hid (HI.out.next hown hgr (c':=(0)) (by omega) (by omega) (by have:=minusL_step (m:=m) (w:=c) HX.out;rw[HY.out] at this;simp only[Option.getD_none,Option.getD_some] at this;rw[if_neg h3,if_neg h3] at this;exact this) (by omega));clear hown hgr hat))
     go_roundw
     case rel=>exact⟨k+1,(0),_,_,by omega,by go_num,rfl,by first|rfl|go_num,HN.out⟩
     case measure=>simp[intOf];omega
   ·have HY:=Lib.hid (show m[k]? =none from List.getElem?_eq_none (by have:=HM.out;omega))
    by_cases h3:x - c<0
    ·go_wp2_with (at_builtin;go_loud (refine wpList_append_near _ rfl (.tmp 35) (.tmp 37) 35 rfl w.heap.size 3 l0 (.int .i64 0) 1 8 Tryz.underlying35 hl hl0 hl1 hl2 rfl (by decide) ov k _ rfl (HI.out.own.alloc _) ⟨wr.heap.size,0,none⟩ 1 1 [.int .i64 (x - c+65536)] rfl (by decide) rfl (cell_list_at _ [.int .i64 (x - c+65536)] _ rfl) (by simp[Value.oneCell']) (by unfold maxLen;omega) (by omega) (by have:=HI.out.blw.size;simp;omega) ?_;intro g cap w5 hown hgr hat;have HN:=Lib.hid (HI.out.next hown hgr (c':=(1)) (by omega) (by omega) (by have:=minusL_step (m:=m) (w:=c) HX.out;rw[HY.out] at this;simp only[Option.getD_none,Option.getD_some,Int.sub_zero] at this;rw[if_pos h3,if_pos h3] at this;exact this) (by omega));clear hown hgr hat))
     go_roundw
     case rel=>exact⟨k+1,(1),_,_,by omega,by go_num,rfl,by first|rfl|go_num,HN.out⟩
     case measure=>simp[intOf];omega
    ·go_wp2_with (at_builtin;go_loud (refine wpList_append_near _ rfl (.tmp 35) (.tmp 37) 35 rfl w.heap.size 3 l0 (.int .i64 0) 1 8 Tryz.underlying35 hl hl0 hl1 hl2 rfl (by decide) ov k _ rfl (HI.out.own.alloc _) ⟨wr.heap.size,0,none⟩ 1 1 [.int .i64 (x - c)] rfl (by decide) rfl (cell_list_at _ [.int .i64 (x - c)] _ rfl) (by simp[Value.oneCell']) (by unfold maxLen;omega) (by omega) (by have:=HI.out.blw.size;simp;omega) ?_;intro g cap w5 hown hgr hat;have HN:=Lib.hid (HI.out.next hown hgr (c':=(0)) (by omega) (by omega) (by have:=minusL_step (m:=m) (w:=c) HX.out;rw[HY.out] at this;simp only[Option.getD_none,Option.getD_some,Int.sub_zero] at this;rw[if_neg h3,if_neg h3] at this;exact this) (by omega));clear hown hgr hat))
     go_roundw
     case rel=>exact⟨k+1,(0),_,_,by omega,by go_num,rfl,by first|rfl|go_num,HN.out⟩
     case measure=>simp[intOf];omega
  ·have hT:=HI.out.sum
   have hr:minusL (l.drop k) (m.drop k) c=[]:=by
    rw[List.drop_of_length_le (by have:=HL.out;omega)];rfl
   simp only[hr,List.append_nil] at hT
   have HT:=Lib.hid hT
   clear hT hr
   obtain⟨ra,rc,rfl⟩:=own_form HI.out.own
   go_wp2_with fail
   go_ret
   exact⟨⟨ra,k,rc,rfl,by rw[←HT.out,HI.out.len],by rw[←HT.out];exact HI.out.own⟩,HI.out.blw⟩
end Go.Proofs.YthopjhifepijiaaGreat
