/- Lemmas on the way to the statement. -/
import Derived.Test.YthopjhifepijiaaJ4
import Derived.Laws.EntriesVeiled
set_option linter.unusedSimpArgs false
set_option linter.unusedVariables false
namespace Go.Proofs.Ythopjhifepijiaa
open Go.RowKit Go.Joins
open Go.Maps (Keyed)
theorem Try.infoHf:(Try.prog.info? 45).map (fun i=>(i.zero,i.size,i.bytes))=some (some (.agg #[.int .i64 0, .bool false]),2,16):=by kernel_rfl
theorem zeroHs (w:World):(zeroValue 33).run Try.prog w= .ok (.slice none 0 0) w:=by kernel_rfl
abbrev TuA (h:Nat) (W wr:World) (na nf no nn:Nat) (ga:Int→Option Vx) (gf:Hf→Option Int) (G:Int→Option Hd) (L:Int→List Hf):Prop:=TuI Try.prog 3 45 h W wr na nf no nn ga gf G L
def edF (e:Ed):Nat→Value
 |0=> .int .i64 e.id
 |1=> .int .i64 e.a
 |_=> .int .i64 e.b
def boF:Nat→Value
 |0=> .bool false
 |_=> .bool true
structure TuR (P:Program) (tI tH:TypeId) (h rb:Nat) (W wr:World) (p:PL) (na nf no nn cnt:Nat) (G:Int→Option Hd) (left:Int→Bool) (gn:Hf→Option Hf):Prop where
 at_:MapT wr P tI (h+1+1) na ekI vxV (vxM p.vs)
 fr:MapT wr P tH (h+1+1+1) nf ekH ekI (frM p.es)
 rg:RngT wr P tI (h+1+1+1+1) rb no ekI hdV G left cnt
 nx:MapT wr P tH (h+1+1+1+1+1) nn ekH ekH gn
 rows:RowsIn wr tH W.heap.size (fun id=>if left id=true then G id else none) (leavP p.es)
 tch:Touch (tuF h) W wr
 low:h+1+1+1+1+1<W.heap.size
 rblo:W.heap.size≤rb
 lt: ∀id x,G id=some x→x.b<rb
abbrev TuRA (h rb:Nat) (W wr:World) (p:PL) (na nf no nn cnt:Nat) (G:Int→Option Hd) (left:Int→Bool) (gn:Hf→Option Hf):Prop:=TuR Try.prog 3 45 h rb W wr p na nf no nn cnt G left gn
theorem RowsIn.sub {w:World} {t:TypeId} {lo:Nat} {G G':Int→Option Hd} {L:Int→List Hf} (h:RowsIn w t lo G L) (hs: ∀id x,G' id=some x→G id=some x):RowsIn w t lo G' L:=
 ⟨fun id x hx=>h.own id x (hs id x hx),fun i j x y hx hy=>h.apart i j x y (hs i x hx) (hs j y hy)⟩
section
variable {P:Program} {tI tH:TypeId} {h rb na nf no nn cnt cnt':Nat} {W wr w2:World} {p:PL} {G:Int→Option Hd} {left left':Int→Bool} {gn:Hf→Option Hf}
theorem TuR.start (I:TuI P tI tH h W wr na nf no nn (vxM p.vs) (frM p.es) G (leavP p.es)) (rg:RngT w2 P tI (h+1+1+1+1) wr.heap.size no ekI hdV G (fun x=>(G x).isSome) cnt) (g:wr.grownBy w2 none) (hs:w2.heap.size=wr.heap.size+1):
  TuR P tI tH h wr.heap.size W w2 p na nf no nn cnt G (fun x=>(G x).isSome) (fun _=>none):=by
 have k:=Touch.of_grown g
 have z: ∀b:Nat,b∉(none:Option Nat).toList:=fun b=>by simp
 refine⟨I.at_.touch k (z _),I.fr.touch k (z _),rg,I.nx.touch k (z _),(I.rows.touch k (fun _ _ _=>z _)).sub (fun id x hx=> ?_),I.tch.trans k (fun b hb=>absurd hb (z b)),I.low,I.tch.size,fun id x hx=>(I.rows.lt hx).2⟩
 split at hx
 ·exact hx
 ·cases hx
theorem TuR.touch {F:List Nat} (I:TuR P tI tH h rb W wr p na nf no nn cnt G left gn) (k:Touch F wr w2) (hF: ∀b∈F,W.heap.size≤b) (hr:rb∉F) (hrow: ∀id x,left id=true→G id=some x→x.b∉F):TuR P tI tH h rb W w2 p na nf no nn cnt G left gn:=by
 have lw:=I.low
 have no_: ∀q,q<W.heap.size→q∉F:=fun q hq hm=>by have:=hF q hm;omega
 refine⟨I.at_.touch k (no_ _ (by omega)),I.fr.touch k (no_ _ (by omega)),I.rg.touch k (no_ _ (by omega)) hr,I.nx.touch k (no_ _ (by omega)),I.rows.touch k (fun id x hx=> ?_),I.tch.trans k (fun b hb=> .inr (hF b hb)),lw,I.rblo,I.lt⟩
 split at hx
 ·rename_i hl;exact hrow id x hl hx
 ·cases hx
theorem TuR.later (I:TuR P tI tH h rb W wr p na nf no nn cnt G left gn) (b:Below wr.heap.size wr w2):TuR P tI tH h rb W w2 p na nf no nn cnt G left gn:=
 I.touch (F:=[]) (Touch.of_below b) (by simp) (by simp) (by simp)
theorem TuR.next (I:TuR P tI tH h rb W wr p na nf no nn cnt G left gn) (rg:RngT w2 P tI (h+1+1+1+1) rb no ekI hdV G left' cnt') (g:wr.grownBy w2 (some rb)) (hl: ∀x,left' x=true→left x=true):TuR P tI tH h rb W w2 p na nf no nn cnt' G left' gn:=by
 have k:=Touch.of_grown g
 have lw:=I.low
 have hr:=I.rblo
 refine⟨I.at_.touch k (ne_toL (by omega)),I.fr.touch k (ne_toL (by omega)),rg,I.nx.touch k (ne_toL (by omega)),(I.rows.touch k (fun id x hx=> ?_)).sub (fun id x hx=> ?_),I.tch.trans k (fun b hb=> ?_),lw,I.rblo,I.lt⟩
 ·split at hx
  ·have:=I.lt id x hx;exact ne_toL (by omega)
  ·cases hx
 ·split at hx
  ·rename_i h1;rw[if_pos (hl id h1)];exact hx
  ·cases hx
 ·simp at hb;subst hb;exact .inr hr
theorem TuR.mono (I:TuR P tI tH h rb W wr p na nf no nn cnt G left gn) {nn':Nat} (hn:nn≤nn'):TuR P tI tH h rb W wr p na nf no nn' cnt G left gn:=⟨I.at_,I.fr,I.rg,I.nx.mono hn,I.rows,I.tch,I.low,I.rblo,I.lt⟩
theorem TuR.putNx (I:TuR P tI tH h rb W wr p na nf no nn cnt G left gn) {x v:Hf} (m:MapT w2 P tH (h+1+1+1+1+1) (nn+1) ekH ekH (updT gn x v)) (g:wr.grownBy w2 (some (h+1+1+1+1+1))):TuR P tI tH h rb W w2 p na nf no (nn+1) cnt G left (updT gn x v):=by
 have k:=Touch.of_grown g
 have lw:=I.low
 have hr:=I.rblo
 exact⟨I.at_.touch k (ne_toL (by omega)),I.fr.touch k (ne_toL (by omega)),I.rg.touch k (ne_toL (by omega)) (ne_toL (by omega)),m,I.rows.low k (toL_lt (by omega)),I.tch.trans k (by simp),lw,I.rblo,I.lt⟩
end
def hbF (x:Int) (b:Bool):Nat→Value
 |0=> .int .i64 x
 |_=> .bool b
def nfK:Nat→Nat
 |0=>0
 |1=>1
 |_=>3
theorem nfK_le (k:Nat):nfK k≤3:=by rcases k with _|_|k<;>simp[nfK]
structure TuE (w W wr:World) (eb j:Nat) (p:PL) (e:Ed) (k:Nat) (nf no:Nat) (gf:Hf→Option Int) (L:Int→List Hf):Prop where
 I: ∃G,TuA w.heap.size W wr p.vs.length (3*j+nf) (2*j+no) 0 (vxM p.vs) gf G L
 ed:wr.rowIs eb 63 3 (edF e)
 bo:wr.rowIs (eb+1) 4 2 boF
def tuG (p:PL) (j:Nat) (e:Ed):Nat→Hf→Option Int
 |0=>frM (p.es.take j)
 |1=>updT (frM (p.es.take j)) ⟨e.id,false⟩ e.a
 |_=>updT (updT (frM (p.es.take j)) ⟨e.id,false⟩ e.a) ⟨e.id,true⟩ e.b
def tuL (p:PL) (j:Nat) (e:Ed):Nat→Int→List Hf
 |0=>leavP (p.es.take j)
 |1=>updL (leavP (p.es.take j)) e.a ⟨e.id,false⟩
 |_=>updL (updL (leavP (p.es.take j)) e.a ⟨e.id,false⟩) e.b ⟨e.id,true⟩
theorem look_hf {w:World} {P:Program} {k e t:TypeId} {b n:Nat} {β:Type} {ev:β→Value} {g:Hf→Option β} (h:MapT w P k b n ekH ev g) (K:Keyed P k) (ht:P.underlying t=some (.map k e)) {z:Value} (hz:(zeroValue e).run P w= .ok z w) {x:Hf} {l:Lit} (hk:keyOf P k (ekH x)=some l) {u:β} (hg:g x=some u):
  (Instr.lookup t (.map (some b)) (.agg #[.int .i64 x.edge, .bool x.back]) false).run P w= .ok (ev u) w:=by
 have:=h.look K ht hz hk
 rw[hg] at this
 exact this
theorem cell_two_at {w:World} {t:TypeId} {a b u:Value} {q:Nat} (h:[a,b][q]? =some u):(w.alloc (.cells #[a,b] t)).cell? ⟨w.heap.size,q,none⟩=some u:=by
 rcases q with _|_|q
 ·cases h;simp[World.cell?_alloc_new]
 ·cases h;simp[World.cell?_alloc_new]
 ·simp at h
theorem updL_len (L:Int→List Hf) (id:Int) (h:Hf) (j:Int):(updL L id h j).length≤(L j).length+1:=by
 unfold updL
 split
 ·simp
 ·omega
theorem tuL_len {p:PL} {j:Nat} (e:Ed) (hj:j≤1024) (k:Nat) (id:Int):(tuL p j e k id).length≤2050:=by
 have h0:=leav_len (p.es.take j) id
 rw[List.length_take] at h0
 have h1:=updL_len (leavP (p.es.take j)) e.a ⟨e.id,false⟩ id
 have h2:=updL_len (updL (leavP (p.es.take j)) e.a ⟨e.id,false⟩) e.b ⟨e.id,true⟩ id
 rcases k with _|_|k<;>simp only[tuL]<;>omega
set_option maxRecDepth 100000 in
set_option maxHeartbeats 8000000 in
theorem spinTurn_any {w:World} {B vn vc en ec:Nat} {va ea:Option Addr} {p:PL} (r:RightP p) (hv:VsIn w B va vn p.vs) (he:EsIn w B ea en p.es) (hB:B≤w.heap.size) (hfit:FitPL p):
  Calls Try.prog 47 #[.agg #[.slice va vn vc, .slice ea en ec]] w fun e w'=> ∃ma mf mo mn n,e= .returned (.agg #[.map (some ma), .map (some mf), .map (some mo), .map (some mn)])∧MapT w' Try.prog 45 mn n ekH ekH (nxM p)∧w.heap.size≤mn∧Below w.heap.size w w':=by
 have HV:=Lib.hid hv
 have HE:=Lib.hid he
 have HF:=Lib.hid hfit
 have HR:=Lib.hid r
 have hmm:= @run_makeMap Try.prog
 have hn1:vn≤512:=by have:=r.nv;have:=hv.1;omega
 have hn2:en≤1024:=by have:=r.ne;have:=he.1;omega
 obtain⟨i0,hi,hz0,hz1,hz2⟩:=info_parts Try.infoHf
 clear hv he hfit r
 go_enter Try.func47,Try.ntmps47
 go_wp2_with fail
 first|refine wp_name (fun W hW=> ?_)|refine calls_name (fun W hW=> ?_)
 have HW:Hid (Below w.heap.size w W):=Lib.hid (by rw[←hW];repeat (first|exact Below.refl _ _|refine below_alloc ?_))
 have HWs:Hid (W.heap.size=w.heap.size+1+1+1+1+1+1+1):=Lib.hid (by rw[←hW];simp)
 skip
 have HC:=fun(W1:World) (hb:Touch (tuF w.heap.size) W W1)=>Lib.hid (show W1.cell? ⟨w.heap.size,0,none⟩=some (.slice va vn vc)∧W1.cell? ⟨w.heap.size,1,none⟩=some (.slice ea en ec)∧W1.cell? ⟨w.heap.size+1,0,none⟩=some (.map none)∧W1.cell? ⟨w.heap.size+1,1,none⟩=some (.map none)∧W1.cell? ⟨w.heap.size+1,2,none⟩=some (.map none)∧W1.cell? ⟨w.heap.size+1,3,none⟩=some (.map none)∧W1.cell? ⟨w.heap.size+1+1+1+1+1+1,0,none⟩=some (.map (some (w.heap.size+1+1)))∧W1.cell? ⟨w.heap.size+1+1+1+1+1+1,1,none⟩=some (.map (some (w.heap.size+1+1+1)))∧W1.cell? ⟨w.heap.size+1+1+1+1+1+1,2,none⟩=some (.map (some (w.heap.size+1+1+1+1)))∧W1.cell? ⟨w.heap.size+1+1+1+1+1+1,3,none⟩=some (.map (some (w.heap.size+1+1+1+1+1))) from by have hs:=HWs.out;refine⟨?_, ?_, ?_, ?_, ?_, ?_, ?_, ?_, ?_, ?_⟩<;>(refine(touch_cell hb (by omega) (by first|(simp;done)|(simp;omega)|(intro hm;simp at hm;omega))).trans ?_;rw[←hW];clear hW;go_simp))
 have HB:=Lib.hid (Touch.refl (tuF w.heap.size) W)
 have HZ:=fun(W1:World) (hb:W.heap.size≤W1.heap.size)=>Lib.hid (show w.heap.size<W1.heap.size∧w.heap.size+1<W1.heap.size∧w.heap.size+1+1+1+1+1+1<W1.heap.size from by have:=HWs.out;refine⟨?_, ?_, ?_⟩<;>omega)
 obtain⟨qx0,qx1,qx2,qx3,qx4,qx5,qx6,qx7,qx8,qx9⟩:=(HC _ HB.out).out
 obtain⟨rx0,rx1,rx2⟩:=(HZ _ HB.out.size).out
 have HI0:Hid (TuA w.heap.size W W 0 0 0 0 (fun _=>none) (fun _=>none) (fun _=>none) (fun _=>[])):=Lib.hid (TuI.start w _ _ _ hW)
 have HFZ:=fun(W1:World) (hb:Touch (tuF w.heap.size) W W1)=>Lib.hid (show∀j,W1.frozen? ⟨w.heap.size+1,j,none⟩=false from fun j=>(hb.frozen (p:=⟨w.heap.size+1,j,none⟩) (by show w.heap.size+1<W.heap.size;have:=HWs.out;omega) (by simp)).trans (by rw[←hW];clear hW;go_simp))
 have HFF:Hid (∀b∈tuF w.heap.size,w.heap.size≤b):=Lib.hid (by intro b hb;simp at hb;omega)
 have HAR:=fun(W1:World) (h:Touch (tuF w.heap.size) W W1)=>Lib.hid (args_touch HW.out h HFF.out hB)
 clear hW
 clear qx0 qx1 qx2 qx3 qx4 qx5 qx6 qx7 qx8 qx9 rx0 rx1 rx2
 go_loopw [24] (fun v wr=> ∃k:Nat,k≤vn∧v= .int .i64 k∧TuA w.heap.size W wr k 0 0 0 (vxM (p.vs.take k)) (fun _=>none) (fun _=>none) (fun _=>[])) (fun v _=>vn - (intOf v).toNat)
 case atStart=>exact⟨0,Nat.zero_le _,rfl,HI0.out⟩
 case round=>
  clear HB HI0
  obtain⟨k,hk,rfl,hI⟩:=hrel
  have HI:=Lib.hid hI
  have HB:=Lib.hid hI.tch
  clear hI
  obtain⟨qx0,qx1,qx2,qx3,qx4,qx5,qx6,qx7,qx8,qx9⟩:=(HC _ HB.out).out
  obtain⟨rx0,rx1,rx2⟩:=(HZ _ HB.out.size).out
  by_cases hlt:k<vn
  ·obtain⟨vb,off,v,rfl,hvb,hv,e0,e1,e2⟩:=(HV.out.below (HAR wr HB.out).out).at_ hlt
   have HKEY:=Lib.hid (key_i (HF.out.vs v (List.mem_of_getElem? hv)).1)
   have HSN:=Lib.hid (show vxM (p.vs.take (k+1))=updT (vxM (p.vs.take k)) v.id v from by rw[take_snoc' hv];exact vxM_snoc (HR.out.vs_new hv))
   have I1:=Lib.hid (HI.out.later (below_alloc (o:= .cells #[.int .i64 v.id, .int .i64 v.at_.x, .int .i64 v.at_.y] 53) (Below.refl wr.heap.size wr)))
   clear hv
   go_wp2_with (at_mapUpdate;refine wpList_update_T _ rfl _ _ _ 113 rfl 3 53 Try.keyInt Try.underlying113 (w.heap.size+1+1) k ekI vxV (vxM (p.vs.take k)) I1.out.at_ rfl (by unfold maxLen;omega) v.id _ rfl HKEY.out (ekI_inj _) v rfl ?_;intro w2 hm2 hg2;have HN:=Lib.hid (I1.out.putAt hm2 hg2);clear hm2 hg2)
   go_roundw
   case rel=>exact⟨k+1,by omega,by go_num,by rw[HSN.out];exact HN.out⟩
   case measure=>simp[intOf];omega
  ·obtain rfl:k=vn:=by omega
   have HI1:=Lib.hid (show TuA w.heap.size W wr p.vs.length (3*0) (2*0) 0 (vxM p.vs) (frM (p.es.take 0)) (fun _=>none) (leavP (p.es.take 0)) from by
    have:=HI.out
    rw[List.take_of_length_le (by have:=HV.out.1;omega),HV.out.1] at this
    exact this)
   have HVL:=Lib.hid HV.out.1
   clear HI hlt
   go_wp2_with fail
   clear qx0 qx1 qx2 qx3 qx4 qx5 qx6 qx7 qx8 qx9 rx0 rx1 rx2
   obtain⟨wo,rfl⟩: ∃wo:World,wo=wr:=⟨_,rfl⟩
   go_loopw [37] (fun v wr=> ∃j:Nat,j≤en∧v= .int .i64 j∧ ∃G,TuA w.heap.size W wr p.vs.length (3*j) (2*j) 0 (vxM p.vs) (frM (p.es.take j)) G (leavP (p.es.take j))) (fun v _=>en - (intOf v).toNat)
   case atStart=>exact⟨0,Nat.zero_le _,rfl,_,HI1.out⟩
   case round=>
    clear HB HI1
    obtain⟨j,hj,rfl,G,hI⟩:=hrel
    have HI:=Lib.hid hI
    have HB:=Lib.hid hI.tch
    clear hI
    obtain⟨qx0,qx1,qx2,qx3,qx4,qx5,qx6,qx7,qx8,qx9⟩:=(HC _ HB.out).out
    obtain⟨rx0,rx1,rx2⟩:=(HZ _ HB.out.size).out
    by_cases hlj:j<en
    ·obtain⟨eb,eoff,e,rfl,heb,he,e0,e1,e2⟩:=(HE.out.below (HAR wr HB.out).out).at_ hlj
     have hfe:=HF.out.es e (List.mem_of_getElem? he)
     have HKF:=Lib.hid (key_h (h:=⟨e.id,false⟩) hfe.1)
     have HKT:=Lib.hid (key_h (h:=⟨e.id,true⟩) hfe.1)
     have HKA:=Lib.hid (key_i hfe.2.1)
     have HKB:=Lib.hid (key_i hfe.2.2)
     have HSF:=Lib.hid (show frM (p.es.take (j+1))=tuG p j e 2 from by rw[take_snoc' he];exact frM_snoc (HR.out.es_new he))
     have HSL:=Lib.hid (show leavP (p.es.take (j+1))=tuL p j e 2 from by rw[take_snoc' he];exact(leav_upd (HR.out.es_new he)).symm)
     have HE0:Hid (TuE w W ((wr.alloc (.cells #[.int .i64 e.id, .int .i64 e.a, .int .i64 e.b] 63)).alloc (.cells #[.bool false, .bool true] 4)) wr.heap.size j p e 0 0 0 (tuG p j e 0) (tuL p j e 0)):=Lib.hid (by
      refine⟨⟨G,HI.out.later (below_alloc (below_alloc (Below.refl _ _)))⟩, ?_, ?_⟩
      ·exact World.rowIs.alloc (World.rowIs_alloc wr #[.int .i64 e.id, .int .i64 e.a, .int .i64 e.b] 63 (edF e) (fun i hi=>by rcases i with _|_|_|i<;>first|rfl|(simp at hi;omega))) _
      ·have:=World.rowIs_alloc (wr.alloc (.cells #[.int .i64 e.id, .int .i64 e.a, .int .i64 e.b] 63)) #[.bool false, .bool true] 4 boF (fun i hi=>by rcases i with _|_|i<;>first|rfl|(simp at hi;omega))
       have e9:(wr.alloc (.cells #[.int .i64 e.id, .int .i64 e.a, .int .i64 e.b] 63)).heap.size=wr.heap.size+1:=by simp
       rw[e9] at this
       exact this)
     have HFE:=Lib.hid hfe
     have HLL:=Lib.hid (fun k id=>tuL_len (p:=p) (j:=j) e (by omega) k id)
     have HWP:=Lib.hid (show W.heap.size≤wr.heap.size from HB.out.size)
     clear he hfe HI
     go_wp2_with fail
     clear qx0 qx1 qx2 qx3 qx4 qx5 qx6 qx7 qx8 qx9 rx0 rx1 rx2
     obtain⟨wp,rfl⟩: ∃wp:World,wp=wr:=⟨_,rfl⟩
     go_loopw [43] (fun v wr=> ∃k:Nat,k≤2∧v= .int .i64 k∧TuE w W wr wp.heap.size j p e k (nfK k) k (tuG p j e k) (tuL p j e k)) (fun v _=>2 - (intOf v).toNat)
     case atStart=>exact⟨0,by omega,rfl,HE0.out⟩
     case round=>
      clear HB HE0
      obtain⟨k,hk,rfl,⟨G,hI⟩,hed,hbo⟩:=hrel
      have HI:=Lib.hid hI
      have HB:=Lib.hid hI.tch
      have HED:=Lib.hid hed
      have HBO:=Lib.hid hbo
      clear hI hed hbo
      obtain⟨qx0,qx1,qx2,qx3,qx4,qx5,qx6,qx7,qx8,qx9⟩:=(HC _ HB.out).out
      obtain⟨rx0,rx1,rx2⟩:=(HZ _ HB.out.size).out
      rcases(show k=0∨k=1∨k=2 by omega) with rfl|rfl|rfl
      ·have c0:=World.rowIs.cell HED.out (i:=0) (by decide)
       have c1:=World.rowIs.cell HED.out (i:=1) (by decide)
       have c2:=World.rowIs.cell HED.out (i:=2) (by decide)
       have d0:=World.rowIs.cell HBO.out (i:=0) (by decide)
       simp only[edF,boF] at c0 c1 c2 d0
       have I1:=Lib.hid (HI.out.later (below_alloc (o:= .cells #[.int .i64 e.id, .bool false] 45) (Below.refl wr.heap.size wr)))
       have HHB:=Lib.hid (show(wr.alloc (.cells #[.int .i64 e.id, .bool false] 45)).rowIs wr.heap.size 45 2 (hbF e.id false) from World.rowIs_alloc wr #[.int .i64 e.id, .bool false] 45 (hbF e.id false) (fun i hi=>by rcases i with _|_|i<;>first|rfl|(simp at hi;omega)))
       have HWR:=Lib.hid (show wp.heap.size+1<wr.heap.size from World.rowIs.lt HBO.out)
       have hw1:=World.rowIs.lt HED.out
       have hw2:=World.rowIs.lt HBO.out
       have h0:=trivial
       have h1:=trivial
       go_wp2_with (at_mapUpdate;(refine wpList_update_T _ rfl _ _ _ 114 rfl 45 3 Try.keyHalf Try.underlying114 (w.heap.size+1+1+1) _ ekH ekI (tuG p j e 0) I1.out.fr rfl (by have:=nfK_le 0;have:=nfK_le 1;unfold maxLen;omega) (⟨e.id,false⟩:Hf) _ rfl HKF.out (ekH_inj _) e.a rfl ?_;intro w2 hm2 hg2;have k2:=Touch.of_grown hg2;have I2:=Lib.hid (I1.out.putFr hm2 hg2);have HED2:=Lib.hid (rowIs_touch (World.rowIs.alloc HED.out _) k2 (ne_toL (by have:=HWP.out;have:=HWs.out;omega)));have HBO2:=Lib.hid (rowIs_touch (World.rowIs.alloc HBO.out _) k2 (ne_toL (by have:=HWP.out;have:=HWs.out;omega)));have HHB2:=Lib.hid (rowIs_touch HHB.out k2 (ne_toL (by have:=HWP.out;have:=HWR.out;have:=HWs.out;omega)));have HC2:=HC _ I2.out.tch;clear hm2 hg2 k2 c0 c1 c2 d0 h0 h1;obtain⟨q9_0,q9_1,q9_2,q9_3,q9_4,q9_5,q9_6,q9_7,q9_8,q9_9⟩:=HC2.out;have c0:=World.rowIs.cell HED2.out (i:=0) (by decide);have c1:=World.rowIs.cell HED2.out (i:=1) (by decide);have c2:=World.rowIs.cell HED2.out (i:=2) (by decide);have h0:=World.rowIs.cell HHB2.out (i:=0) (by decide);have h1:=World.rowIs.cell HHB2.out (i:=1) (by decide);simp only[edF,hbF] at c0 c1 c2 h0 h1))
       obtain⟨rv,hrv⟩: ∃rv,rv=((G e.a).map hdV).getD (.slice none 0 0):=⟨_,rfl⟩
       have HRL:=Lib.hid (show∀b∈rv.ownBlock.toList,W.heap.size≤b∧b<wr.heap.size from fun b hb=>by rw[hrv] at hb;exact(HI.out.rows.row HI.out.nog e.a).lt b (Option.mem_toList.1 hb))
       have HRW:=Lib.hid (show w2.ownsRow W.heap.size 45 2 rv (tuL p j e 0 e.a).length (hfC (tuL p j e 0 e.a)) from by rw[hrv];exact I2.out.rows.row I2.out.nog e.a)
       have HY:=fun(w':World) (t:Touch rv.ownBlock.toList w2 w')=>Lib.hid (show w'.cell? ⟨w.heap.size+1+1+1+1+1+1,1,none⟩=some (.map (some (w.heap.size+1+1+1)))∧w'.cell? ⟨w.heap.size+1+1+1+1+1+1,2,none⟩=some (.map (some (w.heap.size+1+1+1+1)))∧
         w'.cell? ⟨wr.heap.size,0,none⟩=some (.int .i64 e.id)∧w'.cell? ⟨wr.heap.size,1,none⟩=some (.bool false)∧
         (Instr.lookup 114 (.map (some (w.heap.size+1+1+1))) (.agg #[.int .i64 e.id, .bool false]) false).run Try.prog w'= .ok (.int .i64 (e.a)) w'∧(Instr.lookup 115 (.map (some (w.heap.size+1+1+1+1))) (.int .i64 (e.a)) false).run Try.prog w'= .ok rv w' from by
        have hlo:=HRL.out
        have hws:=HWs.out
        have hsz:wr.heap.size<w2.heap.size:=World.rowIs.lt HHB2.out
        have hwr:=HWR.out
        have hwp:=HWP.out
        have no1: ∀q,q<W.heap.size→q∉rv.ownBlock.toList:=fun q hq hm=>by have:=(hlo q hm).1;omega
        have no2:wr.heap.size∉rv.ownBlock.toList:=fun hm=>by have:=(hlo _ hm).2;omega
        have hcc:=(HC _ I2.out.tch).out
        refine⟨(t.cell (p:=⟨_,_,none⟩) (by show w.heap.size+1+1+1+1+1+1<w2.heap.size;omega) (no1 (w.heap.size+1+1+1+1+1+1) (by omega))).trans hcc.2.2.2.2.2.2.2.1,(t.cell (p:=⟨_,_,none⟩) (by show w.heap.size+1+1+1+1+1+1<w2.heap.size;omega) (no1 (w.heap.size+1+1+1+1+1+1) (by omega))).trans hcc.2.2.2.2.2.2.2.2.1,
         (t.cell (p:=⟨wr.heap.size,0,none⟩) hsz no2).trans h0,(t.cell (p:=⟨wr.heap.size,1,none⟩) hsz no2).trans h1, ?_, ?_⟩
        ·exact look_hf (I2.out.fr.touch t (no1 _ (by omega))) Try.keyHalf Try.underlying114 (zeroInt w') (x:=⟨e.id,false⟩) (key_h (h:=⟨e.id,false⟩) HFE.out.1) (by simp[updT])
        ·have:=(I2.out.ou.touch t (no1 _ (by omega))).look (t:=115) Try.keyInt Try.underlying115 (zeroHs w') (x:=e.a) HKA.out
         rw[←hrv] at this
         exact this)
       have HRV:=Lib.hid hrv
       have HS0:=Lib.hid (Touch.refl rv.ownBlock.toList w2).drew
       clear hrv
       refine wp_region_noPanic ?_
       refine wp_region_par3 16 16 (by kernel_rfl) (by kernel_rfl) (by simp) (by omega) (by kernel_rfl) (by kernel_rfl) (fun w':World=>Touch rv.ownBlock.toList w2 w') ?_
       refine par3_move (v:= ?_) 0 (by simp only[zga,zgb,zgc];rfl) (by kernel_rfl) (by rfl) ?_ (fun _ _ _ h=>h) ?_
       rotate_left
       ·(intro w9;go_simp;try with_reducible rfl)
       simp only[Act.put,zpa,zpb,zpc]
       refine par3_read (v:= ?_) 1 (by simp only[zga,zgb,zgc];rfl) (by kernel_rfl) (by rfl) HS0.out ?_ (fun _ _ _ h=>h) ?_
       rotate_left
       ·(intro w9 hSw;obtain⟨y0,y1,y2,y3,y4,y5⟩:=(HY w9 hSw).out;clear hSw;go_simp;try with_reducible rfl)
       simp only[Act.put,zpa,zpb,zpc]
       refine par3_move (v:= ?_) 2 (by simp only[zga,zgb,zgc];rfl) (by kernel_rfl) (by rfl) ?_ (fun _ _ _ h=>h) ?_
       rotate_left
       ·(intro w9;go_simp;try with_reducible rfl)
       simp only[Act.put,zpa,zpb,zpc]
       refine par3_read (v:= ?_) 3 (by simp only[zga,zgb,zgc];rfl) (by kernel_rfl) (by rfl) HS0.out ?_ (fun _ _ _ h=>h) ?_
       rotate_left
       ·(intro w9 hSw;obtain⟨y0,y1,y2,y3,y4,y5⟩:=(HY w9 hSw).out;clear hSw;go_simp;try with_reducible rfl)
       simp only[Act.put,zpa,zpb,zpc]
       refine par3_read (v:= ?_) 4 (by simp only[zga,zgb,zgc];rfl) (by kernel_rfl) (by rfl) HS0.out ?_ (fun _ _ _ h=>h) ?_
       rotate_left
       ·(intro w9 hSw;obtain⟨y0,y1,y2,y3,y4,y5⟩:=(HY w9 hSw).out;clear hSw;go_simp;try with_reducible rfl)
       simp only[Act.put,zpa,zpb,zpc]
       refine par3_read (v:= ?_) 5 (by simp only[zga,zgb,zgc];rfl) (by kernel_rfl) (by rfl) HS0.out ?_ (fun _ _ _ h=>h) ?_
       rotate_left
       ·(intro w9 hSw;obtain⟨y0,y1,y2,y3,y4,y5⟩:=(HY w9 hSw).out;clear hSw;go_simp;try with_reducible rfl)
       simp only[Act.put,zpa,zpb,zpc]
       refine par3_move (v:= ?_) 6 (by simp only[zga,zgb,zgc];rfl) (by kernel_rfl) (by rfl) ?_ (fun _ _ _ h=>h) ?_
       rotate_left
       ·(intro w9;go_simp;try with_reducible rfl)
       simp only[Act.put,zpa,zpb,zpc]
       refine par3_read (v:= ?_) 7 (by simp only[zga,zgb,zgc];rfl) (by kernel_rfl) (by rfl) HS0.out ?_ (fun _ _ _ h=>h) ?_
       rotate_left
       ·(intro w9 hSw;obtain⟨y0,y1,y2,y3,y4,y5⟩:=(HY w9 hSw).out;clear hSw;go_simp;try with_reducible rfl)
       simp only[Act.put,zpa,zpb,zpc]
       refine par3_move (v:= ?_) 8 (by simp only[zga,zgb,zgc];rfl) (by kernel_rfl) (by rfl) ?_ (fun _ _ _ h=>h) ?_
       rotate_left
       ·(intro w9;go_simp;try with_reducible rfl)
       simp only[Act.put,zpa,zpb,zpc]
       refine par3_read (v:= ?_) 9 (by simp only[zga,zgb,zgc];rfl) (by kernel_rfl) (by rfl) HS0.out ?_ (fun _ _ _ h=>h) ?_
       rotate_left
       ·(intro w9 hSw;obtain⟨y0,y1,y2,y3,y4,y5⟩:=(HY w9 hSw).out;clear hSw;go_simp;try with_reducible rfl)
       simp only[Act.put,zpa,zpb,zpc]
       refine par3_read (v:= ?_) 10 (by simp only[zga,zgb,zgc];rfl) (by kernel_rfl) (by rfl) HS0.out ?_ (fun _ _ _ h=>h) ?_
       rotate_left
       ·(intro w9 hSw;obtain⟨y0,y1,y2,y3,y4,y5⟩:=(HY w9 hSw).out;clear hSw;go_simp;try with_reducible rfl)
       simp only[Act.put,zpa,zpb,zpc]
       refine par3_read (v:= ?_) 11 (by simp only[zga,zgb,zgc];rfl) (by kernel_rfl) (by rfl) HS0.out ?_ (fun _ _ _ h=>h) ?_
       rotate_left
       ·(intro w9 hSw;obtain⟨y0,y1,y2,y3,y4,y5⟩:=(HY w9 hSw).out;clear hSw;go_simp;try with_reducible rfl)
       simp only[Act.put,zpa,zpb,zpc]
       refine par3_read (v:= ?_) 12 (by simp only[zga,zgb,zgc];rfl) (by kernel_rfl) (by rfl) HS0.out ?_ (fun _ _ _ h=>h) ?_
       rotate_left
       ·(intro w9 hSw;obtain⟨y0,y1,y2,y3,y4,y5⟩:=(HY w9 hSw).out;clear hSw;go_simp;try with_reducible rfl)
       simp only[Act.put,zpa,zpb,zpc]
       refine par3_read (v:= ?_) 13 (by simp only[zga,zgb,zgc];rfl) (by kernel_rfl) (by rfl) HS0.out ?_ (fun _ _ _ h=>h) ?_
       rotate_left
       ·(intro w9 hSw;obtain⟨y0,y1,y2,y3,y4,y5⟩:=(HY w9 hSw).out;clear hSw;go_simp;try with_reducible rfl)
       simp only[Act.put,zpa,zpb,zpc]
       refine par3_one 14 (by simp only[zga,zgb,zgc];rfl) (by kernel_rfl) (by rfl) ?_
       refine owp_val (v:= ?_) (w1:= ?_) ?_ ?_
       rotate_left 2
       ·(obtain⟨y0,y1,y2,y3,y4,y5⟩:=(HY _ HS0.out).out;go_simp;constructor<;>rfl)
       refine⟨fun s _=>s.alloc _, ?_⟩
       simp only[Act.put,zpa,zpb,zpc]
       refine par3_one 15 (by simp only[zga,zgb,zgc];rfl) (by kernel_rfl) (by rfl) ?_
       have hb4:Below w2.heap.size w2 (w2.drew.alloc (.cells #[.int .i64 e.id, .bool false] 45)):=(Below.refl _ _).drew.alloc (Nat.le_refl _) _
       have I4:=Lib.hid (I2.out.later hb4)
       refine owp_append_near rfl (.tmp 74) (.tmp 76) 33 rfl W.heap.size 45 i0 (.agg #[.int .i64 0, .bool false]) 2 16 Try.underlying33 hi hz0 hz1 hz2 rfl (by decide) rv (tuL p j e 0 e.a).length (hfC (tuL p j e 0 e.a)) rfl (ownsRow_touch HRW.out (Touch.of_below (F:=[]) hb4) (by simp)) ⟨w2.heap.size,0,none⟩ 1 1 [.int .i64 e.id, .bool false] rfl (by decide) rfl (fun q u hu=>by rw[addr_add0];exact cell_two_at (w:=w2.drew) hu) (by intro u hu;simp at hu;rcases hu with rfl|rfl<;>rfl) (by have:=HLL.out 0 e.a;unfold maxLen;omega) (by have:=HLL.out 0 e.a;omega) (Nat.le_trans I2.out.tch.size hb4.size) ?_
       intro g cap w5 hown hgr hat
       rw[HRV.out] at hgr hat
       have hg5:=I4.out.grow (x:=⟨e.id,false⟩) hown hgr hat
       obtain⟨hm5,HK5⟩:=hg5
       rw[←HRV.out] at hgr hat
       have HED5:=Lib.hid (rowIs_touch (rowIs_touch HED2.out (Touch.of_below (F:=[]) hb4) (by simp)) (Touch.of_grown hgr) (own_not (ownsRow_touch HRW.out (Touch.of_below (F:=[]) hb4) (by simp)) (rowIs_touch HED2.out (Touch.of_below (F:=[]) hb4) (by simp)) (by decide)))
       have HBO5:=Lib.hid (rowIs_touch (rowIs_touch HBO2.out (Touch.of_below (F:=[]) hb4) (by simp)) (Touch.of_grown hgr) (own_not (ownsRow_touch HRW.out (Touch.of_below (F:=[]) hb4) (by simp)) (rowIs_touch HBO2.out (Touch.of_below (F:=[]) hb4) (by simp)) (by decide)))
       refine⟨fun s _=>s.trans (Touch.of_grown hgr) (fun b hb=> .inl hb), ?_⟩
       have HM5:=Lib.hid hm5
       have HKK:=Lib.hid HK5
       clear hown hgr hat hm5 HK5 hb4
       simp only[Act.put,zpa,zpb,zpc]
       refine par3_tail _ (by simp only[List.drop_succ_cons,List.drop_zero];rfl) (by kernel_rfl) ?_
       go_wp2_with (at_mapUpdate;refine wpList_update_T _ rfl _ _ _ 115 rfl 3 33 Try.keyInt Try.underlying115 (w.heap.size+1+1+1+1) _ ekI hdV G HM5.out rfl (by unfold maxLen;omega) (e.a) _ rfl HKA.out (ekI_inj _) ⟨g,(tuL p j e 0 e.a).length+1,cap⟩ rfl ?_;intro w6 hm6 hg6;have I6:=Lib.hid (HKK.out w6 hm6 hg6);have HED6:=Lib.hid (rowIs_touch HED5.out (Touch.of_grown hg6) (ne_toL (by have:=HWP.out;have:=HWs.out;omega)));have HBO6:=Lib.hid (rowIs_touch HBO5.out (Touch.of_grown hg6) (ne_toL (by have:=HWP.out;have:=HWs.out;omega)));clear hm6 hg6)
       refine NoPanic.normal ?_
       go_wp2_with fail
       go_roundw
       case rel=>exact⟨0+1,by omega,by go_num,⟨_,I6.out⟩,HED6.out,HBO6.out⟩
       case measure=>simp[intOf]
      ·have c0:=World.rowIs.cell HED.out (i:=0) (by decide)
       have c1:=World.rowIs.cell HED.out (i:=1) (by decide)
       have c2:=World.rowIs.cell HED.out (i:=2) (by decide)
       have d0:=World.rowIs.cell HBO.out (i:=1) (by decide)
       simp only[edF,boF] at c0 c1 c2 d0
       have I1:=Lib.hid (HI.out.later (below_alloc (o:= .cells #[.int .i64 e.id, .bool true] 45) (Below.refl wr.heap.size wr)))
       have HHB:=Lib.hid (show(wr.alloc (.cells #[.int .i64 e.id, .bool true] 45)).rowIs wr.heap.size 45 2 (hbF e.id true) from World.rowIs_alloc wr #[.int .i64 e.id, .bool true] 45 (hbF e.id true) (fun i hi=>by rcases i with _|_|i<;>first|rfl|(simp at hi;omega)))
       have HWR:=Lib.hid (show wp.heap.size+1<wr.heap.size from World.rowIs.lt HBO.out)
       have hw1:=World.rowIs.lt HED.out
       have hw2:=World.rowIs.lt HBO.out
       have h0:=trivial
       have h1:=trivial
       go_wp2_with (at_mapUpdate;first|(have I2':=I2;(refine wpList_update_T _ rfl _ _ _ 114 rfl 45 3 Try.keyHalf Try.underlying114 (w.heap.size+1+1+1) _ ekH ekI (updT (tuG p j e 1) ⟨e.id,true⟩ e.a) I2.out.fr rfl (by have:=nfK_le 0;have:=nfK_le 1;unfold maxLen;omega) (⟨e.id,true⟩:Hf) _ rfl HKT.out (ekH_inj _) e.b rfl ?_;intro w3 hm3 hg3;have k3:=Touch.of_grown hg3;have I3:=I2.out.putFr hm3 hg3;rw[updT_over] at I3;have I3:=Lib.hid I3;have HED3:=Lib.hid (rowIs_touch (HED2.out) k3 (ne_toL (by have:=HWP.out;have:=HWs.out;omega)));have HBO3:=Lib.hid (rowIs_touch (HBO2.out) k3 (ne_toL (by have:=HWP.out;have:=HWs.out;omega)));have HHB3:=Lib.hid (rowIs_touch HHB2.out k3 (ne_toL (by have:=HWP.out;have:=HWR.out;have:=HWs.out;omega)));have HC3:=HC _ I3.out.tch;clear hm3 hg3 k3 c0 c1 c2 h0 h1 q9_0 q9_1 q9_2 q9_3 q9_4 q9_5 q9_6 q9_7 q9_8 q9_9;obtain⟨q9_0,q9_1,q9_2,q9_3,q9_4,q9_5,q9_6,q9_7,q9_8,q9_9⟩:=HC3.out;have c0:=World.rowIs.cell HED3.out (i:=0) (by decide);have c1:=World.rowIs.cell HED3.out (i:=1) (by decide);have c2:=World.rowIs.cell HED3.out (i:=2) (by decide);have h0:=World.rowIs.cell HHB3.out (i:=0) (by decide);have h1:=World.rowIs.cell HHB3.out (i:=1) (by decide);simp only[edF,hbF] at c0 c1 c2 h0 h1))|(refine wpList_update_T _ rfl _ _ _ 114 rfl 45 3 Try.keyHalf Try.underlying114 (w.heap.size+1+1+1) _ ekH ekI (tuG p j e 1) I1.out.fr rfl (by have:=nfK_le 0;have:=nfK_le 1;unfold maxLen;omega) (⟨e.id,true⟩:Hf) _ rfl HKT.out (ekH_inj _) e.a rfl ?_;intro w2 hm2 hg2;have k2:=Touch.of_grown hg2;have I2:=Lib.hid (I1.out.putFr hm2 hg2);have HED2:=Lib.hid (rowIs_touch (World.rowIs.alloc HED.out _) k2 (ne_toL (by have:=HWP.out;have:=HWs.out;omega)));have HBO2:=Lib.hid (rowIs_touch (World.rowIs.alloc HBO.out _) k2 (ne_toL (by have:=HWP.out;have:=HWs.out;omega)));have HHB2:=Lib.hid (rowIs_touch HHB.out k2 (ne_toL (by have:=HWP.out;have:=HWR.out;have:=HWs.out;omega)));have HC2:=HC _ I2.out.tch;clear hm2 hg2 k2 c0 c1 c2 d0 h0 h1;obtain⟨q9_0,q9_1,q9_2,q9_3,q9_4,q9_5,q9_6,q9_7,q9_8,q9_9⟩:=HC2.out;have c0:=World.rowIs.cell HED2.out (i:=0) (by decide);have c1:=World.rowIs.cell HED2.out (i:=1) (by decide);have c2:=World.rowIs.cell HED2.out (i:=2) (by decide);have h0:=World.rowIs.cell HHB2.out (i:=0) (by decide);have h1:=World.rowIs.cell HHB2.out (i:=1) (by decide);simp only[edF,hbF] at c0 c1 c2 h0 h1))
       obtain⟨rv,hrv⟩: ∃rv,rv=((G e.b).map hdV).getD (.slice none 0 0):=⟨_,rfl⟩
       have HRL:=Lib.hid (show∀b∈rv.ownBlock.toList,W.heap.size≤b∧b<wr.heap.size from fun b hb=>by rw[hrv] at hb;exact(HI.out.rows.row HI.out.nog e.b).lt b (Option.mem_toList.1 hb))
       have HRW:=Lib.hid (show w3.ownsRow W.heap.size 45 2 rv (tuL p j e 1 e.b).length (hfC (tuL p j e 1 e.b)) from by rw[hrv];exact I3.out.rows.row I3.out.nog e.b)
       have HY:=fun(w':World) (t:Touch rv.ownBlock.toList w3 w')=>Lib.hid (show w'.cell? ⟨w.heap.size+1+1+1+1+1+1,1,none⟩=some (.map (some (w.heap.size+1+1+1)))∧w'.cell? ⟨w.heap.size+1+1+1+1+1+1,2,none⟩=some (.map (some (w.heap.size+1+1+1+1)))∧
         w'.cell? ⟨wr.heap.size,0,none⟩=some (.int .i64 e.id)∧w'.cell? ⟨wr.heap.size,1,none⟩=some (.bool true)∧
         (Instr.lookup 114 (.map (some (w.heap.size+1+1+1))) (.agg #[.int .i64 e.id, .bool true]) false).run Try.prog w'= .ok (.int .i64 (e.b)) w'∧(Instr.lookup 115 (.map (some (w.heap.size+1+1+1+1))) (.int .i64 (e.b)) false).run Try.prog w'= .ok rv w' from by
        have hlo:=HRL.out
        have hws:=HWs.out
        have hsz:wr.heap.size<w3.heap.size:=World.rowIs.lt HHB3.out
        have hwr:=HWR.out
        have hwp:=HWP.out
        have no1: ∀q,q<W.heap.size→q∉rv.ownBlock.toList:=fun q hq hm=>by have:=(hlo q hm).1;omega
        have no2:wr.heap.size∉rv.ownBlock.toList:=fun hm=>by have:=(hlo _ hm).2;omega
        have hcc:=(HC _ I3.out.tch).out
        refine⟨(t.cell (p:=⟨_,_,none⟩) (by show w.heap.size+1+1+1+1+1+1<w3.heap.size;omega) (no1 (w.heap.size+1+1+1+1+1+1) (by omega))).trans hcc.2.2.2.2.2.2.2.1,(t.cell (p:=⟨_,_,none⟩) (by show w.heap.size+1+1+1+1+1+1<w3.heap.size;omega) (no1 (w.heap.size+1+1+1+1+1+1) (by omega))).trans hcc.2.2.2.2.2.2.2.2.1,
         (t.cell (p:=⟨wr.heap.size,0,none⟩) hsz no2).trans h0,(t.cell (p:=⟨wr.heap.size,1,none⟩) hsz no2).trans h1, ?_, ?_⟩
        ·exact look_hf (I3.out.fr.touch t (no1 _ (by omega))) Try.keyHalf Try.underlying114 (zeroInt w') (x:=⟨e.id,true⟩) (key_h (h:=⟨e.id,true⟩) HFE.out.1) (by simp[updT])
        ·have:=(I3.out.ou.touch t (no1 _ (by omega))).look (t:=115) Try.keyInt Try.underlying115 (zeroHs w') (x:=e.b) HKB.out
         rw[←hrv] at this
         exact this)
       have HRV:=Lib.hid hrv
       have HS0:=Lib.hid (Touch.refl rv.ownBlock.toList w3).drew
       clear hrv
       refine wp_region_noPanic ?_
       refine wp_region_par3 16 16 (by kernel_rfl) (by kernel_rfl) (by simp) (by omega) (by kernel_rfl) (by kernel_rfl) (fun w':World=>Touch rv.ownBlock.toList w3 w') ?_
       refine par3_move (v:= ?_) 0 (by simp only[zga,zgb,zgc];rfl) (by kernel_rfl) (by rfl) ?_ (fun _ _ _ h=>h) ?_
       rotate_left
       ·(intro w9;go_simp;try with_reducible rfl)
       simp only[Act.put,zpa,zpb,zpc]
       refine par3_read (v:= ?_) 1 (by simp only[zga,zgb,zgc];rfl) (by kernel_rfl) (by rfl) HS0.out ?_ (fun _ _ _ h=>h) ?_
       rotate_left
       ·(intro w9 hSw;obtain⟨y0,y1,y2,y3,y4,y5⟩:=(HY w9 hSw).out;clear hSw;go_simp;try with_reducible rfl)
       simp only[Act.put,zpa,zpb,zpc]
       refine par3_move (v:= ?_) 2 (by simp only[zga,zgb,zgc];rfl) (by kernel_rfl) (by rfl) ?_ (fun _ _ _ h=>h) ?_
       rotate_left
       ·(intro w9;go_simp;try with_reducible rfl)
       simp only[Act.put,zpa,zpb,zpc]
       refine par3_read (v:= ?_) 3 (by simp only[zga,zgb,zgc];rfl) (by kernel_rfl) (by rfl) HS0.out ?_ (fun _ _ _ h=>h) ?_
       rotate_left
       ·(intro w9 hSw;obtain⟨y0,y1,y2,y3,y4,y5⟩:=(HY w9 hSw).out;clear hSw;go_simp;try with_reducible rfl)
       simp only[Act.put,zpa,zpb,zpc]
       refine par3_read (v:= ?_) 4 (by simp only[zga,zgb,zgc];rfl) (by kernel_rfl) (by rfl) HS0.out ?_ (fun _ _ _ h=>h) ?_
       rotate_left
       ·(intro w9 hSw;obtain⟨y0,y1,y2,y3,y4,y5⟩:=(HY w9 hSw).out;clear hSw;go_simp;try with_reducible rfl)
       simp only[Act.put,zpa,zpb,zpc]
       refine par3_read (v:= ?_) 5 (by simp only[zga,zgb,zgc];rfl) (by kernel_rfl) (by rfl) HS0.out ?_ (fun _ _ _ h=>h) ?_
       rotate_left
       ·(intro w9 hSw;obtain⟨y0,y1,y2,y3,y4,y5⟩:=(HY w9 hSw).out;clear hSw;go_simp;try with_reducible rfl)
       simp only[Act.put,zpa,zpb,zpc]
       refine par3_move (v:= ?_) 6 (by simp only[zga,zgb,zgc];rfl) (by kernel_rfl) (by rfl) ?_ (fun _ _ _ h=>h) ?_
       rotate_left
       ·(intro w9;go_simp;try with_reducible rfl)
       simp only[Act.put,zpa,zpb,zpc]
       refine par3_read (v:= ?_) 7 (by simp only[zga,zgb,zgc];rfl) (by kernel_rfl) (by rfl) HS0.out ?_ (fun _ _ _ h=>h) ?_
       rotate_left
       ·(intro w9 hSw;obtain⟨y0,y1,y2,y3,y4,y5⟩:=(HY w9 hSw).out;clear hSw;go_simp;try with_reducible rfl)
       simp only[Act.put,zpa,zpb,zpc]
       refine par3_move (v:= ?_) 8 (by simp only[zga,zgb,zgc];rfl) (by kernel_rfl) (by rfl) ?_ (fun _ _ _ h=>h) ?_
       rotate_left
       ·(intro w9;go_simp;try with_reducible rfl)
       simp only[Act.put,zpa,zpb,zpc]
       refine par3_read (v:= ?_) 9 (by simp only[zga,zgb,zgc];rfl) (by kernel_rfl) (by rfl) HS0.out ?_ (fun _ _ _ h=>h) ?_
       rotate_left
       ·(intro w9 hSw;obtain⟨y0,y1,y2,y3,y4,y5⟩:=(HY w9 hSw).out;clear hSw;go_simp;try with_reducible rfl)
       simp only[Act.put,zpa,zpb,zpc]
       refine par3_read (v:= ?_) 10 (by simp only[zga,zgb,zgc];rfl) (by kernel_rfl) (by rfl) HS0.out ?_ (fun _ _ _ h=>h) ?_
       rotate_left
       ·(intro w9 hSw;obtain⟨y0,y1,y2,y3,y4,y5⟩:=(HY w9 hSw).out;clear hSw;go_simp;try with_reducible rfl)
       simp only[Act.put,zpa,zpb,zpc]
       refine par3_read (v:= ?_) 11 (by simp only[zga,zgb,zgc];rfl) (by kernel_rfl) (by rfl) HS0.out ?_ (fun _ _ _ h=>h) ?_
       rotate_left
       ·(intro w9 hSw;obtain⟨y0,y1,y2,y3,y4,y5⟩:=(HY w9 hSw).out;clear hSw;go_simp;try with_reducible rfl)
       simp only[Act.put,zpa,zpb,zpc]
       refine par3_read (v:= ?_) 12 (by simp only[zga,zgb,zgc];rfl) (by kernel_rfl) (by rfl) HS0.out ?_ (fun _ _ _ h=>h) ?_
       rotate_left
       ·(intro w9 hSw;obtain⟨y0,y1,y2,y3,y4,y5⟩:=(HY w9 hSw).out;clear hSw;go_simp;try with_reducible rfl)
       simp only[Act.put,zpa,zpb,zpc]
       refine par3_read (v:= ?_) 13 (by simp only[zga,zgb,zgc];rfl) (by kernel_rfl) (by rfl) HS0.out ?_ (fun _ _ _ h=>h) ?_
       rotate_left
       ·(intro w9 hSw;obtain⟨y0,y1,y2,y3,y4,y5⟩:=(HY w9 hSw).out;clear hSw;go_simp;try with_reducible rfl)
       simp only[Act.put,zpa,zpb,zpc]
       refine par3_one 14 (by simp only[zga,zgb,zgc];rfl) (by kernel_rfl) (by rfl) ?_
       refine owp_val (v:= ?_) (w1:= ?_) ?_ ?_
       rotate_left 2
       ·(obtain⟨y0,y1,y2,y3,y4,y5⟩:=(HY _ HS0.out).out;go_simp;constructor<;>rfl)
       refine⟨fun s _=>s.alloc _, ?_⟩
       simp only[Act.put,zpa,zpb,zpc]
       refine par3_one 15 (by simp only[zga,zgb,zgc];rfl) (by kernel_rfl) (by rfl) ?_
       have hb4:Below w3.heap.size w3 (w3.drew.alloc (.cells #[.int .i64 e.id, .bool true] 45)):=(Below.refl _ _).drew.alloc (Nat.le_refl _) _
       have I4:=Lib.hid (I3.out.later hb4)
       refine owp_append_near rfl (.tmp 74) (.tmp 76) 33 rfl W.heap.size 45 i0 (.agg #[.int .i64 0, .bool false]) 2 16 Try.underlying33 hi hz0 hz1 hz2 rfl (by decide) rv (tuL p j e 1 e.b).length (hfC (tuL p j e 1 e.b)) rfl (ownsRow_touch HRW.out (Touch.of_below (F:=[]) hb4) (by simp)) ⟨w3.heap.size,0,none⟩ 1 1 [.int .i64 e.id, .bool true] rfl (by decide) rfl (fun q u hu=>by rw[addr_add0];exact cell_two_at (w:=w3.drew) hu) (by intro u hu;simp at hu;rcases hu with rfl|rfl<;>rfl) (by have:=HLL.out 1 e.b;unfold maxLen;omega) (by have:=HLL.out 1 e.b;omega) (Nat.le_trans I3.out.tch.size hb4.size) ?_
       intro g cap w5 hown hgr hat
       rw[HRV.out] at hgr hat
       have hg5:=I4.out.grow (x:=⟨e.id,true⟩) hown hgr hat
       obtain⟨hm5,HK5⟩:=hg5
       rw[←HRV.out] at hgr hat
       have HED5:=Lib.hid (rowIs_touch (rowIs_touch HED3.out (Touch.of_below (F:=[]) hb4) (by simp)) (Touch.of_grown hgr) (own_not (ownsRow_touch HRW.out (Touch.of_below (F:=[]) hb4) (by simp)) (rowIs_touch HED3.out (Touch.of_below (F:=[]) hb4) (by simp)) (by decide)))
       have HBO5:=Lib.hid (rowIs_touch (rowIs_touch HBO3.out (Touch.of_below (F:=[]) hb4) (by simp)) (Touch.of_grown hgr) (own_not (ownsRow_touch HRW.out (Touch.of_below (F:=[]) hb4) (by simp)) (rowIs_touch HBO3.out (Touch.of_below (F:=[]) hb4) (by simp)) (by decide)))
       refine⟨fun s _=>s.trans (Touch.of_grown hgr) (fun b hb=> .inl hb), ?_⟩
       have HM5:=Lib.hid hm5
       have HKK:=Lib.hid HK5
       clear hown hgr hat hm5 HK5 hb4
       simp only[Act.put,zpa,zpb,zpc]
       refine par3_tail _ (by simp only[List.drop_succ_cons,List.drop_zero];rfl) (by kernel_rfl) ?_
       go_wp2_with (at_mapUpdate;refine wpList_update_T _ rfl _ _ _ 115 rfl 3 33 Try.keyInt Try.underlying115 (w.heap.size+1+1+1+1) _ ekI hdV G HM5.out rfl (by unfold maxLen;omega) (e.b) _ rfl HKB.out (ekI_inj _) ⟨g,(tuL p j e 1 e.b).length+1,cap⟩ rfl ?_;intro w6 hm6 hg6;have I6:=Lib.hid (HKK.out w6 hm6 hg6);have HED6:=Lib.hid (rowIs_touch HED5.out (Touch.of_grown hg6) (ne_toL (by have:=HWP.out;have:=HWs.out;omega)));have HBO6:=Lib.hid (rowIs_touch HBO5.out (Touch.of_grown hg6) (ne_toL (by have:=HWP.out;have:=HWs.out;omega)));clear hm6 hg6)
       refine NoPanic.normal ?_
       go_wp2_with fail
       go_roundw
       case rel=>exact⟨1+1,by omega,by go_num,⟨_,I6.out⟩,HED6.out,HBO6.out⟩
       case measure=>simp[intOf]
      ·go_wp2_with fail
       go_roundw
       case rel=>exact⟨j+1,by omega,by go_num,G,by rw[HSF.out,HSL.out];exact HI.out⟩
       case measure=>simp[intOf];omega
    ·obtain rfl:j=en:=by omega
     have HEL:=Lib.hid HE.out.1
     have HI2:=Lib.hid (show TuA w.heap.size W wr p.vs.length (3*j) (2*j) 0 (vxM p.vs) (frM p.es) G (leavP p.es) from by
      have:=HI.out
      rwa [List.take_of_length_le (by have:=HEL.out;omega)] at this)
     clear HI hlj hj
     have hmf: ∀(a b:Value) (w:World),(Instr.makeFunc (Fn.func 75) #[] #[a,b]).run Try.prog w= .ok (.func (Fn.func 75) #[] #[a,b]) w:=fun a b w=>by kernel_rfl
     have hfl:=fldAt
     have HEG:Hid (∀args w,(callFunc 75 args).run Try.prog w= .ok (.enter 75 args) w):=Lib.hid (enters_of Try.func75 (by kernel_rfl) rfl)
     go_wp2_with (at_range;refine wpList_range_T _ rfl _ 115 rfl 3 33 Try.keyInt Try.underlying115 (w.heap.size+1+1+1+1) (2*j) ekI hdV G rfl HI2.out.ou ?_;intro w5 cnt hrg hg5 hs5;have I5:=Lib.hid (TuR.start HI2.out hrg hg5 hs5);clear hrg hg5 hs5)
     go_frame
     have HNO:=Lib.hid HI2.out.nog
     have HGN:=Lib.hid (show∀id x,G id=some x→leavP p.es id≠ [] from fun id x hx e=>by
      obtain⟨h1,h2, -⟩:=HI2.out.rows.own id x hx
      rw[e] at h1
      simp at h1
      omega)
     have HRB:=Lib.hid (show W.heap.size≤wr.heap.size from HB.out.size)
     clear HI2
     clear qx0 qx1 qx2 qx3 qx4 qx5 qx6 qx7 qx8 qx9 rx0 rx1 rx2
     obtain⟨wo,rfl⟩: ∃wo:World,wo=wr:=⟨_,rfl⟩
     go_loopw [11] (fun _ wr=> ∃(ds:List Int) (left:Int→Bool) (cnt:Nat),TuRA w.heap.size wo.heap.size W wr p p.vs.length (3*j) (2*j) (2048*ds.length) cnt G left (nxD p ds)∧(∀x,left x=((G x).isSome&& !decide (x∈ds)))∧ds.Nodup∧(∀x∈ds,(G x).isSome=true)) (fun _ wr=>wr.rangeLeft (w.heap.size+1+1+1+1) wo.heap.size)
     case atStart=>exact⟨[],_,_,by rw[nxD_nil];exact I5.out,fun x=>by simp,List.nodup_nil,fun x hx=>by cases hx⟩
     case round=>
      clear I5 HB
      obtain⟨ds,left,cnt2,hI,hlf,hnd,hds⟩:=hrel
      have HI:=Lib.hid hI
      have HLF:=Lib.hid hlf
      have HND:=Lib.hid hnd
      have HDS:=Lib.hid hds
      have HB:=Lib.hid hI.tch
      clear hI hlf hnd hds
      obtain⟨qx0,qx1,qx2,qx3,qx4,qx5,qx6,qx7,qx8,qx9⟩:=(HC _ HB.out).out
      obtain⟨rx0,rx1,rx2⟩:=(HZ _ HB.out.size).out
      go_wp2_with (at_next;refine wpList_next_T _ rfl _ rfl 3 Try.keyInt (w.heap.size+1+1+1+1) wo.heap.size (2*j) ekI hdV G left cnt2 (fun key kl hk=>by obtain⟨x,rfl,_⟩:=Maps.keyOf_int_inv Try.underlying3 hk;exact⟨x,rfl⟩) (fun y z h=>ekI_inj _ _ h) rfl HI.out.rg ?done ?more)
      case done=>
       intro hall
       have HALL:=Lib.hid (show nxD p ds=nxM p from nxD_all (fun x hx=>by
        have hne:leavP p.es (toH p.es x)≠ []:=List.ne_nil_of_mem (mem_leav.2 ⟨twin_mem hx,rfl⟩)
        have hsome:(G (toH p.es x)).isSome=true:=by
         cases e:G (toH p.es x) with
         |none=>exact absurd (HNO.out _ e) hne
         |some _=>rfl
        have h1:=hall (toH p.es x) _ (key_i (HF.out.from_ (twinH x)))
        rw[HLF.out,hsome] at h1
        simpa using h1))
       clear hall
       have fz:=(HFZ _ HB.out).out
       go_wp2_with fail
       refine bodyPost_ret (v:= .agg #[.map (some (w.heap.size+1+1)), .map (some (w.heap.size+1+1+1)), .map (some (w.heap.size+1+1+1+1)), .map (some (w.heap.size+1+1+1+1+1))]) (by simp[results,Try.results47,go_sem, *]) rfl ⟨_,_,_,_,2048*ds.length,rfl, ?_,by omega, ?_⟩
       ·rw[←HALL.out]
        refine HI.out.nx.touch (F:=[w.heap.size+1]) ?_ (by simp;omega)
        iterate 4 refine Touch.setCell ?_ (.inl (by simp)) _
        exact Touch.refl _ _
       ·have h3:Below w.heap.size w wr:=HW.out.trans (Touch.below HB.out HW.out.size HFF.out)
        exact(((h3.setCell (by simp) _).setCell (by simp) _).setCell (by simp) _).setCell (by simp) _
      case more=>
       intro id hd kl w2 cnt3 hk hl hg hrg hlt hgr hsz hen
       obtain⟨hb,hn,hc⟩:=hd
       obtain⟨hn1,hn0,hown⟩:=HI.out.rows.own id ⟨hb,hn,hc⟩ (by show(if left id=true then G id else none)=_;rw[if_pos hl];exact hg)
       simp only at hn1 hn0 hown
       subst hn1
       have hblt:hb<wo.heap.size:=HI.out.lt id _ hg
       have hblo:W.heap.size≤hb:=(hown.lt hb rfl).1
       have hrlo:=HI.out.rblo
       have hown2:=ownsRow_touch hown (Touch.of_grown hgr) (fun q hq=>by cases hq;exact ne_toL (show hb≠wo.heap.size by omega))
       have HS2:=Lib.hid (show HsAt w2 hb 0 (leavP p.es id) from own_hs hown2)
       have HF2:=Lib.hid (show∀j,w2.frozen? ⟨hb,j,none⟩=false from own_fz hown2)
       have I2:=Lib.hid (HI.out.next hrg hgr (fun x hx=>by simp at hx;exact hx.1))
       have HNE:=Lib.hid (show leavP p.es id≠ [] from fun e=>by rw[e] at hn0;simp at hn0)
       obtain⟨x0,hx0⟩:=List.exists_mem_of_ne_nil _ HNE.out
       obtain⟨hm0,he0⟩:=mem_leav.1 hx0
       obtain⟨v,hv,hva⟩:=HR.out.vx_of (twin_mem hm0)
       rw[show toH p.es (twinH x0)=id by unfold toH;rw[twin_twin];exact he0] at hv
       have HPZ:=Lib.hid (show ptZ p.vs id=v.at_ from by unfold ptZ;rw[←vxM_pt,hv];rfl)
       have HID:=Lib.hid (show fitI id from he0▸HF.out.from_ x0)
       have lk:(Instr.lookup 113 (.map (some (w.heap.size+1+1))) (.int .i64 id) false).run Try.prog w2= .ok (.agg #[.int .i64 v.id, .int .i64 v.at_.x, .int .i64 v.at_.y]) w2:=by
        have:=I2.out.at_.look (t:=113) Try.keyInt Try.underlying113 (zeroVx w2) (x:=id) (key_i HID.out)
        rw[hv] at this
        exact this
       have HBO:=Lib.hid (show W.heap.size≤hb∧hb<wo.heap.size from⟨hblo,hblt⟩)
       have hsz2:wo.heap.size<w2.heap.size:=by have:=HI.out.rg.lt;omega
       have HSZ:=Lib.hid hsz2
       have HLV:=Lib.hid (show left id=true from hl)
       have HGI:=Lib.hid (show(G id).isSome=true from by rw[hg];rfl)
       have HLT:=Lib.hid hlt
       have HNI:=Lib.hid (show id∉ds from fun hm=>by
        have:=HLF.out id
        rw[hl] at this
        simp[hm] at this)
       have HAP:=Lib.hid (show∀j x,(left j&& !decide (j=id))=true→G j=some x→x.b≠hb from fun j x hj hx=>by
        simp at hj
        exact HI.out.rows.apart j id x ⟨hb,_,hc⟩ (by show(if left j=true then G j else none)=_;rw[if_pos hj.1];exact hx) (by show(if left id=true then G id else none)=_;rw[if_pos hl];exact hg) hj.2)
       have I3:=Lib.hid (I2.out.later (below_alloc (o:=ptC v.at_) (Below.refl w2.heap.size w2)))
       have HSC:Hid (Calls Try.prog 74 #[.slice (some ⟨hb,0,none⟩) (leavP p.es id).length hc, .func (.func 75) #[] #[.pointer (some ⟨w2.heap.size,0,none⟩), .pointer (some ⟨w.heap.size+1+1+1+1+1+1,0,none⟩)]] (w2.alloc (ptC v.at_)) fun e w'=>e= .returned (.tuple #[])∧Touch [hb] (w2.alloc (ptC v.at_)) w'∧HsAt w' hb 0 (outP p id)):=Lib.hid (by
        have bl:Below w2.heap.size w2 (w2.alloc (ptC v.at_)):=below_alloc (Below.refl _ _)
        have hws:=HWs.out
        have hcc:=(HC _ I3.out.tch).out
        have hlow:=HBO.out
        have hs3:=HSZ.out
        refine sort_of Try.sortHf Try.isAgg45 Try.sizeOf45 HR.out HNE.out 75 _ hb 0 hc (w2.alloc (ptC v.at_)) HEG.out (fun x y w1 t=> ?_) (HS2.out.below bl (by omega)) (fun j hj=> ?_) (by simp;omega) (by have:=leav_len p.es id;have:=HEL.out;omega)
        ·have nb: ∀q,q<W.heap.size→q∉ [hb]:=fun q hq hm=>by simp at hm;omega
         have ho:=ptc_new w2 v.at_
         refine(D.cmp_any (bo:=w2.heap.size) (bw:=w.heap.size+1+1+1+1+1+1) HR.out HF.out x y ?_ ?_ ?_ ?_ (I3.out.at_.touch t (nb _ (by omega))) (I3.out.fr.touch t (nb _ (by omega)))).mono (fun e w' h=>⟨h.1,h.2.grows⟩)
         ·rw[HPZ.out]
          exact⟨(t.cell (p:=⟨w2.heap.size,0,none⟩) (by simp) (by simp;omega)).trans ho.1,(t.cell (p:=⟨w2.heap.size,1,none⟩) (by simp) (by simp;omega)).trans ho.2⟩
         ·exact⟨(t.cell (p:=⟨_,_,none⟩) (by show w.heap.size+1+1+1+1+1+1<_;simp;omega) (nb (w.heap.size+1+1+1+1+1+1) (by omega))).trans hcc.2.2.2.2.2.2.1,(t.cell (p:=⟨_,_,none⟩) (by show w.heap.size+1+1+1+1+1+1<_;simp;omega) (nb (w.heap.size+1+1+1+1+1+1) (by omega))).trans hcc.2.2.2.2.2.2.2.1⟩
         ·have:=t.size;simp at this;omega
         ·have:=t.size;simp at this;omega
        ·rw[bl.frozen (p:=⟨hb,0+j,none⟩) (by show hb<_;omega)]
         exact HF2.out _)
       clear hk hl hg hrg hlt hgr hsz hown hown2 hrlo hx0 hm0 he0 hv hva hn0 hblt hblo
       have HB:=Lib.hid I2.out.tch
       clear qx0 qx1 qx2 qx3 qx4 qx5 qx6 qx7 qx8 qx9 rx0 rx1 rx2
       obtain⟨qx0,qx1,qx2,qx3,qx4,qx5,qx6,qx7,qx8,qx9⟩:=(HC _ HB.out).out
       obtain⟨rx0,rx1,rx2⟩:=(HZ _ HB.out.size).out
       simp only[ekI,hdV] at hen
       have hbl3:hb<w2.heap.size:=by have:=HBO.out;have:=HSZ.out;omega
       have HNP:=Lib.hid (show 0<(leavP p.es id).length from List.length_pos_iff.2 HNE.out)
       go_wp2_with (go_at_call 74;refine HSC.out.mono ?_;rintro e w4 ⟨rfl,t4,hs4⟩;have I4:=Lib.hid (I3.out.touch t4 (by have:=HBO.out;simp;omega) (by have:=HBO.out;simp;omega) (fun j x hj hx=>by simpa using HAP.out j x hj hx));have HS4:=Lib.hid hs4;have HB4:=Lib.hid (show hb<w4.heap.size from by have h4:=t4.size;have h5:=HBO.out;have h6:=HSZ.out;simp at h4;omega);clear t4 hs4)
       have HB:=Lib.hid I4.out.tch
       clear qx0 qx1 qx2 qx3 qx4 qx5 qx6 qx7 qx8 qx9 rx0 rx1 rx2
       clear lk hen hbl3
       have hlen:=out_len (p:=p) id
       have hlle:=leav_len p.es id
       obtain⟨N,hN⟩: ∃N,N=(leavP p.es id).length:=⟨_,rfl⟩
       have HLEN:=Lib.hid (show(outP p id).length=N from by rw[hN];exact hlen)
       have hN2:N≤2048:=by have:=HEL.out;omega
       have hN0:0<N:=by rw[hN];exact HNP.out
       have HDF:=Lib.hid (show ds.length≤512 from HR.out.ds_few HND.out (fun x hx e=>by
        have h1:=HDS.out x hx
        cases e2:G x with
        |none=>rw[e2] at h1;cases h1
        |some y=>exact HGN.out x y e2 e))
       rw[←hN]
       clear hlen hlle hN
       obtain⟨left',hL'⟩: ∃l:Int→Bool,l=fun z=>left z&& !decide (z=id):=⟨_,rfl⟩
       rw[←hL'] at I4
       have HL':=Lib.hid hL'
       clear hL'
       go_wp2_with fail
       go_loopw [98] (fun v wr=> ∃i:Nat,i≤N∧v= .int .i64 i∧TuRA w.heap.size wo.heap.size W wr p p.vs.length (3*j) (2*j) (2048*ds.length+i) cnt3 G left' (nxI p ds id i)∧HsAt wr hb 0 (outP p id)∧hb<wr.heap.size) (fun v _=>N - (intOf v).toNat)
       case atStart=>exact⟨0,Nat.zero_le _,rfl,by rw[nxI_zero];exact I4.out,HS4.out,HB4.out⟩
       case round=>
        clear HB I4 HS4 HB4
        obtain⟨i,hi',rfl,hI5,hs5,hb5⟩:=hrel
        have I5:=Lib.hid hI5
        have HS5:=Lib.hid hs5
        have HB5:=Lib.hid hb5
        have HB:=Lib.hid hI5.tch
        clear hI5 hs5
        by_cases hiN:i<N
        ·obtain⟨h,hh⟩: ∃h,(outP p id)[i]? =some h:=⟨_,List.getElem?_eq_getElem (by rw[HLEN.out];exact hiN)⟩
         obtain⟨k2,hk2⟩: ∃k2,k2=(i+N - 1) % N:=⟨_,rfl⟩
         have hk2N:k2<N:=by rw[hk2];exact Nat.mod_lt _ (by omega)
         obtain⟨x2,hx2⟩: ∃x,(outP p id)[k2]? =some x:=⟨_,List.getElem?_eq_getElem (by rw[HLEN.out];exact hk2N)⟩
         obtain⟨c0,c1⟩:=HS5.out i h hh
         obtain⟨d0,d1⟩:=HS5.out k2 x2 hx2
         have hmh:=(mem_out.1 (List.mem_of_getElem? hh)).1
         have HKT:=Lib.hid (key_h (HF.out.half (twin_mem hmh)))
         have HTW:=fun W=>Lib.hid ((D.twin_any h W).mono (fun e w' hh=>(show e= .returned (.agg #[.int .i64 (twinH h).edge, .bool (twinH h).back])∧Below W.heap.size W w' from⟨hh.1,hh.2.b⟩)))
         have HNX:=Lib.hid (show updT (nxI p ds id i) (twinH h) x2=nxI p ds id (i+1) from by
          have:=HR.out.nxI_succ (ds:=ds) hh
          rw[HLEN.out, ←hk2,List.getD_eq_getElem?_getD,hx2] at this
          exact this)
         have HRM:Hid (((i:Int)+(N:Int) - 1) % (N:Int)=(k2:Int)):=Lib.hid (by
          rw[hk2,show(i:Int)+(N:Int) - 1=((i+N - 1:Nat):Int) by omega]
          rfl)
         simp only[Nat.zero_add] at c0 c1 d0 d1
         clear hh hx2 hmh hk2
         obtain⟨qx0,qx1,qx2,qx3,qx4,qx5,qx6,qx7,qx8,qx9⟩:=(HC _ HB.out).out
         obtain⟨rx0,rx1,rx2⟩:=(HZ _ HB.out.size).out
         go_wp2_with fail
         clear qx0 qx1 qx2 qx3 qx4 qx5 qx6 qx7 qx8 qx9 rx0 rx1 rx2
         refine wp_name (fun c hc=> ?_)
         have hbc:Below wr.heap.size wr c:=by rw[←hc];exact below_alloc (Below.refl _ _)
         have I6:=Lib.hid (I5.out.later hbc)
         have hcs:wr.heap.size<c.heap.size:=by rw[←hc];simp
         have hh0:c.cell? ⟨wr.heap.size,0,none⟩=some (.int .i64 h.edge):=by rw[←hc];simp[World.cell?_alloc_new]
         have hh1:c.cell? ⟨wr.heap.size,1,none⟩=some (.bool h.back):=by rw[←hc];simp[World.cell?_alloc_new]
         have d0:=(hbc.cell (p:=⟨hb,_,none⟩) HB5.out).trans d0
         have d1:=(hbc.cell (p:=⟨hb,_,none⟩) HB5.out).trans d1
         have hbcs:hb<c.heap.size:=Nat.lt_trans HB5.out hcs
         have x0:=fun(x:Later c)=>(x.cell hcs).trans hh0
         have x1:=fun(x:Later c)=>(x.cell hcs).trans hh1
         have x2_:=fun(x:Later c)=>(x.cell hbcs).trans d0
         have x3:=fun(x:Later c)=>(x.cell hbcs).trans d1
         have x4:=fun(x:Later c)=>(HC x.1 (touch_later I6.out.tch x.2)).out.2.2.2.2.2.2.2.2.2
         have HS6:=Lib.hid (HS5.out.below hbc HB5.out)
         have HCS:=Lib.hid hbcs
         have hrm:=HRM.out
         have e1:IntKind.i64.wrap ((i:Int)+(N:Int))=(i:Int)+N:=IntWalk.i64_in _ (by omega)
         have e2:IntKind.i64.wrap ((i:Int)+(N:Int) - 1)=(i:Int)+N - 1:=IntWalk.i64_in _ (by omega)
         have e3:IntKind.i64.wrap (k2:Int)=k2:=IntWalk.i64_in _ (by omega)
         have e4:((N:Int)==0)=false:=by rw[beq_eq_false_iff_ne];omega
         clear hc hbc hcs hh0 hh1 d0 d1 c0 c1 hbcs
         refine wp_region_later_tail 15 (by kernel_rfl) (by kernel_rfl) ?_
         simp only[List.take_succ_cons,List.take_zero,List.drop_succ_cons,List.drop_zero]
         repeat (first|go_big_quiet_step ((go_at_call 77;with_reducible refine Later.call (HTW _).out))|quiet_step ((go_at_call 77;with_reducible refine Later.call (HTW _).out)))
         refine wpQuiet_nil ?_
         rintro w7 ⟨y7,hw7⟩
         have hb7:Below c.heap.size c w7:=by rw[hw7];exact y7.2
         have I7:=Lib.hid (I6.out.later hb7)
         have HS7:=Lib.hid (HS6.out.below hb7 HCS.out)
         have HB7:=Lib.hid (Nat.lt_of_lt_of_le HCS.out hb7.size)
         clear hw7 hb7 x0 x1 x2_ x3 x4
         go_wp2_with (at_mapUpdate;go_loud (refine wpList_update_T _ rfl _ _ _ 116 rfl 45 45 Try.keyHalf Try.underlying116 (w.heap.size+1+1+1+1+1) (2048*ds.length+i) ekH ekH (nxI p ds id i) I7.out.nx rfl (by have:=HDF.out;unfold maxLen;omega) (twinH h) _ rfl HKT.out (ekH_inj _) x2 rfl ?_;intro w8 hm8 hg8;have I8:=I7.out.putNx hm8 hg8;rw[HNX.out] at I8;have I8:=Lib.hid I8;have k8:=Touch.of_grown hg8;have HS8:=Lib.hid (HS7.out.touch k8 HB7.out (ne_toL (by have:=HBO.out;have:=HWs.out;omega)));have HB8:=Lib.hid (Nat.lt_of_lt_of_le HB7.out k8.size);clear hm8 hg8 k8))
         go_roundw
         case rel=>exact⟨i+1,by omega,by go_num,I8.out,HS8.out,HB8.out⟩
         case measure=>simp[intOf];omega
        ·obtain rfl:i=N:=by omega
         go_wp2_with fail
         go_roundw
         case rel=>
          refine⟨ds++[id],left',cnt3, ?_, ?_, ?_, ?_⟩
          ·have h1:=I5.out.mono (nn':=2048*(ds++[id]).length) (by simp;omega)
           rw[←HLEN.out,nxI_full] at h1
           exact h1
          ·intro x
           rw[HL'.out]
           simp only[HLF.out]
           by_cases e1:x=id<;>by_cases e2:x∈ds<;>simp[e1,e2]
          ·exact List.nodup_append.2 ⟨HND.out,by simp,fun a ha b hb e=>by simp at hb;subst hb;subst e;exact HNI.out ha⟩
          ·intro x hx
           rcases List.mem_append.1 hx with h|h
           ·exact HDS.out x h
           ·simp at h;subst h;exact HGI.out
         case measure=>
          have h1:=I5.out.rg.left_eq
          have h2:=HI.out.rg.left_eq
          have h3:=HLT.out
          omega
end Go.Proofs.Ythopjhifepijiaa
