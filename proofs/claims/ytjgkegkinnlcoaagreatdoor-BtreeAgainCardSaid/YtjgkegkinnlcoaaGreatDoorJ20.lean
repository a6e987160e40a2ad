/- Lemmas on the way to the statement: BtList, BtRef, Pairs, Pairs2, Pairs3, Acts13, Acts13Open. -/
import Derived.Test.YtjgkegkinnlcoaaGreatDoorJ18
import Derived.SliceStrings
set_option linter.unusedSimpArgs false
set_option linter.unusedVariables false
namespace Go.Proofs.YtjgkegkinnlcoaaGreatDoor
open Go.RowKit
theorem delP_ris {key:Int} {l:List (Int × Int)} (h:RisP l):RisP (delP key l):=List.Pairwise.filter _ h
end Go.Proofs.YtjgkegkinnlcoaaGreatDoor
namespace Go.Proofs.YtjgkegkinnlcoaaGreatDoor
open Go.RowKit
def refIn (key val:Int):List (Int × Int)→List (Int × Int)
 | []=>[(key,val)]
 |p::l=>if key<p.1 then(key,val)::p::l else p::refIn key val l
def refPut (key val:Int) (l:List (Int × Int)):List (Int × Int):=refIn key val (delP key l)
theorem refIn_eq {key val:Int}: ∀ {l:List (Int × Int)},RisP l→(∀p∈l,p.1≠key)→refIn key val l=insP key val l
 | [],_,_=>by simp[refIn,insP]
 |p::l,h,hn=>by
  obtain⟨h1,h2⟩:=List.pairwise_cons.1 h
  have hp:=hn p (by simp)
  unfold refIn
  by_cases hk:key<p.1
  ·rw[if_pos hk]
   have:=insP_hasnt (key:=key) (val:=val) (A:=[]) (B:=p::l) (by simp) (fun q hq=>by
    rcases List.mem_cons.1 hq with rfl|hq
    ·exact hk
    ·have:=h1 q hq;omega)
   simpa using this.symm
  ·rw[if_neg hk,refIn_eq h2 (fun q hq=>hn q (by simp[hq]))]
   unfold insP
   rw[List.filter_cons,if_pos (by simp;omega),List.filter_cons,if_neg (by simp;omega)]
   rfl
theorem insP_delP (key val:Int) (l:List (Int × Int)):insP key val (delP key l)=insP key val l:=by
 unfold insP delP
 rw[List.filter_filter,List.filter_filter]
 congr 1
 ·apply List.filter_congr
  intro p _
  by_cases h:p.1<key
  ·simp[h];omega
  ·simp[h]
 ·congr 1
  apply List.filter_congr
  intro p _
  by_cases h:key<p.1
  ·simp[h];omega
  ·simp[h]
theorem refPut_eq {key val:Int} {l:List (Int × Int)} (h:RisP l):refPut key val l=insP key val l:=by
 unfold refPut
 rw[refIn_eq (delP_ris h) (fun p hp=>by have:=(List.mem_filter.1 hp).2;simpa using this),insP_delP]
theorem insP_length (key val:Int) {l:List (Int × Int)} (h:RisP l):(insP key val l).length≤l.length+1:=by
 unfold insP
 rw[List.length_append,List.length_cons]
 have:(l.filter (fun p=>decide (p.1<key))).length+(l.filter (fun p=>decide (key<p.1))).length≤l.length:=by
  clear h
  induction l with
  |nil=>simp
  |cons p l ih=>
   rw[List.filter_cons,List.filter_cons,List.length_cons]
   by_cases h1:p.1<key
   ·have h2: ¬key<p.1:=by omega
    simp[h1,h2];omega
   ·by_cases h2:key<p.1
    ·simp[h1,h2];omega
    ·simp[h1,h2];omega
 omega
theorem delP_length (key:Int) (l:List (Int × Int)):(delP key l).length≤l.length:=List.length_filter_le _ _
end Go.Proofs.YtjgkegkinnlcoaaGreatDoor
namespace Go.Proofs.YtjgkegkinnlcoaaGreatDoor
open Go.RowKit Go.Maps Go.Joins
theorem pdrop_at {l:List (Int × Int)} {j:Nat} {p:Int × Int} (h:l[j]? =some p):l.drop j=p::l.drop (j+1):=by
 obtain⟨hj,rfl⟩:=List.getElem?_eq_some_iff.1 h
 exact List.drop_eq_getElem_cons hj
end Go.Proofs.YtjgkegkinnlcoaaGreatDoor
namespace Go.Proofs.YtjgkegkinnlcoaaGreatDoor
open Go.RowKit Go.Maps Go.Joins
theorem delP_one (key:Int) (a:List (Int × Int)) (p:Int × Int):delP key (a++[p])=if p.1=key then delP key a else delP key a++[p]:=by
 unfold delP
 rw[List.filter_append]
 by_cases h:p.1=key
 ·rw[if_pos h,List.filter_cons,if_neg (by simpa using h)];simp
 ·rw[if_neg h,List.filter_cons,if_pos (by simpa using h)];simp
theorem hasP_one (key:Int) (a:List (Int × Int)) (p:Int × Int):refDelE key (a++[p])=if p.1=key then 0 else refDelE key a:=by
 unfold refDelE hasP
 rw[List.any_append]
 by_cases h:p.1=key
 ·rw[if_pos h,if_pos (by simp[h])]
 ·rw[if_neg h,List.any_cons,List.any_nil,show(p.1==key)=false by simpa using h,Bool.or_false,Bool.or_false]
set_option maxRecDepth 100000 in
set_option maxHeartbeats 2000000 in
theorem rdel_any {w:World} {v:Value} {l:List (Int × Int)} (h:IsP w v l) (hl:l.length≤100000) (key:Int):
  Calls Tryz.prog 17 #[v, .int .u64 key] w fun e w'=> ∃v',e= .returned (.tuple #[v', .int .i64 (refDelE key l)])∧PrRow w w' v' (delP key l):=by
 obtain⟨a0,c0,rfl⟩:=h.form
 have HI:=Lib.hid h
 clear h
 obtain⟨i0,hi0,hz0,hzs,hzb⟩:=info_parts Tryz.infoRP
 go_enter Tryz.func17,Tryz.ntmps17
 go_wp2_with fail
 go_loopw [6,7,8] (fun o r i wr=> ∃j:Nat,j≤l.length∧i= .int .i64 j∧r= .int .i64 (refDelE key (l.take j))∧PrRow w wr o (delP key (l.take j))) (fun _ _ i _=>l.length - (intOf i).toNat)
 case atStart=>exact⟨0,Nat.zero_le _,rfl,rfl,World.ownsRow_nil _ _ _ _,Below.refl _ _⟩
 case round=>
  obtain⟨j,hj,rfl,rfl,ho⟩:=hrel
  obtain⟨oa,oc,rfl⟩:=ho.form
  have HO:=Lib.hid ho
  have hdl:=delP_length key (l.take j)
  rw[List.length_take] at hdl
  obtain⟨O,hO⟩: ∃O,O=delP key (l.take j):=⟨_,rfl⟩
  obtain⟨E,hE⟩: ∃E,E=refDelE key (l.take j):=⟨_,rfl⟩
  rw[←hO] at HO hdl ⊢
  rw[←hE]
  by_cases hjl:j<l.length
  ·obtain⟨g,o,c,hv,hg,hcs⟩:=HI.out.at_ (by omega)
   injection hv with hva hvn hvc
   subst hva
   subst hvc
   have hx:l[j]? =some l[j]:=List.getElem?_eq_getElem hjl
   obtain⟨hc1,hc2⟩:=hcs j _ hx
   have e1:=delP_one key (l.take j) l[j]
   have e2:=hasP_one key (l.take j) l[j]
   rw[←take_one hx, ←hO] at e1
   rw[←take_one hx, ←hE] at e2
   obtain⟨p,hp⟩: ∃p,p=l[j]:=⟨_,rfl⟩
   rw[←hp] at hc1 hc2 e1 e2
   have hb:=ho.below.size
   have hc1:=(ho.below.cell (p:=⟨g,o+j*2,none⟩) hg).trans hc1
   have hc2:=(ho.below.cell (p:=⟨g,o+j*2+1,none⟩) hg).trans hc2
   have y1:(j:Int)<(l.length:Int):=by omega
   have hOl:O.length≤100000:=by omega
   have E1:=Lib.hid e1
   have E2:=Lib.hid e2
   clear hcs hx hp hvn hO hE e1 e2 ho
   by_cases hk:p.1=key
   ·have d1:(p.1==key)=true:=by simpa using hk
    have E1':=Lib.hid (show delP key (l.take (j+1))=O by rw[E1.out,if_pos hk])
    have E2':=Lib.hid (show refDelE key (l.take (j+1))=0 by rw[E2.out,if_pos hk])
    subst hk
    go_wp2_with fail
    go_roundw
    case rel=>exact⟨j+1,by omega,by go_num,by rw[E2'.out],by rw[E1'.out];exact HO.out⟩
    case measure=>simp[intOf];omega
   ·have d1:(p.1==key)=false:=by simpa using hk
    have E1':=Lib.hid (show delP key (l.take (j+1))=O++[p] by rw[E1.out,if_neg hk])
    have E2':=Lib.hid (show refDelE key (l.take (j+1))=E by rw[E2.out,if_neg hk])
    have hgw:g<wr.heap.size:=by omega
    clear hk
    go_wp2_with (at_builtin;go_loud (refine wpList_append_near _ rfl (.tmp 22) (.tmp 27) 26 rfl w.heap.size 106 i0 (.agg #[.int .u64 0, .int .u64 0]) 2 16 Tryz.underlying26 hi0 hz0 hzs hzb rfl (by decide) _ O.length (prF O) rfl (ownsRow_touch HO.out.own (F:=[]) ((Touch.refl _ _).alloc _) (by simp)) ⟨wr.heap.size,0,none⟩ 1 1 [.int .u64 p.1, .int .u64 p.2] rfl (by decide) rfl (fun q u hu=>by rw[Addr.add_lit,Nat.zero_add];exact cell_two_new hu) (fun u hu=>by simp at hu;rcases hu with rfl|rfl<;>rfl) (by have:=HO.out.own.1;unfold maxLen;omega) (by omega) (by have:=HO.out.below.size;rw[World.size_alloc_eq];omega) ?_;intro g' cap' w' ho' hgr hnr;have HO3:=Lib.hid ho';have HGR:=Lib.hid hgr;clear ho' hgr hnr))
    go_roundw
    case rel=>
     refine⟨j+1,by omega,by go_num,by rw[E2'.out], ?_⟩
     rw[E1'.out]
     refine⟨?_, ?_⟩
     ·rw[List.length_append,prF_app];exact HO3.out
     ·exact(HO.out.below.alloc HO.out.below.size _).grown HGR.out (by have:=HO.out.below.size;rw[World.size_alloc_eq];omega) (fun q hq=>(HO.out.own.lt q hq).1)
    case measure=>simp[intOf];omega
  ·have hje:j=l.length:=by omega
   subst hje
   rw[List.take_length] at hO hE
   subst hE
   subst hO
   go_wp2_with fail
   go_ret2
   exact⟨_,rfl,HO.out⟩
end Go.Proofs.YtjgkegkinnlcoaaGreatDoor
namespace Go.Proofs.YtjgkegkinnlcoaaGreatDoor
open Go.RowKit Go.Maps Go.Joins
theorem PrRow.app {w wr w':World} {v:Value} {O:List (Int × Int)} {p:Int × Int} {g cap:Nat} {o:Obj} (h:PrRow w wr v O) (ho:w'.ownsRow w.heap.size 106 2 (.slice (some ⟨g,0,none⟩) (O.length+1) cap) (O.length+1) (prF O++[.int .u64 p.1, .int .u64 p.2])) (hgr:(wr.alloc o).grownBy w' v.ownBlock):
  PrRow w w' (.slice (some ⟨g,0,none⟩) (O.length+1) cap) (O++[p]):=by
 refine⟨?_,(h.below.alloc h.below.size _).grown hgr (by have:=h.below.size;rw[World.size_alloc_eq];omega) (fun q hq=>(h.own.lt q hq).1)⟩
 rw[List.length_append,prF_app]
 exact ho
theorem refIn_lt {key val:Int} {p:Int × Int} {l:List (Int × Int)} (h:key<p.1):refIn key val (p::l)=(key,val)::p::l:=by rw[refIn,if_pos h]
theorem refIn_ge {key val:Int} {p:Int × Int} {l:List (Int × Int)} (h: ¬key<p.1):refIn key val (p::l)=p::refIn key val l:=by rw[refIn,if_neg h]
structure RpLoop (key val:Int) (w1 wr:World) (D:List (Int × Int)) (R:List (Int × Int)) (o dn i:Value):Prop where
 out: ∃(j:Nat) (O:List (Int × Int)) (d:Bool),j≤D.length∧i= .int .i64 j∧dn= .bool d∧PrRow w1 wr o O∧O.length≤j+1∧(d=false→O.length≤j)∧R=O++(if d=true then D.drop j else refIn key val (D.drop j))
set_option maxRecDepth 100000 in
set_option maxHeartbeats 4000000 in
theorem rput_any {w:World} {v:Value} {l:List (Int × Int)} (h:IsP w v l) (hl:l.length≤99999) (key val:Int):
  Calls Tryz.prog 15 #[v, .int .u64 key, .int .u64 val] w fun e w'=> ∃v',e= .returned v'∧PrRow w w' v' (refPut key val l):=by
 have HDL:=Lib.hid (rdel_any h (by omega) key)
 obtain⟨a0,c0,rfl⟩:=h.form
 have hdl:=delP_length key l
 obtain⟨D,hD⟩: ∃D,D=delP key l:=⟨_,rfl⟩
 unfold refPut
 rw[←hD] at HDL hdl ⊢
 obtain⟨R,hR⟩: ∃R,R=refIn key val D:=⟨_,rfl⟩
 rw[←hR]
 have HR:=Lib.hid hR
 have HDN:=Lib.hid (show D.length≤99999 by omega)
 obtain⟨i0,hi0,hz0,hzs,hzb⟩:=info_parts Tryz.infoRP
 clear h hD hR hdl
 go_enter Tryz.func15,Tryz.ntmps15
 go_wp2_with fail
 refine HDL.out.mono ?_
 rintro e w1 ⟨v1,rfl,hpr⟩
 obtain⟨a1,c1,rfl⟩:=hpr.form
 have HI:=Lib.hid (IsP.own hpr.own)
 have HB1:=Lib.hid hpr.below
 clear hpr HDL
 have hD9:=HDN.out
 go_wp2_with fail
 go_loopw [7,8,9] (fun o d i wr=>RpLoop key val w1 wr D R o d i) (fun _ _ i _=>D.length - (intOf i).toNat)
 case atStart=>exact⟨0,[],false,Nat.zero_le _,rfl,rfl,⟨World.ownsRow_nil _ _ _ _,Below.refl _ _⟩,by simp,fun _=>by simp,by rw[HR.out];rfl⟩
 case round=>
  obtain⟨⟨j,O,d,hj,rfl,rfl,ho,hol,hof,hq⟩⟩:=hrel
  obtain⟨oa,oc,rfl⟩:=ho.form
  have HO:=Lib.hid ho
  have HOL:=Lib.hid (show O.length≤100000 by omega)
  by_cases hjl:j<D.length
  ·obtain⟨g,o,c,hv,hg,hcs⟩:=HI.out.at_ (by omega)
   injection hv with hva hvn hvc
   subst hva
   subst hvc
   have hx:D[j]? =some D[j]:=List.getElem?_eq_getElem hjl
   have hcc:=hcs j _ hx
   rw[pdrop_at hx] at hq
   obtain⟨p,hp⟩: ∃p,p=D[j]:=⟨_,rfl⟩
   rw[←hp] at hcc hq
   have HC:=Lib.hid hcc
   have hc1:=(ho.below.cell (p:=⟨g,o+j*2,none⟩) hg).trans hcc.1
   have hc2:=(ho.below.cell (p:=⟨g,o+j*2+1,none⟩) hg).trans hcc.2
   have y1:(j:Int)<(D.length:Int):=by omega
   have hgw:g<wr.heap.size:=Nat.lt_of_lt_of_le hg ho.below.size
   have HOJ:=Lib.hid hol
   have HOF:=Lib.hid hof
   have HQ:=Lib.hid hq
   clear hcs hx hp hvn hq ho hol hof hcc
   cases d
   ·by_cases hk:key<p.1
    ·go_wp2_with (first|(at_builtin;refine wpList_append_near _ rfl (.tmp 33) (.tmp 37) 26 rfl w1.heap.size 106 i0 (.agg #[.int .u64 0, .int .u64 0]) 2 16 Tryz.underlying26 hi0 hz0 hzs hzb rfl (by decide) _ O.length (prF O) rfl (ownsRow_touch HO.out.own (F:=[]) ((Touch.refl _ _).alloc _) (by simp)) ⟨wr.heap.size,0,none⟩ 1 1 [.int .u64 key, .int .u64 val] rfl (by decide) rfl (fun q u hu=>by rw[Addr.add_lit,Nat.zero_add];exact cell_two_new hu) (fun u hu=>by simp at hu;rcases hu with rfl|rfl<;>rfl) (by have:=HOL.out;have:=HO.out.own.1;unfold maxLen;simp at*;omega) (by have:=HOL.out;simp at*;omega) (by have:=HO.out.below.size;rw[World.size_alloc_eq];omega) ?_;intro g' cap' W2 ho' hgr hnr;have HO2:=Lib.hid (PrRow.app (p:=(key,val)) HO.out ho' hgr);clear ho' hgr hnr;have hlen:=HO2.out.own.1;have hc1:=(HO2.out.below.cell (p:=⟨g,o+j*2,none⟩) hg).trans HC.out.1;have hc2:=(HO2.out.below.cell (p:=⟨g,o+j*2+1,none⟩) hg).trans HC.out.2;have hgw:g<W2.heap.size:=Nat.lt_of_lt_of_le hg HO2.out.below.size)|(at_builtin;refine wpList_append_near _ rfl (.tmp 39) (.tmp 44) 26 rfl w1.heap.size 106 i0 (.agg #[.int .u64 0, .int .u64 0]) 2 16 Tryz.underlying26 hi0 hz0 hzs hzb rfl (by decide) _ (O++[(key,val)]).length (prF (O++[(key,val)])) rfl (ownsRow_touch HO2.out.own (F:=[]) ((Touch.refl _ _).alloc _) (by simp)) ⟨W2.heap.size,0,none⟩ 1 1 [.int .u64 p.1, .int .u64 p.2] rfl (by decide) rfl (fun q u hu=>by rw[Addr.add_lit,Nat.zero_add];exact cell_two_new hu) (fun u hu=>by simp at hu;rcases hu with rfl|rfl<;>rfl) (by have:=HOL.out;have:=HO2.out.own.1;unfold maxLen;simp at*;omega) (by have:=HOL.out;simp at*;omega) (by have:=HO2.out.below.size;rw[World.size_alloc_eq];omega) ?_;intro g' cap' W3 ho' hgr hnr;have HO3:=Lib.hid (PrRow.app (p:=p) HO2.out ho' hgr);clear ho' hgr hnr))
     go_roundw
     case rel=>exact⟨j+1,O++[(key,val)]++[p],true,by omega,by go_num,rfl,by simpa using HO3.out,by have:=HOF.out rfl;simp;omega,fun e=>(by cases e),by rw[HQ.out,if_neg (by decide),if_pos rfl,refIn_lt hk];simp⟩
     case measure=>simp[intOf];omega
    ·go_wp2_with (at_builtin;refine wpList_append_near _ rfl (.tmp 39) (.tmp 44) 26 rfl w1.heap.size 106 i0 (.agg #[.int .u64 0, .int .u64 0]) 2 16 Tryz.underlying26 hi0 hz0 hzs hzb rfl (by decide) _ O.length (prF O) rfl (ownsRow_touch HO.out.own (F:=[]) ((Touch.refl _ _).alloc _) (by simp)) ⟨wr.heap.size,0,none⟩ 1 1 [.int .u64 p.1, .int .u64 p.2] rfl (by decide) rfl (fun q u hu=>by rw[Addr.add_lit,Nat.zero_add];exact cell_two_new hu) (fun u hu=>by simp at hu;rcases hu with rfl|rfl<;>rfl) (by have:=HOL.out;have:=HO.out.own.1;unfold maxLen;simp at*;omega) (by have:=HOL.out;simp at*;omega) (by have:=HO.out.below.size;rw[World.size_alloc_eq];omega) ?_;intro g' cap' W3 ho' hgr hnr;have HO3:=Lib.hid (PrRow.app (p:=p) HO.out ho' hgr);clear ho' hgr hnr)
     go_roundw
     case rel=>exact⟨j+1,O++[p],false,by omega,by go_num,rfl,by simpa using HO3.out,by have:=HOJ.out;simp;omega,fun _=>by have:=HOF.out rfl;simp;omega,by rw[HQ.out,if_neg (by decide),if_neg (by decide),refIn_ge hk];simp⟩
     case measure=>simp[intOf];omega
   ·go_wp2_with (at_builtin;refine wpList_append_near _ rfl (.tmp 39) (.tmp 44) 26 rfl w1.heap.size 106 i0 (.agg #[.int .u64 0, .int .u64 0]) 2 16 Tryz.underlying26 hi0 hz0 hzs hzb rfl (by decide) _ O.length (prF O) rfl (ownsRow_touch HO.out.own (F:=[]) ((Touch.refl _ _).alloc _) (by simp)) ⟨wr.heap.size,0,none⟩ 1 1 [.int .u64 p.1, .int .u64 p.2] rfl (by decide) rfl (fun q u hu=>by rw[Addr.add_lit,Nat.zero_add];exact cell_two_new hu) (fun u hu=>by simp at hu;rcases hu with rfl|rfl<;>rfl) (by have:=HOL.out;have:=HO.out.own.1;unfold maxLen;simp at*;omega) (by have:=HOL.out;simp at*;omega) (by have:=HO.out.below.size;rw[World.size_alloc_eq];omega) ?_;intro g' cap' W3 ho' hgr hnr;have HO3:=Lib.hid (PrRow.app (p:=p) HO.out ho' hgr);clear ho' hgr hnr)
    go_roundw
    case rel=>exact⟨j+1,O++[p],true,by omega,by go_num,rfl,by simpa using HO3.out,by have:=HOJ.out;simp;omega,fun e=>(by cases e),by rw[HQ.out,if_pos rfl,if_pos rfl];simp⟩
    case measure=>simp[intOf];omega
  ·have hje:j=D.length:=by omega
   subst hje
   rw[List.drop_length] at hq
   have HQ:=Lib.hid hq
   clear hq ho hol hof
   have fin: ∀ {W:World} {v':Value} {L:List (Int × Int)},PrRow w1 W v' L→PrRow w W v' L:=fun h=>⟨own_lower h.own HB1.out.size,HB1.out.trans (h.below.mono HB1.out.size)⟩
   cases d
   ·go_wp2_with (at_builtin;refine wpList_append_near _ rfl (.tmp 48) (.tmp 52) 26 rfl w1.heap.size 106 i0 (.agg #[.int .u64 0, .int .u64 0]) 2 16 Tryz.underlying26 hi0 hz0 hzs hzb rfl (by decide) _ O.length (prF O) rfl (ownsRow_touch HO.out.own (F:=[]) ((Touch.refl _ _).alloc _) (by simp)) ⟨wr.heap.size,0,none⟩ 1 1 [.int .u64 key, .int .u64 val] rfl (by decide) rfl (fun q u hu=>by rw[Addr.add_lit,Nat.zero_add];exact cell_two_new hu) (fun u hu=>by simp at hu;rcases hu with rfl|rfl<;>rfl) (by have:=HOL.out;have:=HO.out.own.1;unfold maxLen;simp at*;omega) (by have:=HOL.out;simp at*;omega) (by have:=HO.out.below.size;rw[World.size_alloc_eq];omega) ?_;intro g' cap' W3 ho' hgr hnr;have HO3:=Lib.hid (PrRow.app (p:=(key,val)) HO.out ho' hgr);clear ho' hgr hnr)
    go_ret
    refine⟨_,rfl, ?_⟩
    rw[HQ.out,if_neg (by decide)]
    exact fin HO3.out
   ·go_wp2_with fail
    go_ret
    refine⟨_,rfl, ?_⟩
    have hq:=HQ.out
    rw[if_pos trivial,List.append_nil] at hq
    rw[hq]
    exact fin HO.out
end Go.Proofs.YtjgkegkinnlcoaaGreatDoor
namespace Go.Proofs.YtjgkegkinnlcoaaGreatDoor
open Go.RowKit Go.Maps Go.Joins
theorem addr_add (b o j:Nat):(⟨b,o,none⟩:Addr).add j=⟨b,o+j,none⟩:=by unfold Addr.add;split<;>simp_all
end Go.Proofs.YtjgkegkinnlcoaaGreatDoor
namespace Go.Proofs.YtjgkegkinnlcoaaGreatDoor
open Go.ChangeShapes Go.WideShapes Go.ChangeAt Go.RowKit Go.Deep Go.Joins
theorem bd_u64o {x:Int} (h:(Lit.int .u64 x).wf=true):0≤x∧x≤18446744073709551615:=by
 simp[Lit.wf,IntKind.min,IntKind.max,IntKind.signed,IntKind.bits] at h
 omega
section
variable {H:Type} {enc:TypeId × Value→H} {W:World}
theorem list_of {α:Type}: ∀(n:Nat) (P:Nat→α→Prop),(∀i,i<n→ ∃x,P i x)→ ∃l:List α,l.length=n∧ ∀(i:Nat) (x:α),l[i]? =some x→P i x
 |0,P,_=>⟨[],rfl,fun i x h=>by simp at h⟩
 |n+1,P,h=>by
  obtain⟨l,hl,hP⟩:=list_of n P (fun i hi=>h i (by omega))
  obtain⟨x,hx⟩:=h n (by omega)
  refine⟨l++[x],by simp[hl],fun i y hy=> ?_⟩
  by_cases hi:i<n
  ·rw[List.getElem?_append_left (by omega)] at hy;exact hP i y hy
  ·have hlt:=(List.getElem?_eq_some_iff.1 hy).1
   simp[hl] at hlt
   obtain rfl:i=n:=by omega
   rw[List.getElem?_append_right (by omega),hl] at hy
   simp at hy;subst hy;exact hx
end
end Go.Proofs.YtjgkegkinnlcoaaGreatDoor
