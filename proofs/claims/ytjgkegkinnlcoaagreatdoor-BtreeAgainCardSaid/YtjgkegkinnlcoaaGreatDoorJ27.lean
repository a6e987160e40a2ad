/- Lemmas on the way to the statement: LogPlain, LogPlain2, LogPlain3, RefM, Rel5, Play, Acts13Open, BtLen, BtFre, BtCommit. -/
import Derived.Test.YtjgkegkinnlcoaaGreatDoorJ20
import Derived.Test.YtjgkegkinnlcoaaGreatDoorJ26
set_option linter.unusedSimpArgs false
set_option linter.unusedVariables false
namespace Go.Proofs.YtjgkegkinnlcoaaGreatDoor
open Go.RowKit
theorem tellS_eq (s:ByteArray):tellS s=S (cut s 0 10++([0]++cut s 10 53)):=by
 unfold tellS
 rw[extract_cut,extract_cut,show(⟨#[0]⟩:ByteArray)=S [0] from rfl,S_append,S_append,List.append_assoc]
theorem untell_eq (s:ByteArray):untell s=S (cut s 0 10++cut s 11 53):=by
 unfold untell
 rw[extract_cut,extract_cut,S_append]
theorem untell_tell {s:ByteArray} (h:s.size=63):untell (tellS s)=s:=by
 have l1:(cut s 0 10).length=10:=cut_length s 0 10 (by omega)
 have l2:(cut s 10 53).length=53:=cut_length s 10 53 (by omega)
 rw[untell_eq,tellS_eq,cut_S,cut_S,List.drop_zero,List.take_left' l1, ←List.append_assoc,List.drop_left' (by rw[List.length_append,l1];rfl),List.take_of_length_le (by omega)]
 unfold cut
 rw[List.drop_zero]
 have:(s.data.toList.drop 10).take 53=s.data.toList.drop 10:=List.take_of_length_le (by rw[List.length_drop,data_length];omega)
 rw[this,List.take_append_drop,S_data]
theorem tellS_ten {s:ByteArray} (h:s.size=63):(tellS s).data.toList.getD 10 0=0:=by
 have l1:(cut s 0 10).length=10:=cut_length s 0 10 (by omega)
 rw[tellS_eq,data_S,List.getD_eq_getElem?_getD,List.getElem?_append_right (by omega),l1]
 rfl
theorem extracts63 (s:ByteArray): ∀n,n*63≤s.size→(((List.range n).map fun k=>s.extract (k*63) ((k+1)*63)).map (·.data.toList)).flatten=s.data.toList.take (n*63)
 |0,_=>by simp
 |n+1,h=>by
  rw[List.range_succ,List.map_append,List.map_append,List.flatten_append,extracts63 s n (by omega),Nat.succ_mul,List.take_add]
  congr 1
  simp only[List.map_cons,List.map_nil,List.flatten_cons,List.flatten_nil,List.append_nil]
  rw[extract_cut,data_S,show(n+1)*63 - n*63=63 by omega]
  rfl
def secsP (p:ByteArray):List ByteArray:=(List.range 9).map fun k=>secP p k
theorem joinL_secs {p:ByteArray} (h:p.size=512):joinL (secsP p)=padP p:=by
 unfold joinL secsP
 have e:((List.range 9).map fun k=>secP p k).map (fun s=>(untell s).data.toList)=((List.range 9).map fun k=>(padP p).extract (k*63) ((k+1)*63)).map (·.data.toList):=by
  rw[List.map_map,List.map_map]
  apply List.map_congr_left
  intro k hk
  have hk:=List.mem_range.1 hk
  show(untell (secP p k)).data.toList=_
  unfold secP
  rw[untell_tell (part_size p (by omega) k hk)]
  rfl
 rw[e,extracts63 _ 9 (by rw[padP_size p (by omega)];omega),List.take_of_length_le (by rw[data_length,padP_size p (by omega)];omega),S_data]
theorem padP_eq {p:ByteArray} (h:p.size=512):padP p=S (p.data.toList++nul 55):=by
 unfold padP;rw[h,append_S]
theorem joinP_secs {p:ByteArray} (h:p.size=512):joinP (secsP p)=p:=by
 unfold joinP
 rw[joinL_secs h,padP_eq h,extract_cut,cut_S,List.drop_zero,Nat.sub_zero,List.take_left' (by rw[data_length,h]),S_data]
theorem joinOk_secs {p:ByteArray} (h:p.size=512):joinOk (secsP p)=true:=by
 rw[joinOk_end (fun s hs=> ?_)]
 ·rw[joinL_secs h,padP_eq h,extract_cut,cut_S,List.drop_left' (by rw[data_length,h]),List.take_of_length_le (by rw[nul_length];omega)]
  simp
 ·unfold secsP at hs
  obtain⟨k,hk,rfl⟩:=List.mem_map.1 hs
  exact tellS_ten (part_size p (by omega) k (List.mem_range.1 hk))
theorem head_num {m:DM} {p left:Nat} {q:Int} (h:mN (secM m p)≠q):txHead m p q left=false:=by
 refine txHead_no ?_
 rintro ⟨h1,h2, -⟩
 exact h h2
theorem textM_cut {n:Nat} (h:n<65536):leN (cut (textM n) 0 2)=n:=by
 have:cut (textM n) 0 2=leB n 2:=by
  unfold textM
  rw[cut_S,List.drop_zero,List.append_assoc,List.take_left' (leB_length _ _)]
 rw[this,leN_leB 2 _ (by omega)]
 omega
theorem tx_made {m:DM} {p left:Nat} {q:Int} {pages:List ByteArray} (hq0:0≤q) (hq1:q≤18446744073709551615) (h1:secM m p=mkStr q (textM pages.length)) (h2: ∀i k,i<pages.length→k<9→secM m (p+1+i*9+k)=secP (pages.getD i ⟨#[]⟩) k)
  (n1:1≤pages.length) (n2:pages.length≤64) (hl:9*pages.length+1≤left) (hs: ∀x∈pages,x.size=512):txOk m p q left=true∧txN m p=(pages.length:Int)∧txPages m p pages.length=pages:=by
 have ht:mT (secM m p)=textM pages.length:=by rw[h1,mT_mk (textM_size _)]
 have hn:txN m p=(pages.length:Int):=by unfold txN;rw[ht];exact textM_cut (by omega)
 have hsec: ∀i,i<pages.length→pgSecs m p i=secsP (pages.getD i ⟨#[]⟩):=fun i hi=>by
  unfold pgSecs secsP
  apply List.map_congr_left
  intro k hk
  exact h2 i k hi (List.mem_range.1 hk)
 have hsz: ∀i,i<pages.length→(pages.getD i ⟨#[]⟩).size=512:=fun i hi=>by
  have:pages.getD i ⟨#[]⟩=pages[i]:=by simp[List.getD,hi]
  rw[this];exact hs _ (List.getElem_mem hi)
 refine⟨txOk_yes hn ?_ (fun j hj=>by rw[hsec j hj];exact joinOk_secs (hsz j hj)),hn, ?_⟩
 ·unfold txHead
  rw[hn,ht,h1,mkStr_Ok _ _ (by rw[textM_size];omega),mkStr_N _ _ (by rw[textM_size];omega) hq0 hq1]
  simp
  omega
 ·unfold txPages
  apply List.ext_getElem
  ·simp
  ·intro i h1 h2
   simp only[List.length_map,List.length_range] at h1
   simp only[List.getElem_map,List.getElem_range]
   rw[hsec i h1,joinP_secs (hsz i h1)]
   simp[List.getD,h1]
end Go.Proofs.YtjgkegkinnlcoaaGreatDoor
namespace Go.Proofs.YtjgkegkinnlcoaaGreatDoor
open Go.RowKit
theorem up_layN {hot:Int→Option ByteArray} {size N:Nat}: ∀ {L:List Int} {x:Int × DM},x.1=0→UpM x.2 N→(∀no∈L,((hot no).getD ⟨#[]⟩).size=512∧2+size+no.toNat*8+8≤N)→(layN x hot size L).1=0∧UpM (layN x hot size L).2 N
 | [],x,h0,h,_=>⟨h0,h⟩
 |no::L,x,h0,h,hs=>by
  obtain⟨a1,a2⟩:=hs no (by simp)
  obtain⟨i1,i2⟩:=up_putN h0 h a1 8 (Nat.le_refl _) a2
  exact up_layN (L:=L) (x:=putX x (2+size+no.toNat*8) ((hot no).getD ⟨#[]⟩)) i1 i2 (fun q hq=>hs q (by simp[hq]))
theorem wrN_same {base:Nat} {pages:List ByteArray} {m:DM}: ∀ {t:Nat},(wrN base pages m t).1=0→ ∀j,j<t→secM (wrN base pages m t).2 (base+j)=secP (pages.getD (j / 9) ⟨#[]⟩) (j % 9)
 |0,_,j,hj=>absurd hj (by omega)
 |t+1,h,j,hj=>by
  unfold wrN at h ⊢
  by_cases e:j=t
  ·subst e;exact stepW_same h
  ·rw[stepW_other _ (by omega)]
   exact wrN_same (stepW_zero h) j (by omega)
theorem apX_secs {l:LM} {m:DM} {N k:Nat} (h:UpM m N) (hk:DOk m k) (pages:List ByteArray) (hp: ∀p∈pages,p.size=512) (hl:l.frm+l.at_+1+9*pages.length≤N):
  secM (apX l m pages).2 (l.frm+l.at_)=mkStr l.next (textM pages.length)∧(∀i k,i<pages.length→k<9→secM (apX l m pages).2 (l.frm+l.at_+1+i*9+k)=secP (pages.getD i ⟨#[]⟩) k)∧
  ∀j,j<l.frm+l.at_∨l.frm+l.at_+1+9*pages.length≤j→secM (apX l m pages).2 j=secM m j:=by
 have h1:=h.wrN (l.frm+l.at_+1) pages hp _ (Nat.le_refl _) (by omega)
 have h2:=h1.2.stepF h1.1
 have h3:=h2.2.stepW h2.1 (l.frm+l.at_) (mkStr l.next (textM pages.length)) (by omega) (mkStr_size _ _ (by rw[textM_size];omega))
 have k1:=hk.wrN (l.frm+l.at_+1) pages (9*pages.length)
 have k3:=k1.stepF.stepW ((l.frm+l.at_:Nat):Int) (mkStr l.next (textM pages.length))
 unfold apX
 refine⟨?_,fun i k hi hk9=> ?_,fun j hj=> ?_⟩
 ·rw[stepF_sec k3.wait]
  exact stepW_same h3.1
 ·rw[stepF_sec k3.wait,stepW_other _ (by omega),stepF_sec k1.wait]
  have:=wrN_same h1.1 (9*i+k) (by omega)
  rw[show l.frm+l.at_+1+(9*i+k)=l.frm+l.at_+1+i*9+k by omega,show(9*i+k) / 9=i by omega,show(9*i+k) % 9=k by omega] at this
  exact this
 ·rw[stepF_sec k3.wait,stepW_other _ (by omega),stepF_sec k1.wait,wrN_other _ (by omega)]
end Go.Proofs.YtjgkegkinnlcoaaGreatDoor
namespace Go.Proofs.YtjgkegkinnlcoaaGreatDoor
open Go.RowKit
def DirtyOk (M:PM):Prop:= ∀i s,M.dirty i=some s→0≤i∧i<M.most∧pgE s=0∧pgN s=i∧s.size=512
theorem hotAdd_dirty {M:PM} (h:DirtyOk M) (hot:Int→Option ByteArray): ∀j,j≤(dirtyL M).length→hotAdd M.most (((dirtyL M).take j).map (dText M)) hot=some (hotJ M hot (dirtyL M) j)
 |0,_=>by
  show hotAdd M.most [] hot=_
  unfold hotAdd hotJ
  simp
 |j+1,hj=>by
  obtain⟨x,hx⟩: ∃x,(dirtyL M)[j]? =some x:=⟨(dirtyL M)[j],List.getElem?_eq_getElem (by omega)⟩
  obtain⟨-, -,x2⟩:=(dirtyL_mem M x).1 (List.mem_of_getElem? hx)
  obtain⟨s,hs⟩:=Option.isSome_iff_exists.1 x2
  obtain⟨-,a2,a3,a4, -⟩:=h x s hs
  have hd:dText M x=s:=by unfold dText;rw[hs];rfl
  rw[List.take_add_one,hx,Option.toList_some,List.map_append,hotAdd_append,hotAdd_dirty h hot j (by omega)]
  show hotAdd M.most [dText M x] (hotJ M hot (dirtyL M) j)=_
  unfold hotAdd
  rw[if_pos (by rw[hd,a4];exact⟨a3,a2⟩)]
  show some (updT _ (pgN (dText M x)) (dText M x))=_
  rw[show pgN (dText M x)=x by rw[hd,a4],hotJ_succ hx]
theorem head_congr {m m':DM} {p left:Nat} {q:Int} (h:secM m' p=secM m p):txHead m' p q left=txHead m p q left:=by
 unfold txHead txN;rw[h]
section
variable {M:PM} {N k:Nat} {G first:Int} {ts:List TxD}
theorem LogIs.commit (h:LogIs M N G first ts) (hk:PgOk M k) (hd:DirtyOk M) (n1:0<cntD M) (n2:cntD M≤64) (hfit:M.l.at_+1+9*cntD M≤M.size) (hG:G+1≤4611686018427387904):
  (apP M).1=0∧LogIs (keepP (apP M).2) N (G+1) first (ts++[(M.l.next,dirtyPages M)])∧ ∀i,baseP (keepP (apP M).2) i=viewP M i:=by
 obtain⟨hs10,hgeo⟩:=mostI_geo (N:=N) (size:=M.size) (by rw[←h.geo];exact h.most1)
 have hl:(dirtyPages M).length=cntD M:=by rw[dirtyPages_eq,List.length_map,dirtyL_len]
 have hp: ∀p∈dirtyPages M,p.size=512:=fun p hp=>by
  rw[dirtyPages_eq] at hp
  obtain⟨x,hx,rfl⟩:=List.mem_map.1 hp
  obtain⟨-, -,x2⟩:=(dirtyL_mem M x).1 hx
  obtain⟨s,hs⟩:=Option.isSome_iff_exists.1 x2
  have:dText M x=s:=by unfold dText;rw[hs];rfl
  rw[this]
  exact(hd x s hs).2.2.2.2
 have he:apE M.l (dirtyPages M).length=0:=by
  unfold apE
  rw[h.ldead,if_neg (by decide),hl,if_neg (by omega),h.lsize,if_neg (by omega)]
 have hfr:M.l.frm+M.l.at_+1+9*(dirtyPages M).length≤N:=by rw[h.frm,hl];omega
 obtain⟨B,hB⟩: ∃B,B=(M.l.next+1) % 18446744073709551616:=⟨_,rfl⟩
 obtain⟨at2,hat⟩: ∃at2,at2=M.l.at_+1+9*(dirtyPages M).length:=⟨_,rfl⟩
 have hap:apP M=(0, { M with l:= { M.l with at_:=at2,next:=B },m:=(apX M.l M.m (dirtyPages M)).2 }):=by
  unfold apP
  rw[apR_yes he,up_apM h.up _ hp hfr,hB,hat]
 obtain⟨s1,s2,s3⟩:=apX_secs h.up hk.disk (dirtyPages M) hp hfr
 have hup:=(up_apX h.up (dirtyPages M) hp hfr).2
 have hwt:(apX M.l M.m (dirtyPages M)).2.wait=[]:=by
  have h1:=(up_apX h.up (dirtyPages M) hp hfr).1
  unfold apX at h1 ⊢
  exact stepF_wait h1
 obtain⟨m',hm'⟩: ∃m',m'=(apX M.l M.m (dirtyPages M)).2:=⟨_,rfl⟩
 rw[←hm'] at hap s1 s2 s3 hup hwt
 rw[h.frm] at s1 s2 s3
 have hnx0:=h.next0
 have hnx1:=h.next1
 have hsm:=h.small
 obtain⟨t1,t2,t3⟩:=tx_made (left:=M.size - M.l.at_) hnx0 (by omega) s1 (fun i k hi hk=>by have:=s2 i k hi hk;exact this) (by omega) (by omega) (by omega) hp
 have hch:=(h.chain.congr (m':=m') (fun j h1 h2=>(s3 (2+j) (by omega)).symm)).snoc (by omega) t1 t2
 rw[t3, ←hB, ←hat] at hch
 have hap1:(apP M).1=0:=by rw[hap]
 refine⟨hap1, ?_,fun i=> ?_⟩
 ·have hk1:=hotJ_all (M:=M) (E:=(apP M).2) (by rw[hap]) (fun i s hs=>by rw[hap] at hs;have:=hd i s hs;have:=hk.geo;have:=hk.disk.few;omega) (L:=dirtyL M) rfl
  rw[hap] at hk1
  rw[hap]
  refine⟨hup,hwt,h.geo,h.most1,h.frm,h.lsize,h.dead,h.ldead,hch, ?_, ?_, ?_,h.first0,by have:=h.first1;omega,by show 0≤B;omega, ?_, ?_, ?_,h.gen1,by have:=h.gen2;show M.gen≤G+1;omega,hG⟩
  ·show at2≤M.size
   omega
  ·intro j hj q left hq
   have hq:B≤q:=hq
   show txHead m' (2+j) q left=false
   by_cases c1:j<M.l.at_∨M.l.at_+1+9*(dirtyPages M).length≤j
   ·rw[head_congr (s3 (2+j) (by omega))]
    exact h.calm j hj q left (by omega)
   ·by_cases c2:j=M.l.at_
    ·subst c2
     refine head_num ?_
     rw[s1,mkStr_N _ _ (by rw[textM_size];omega) hnx0 (by omega)]
     omega
    ·refine head_ten ?_
     have hi:(j - M.l.at_ - 1) / 9<(dirtyPages M).length:=by omega
     have:=s2 ((j - M.l.at_ - 1) / 9) ((j - M.l.at_ - 1) % 9) hi (Nat.mod_lt _ (by decide))
     rw[show 2+M.l.at_+1+(j - M.l.at_ - 1) / 9*9+(j - M.l.at_ - 1) % 9=2+j by omega] at this
     rw[this]
     have hz:((dirtyPages M).getD ((j - M.l.at_ - 1) / 9) ⟨#[]⟩).size=512:=by
      have e:(dirtyPages M).getD ((j - M.l.at_ - 1) / 9) ⟨#[]⟩=(dirtyPages M)[(j - M.l.at_ - 1) / 9]:=by simp[List.getD,hi]
      rw[e];exact hp _ (List.getElem_mem hi)
     exact tellS_ten (part_size _ (by omega) _ (Nat.mod_lt _ (by decide)))
  ·have ha:txAll (ts++[(M.l.next,dirtyPages M)])=txAll ts++dirtyPages M:=by unfold txAll;simp
   show hotAdd M.most (txAll (ts++[(M.l.next,dirtyPages M)])) (fun _=>none)=_
   rw[ha,hotAdd_append,show hotAdd M.most (txAll ts) (fun _=>none)=some M.hot from h.hot]
   rw[Option.bind_some, ←hk1]
   have:=hotAdd_dirty hd M.hot (dirtyL M).length (Nat.le_refl _)
   rw[List.take_length] at this
   rw[dirtyPages_eq,this]
  ·show B≤G+1
   omega
  ·show secM m' (M.gen % 2).toNat=_
   rw[s3 _ (by omega)];exact h.mark
  ·show mOk (secM m' (1 - (M.gen % 2).toNat))=true→mN (secM m' (1 - (M.gen % 2).toNat))<M.gen
   rw[s3 _ (by omega)];exact h.other
 ·have hb':baseP (keepP (apP M).2) i=((apP M).2.dirty i).getD (baseP (apP M).2 i):=by
   unfold baseP keepP
   simp only
   cases (apP M).2.dirty i<;>simp
  rw[hb',show(apP M).2.dirty=M.dirty by rw[hap],show baseP (apP M).2 i=baseP M i from apS_base hk (dirtyPages M) i]
  rfl
theorem LogIs.lay (h:LogIs M N G first ts) (hk:PgOk M k) (hG:G+1≤4611686018427387904):
  (layP M).1=0∧LogIs (layP M).2 N (G+1) M.l.next []∧(layP M).2= { M with m:=(layX M).2,gen:=M.gen+1,hot:=fun _=>none,l:= { M.l with at_:=0 } }:=by
 obtain⟨hs10,hgeo⟩:=mostI_geo (N:=N) (size:=M.size) (by rw[←h.geo];exact h.most1)
 have hmo:=h.geo
 have hnx0:=h.next0
 have hnx1:=h.next1
 have hg1:=h.gen1
 have hg2:=h.gen2
 have hsm:=h.small
 obtain⟨u1,u2⟩:=up_layN (hot:=M.hot) (size:=M.size) (N:=N) (L:=hotL M) (x:=(0,M.m)) rfl h.up (fun no hno=>by
  obtain⟨x0,x1,x2⟩:=(hotL_mem no).1 hno
  obtain⟨s,hs⟩:=Option.isSome_iff_exists.1 x2
  obtain⟨y0,y1,y2⟩:=hk.hdom no s hs
  rw[hs]
  exact⟨y2,by omega⟩)
 have hok:=layN_ok (hot:=M.hot) (size:=M.size) (L:=hotL M) (x:=(0,M.m)) hk.disk
 have hg:(M.gen+1) % 18446744073709551616=M.gen+1:=by omega
 have hX:=layX_eq M
 rw[hg] at hX
 have hoth: ∀j,j<2+M.size→secM (layN (0,M.m) M.hot M.size (hotL M)).2 j=secM M.m j:=fun j hj=>layN_other (fun no hno=> .inl (by omega))
 obtain⟨y,hy⟩: ∃y,y=layN (0,M.m) M.hot M.size (hotL M):=⟨_,rfl⟩
 rw[←hy] at u1 u2 hok hX hoth
 have f1:=u2.stepF u1
 obtain⟨gi,hgi⟩: ∃gi:Nat,((M.gen+1) % 2)=gi:=⟨((M.gen+1) % 2).toNat,by omega⟩
 rw[hgi] at hX
 have f2:=f1.2.stepW f1.1 gi (mkStr (M.gen+1) (superT M.l.next M.size)) (by omega) (mkStr_size _ _ (by rw[superT_size];omega))
 have f3:=f2.2.stepF f2.1
 have hwt:=stepF_wait f3.1
 rw[←hX] at f3 hwt
 have hok3:=hok.stepF.stepW (gi:Int) (mkStr (M.gen+1) (superT M.l.next M.size))
 have hsame:secM (layX M).2 gi=mkStr (M.gen+1) (superT M.l.next M.size):=by
  rw[hX,stepF_sec hok3.wait]
  exact stepW_same f2.1
 have hrest: ∀j,j<2+M.size→j≠gi→secM (layX M).2 j=secM M.m j:=fun j hj hn=>by
  rw[hX,stepF_sec hok3.wait,stepW_other _ (by omega),stepF_sec hok.wait,hoth j hj]
 have hl:layP M=(0, { M with m:=(layX M).2,gen:=M.gen+1,hot:=fun _=>none,l:= { M.l with at_:=0 } }):=by
  rw[layP_yes f3.1,h.ldead,if_neg (by decide),if_neg (by decide),hg]
 obtain⟨Y,hY⟩: ∃Y,Y=(layX M).2:=⟨_,rfl⟩
 rw[←hY] at hl f3 hsame hrest hwt
 refine⟨by rw[hl], ?_,by rw[hl,hY]⟩
 rw[hl]
 clear hX hY hl
 refine⟨f3.2,hwt,h.geo,h.most1,h.frm,h.lsize,h.dead,h.ldead, .nil _ _,Nat.zero_le _, ?_,rfl,hnx0,by omega,hnx0,by show M.l.next≤G+1;omega, ?_, ?_,by show 1≤M.gen+1;omega,by show M.gen+1≤G+1;omega,hG⟩
 ·intro j hj q left hq
  show txHead Y (2+j) q left=false
  rw[head_congr (hrest (2+j) (by have:j<M.size:=hj;omega) (by omega))]
  exact h.calm j hj q left hq
 ·show secM Y ((M.gen+1) % 2).toNat=_
  rw[hgi,Int.toNat_natCast]
  exact hsame
 ·show mOk (secM Y (1 - ((M.gen+1) % 2).toNat))=true→mN (secM Y (1 - ((M.gen+1) % 2).toNat))<M.gen+1
  rw[show 1 - ((M.gen+1) % 2).toNat=(M.gen % 2).toNat by omega,hrest _ (by omega) (by omega),h.mark,mkStr_N _ _ (by rw[superT_size];omega) (by omega) (by omega)]
  intro _
  omega
end
end Go.Proofs.YtjgkegkinnlcoaaGreatDoor
namespace Go.Proofs.YtjgkegkinnlcoaaGreatDoor
open Go.RowKit
def keepR (R:RM):RM:= { R with sure:=R.way,dirty:=List.replicate R.most false }
end Go.Proofs.YtjgkegkinnlcoaaGreatDoor
namespace Go.Proofs.YtjgkegkinnlcoaaGreatDoor
open Go.RowKit
section
variable {M:PM} {R:RM} {N k:Nat} {G:Int}
theorem Rel.dirtyOk (h:Rel M R N G) (hk:PgOk M k):DirtyOk M:=fun i s hs=>by
 obtain⟨a,b,c⟩:=hk.dom i s hs
 obtain⟨n,rfl⟩: ∃n:Nat,i=n:=⟨i.toNat,by omega⟩
 have hd:isD R.dirty n=true:=by rw[←h.dirty,hs];rfl
 have hn:=h.dway n hd
 obtain⟨kd,hkd⟩: ∃kd,R.way.kinds[n]? =some kd:=⟨R.way.kinds[n],List.getElem?_eq_getElem hn⟩
 obtain⟨r,hr⟩: ∃r,R.way.rooms[n]? =some r:=⟨R.way.rooms[n]'(by rw[h.way.lr];exact hn),List.getElem?_eq_getElem _⟩
 have hv:=h.vw n kd r hkd hr
 have:viewP M n=s:=by unfold viewP;rw[hs];rfl
 rw[this] at hv
 subst hv
 have hz:=h.way.roomsz hr
 exact⟨a,b,pack_E _ _ _ (h.arg hkd) (by omega),pack_N _ _ _ (h.arg hkd) (by omega),c⟩
theorem PgOk.lay (hk:PgOk M k) (hz:(layX M).1=0) (hd:M.l.dead=false):PgOk (layP M).2 (k+8*(hotL M).length+1):=by
 have hl:=layP_yes hz
 rw[hd,if_neg (by decide),if_neg (by decide)] at hl
 have hX:=layX_ok hk
 have hN:=layX_len M
 obtain⟨Y,hY⟩: ∃Y,Y=(layX M).2:=⟨_,rfl⟩
 obtain⟨g,hg⟩: ∃g,g=(M.gen+1) % 18446744073709551616:=⟨_,rfl⟩
 rw[←hY] at hX hN hl
 rw[←hg] at hl
 rw[hl]
 exact⟨hX,by show 2+M.size+M.most*8≤Y.sure.length;rw[hN];exact hk.geo,hk.size1,hk.most1,hk.room1,hk.room2,hk.frm,hk.lsize,Nat.zero_le _,hk.next0,hk.next1,by show 0≤g;omega,by show g≤18446744073709551615;omega,hk.dom,fun i s hs=>(by cases hs)⟩
theorem lay_view (hk:PgOk M k) (i:Nat):viewP (layP M).2 i=viewP M i:=by
 unfold viewP
 rw[(layP_m M).2.2,lay_base hk i (by omega)]
theorem keepP_most (M:PM):(keepP M).most=M.most:=rfl
theorem keepP_room (M:PM):(keepP M).room=M.room:=rfl
theorem keepP_none (M:PM) (i:Int):(keepP M).dirty i=none:=rfl
theorem apP_most (M:PM):(apP M).2.most=M.most:=rfl
theorem apP_room (M:PM):(apP M).2.room=M.room:=rfl
theorem Rel.kept {E:PM} (h:Rel M R N G) {H first:Int} {ts:List TxD} (hl:LogIs E N H first ts) (hm:E.most=M.most) (hr:E.room=M.room) (hd: ∀i,E.dirty i=none) (hb: ∀i:Nat,baseP E i=viewP M i):Rel E (keepR R) N H:=by
 have hv: ∀i:Nat,viewP E i=viewP M i:=fun i=>by unfold viewP;rw[hd];exact hb i
 refine⟨⟨_,_,hl⟩,hm.trans h.most,hr.trans h.room,h.big,h.way,h.way,fun i kd r h1 h2=> ?_,fun i kd r h1 h2=> ?_,by show(List.replicate R.most false).length=_;simp[keepR],fun i=> ?_,fun i hi=> ?_, ?_⟩
 ·rw[hv];exact h.vw i kd r h1 h2
 ·rw[hb];exact h.vw i kd r h1 h2
 ·rw[hd]
  show false=isD (List.replicate R.most false) i
  rw[isD_none]
 ·have hi:isD (List.replicate R.most false) i=true:=hi
  rw[isD_none] at hi;cases hi
 ·show((List.replicate R.most false).filter id).length≤_
  rw[cnt_none];exact Nat.zero_le _
theorem Rel.commit (h:Rel M R N G) (hk:PgOk M k) (hroom:R.room≤64) (hG:G+2≤4611686018427387904):
  (M.size<1+9*cntR R→(commitP M).1=9∧Rel (commitP M).2 R N (G+2))∧(1+9*cntR R≤M.size→(commitP M).1=0∧Rel (commitP M).2 (keepR R) N (G+2)):=by
 obtain⟨first,ts,hl⟩:=h.log
 have hc:=h.cntDR
 have hcn:=h.cnt
 have hdk:=h.dirtyOk hk
 have hlen:(dirtyPages M).length=cntD M:=by rw[dirtyPages_eq,List.length_map,dirtyL_len]
 have hs10:=hk.size1
 by_cases h0:cntD M=0
 ·have e:commitP M=(0,M):=by unfold commitP;rw[if_neg (by rw[hl.dead];simp),if_pos h0]
  refine⟨fun hh=>by omega,fun _=> ?_⟩
  rw[e]
  have hnone: ∀i,M.dirty i=none:=fun i=>by
   cases e:M.dirty i with
   |none=>rfl
   |some s=>
    exfalso
    obtain⟨a,b, -⟩:=hk.dom i s e
    have:i∈dirtyL M:=(dirtyL_mem M i).2 ⟨a,by have:=hk.geo;have:=hk.disk.few;omega,by rw[e];rfl⟩
    have:=List.length_pos_of_mem this
    rw[dirtyL_len] at this
    omega
  exact⟨rfl,h.kept (hl.later (by omega) hG) rfl rfl hnone (fun i=>by unfold viewP;rw[hnone];rfl)⟩
 have h64: ¬64<cntD M:=by rw[hc];omega
 have hcm:commitP M=endP (if (apP M).1=9∧1+9*cntD M≤M.size then(if (layP (apP M).2).1=0 then apP (layP (apP M).2).2 else layP (apP M).2) else apP M):=commitP_eq hl.dead h0 h64 rfl
 by_cases hfit:M.l.at_+1+9*cntD M≤M.size
 ·obtain⟨a,b,c⟩:=hl.commit hk hdk (by omega) (by omega) hfit (by omega)
  rw[if_neg (by rw[a];simp),endP_yes a] at hcm
  refine⟨fun hh=>by omega,fun _=> ?_⟩
  rw[hcm]
  refine⟨rfl, ?_⟩
  have hb:=b.later (by omega) hG
  obtain⟨E,hE⟩: ∃E,E=keepP (apP M).2:=⟨_,rfl⟩
  have e1:E.most=M.most:=by rw[hE,keepP_most,apP_most]
  have e2:E.room=M.room:=by rw[hE,keepP_room,apP_room]
  have e3: ∀i,E.dirty i=none:=fun i=>by rw[hE,keepP_none]
  simp only
  rw[←hE] at hb c ⊢
  exact h.kept hb e1 e2 e3 (fun i=>c i)
 ·have hap:apP M=(9,M):=by
   unfold apP
   rw[apR_no (e:=9) (by unfold apE;rw[hl.ldead,if_neg (by decide),hlen,if_neg h64,hl.lsize,if_pos (by omega)]) (by decide)]
  rw[hap] at hcm
  simp only[true_and] at hcm
  by_cases hbig:1+9*cntD M≤M.size
  ·refine⟨fun hh=>by omega,fun _=> ?_⟩
   rw[if_pos hbig] at hcm
   obtain⟨a,b,c⟩:=hl.lay hk (by omega)
   have hk2:PgOk (layP M).2 (k+8*(hotL M).length+1):=hk.lay (by
    by_cases e:(layX M).1=0
    ·exact e
    ·rw[layP_no e] at a
     dsimp only at a
     exact absurd a e) hl.ldead
   have hd2:(layP M).2.dirty=M.dirty:=(layP_m M).2.2
   have hdk2:DirtyOk (layP M).2:=fun i s hs=>by
    rw[hd2] at hs
    have:=hdk i s hs
    rw[c];exact this
   have hcc:cntD (layP M).2=cntD M:=by unfold cntD;rw[hd2]
   have hat:(layP M).2.l.at_=0∧(layP M).2.size=M.size:=by rw[c];exact⟨rfl,rfl⟩
   obtain⟨a2,b2,c2⟩:=b.commit hk2 hdk2 (by omega) (by omega) (by rw[hat.1,hat.2,hcc];omega) (by omega)
   rw[if_pos a,endP_yes a2] at hcm
   rw[hcm]
   refine⟨rfl, ?_⟩
   have m1:(layP M).2.most=M.most:=by rw[c]
   have m2:(layP M).2.room=M.room:=by rw[c]
   refine h.kept (b2.later (by omega) hG) (((keepP_most _).trans (apP_most _)).trans m1) (((keepP_room _).trans (apP_room _)).trans m2) (keepP_none _) (fun i=> ?_)
   rw[c2 i]
   exact lay_view hk i
  ·rw[if_neg hbig,endP_no (by simp)] at hcm
   refine⟨fun _=> ?_,fun hh=>by omega⟩
   rw[hcm]
   refine⟨rfl, ?_⟩
   have:({ M with dead:=M.dead||decide ((9:Int)≠9) }:PM)=M:=by
    have e:=hl.dead
    obtain⟨m,l,size,gen,most,rm,dirty,hot,dead⟩:=M
    simp only at e
    subst e
    rfl
   show Rel { M with dead:=M.dead||decide ((9:Int)≠9) } R N (G+2)
   rw[this]
   exact h.later (by omega) hG
end
end Go.Proofs.YtjgkegkinnlcoaaGreatDoor
namespace Go.Proofs.YtjgkegkinnlcoaaGreatDoor
open Go.RowKit Go.Maps Go.Joins
section
variable {w0 W W':World} {b d lb pb hb K J k:Nat} {FD FP:List Nat} {M M':PM}
theorem PlayAt.lay (h:PlayAt w0 W b d lb pb hb FD FP K M) (s:LayGo W W' b d lb pb hb FD FP J k M') (hw:M'.m.wait=[]): ∃FD',PlayAt w0 W' b d lb pb hb FD' FP J M':=by
 obtain⟨FD',h1,t1,f1⟩:=s
 have hs:=h.below.size
 refine⟨FD',h1.rek (h1.ok.disk.calm hw),h.fb,h.fl,h.fh,fun x hx=>(f1 x hx).elim (h.fd x) (fun h=>by omega),h.fp,h.below.trans (t1.below hs (fun x hx=> ?_))⟩
 simp only[List.mem_cons] at hx
 rcases hx with rfl|rfl|rfl|hx
 ·exact h.fb
 ·exact h.fl
 ·exact h.fh
 ·exact h.fd x hx
end
theorem setP_size (M:PM) (no kind:Int) (r:ByteArray):(setP M no kind r).2.size=M.size:=by
 unfold setP
 split
 ·rfl
 ·split
  ·rfl
  ·split<;>rfl
theorem setHeadP_size (M:PM) (u f:Int) (r:ByteArray):(setHeadP M u f r).2.size=M.size:=by unfold setHeadP;exact setP_size _ _ _ _
theorem allocP_size (M:PM) (kind:Int):(allocP M kind).2.2.size=M.size:=by
 unfold allocP
 split
 ·rfl
 ·simp only
  split
  ·rfl
  ·split
   ·dsimp only
    rw[setP_size]
   ·split
    ·dsimp only
     rw[setHeadP_size,setP_size]
    ·dsimp only
     rw[setHeadP_size,setP_size]
end Go.Proofs.YtjgkegkinnlcoaaGreatDoor
namespace Go.Proofs.YtjgkegkinnlcoaaGreatDoor
open Go.ChangeShapes Go.WideShapes Go.ChangeAt Go.RowKit Go.Deep Go.Joins
section
variable {H:Type} {enc:TypeId × Value→H} {W:World}
structure IntArg (W:World) (k:IntKind) (U:Int) (a:Option Addr) (n:Nat) (l:List Int):Prop where
 len:n=l.length
 max:n≤9223372036854775807
 bd: ∀x∈l,0≤x∧x≤U
 at_:n=0∨ ∃lb off,a=some ⟨lb,off,none⟩∧lb<W.heap.size∧ ∀(i:Nat) x,l[i]? =some x→W.cell? ⟨lb,off+i,none⟩=some (.int k x)
set_option maxRecDepth 100000 in
theorem open_nums {t e:TypeId} {k:IntKind} {U:Int} (ht:Tryz.prog.underlying t=some (.slice e)) (he:Tryz.prog.underlying e=some (.int k)) (hc1:Tryz.prog.cellsOf e=1) (hU: ∀x,(Lit.int k x).wf=true→0≤x∧x≤U) {v:Value} {d:DataW H} {p:List MemPlace} (hv:Value.okWide Tryz.prog W .any 0 t v) (h:DataW.Trod enc Tryz.prog W 0 (fun _=>true) true t v d p):
  ∃a n c l,v= .slice a n c∧IntArg W k U a n l:=by
 obtain⟨a0,len0,cap0,rfl⟩:=okWide_slice ht hv
 obtain⟨fuel,hf⟩:=h
 rcases open_slice1 ht hc1 hf with ⟨e,_⟩|⟨a,len,cap,m,n',V,D,Pl,e,_,hl,hm,hmm,_,hc⟩
 ·simp[Value.cells] at e
  obtain⟨rfl,rfl,rfl⟩:=e
  exact⟨_,_,_,[],rfl,rfl,by omega,by simp, .inl rfl⟩
 ·simp[Value.cells] at e
  obtain⟨rfl,rfl,rfl⟩:=e
  simp only[if_true] at hmm
  subst hmm
  have hm':m≤9223372036854775807:=hm
  by_cases h0:len0=0
  ·subst h0;exact⟨_,_,_,[],rfl,rfl,by omega,by simp, .inl rfl⟩
  ·obtain⟨lb,off,sp⟩:=a
   have hs:sp=none:=by simpa[Addr.add] using World.cell?_spot (hc 0 (by omega)).1
   subst hs
   have hlb:lb<W.heap.size:=by
    have:=(hc 0 (by omega)).1
    rw[addr_add] at this
    exact cell_lt this
   obtain⟨l,hl',hP⟩:=list_of len0 (fun i x=>W.cell? ⟨lb,off+i,none⟩=some (.int k x)∧0≤x∧x≤U) (fun i hlt=>by
    obtain⟨x,hx,_,hw⟩:=DataW.trod_int he (hc i (by omega)).2
    have:=(hc i (by omega)).1
    rw[addr_add] at this
    simp only[List.cons.injEq,and_true] at hx
    exact⟨x,by rw[this,hx],hU x hw⟩)
   exact⟨_,_,_,l,rfl,hl'.symm,by omega,fun x hx=>by
    obtain⟨i,hi⟩:=List.mem_iff_getElem?.1 hx
    exact(hP i x hi).2, .inr ⟨lb,off,rfl,hlb,fun i x hx=>(hP i x hx).1⟩⟩
set_option maxRecDepth 100000 in
theorem open_u64s {v:Value} {d:DataW H} {p:List MemPlace} (hv:Value.okWide Tryz.prog W .any 0 57 v) (h:DataW.Trod enc Tryz.prog W 0 (fun _=>true) true 57 v d p):
  ∃a n c l,v= .slice a n c∧IntArg W .u64 18446744073709551615 a n l:=open_nums Tryz.underlying57 Tryz.underlying28 (by kernel_rfl) (fun x h=>bd_u64o h) hv h
end
end Go.Proofs.YtjgkegkinnlcoaaGreatDoor
namespace Go.Proofs.YtjgkegkinnlcoaaGreatDoor
open Go.RowKit
section
variable {M:PM} {R:RM} {N:Nat} {G:Int}
theorem within_pos {no:Int} (h:withinP M no=true):1≤no∧no<pagesP M:=by
 unfold withinP at h
 exact of_decide_eq_true h
end
end Go.Proofs.YtjgkegkinnlcoaaGreatDoor
namespace Go.Proofs.YtjgkegkinnlcoaaGreatDoor
open Go.RowKit
def Fre (M:PM):Prop:=(rdP M 0).2.2=0→freeR (rdP M 0).2.1=0
structure Kp (M M':PM):Prop where
 size:M'.size=M.size
 most:M'.most=M.most
 snd:M.most≤65536→Snd M→Snd M'
 fr:M.most≤65536→Snd M→Fre M→Fre M'
section
variable {M M1 M':PM} {R:RM} {N:Nat} {G:Int}
theorem Kp.refl (M:PM):Kp M M:=⟨rfl,rfl,fun _ h=>h,fun _ _ h=>h⟩
theorem Kp.trans (h:Kp M M1) (k:Kp M1 M'):Kp M M':=⟨k.size.trans h.size,k.most.trans h.most,fun a b=>k.snd (by rw[h.most];exact a) (h.snd a b),fun a b c=>k.fr (by rw[h.most];exact a) (h.snd a b) (h.fr a b c)⟩
theorem Fre.of_rd (h:Fre M) (e:rdP M' 0=rdP M 0):Fre M':=by
 unfold Fre at h ⊢
 rw[e]
 exact h
theorem setP_sz (M:PM) (no kind:Int) (r:ByteArray):(setP M no kind r).2.size=M.size:=setP_size M no kind r
theorem Kp.write (M:PM) (no kind:Int) (r:ByteArray):Kp M (writeP M no kind r).2:=by
 refine⟨?_, ?_,fun _ h=>h.write no kind r,fun _ _ h=> ?_⟩
 ·unfold writeP
  split
  ·exact setP_sz _ _ _ _
  ·rfl
 ·unfold writeP
  split
  ·exact setP_most' _ _ _
  ·rfl
 ·unfold writeP
  split
  ·rename_i hw
   exact h.of_rd (setP_rd no kind r (fun e=>by have:=within_pos hw.1;omega))
  ·exact h
theorem Fre.head (h:Fre M) {u:Int} {r:ByteArray} (u0:0≤u) (u1:u≤4294967295):Fre (setHeadP M u 0 r).2:=by
 unfold setHeadP
 cases hd:M.m.down
 ·rcases setP_zero (M:=M) (headR u 0 r) hd with e|e
  ·exact h.of_rd e
  ·unfold Fre
   rw[e]
   intro _
   simp only
   unfold headR
   obtain⟨a,b⟩:=used_fill (u:=u) (f:=0) (rest:=(r.extract 8 r.size).data.toList) u0 u1 (by omega) (by omega)
   rw[b]
 ·intro e
  rw[rdP_dn (by rw[setP_m];exact hd)] at e
  cases e
theorem allocP_most (M:PM) (kind:Int):(allocP M kind).2.2.most=M.most:=by
 unfold allocP
 split
 ·rfl
 ·simp only
  split
  ·rfl
  ·split
   ·dsimp only
    rw[setP_most']
   ·split
    ·dsimp only
     unfold setHeadP
     rw[setP_most',setP_most']
    ·dsimp only
     unfold setHeadP
     rw[setP_most',setP_most']
theorem Kp.alloc (M:PM) (kind:Int):Kp M (allocP M kind).2.2:=by
 refine⟨allocP_size M kind,allocP_most M kind,fun hm h=>h.alloc hm kind,fun hm hs h=> ?_⟩
 by_cases e0:(rdP M 0).2.2=0
 rotate_left
 ·unfold allocP
  split
  ·exact h
  ·simp only
   have:pickP M=(0,0,0,(rdP M 0).2.2):=by unfold pickP;rw[if_pos e0]
   rw[this,if_pos e0]
   exact h
 obtain⟨s0,s1,s2⟩:=hs e0
 have hf:=h e0
 by_cases hfull:(M.most:Int)≤usedR (rdP M 0).2.1
 ·unfold allocP
  split
  ·exact h
  ·simp only
   have:pickP M=(0,0,0,8):=by
    unfold pickP
    rw[if_neg (by simpa using e0)]
    simp only
    rw[if_neg (by omega),if_pos hfull]
   rw[this,if_pos (by decide)]
   exact h
 have hp:pickP M=(usedR (rdP M 0).2.1,usedR (rdP M 0).2.1+1,0,0):=by
  unfold pickP
  rw[if_neg (by simpa using e0)]
  simp only
  rw[if_neg (by omega),if_neg hfull]
 unfold allocP
 split
 ·exact h
 ·simp only
  rw[hp]
  simp only
  rw[if_neg (by simp)]
  have h1:Fre (setP M (usedR (rdP M 0).2.1) kind ⟨#[]⟩).2:=h.of_rd (setP_rd _ _ _ (by omega))
  split
  ·exact h1
  ·have h2:=h1.head (u:=usedR (rdP M 0).2.1+1) (r:=(rdP M 0).2.1) (by omega) (by omega)
   split
   ·exact h2
   ·exact h2
theorem Kp.setRoot (M:PM) (i n:Int):Kp M (setRootP M i n).2:=by
 refine⟨?_, ?_,fun _ h=>h.setRoot i n (fun e=>rdP_size e),fun _ _ h=> ?_⟩
 ·unfold setRootP
  split
  ·rfl
  ·split
   ·rfl
   ·exact setP_sz _ _ _ _
 ·unfold setRootP
  split
  ·rfl
  ·split
   ·rfl
   ·exact setP_most' _ _ _
 ·unfold setRootP
  split
  ·exact h
  ·split
   ·exact h
   ·rename_i hi he
    have he:(rdP M 0).2.2=0:=by simpa using he
    have hz:=rdP_size he
    have hd:M.m.down=false:=by
     cases hd:M.m.down
     ·rfl
     ·rw[rdP_dn hd] at he;cases he
    rcases setP_zero (M:=M) (rootR (rdP M 0).2.1 i.toNat n) hd with e|e
    ·exact h.of_rd e
    ·have hc: ∀a,a+4≤8→cut (fillR (rootR (rdP M 0).2.1 i.toNat n) 496) a 4=cut (rdP M 0).2.1 a 4:=fun a ha=>by
      unfold fillR rootR
      rw[data_S,extract_cut,data_S,cut_S]
      have hl:(cut (rdP M 0).2.1 0 (8+8*i.toNat - 0)).length=8+8*i.toNat:=by rw[Nat.sub_zero,cut_length _ _ _ (by omega)]
      rw[List.append_assoc,List.drop_append_of_le_length (by omega),List.take_append_of_le_length (by rw[List.length_drop];omega)]
      unfold cut
      rw[List.drop_zero,List.drop_take,List.take_take,Nat.min_eq_left (by omega)]
     unfold Fre
     rw[e]
     intro _
     simp only
     unfold freeR
     rw[hc 4 (by omega)]
     exact h he
theorem Kp.fresh (M:PM) (n:ND):Kp M (freshB M n).2.2:=by
 unfold freshB
 simp only
 split
 ·exact Kp.alloc _ _
 ·exact(Kp.alloc _ _).trans (Kp.write _ _ _ _)
theorem Kp.split (M:PM) (no:Int) (n:ND):Kp M (splitB M no n).2.2.2:=by
 unfold splitB
 split
 ·exact Kp.write _ _ _ _
 ·simp only
  split
  ·exact Kp.fresh _ _
  ·exact(Kp.fresh _ _).trans (Kp.write _ _ _ _)
theorem Kp.putL (key val:Int): ∀(f:Nat) (M:PM) (no:Int),Kp M (putL key val f M no).2.2.2
 |0,M,no=>Kp.refl M
 |f+1,M,no=>by
  have ih:=Kp.putL key val f M
  unfold Go.Proofs.YtjgkegkinnlcoaaGreatDoor.putL
  simp only
  split
  ·exact Kp.refl M
  ·split
   ·exact Kp.split _ _ _
   ·split
    ·exact ih _
    ·exact(ih _).trans (Kp.split _ _ _)
theorem Kp.put (M:PM) (root key val:Int):Kp M (putB M root key val).2:=by
 unfold putB
 simp only
 split
 ·exact Kp.refl M
 ·split
  ·split
   ·exact Kp.fresh _ _
   ·exact(Kp.fresh _ _).trans (Kp.setRoot _ _ _)
  ·split
   ·exact Kp.putL _ _ _ _ _
   ·split
    ·exact(Kp.putL _ _ _ _ _).trans (Kp.fresh _ _)
    ·exact((Kp.putL _ _ _ _ _).trans (Kp.fresh _ _)).trans (Kp.setRoot _ _ _)
theorem Rel.noFree (h:Rel M R N G) (hf:Fre M):R.way.free=[]:=by
 have h1:=h.rd0
 unfold Fre at hf
 rw[h1] at hf
 have h2:=hf rfl
 simp only at h2
 rw[h.fre] at h2
 unfold firstF at h2
 cases e:R.way.free.getLast? with
 |none=>exact List.getLast?_eq_none_iff.1 e
 |some f=>
  rw[e] at h2
  have:=(h.way.fr f (List.mem_of_getLast? e)).1
  have h2:f=0:=h2
  omega
theorem cnt_le: ∀(d:List Bool) (n:Nat),(∀i:Nat,isD d i=true→i<n)→(d.filter id).length≤n:=by
 intro d
 induction d with
 |nil=>intro n _;simp
 |cons b d ih=>
  intro n h
  cases n with
  |zero=>
   have hb:b=false:=by
    cases b
    ·rfl
    ·exact absurd (h 0 (by simp[isD])) (by omega)
   subst hb
   rw[List.filter_cons_of_neg (by simp)]
   exact ih 0 (fun i hi=>absurd (h (i+1) (by simp[isD] at hi ⊢;exact⟨by omega,hi⟩)) (by omega))
  |succ n=>
   have:=ih n (fun i hi=>by have:=h (i+1) (by simp[isD] at hi ⊢;exact⟨by omega,hi⟩);omega)
   cases b<;>simp<;>omega
theorem Rel.cntLen (h:Rel M R N G):(cntR R:Int)≤lenR R:=by
 have h1:=cnt_le R.dirty R.way.kinds.length (fun i hi=>h.dway i hi)
 have h2:lenR R=R.way.kinds.length:=rfl
 unfold cntR
 omega
end
end Go.Proofs.YtjgkegkinnlcoaaGreatDoor
namespace Go.Proofs.YtjgkegkinnlcoaaGreatDoor
open Go.RowKit
section
variable {M:PM} {R:RM} {N:Nat} {G:Int} {k:Nat}
theorem Rel.commit64 (h:Rel M R N G) (hk:PgOk M k) (hroom:cntR R≤64) (hG:G+2≤4611686018427387904):
  (M.size<1+9*cntR R→(commitP M).1=9∧Rel (commitP M).2 R N (G+2))∧(1+9*cntR R≤M.size→(commitP M).1=0∧Rel (commitP M).2 (keepR R) N (G+2)):=by
 obtain⟨first,ts,hl⟩:=h.log
 have hc:=h.cntDR
 have hcn:=h.cnt
 have hdk:=h.dirtyOk hk
 have hlen:(dirtyPages M).length=cntD M:=by rw[dirtyPages_eq,List.length_map,dirtyL_len]
 have hs10:=hk.size1
 by_cases h0:cntD M=0
 ·have e:commitP M=(0,M):=by unfold commitP;rw[if_neg (by rw[hl.dead];simp),if_pos h0]
  refine⟨fun hh=>by omega,fun _=> ?_⟩
  rw[e]
  have hnone: ∀i,M.dirty i=none:=fun i=>by
   cases e:M.dirty i with
   |none=>rfl
   |some s=>
    exfalso
    obtain⟨a,b, -⟩:=hk.dom i s e
    have:i∈dirtyL M:=(dirtyL_mem M i).2 ⟨a,by have:=hk.geo;have:=hk.disk.few;omega,by rw[e];rfl⟩
    have:=List.length_pos_of_mem this
    rw[dirtyL_len] at this
    omega
  exact⟨rfl,h.kept (hl.later (by omega) hG) rfl rfl hnone (fun i=>by unfold viewP;rw[hnone];rfl)⟩
 have h64: ¬64<cntD M:=by rw[hc];omega
 have hcm:commitP M=endP (if (apP M).1=9∧1+9*cntD M≤M.size then(if (layP (apP M).2).1=0 then apP (layP (apP M).2).2 else layP (apP M).2) else apP M):=commitP_eq hl.dead h0 h64 rfl
 by_cases hfit:M.l.at_+1+9*cntD M≤M.size
 ·obtain⟨a,b,c⟩:=hl.commit hk hdk (by omega) (by omega) hfit (by omega)
  rw[if_neg (by rw[a];simp),endP_yes a] at hcm
  refine⟨fun hh=>by omega,fun _=> ?_⟩
  rw[hcm]
  refine⟨rfl, ?_⟩
  have hb:=b.later (by omega) hG
  obtain⟨E,hE⟩: ∃E,E=keepP (apP M).2:=⟨_,rfl⟩
  have e1:E.most=M.most:=by rw[hE,keepP_most,apP_most]
  have e2:E.room=M.room:=by rw[hE,keepP_room,apP_room]
  have e3: ∀i,E.dirty i=none:=fun i=>by rw[hE,keepP_none]
  simp only
  rw[←hE] at hb c ⊢
  exact h.kept hb e1 e2 e3 (fun i=>c i)
 ·have hap:apP M=(9,M):=by
   unfold apP
   rw[apR_no (e:=9) (by unfold apE;rw[hl.ldead,if_neg (by decide),hlen,if_neg h64,hl.lsize,if_pos (by omega)]) (by decide)]
  rw[hap] at hcm
  simp only[true_and] at hcm
  by_cases hbig:1+9*cntD M≤M.size
  ·refine⟨fun hh=>by omega,fun _=> ?_⟩
   rw[if_pos hbig] at hcm
   obtain⟨a,b,c⟩:=hl.lay hk (by omega)
   have hk2:PgOk (layP M).2 (k+8*(hotL M).length+1):=hk.lay (by
    by_cases e:(layX M).1=0
    ·exact e
    ·rw[layP_no e] at a
     dsimp only at a
     exact absurd a e) hl.ldead
   have hd2:(layP M).2.dirty=M.dirty:=(layP_m M).2.2
   have hdk2:DirtyOk (layP M).2:=fun i s hs=>by
    rw[hd2] at hs
    have:=hdk i s hs
    rw[c];exact this
   have hcc:cntD (layP M).2=cntD M:=by unfold cntD;rw[hd2]
   have hat:(layP M).2.l.at_=0∧(layP M).2.size=M.size:=by rw[c];exact⟨rfl,rfl⟩
   obtain⟨a2,b2,c2⟩:=b.commit hk2 hdk2 (by omega) (by omega) (by rw[hat.1,hat.2,hcc];omega) (by omega)
   rw[if_pos a,endP_yes a2] at hcm
   rw[hcm]
   refine⟨rfl, ?_⟩
   have m1:(layP M).2.most=M.most:=by rw[c]
   have m2:(layP M).2.room=M.room:=by rw[c]
   refine h.kept (b2.later (by omega) hG) (((keepP_most _).trans (apP_most _)).trans m1) (((keepP_room _).trans (apP_room _)).trans m2) (keepP_none _) (fun i=> ?_)
   rw[c2 i]
   exact lay_view hk i
  ·rw[if_neg hbig,endP_no (by simp)] at hcm
   refine⟨fun _=> ?_,fun hh=>by omega⟩
   rw[hcm]
   refine⟨rfl, ?_⟩
   have:({ M with dead:=M.dead||decide ((9:Int)≠9) }:PM)=M:=by
    have e:=hl.dead
    obtain⟨m,l,size,gen,most,rm,dirty,hot,dead⟩:=M
    simp only at e
    subst e
    rfl
   show Rel { M with dead:=M.dead||decide ((9:Int)≠9) } R N (G+2)
   rw[this]
   exact h.later (by omega) hG
theorem Rel.reopen (h:Rel M R N G) (r:Nat):Rel { abortP M with room:=r } { abortR R with room:=r } N G:=by
 have h1:=h.abort
 obtain⟨first,ts,hl⟩:=h1.log
 refine⟨⟨first,ts, ?_⟩,h1.most,rfl,h1.big,h1.way,h1.sure,h1.vw,h1.vs,h1.dl,h1.dirty,h1.dway, ?_⟩
 ·cases hl
  constructor<;>assumption
 ·show((List.replicate R.most false).filter id).length≤_
  rw[cnt_none];exact Nat.zero_le _
theorem RootAt.again {M2:PM} {R2:RM} {N2:Nat} {G2:Int} {i h:Nat} {seg:List (Int × Int)} {P:List Int} (t:RootAt M R i h seg P) (hR:Rel M R N G) (hR2:Rel M2 R2 N2 G2) (hw:R2.way=R.way) (hl: ∀q∈P,Live R q):RootAt M2 R2 i h seg P:=by
 rcases t with ⟨a,b,c,d⟩|⟨a,t⟩
 ·exact .inl ⟨by rw[hw];exact a,b,c,d⟩
 ·refine .inr ⟨by rw[hw];exact a, ?_⟩
  rw[hw]
  refine t.congr (fun q hq=> ?_)
  obtain⟨q1,q2, -⟩:=hl q hq
  have e1:=hR.readC (no:=q) (by omega) q2
  have e2:=hR2.readC (no:=q) (by omega) (by unfold lenR at q2 ⊢;rw[hw];exact q2)
  have e3:pgC R2 q=pgC R q:=by unfold pgC;rw[hw]
  rw[e3] at e2
  unfold ndRead
  rw[e1,e2]
theorem whole_again {M2:PM} {R2:RM} {N2:Nat} {G2:Int} {i:Nat} {seg:List (Int × Int)} {P:List Int} (h:BtI M R N G i seg P) (hi:i<8) (hs:seg.length≤2600) (hR2:Rel M2 R2 N2 G2) (hw:R2.way=R.way):wholeB M2 i=(seg,P,0):=by
 obtain⟨k,t⟩:=h.root
 have hk2:=t.deepOf (by omega)
 exact wholeB_tr hR2 hi (t.again h.rel hR2 hw h.live) h.nd (fun q hq=>by
  obtain⟨q1,q2,q3⟩:=h.live q hq
  refine⟨q1,by unfold lenR at q2 ⊢;rw[hw];exact q2, ?_⟩
  unfold pgC at q3 ⊢
  rw[hw];exact q3) (by omega) h.bd
end
end Go.Proofs.YtjgkegkinnlcoaaGreatDoor
