/- Lemmas on the way to the statement: BtWhole2, Pairs, Acts13Open, BtOut. -/
import Derived.Test.YtjgkegkinnlcoaaGreatDoorJ34
set_option linter.unusedSimpArgs false
set_option linter.unusedVariables false
namespace Go.Proofs.YtjgkegkinnlcoaaGreatDoor
open Go.RowKit
theorem walk_leaf {M:PM} {f:Nat} {no low high:Int} {op:Bool} {s s':WS} {n:ND} (hn:ndRead M no=(0,n)) (hl:n.leaf=true) (hki: ∀k∈n.keys,(decide (low≤k)&&(op||decide (k<high)))=true)
  (h:(if (if s.depth=0 then 16 - f else s.depth)≠16 - f then((19:Int),(⟨s.pages++[no],s.out,if s.depth=0 then 16 - f else s.depth⟩:WS)) else(0,⟨s.pages++[no],s.out++n.keys.zip n.vals,if s.depth=0 then 16 - f else s.depth⟩))=(0,s')):
  TrAt M 0 no (n.keys.zip n.vals) [no]∧s'.pages=s.pages++[no]∧s'.out=s.out++n.keys.zip n.vals∧s'.depth=16 - f+0∧(s.depth=0∨s.depth=16 - f+0)∧ ∀p∈n.keys.zip n.vals,low≤p.1∧(op=true∨p.1<high):=by
 by_cases hd:s.depth=0∨s.depth=16 - f
 ·have e:(if s.depth=0 then 16 - f else s.depth)=16 - f:=by
   by_cases h0:s.depth=0
   ·rw[if_pos h0]
   ·rw[if_neg h0];exact hd.elim (fun e=>absurd e h0) id
  rw[e,if_neg (by simp)] at h
  injection h with _ h
  subst h
  refine⟨⟨n,hn,hl,rfl,rfl⟩,rfl,rfl,rfl,by simpa using hd,fun p hp=> ?_⟩
  have:=hki _ (zip_mem hp)
  simpa using this
 ·rw[if_neg (fun e=>hd (.inl e)),if_pos (fun e=>hd (.inr e))] at h
  cases h
theorem walk_tr {M:PM}: ∀ {f:Nat} {no low high:Int} {op:Bool} {s s':WS},f≤15→wlkL M (f+1) no low high op s=(0,s')→
  ∃h seg pgs,h≤f∧TrAt M h no seg pgs∧s'.pages=s.pages++pgs∧s'.out=s.out++seg∧s'.depth=16 - f+h∧(s.depth=0∨s.depth=16 - f+h)∧(∀p∈seg,low≤p.1∧(op=true∨p.1<high))∧(f<15→thinN (ndRead M no).2=false):=by
 intro f
 induction f with
 |zero=>
  intro no low high op s s' hf h
  unfold wlkL at h
  simp only at h
  split at h
  ·cases h
  ·split at h
   ·rename_i he;injection h with h1 h2;exact absurd h1 he
   ·rename_i he
    obtain⟨n,hn⟩: ∃n,ndRead M no=(0,n):=⟨(ndRead M no).2,Prod.ext (by simpa using he) rfl⟩
    rw[hn] at h
    simp only at h
    have hok:=ndRead_ok hn
    split at h
    ·cases h
    ·rename_i hki
     have hki:keysIn low high op n.keys=true:=by simpa using hki
     unfold keysIn at hki
     rw[List.all_eq_true] at hki
     split at h
     ·cases h
     ·rename_i hth
      have hthin:0<15→thinN (ndRead M no).2=false:=fun hlt=>by
       rw[hn]
       show thinN n=false
       cases ht:thinN n
       ·rfl
       ·exact absurd ⟨hlt,ht⟩ hth
      split at h
      ·rename_i hl
       obtain⟨b1,b2,b3,b4,b5,b6⟩:=walk_leaf (f:=0) hn hl hki h
       exact⟨0,_,_,Nat.le_refl _,b1,b2,b3,b4,b5,b6,hthin⟩
      ·rename_i hl
       have hl:n.leaf=false:=by simpa using hl
       have hkl:=(hok.forks hl).2.1
       have h0: ∃x L,spanN n low high op=x::L:=by
        cases hs:spanN n low high op with
        |nil=>
         have:=congrArg List.length hs
         unfold spanN at this
         simp at this
         rw[this] at hkl
         simp at hkl
        |cons x L=>exact⟨x,L,rfl⟩
       obtain⟨x,L,hx⟩:=h0
       have hw0: ∀a b c d st,wlkL M 0 a b c d st=(19,st):=fun _ _ _ _ _=>rfl
       rw[hx,List.foldl_cons,if_neg (by simp),hw0,fold_bad L 19 _ (by decide)] at h
       injection h with h _
       cases h
 |succ f ih=>
  intro no low high op s s' hf h
  unfold wlkL at h
  simp only at h
  split at h
  ·cases h
  ·split at h
   ·rename_i he;injection h with h1 h2;exact absurd h1 he
   ·rename_i he
    obtain⟨n,hn⟩: ∃n,ndRead M no=(0,n):=⟨(ndRead M no).2,Prod.ext (by simpa using he) rfl⟩
    rw[hn] at h
    simp only at h
    have hok:=ndRead_ok hn
    split at h
    ·cases h
    ·rename_i hki
     have hki:keysIn low high op n.keys=true:=by simpa using hki
     unfold keysIn at hki
     rw[List.all_eq_true] at hki
     split at h
     ·cases h
     ·rename_i hth
      have hthin:f+1<15→thinN (ndRead M no).2=false:=fun hlt=>by
       rw[hn]
       show thinN n=false
       cases ht:thinN n
       ·rfl
       ·exact absurd ⟨hlt,ht⟩ hth
      split at h
      ·rename_i hl
       obtain⟨b1,b2,b3,b4,b5,b6⟩:=walk_leaf (f:=f+1) hn hl hki h
       exact⟨0,_,_,Nat.zero_le _,b1,b2,b3,b4,b5,b6,hthin⟩
      ·rename_i hl
       have hl:n.leaf=false:=by simpa using hl
       have hkl:=(hok.forks hl).2.1
       have loop: ∀(L:List SpK) (st st':WS),L≠ []→L.foldl (fun a q=>if a.1≠0 then a else wlkL M (f+1) q.1 q.2.1 q.2.2.1 q.2.2.2 a.2) (0,st)=(0,st')→
         ∃h zs,h≤f∧AllSp (fun x z=>x.1=z.1∧TrAt M h z.1 z.2.1 z.2.2∧thinN (ndRead M z.1).2=false∧ ∀p∈z.2.1,x.2.1≤p.1∧(x.2.2.2=true∨p.1<x.2.2.1)) L zs∧st'.pages=st.pages++(zs.map (·.2.2)).flatten∧st'.out=st.out++(zs.map (·.2.1)).flatten∧st'.depth=16 - f+h∧(st.depth=0∨st.depth=16 - f+h):=by
        intro L
        induction L with
        |nil=>intro _ _ hne;exact absurd rfl hne
        |cons x L ihL=>
         intro st st' _ hfold
         rw[List.foldl_cons,if_neg (by simp)] at hfold
         generalize hw:wlkL M (f+1) x.1 x.2.1 x.2.2.1 x.2.2.2 st=r at hfold
         obtain⟨e,st1⟩:=r
         by_cases he0:e=0
         ·subst he0
          obtain⟨h1,seg,pgs,a1,a2,a3,a4,a5,a6,a7,a8⟩:=ih (by omega) hw
          cases L with
          |nil=>
           rw[List.foldl_nil] at hfold
           injection hfold with _ hfold
           subst hfold
           exact⟨h1,[(x.1,seg,pgs)],a1,⟨⟨rfl,a2,a8 (by omega),a7⟩,trivial⟩,by simpa using a3,by simpa using a4,a5,a6⟩
          |cons y L=>
           obtain⟨h2,zs,b1,b2,b3,b4,b5,b6⟩:=ihL st1 st' (by simp) hfold
           have:h1=h2:=by rcases b6 with b6|b6<;>omega
           subst this
           exact⟨h1,(x.1,seg,pgs)::zs,a1,⟨⟨rfl,a2,a8 (by omega),a7⟩,b2⟩,by rw[b3,a3];simp,by rw[b4,a4];simp,b5,a6⟩
         ·rw[fold_bad L e st1 he0] at hfold
          injection hfold with hfold _
          exact absurd hfold he0
       have hne:spanN n low high op≠ []:=fun e=>by
        have:=congrArg List.length e
        unfold spanN at this
        simp at this
        rw[this] at hkl
        simp at hkl
       obtain⟨h1,zs,a1,a2,a3,a4,a5,a6⟩:=loop _ _ _ hne h
       obtain⟨b1,b2⟩:=a2.get
       have hspl:(spanN n low high op).length=n.kids.length:=by unfold spanN;simp
       have hsp: ∀i,i<n.kids.length→(spanN n low high op)[i]? =some (n.kids.getD i 0,(if 0<i then n.keys.getD (i - 1) 0 else low),(if i<n.keys.length then n.keys.getD i 0 else high),(if i<n.keys.length then false else op)):=fun i hi=>by
        unfold spanN
        rw[List.getElem?_map,List.getElem?_range hi];rfl
       have hzi: ∀(i:Nat) z,zs[i]? =some z→i<n.kids.length:=fun i z hz=>by
        have:=(List.getElem?_eq_some_iff.1 hz).1
        omega
       refine⟨h1+1,(zs.map (·.2.1)).flatten,no::(zs.map (·.2.2)).flatten,by omega,⟨n,zs,hn,hl, ?_,fun z hz=> ?_,rfl,rfl, ?_⟩,by rw[a3];simp,a4,by rw[a5];omega, ?_,fun p hp=> ?_,hthin⟩
       ·apply List.ext_getElem?
        intro i
        rw[List.getElem?_map]
        cases hz:zs[i]? with
        |none=>
         rw[List.getElem?_eq_none]
         ·rfl
         ·rw[←hspl,b1];exact List.getElem?_eq_none_iff.1 hz
        |some z=>
         have hi:=hzi i z hz
         have:=(b2 i _ z (hsp i hi) hz).1
         simp only at this
         show n.kids[i]? =some z.1
         rw[←this,List.getD_eq_getElem?_getD,List.getElem?_eq_getElem hi];rfl
       ·obtain⟨i,hi⟩:=List.mem_iff_getElem?.1 hz
        obtain⟨-,c1,c2, -⟩:=b2 i _ z (hsp i (hzi i z hi)) hi
        exact⟨c1,c2⟩
       ·refine Segs.of_idx (by rw[List.length_map];omega) (fun i sg hs p hp=> ?_)
        rw[List.getElem?_map] at hs
        cases hz:zs[i]? with
        |none=>rw[hz] at hs;cases hs
        |some z=>
         rw[hz] at hs
         injection hs with hs
         subst hs
         obtain⟨-, -, -,c3⟩:=b2 i _ z (hsp i (hzi i z hz)) hz
         obtain⟨c4,c5⟩:=c3 p hp
         simp only at c4 c5
         refine⟨fun _ l e=>(by cases e),fun hi=>(by rw[if_pos hi] at c4;exact c4),fun hi=> ?_,fun _ u e=>(by cases e)⟩
         rw[if_pos hi,if_pos hi] at c5
         exact c5.elim (fun e=>by cases e) id
       ·rcases a6 with a6|a6
        ·exact .inl a6
        ·right;simp only at a6;omega
       ·obtain⟨t,ht,hp⟩:=List.mem_flatten.1 hp
        obtain⟨z,hz,rfl⟩:=List.mem_map.1 ht
        obtain⟨i,hi⟩:=List.mem_iff_getElem?.1 hz
        obtain⟨-, -, -,c3⟩:=b2 i _ z (hsp i (hzi i z hi)) hi
        obtain⟨c4,c5⟩:=c3 p hp
        simp only at c4 c5
        have hil:=hzi i z hi
        refine⟨?_, ?_⟩
        ·by_cases h0:0<i
         ·rw[if_pos h0] at c4
          have hm:n.keys.getD (i - 1) 0∈n.keys:=by
           rw[List.getD_eq_getElem?_getD,List.getElem?_eq_getElem (by omega)];exact List.getElem_mem _
          have:=hki _ hm
          rw[Bool.and_eq_true,decide_eq_true_iff] at this
          omega
         ·rw[if_neg h0] at c4;exact c4
        ·by_cases h0:i<n.keys.length
         ·rw[if_pos h0,if_pos h0] at c5
          have hm:n.keys.getD i 0∈n.keys:=by
           rw[List.getD_eq_getElem?_getD,List.getElem?_eq_getElem h0];exact List.getElem_mem _
          have:=hki _ hm
          rw[Bool.and_eq_true,decide_eq_true_iff,Bool.or_eq_true,decide_eq_true_iff] at this
          rcases c5 with c5|c5
          ·cases c5
          ·rcases this.2 with h|h
           ·exact .inl h
           ·right;omega
         ·rw[if_neg h0,if_neg h0] at c5;exact c5
section
variable {M:PM} {R:RM} {N:Nat} {G:Int}
theorem wholeB_any {i key:Int} (h:(wholeB M i).2.2=0):RisP (wholeB M i).1∧getB M i key=findP key (wholeB M i).1:=by
 unfold wholeB getB at*
 generalize topB M i=t at*
 obtain⟨no,e⟩:=t
 simp only at*
 by_cases h0:e≠0∨no=0
 ·rw[if_pos h0] at h
  simp only at h
  rw[if_pos h0]
  subst h
  rw[if_neg (by simp)]
  have hno:no=0:=h0.elim (fun h=>absurd rfl h) id
  subst hno
  exact⟨List.Pairwise.nil,rfl⟩
 ·rw[if_neg h0] at h ⊢
  have hno:no≠0:=fun e'=>h0 (.inr e')
  have he:e=0:=by
   by_cases h1:e=0
   ·exact h1
   ·exact absurd (.inl h1) h0
  subst he
  have key0: ∀r,wlkL M 16 no 0 0 true ⟨[],[],0⟩=r→r.1=0→RisP r.2.out∧bgetL M key 16 no=findP key r.2.out:=fun r hr hr0=>by
   obtain⟨hh,seg,pgs,a1,a2,a3,a4, -⟩:=walk_tr (f:=15) (s':=r.2) (Nat.le_refl _) (by rw[hr];exact Prod.ext hr0 rfl)
   have a4:r.2.out=seg:=by rw[a4];rfl
   rw[a4]
   exact⟨a2.ris,a2.get (by omega) hno⟩
  generalize wlkL M 16 no 0 0 true ⟨[],[],0⟩=r at*
  obtain⟨e,st⟩:=r
  simp only at h ⊢
  by_cases he:e=0
  ·subst he
   have:=key0 _ rfl rfl
   simpa using this
  ·rw[if_pos he] at h
   exact absurd h he
end
end Go.Proofs.YtjgkegkinnlcoaaGreatDoor
namespace Go.Proofs.YtjgkegkinnlcoaaGreatDoor
open Go.RowKit Go.Maps Go.Joins
theorem findP_cons (key:Int) (p:Int × Int) (l:List (Int × Int)):findP key (p::l)=if p.1=key then(p.2,0) else findP key l:=by
 unfold findP
 rw[List.find?_cons]
 by_cases h:p.1=key
 ·rw[if_pos h];simp[h]
 ·rw[if_neg h,show(p.1==key)=false by simpa using h]
theorem findP_nil (key:Int):findP key []=(0,6):=rfl
theorem pdrop_at {l:List (Int × Int)} {j:Nat} {p:Int × Int} (h:l[j]? =some p):l.drop j=p::l.drop (j+1):=by
 obtain⟨hj,rfl⟩:=List.getElem?_eq_some_iff.1 h
 exact List.drop_eq_getElem_cons hj
set_option maxRecDepth 100000 in
set_option maxHeartbeats 1000000 in
theorem rget_any {w:World} {v:Value} {l:List (Int × Int)} (h:IsP w v l) (hl:l.length≤100000) (key:Int):
  Calls Tryz.prog 19 #[v, .int .u64 key] w fun e w'=>e= .returned (.tuple #[.int .u64 (findP key l).1, .int .i64 (findP key l).2])∧w'=w:=by
 obtain⟨a0,c0,rfl⟩:=h.form
 have HI:=Lib.hid h
 obtain⟨R,hR⟩: ∃R,R=findP key l:=⟨_,rfl⟩
 rw[←hR]
 have HR:=Lib.hid hR
 clear h hR
 go_enter Tryz.func19,Tryz.ntmps19
 go_wp2_with fail
 go_loopw [6] (fun i wr=>(∃j:Nat,j≤l.length∧i= .int .i64 j∧R=findP key (l.drop j))∧wr=w) (fun i _=>l.length - (intOf i).toNat)
 case atStart=>exact⟨⟨0,Nat.zero_le _,rfl,by rw[HR.out];rfl⟩,rfl⟩
 case round=>
  obtain⟨⟨j,hj,rfl,hq⟩,hww⟩:=hrel
  have hww:=hww.symm
  subst hww
  by_cases hjl:j<l.length
  ·obtain⟨g,o,c,hv,hg,hcs⟩:=HI.out.at_ (by omega)
   injection hv with hva hvn hvc
   subst hva
   subst hvc
   have hx:l[j]? =some l[j]:=List.getElem?_eq_getElem hjl
   obtain⟨hc1,hc2⟩:=hcs j _ hx
   rw[pdrop_at hx,findP_cons] at hq
   obtain⟨p,hp⟩: ∃p,p=l[j]:=⟨_,rfl⟩
   rw[←hp] at hc1 hc2 hq
   have y1:(j:Int)<(l.length:Int):=by omega
   have HQ:=Lib.hid hq
   clear hcs hx hp hq hvn
   by_cases hk:p.1=key
   ·have hq:R=(p.2,0):=by rw[HQ.out,if_pos hk]
    have d1:(p.1==key)=true:=by simpa using hk
    subst hq
    subst hk
    go_wp2_with fail
    go_ret2
    exact⟨rfl,rfl⟩
   ·have d1:(p.1==key)=false:=by simpa using hk
    have hq:R=findP key (l.drop (j+1)):=by rw[HQ.out,if_neg hk]
    have HQ2:=Lib.hid hq
    clear hq hk HQ
    go_wp2_with fail
    go_roundw
    case rel=>exact⟨⟨j+1,by omega,by go_num,HQ2.out⟩,trivial⟩
    case measure=>simp[intOf];omega
  ·have hje:j=l.length:=by omega
   subst hje
   rw[List.drop_length,findP_nil] at hq
   subst hq
   go_wp2_with fail
   go_ret2
   exact⟨rfl,rfl⟩
end Go.Proofs.YtjgkegkinnlcoaaGreatDoor
namespace Go.Proofs.YtjgkegkinnlcoaaGreatDoor
open Go.ChangeShapes Go.WideShapes Go.ChangeAt Go.RowKit Go.Deep Go.Joins
section
variable {H:Type} {enc:TypeId × Value→H} {W:World}
structure IntArg (W:World) (k:IntKind) (U:Int) (a:Option Addr) (n:Nat) (l:List Int):Prop where
 len:n=l.length
 max:n≤9223372036854775807
 bd: ∀x∈l,0≤x∧x≤U
 at_:n=0∨ ∃lb off,a=some ⟨lb,off,none⟩∧lb<W.heap.size∧ ∀(i:Nat) x,l[i]? =some x→W.cell? ⟨lb,off+i,none⟩=some (.int k x)
set_option maxRecDepth 100000 in
theorem open_nums {t e:TypeId} {k:IntKind} {U:Int} (ht:Tryz.prog.underlying t=some (.slice e)) (he:Tryz.prog.underlying e=some (.int k)) (hc1:Tryz.prog.cellsOf e=1) (hU: ∀x,(Lit.int k x).wf=true→0≤x∧x≤U) {v:Value} {d:DataW H} {p:List MemPlace} (hv:Value.okWide Tryz.prog W .any 0 t v) (h:DataW.Trod enc Tryz.prog W 0 (fun _=>true) true t v d p):
  ∃a n c l,v= .slice a n c∧IntArg W k U a n l:=by
 obtain⟨a0,len0,cap0,rfl⟩:=okWide_slice ht hv
 obtain⟨fuel,hf⟩:=h
 rcases open_slice1 ht hc1 hf with ⟨e,_⟩|⟨a,len,cap,m,n',V,D,Pl,e,_,hl,hm,hmm,_,hc⟩
 ·simp[Value.cells] at e
  obtain⟨rfl,rfl,rfl⟩:=e
  exact⟨_,_,_,[],rfl,rfl,by omega,by simp, .inl rfl⟩
 ·simp[Value.cells] at e
  obtain⟨rfl,rfl,rfl⟩:=e
  simp only[if_true] at hmm
  subst hmm
  have hm':m≤9223372036854775807:=hm
  by_cases h0:len0=0
  ·subst h0;exact⟨_,_,_,[],rfl,rfl,by omega,by simp, .inl rfl⟩
  ·obtain⟨lb,off,sp⟩:=a
   have hs:sp=none:=by simpa[Addr.add] using World.cell?_spot (hc 0 (by omega)).1
   subst hs
   have hlb:lb<W.heap.size:=by
    have:=(hc 0 (by omega)).1
    rw[addr_add] at this
    exact cell_lt this
   obtain⟨l,hl',hP⟩:=list_of len0 (fun i x=>W.cell? ⟨lb,off+i,none⟩=some (.int k x)∧0≤x∧x≤U) (fun i hlt=>by
    obtain⟨x,hx,_,hw⟩:=DataW.trod_int he (hc i (by omega)).2
    have:=(hc i (by omega)).1
    rw[addr_add] at this
    simp only[List.cons.injEq,and_true] at hx
    exact⟨x,by rw[this,hx],hU x hw⟩)
   exact⟨_,_,_,l,rfl,hl'.symm,by omega,fun x hx=>by
    obtain⟨i,hi⟩:=List.mem_iff_getElem?.1 hx
    exact(hP i x hi).2, .inr ⟨lb,off,rfl,hlb,fun i x hx=>(hP i x hx).1⟩⟩
set_option maxRecDepth 100000 in
theorem open_u8s {v:Value} {d:DataW H} {p:List MemPlace} (hv:Value.okWide Tryz.prog W .any 0 48 v) (h:DataW.Trod enc Tryz.prog W 0 (fun _=>true) true 48 v d p):
  ∃a n c l,v= .slice a n c∧IntArg W .u8 255 a n l:=open_nums Tryz.underlying48 Tryz.underlying5 (by kernel_rfl) (fun x h=>bd_u8o h) hv h
structure StrArg (W:World) (a:Option Addr) (n:Nat) (l:List ByteArray):Prop where
 len:n=l.length
 max:n≤9223372036854775807
 sizes: ∀s∈l,s.size≤9223372036854775807
 at_:n=0∨ ∃lb off,a=some ⟨lb,off,none⟩∧lb<W.heap.size∧ ∀(i:Nat) x,l[i]? =some x→W.cell? ⟨lb,off+i,none⟩=some (.string x)
set_option maxRecDepth 100000 in
theorem open_strs {v:Value} {d:DataW H} {p:List MemPlace} (hv:Value.okWide Tryz.prog W .any 0 47 v) (h:DataW.Trod enc Tryz.prog W 0 (fun _=>true) true 47 v d p):
  ∃a n c l,v= .slice a n c∧StrArg W a n l:=by
 obtain⟨a0,len0,cap0,rfl⟩:=okWide_slice Tryz.underlying47 hv
 obtain⟨fuel,hf⟩:=h
 rcases open_slice1 Tryz.underlying47 (by kernel_rfl) hf with ⟨e,_⟩|⟨a,len,cap,m,n',V,D,Pl,e,_,hl,hm,hmm,_,hc⟩
 ·simp[Value.cells] at e
  obtain⟨rfl,rfl,rfl⟩:=e
  exact⟨_,_,_,[],rfl,rfl,by omega,by simp, .inl rfl⟩
 ·simp[Value.cells] at e
  obtain⟨rfl,rfl,rfl⟩:=e
  simp only[if_true] at hmm
  subst hmm
  have hm':m≤9223372036854775807:=hm
  by_cases h0:len0=0
  ·subst h0;exact⟨_,_,_,[],rfl,rfl,by omega,by simp, .inl rfl⟩
  ·obtain⟨lb,off,sp⟩:=a
   have hs:sp=none:=by simpa[Addr.add] using World.cell?_spot (hc 0 (by omega)).1
   subst hs
   have hlb:lb<W.heap.size:=by
    have:=(hc 0 (by omega)).1
    rw[addr_add] at this
    exact cell_lt this
   obtain⟨l,hl',hP⟩:=list_of len0 (fun i x=>W.cell? ⟨lb,off+i,none⟩=some (.string x)∧x.size≤9223372036854775807) (fun i hlt=>by
    obtain⟨x,hx,_,hw⟩:=DataW.trod_string Tryz.underlying9 (hc i (by omega)).2
    have:=(hc i (by omega)).1
    rw[addr_add] at this
    simp only[List.cons.injEq,and_true] at hx
    exact⟨x,by rw[this,hx],hw⟩)
   exact⟨_,_,_,l,rfl,hl'.symm,by omega,fun x hx=>by
    obtain⟨i,hi⟩:=List.mem_iff_getElem?.1 hx
    exact(hP i x hi).2, .inr ⟨lb,off,rfl,hlb,fun i x hx=>(hP i x hx).1⟩⟩
end
end Go.Proofs.YtjgkegkinnlcoaaGreatDoor
namespace Go.Proofs.YtjgkegkinnlcoaaGreatDoor
open Go.RowKit
section
variable {M:PM}
theorem fold_out {f:Nat} (ih: ∀(no low high:Int) (op:Bool) (s:WS),s.out.length≤40*s.pages.length→(wlkL M f no low high op s).2.out.length≤40*(wlkL M f no low high op s).2.pages.length):
  ∀(L:List SpK) (a:Int × WS),a.2.out.length≤40*a.2.pages.length→(L.foldl (fun a q=>if a.1≠0 then a else wlkL M f q.1 q.2.1 q.2.2.1 q.2.2.2 a.2) a).2.out.length≤40*(L.foldl (fun a q=>if a.1≠0 then a else wlkL M f q.1 q.2.1 q.2.2.1 q.2.2.2 a.2) a).2.pages.length
 | [],a,h=>h
 |q::L,a,h=>by
  rw[List.foldl_cons]
  by_cases ha:a.1=0
  ·rw[if_neg (by simpa using ha)]
   exact fold_out ih L _ (ih q.1 q.2.1 q.2.2.1 q.2.2.2 a.2 h)
  ·rw[if_pos ha]
   exact fold_out ih L _ h
theorem wlk_out: ∀(f:Nat) (no low high:Int) (op:Bool) (s:WS),s.out.length≤40*s.pages.length→(wlkL M f no low high op s).2.out.length≤40*(wlkL M f no low high op s).2.pages.length
 |0,no,low,high,op,s,h=>h
 |f+1,no,low,high,op,s,h=>by
  unfold wlkL
  simp only
  have hl:s.out.length≤40*(s.pages++[no]).length:=by simp;omega
  by_cases hc:s.pages.contains no=true
  ·rw[if_pos hc];exact h
  rw[if_neg hc]
  by_cases he:(ndRead M no).1=0
  rotate_left
  ·rw[if_pos he];exact hl
  rw[if_neg (by simpa using he)]
  split
  ·exact hl
  split
  ·exact hl
  by_cases hlf:(ndRead M no).2.leaf=true
  ·rw[if_pos hlf]
   have hok:=ndRead_ok (M:=M) (no:=no) (n:=(ndRead M no).2) (by rw[←he])
   have h30:=(hok.leafs hlf).2.2.1
   have hz:(s.out++(ndRead M no).2.keys.zip (ndRead M no).2.vals).length≤40*(s.pages++[no]).length:=by
    rw[List.length_append,List.length_zip,List.length_append,List.length_singleton]
    omega
   by_cases hz0:s.depth=0
   ·rw[if_pos hz0]
    split
    ·exact hl
    ·exact hz
   ·rw[if_neg hz0]
    split
    ·exact hl
    ·exact hz
  ·rw[if_neg hlf]
   exact fold_out (wlk_out f) _ _ hl
theorem whole_few (hs:Snd M) (i:Int):(wholeB M i).1.length≤40*(M.most+1):=by
 unfold wholeB
 simp only
 split
 ·simp
 ·split
  ·simp
  ·have h1:=wlk_out (M:=M) 16 (topB M i).1 0 0 true ⟨[],[],0⟩ (by simp)
   have h2:=(wlk_ok hs 16 (topB M i).1 0 0 true ⟨[],[],0⟩ wok_nil).2
   simp only
   omega
end
end Go.Proofs.YtjgkegkinnlcoaaGreatDoor
