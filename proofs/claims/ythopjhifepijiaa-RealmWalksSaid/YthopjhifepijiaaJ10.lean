/- Lemmas on the way to the statement. -/
import Derived.Test.YthopjhifepijiaaJ9
set_option linter.unusedSimpArgs false
set_option linter.unusedVariables false
namespace Go.Proofs.Ythopjhifepijiaa
open Go.RowKit Go.Joins
open Go.Maps (Keyed)
theorem ownsMap_size {H:Type} {P:Program} {w:World} {k:TypeId} {R:Value→Option (DataW H × List MemPlace)} {b n m:Nat} {D:DataW H} (h:w.ownsMap P k R b n D) (hm:Maps.size D≤m):Maps.size D≤n∧w.ownsMap P k R b m D:=by
 obtain⟨es,clock,hb,F,hs,rfl⟩:=h
 have e:Maps.size (DataW.map ((es.toList.map (WideElems.rg P k R)).foldr DataW.insert []))=es.size:=by
  rw[Maps.size_eq,(WideShapes.sorted_perm _).length_eq,List.length_map,Array.length_toList]
 rw[e] at hm ⊢
 exact⟨hs,es,clock,hb,F,hm,rfl⟩
theorem wpList_update_O {α β:Type} {P:Program} {k e t:TypeId} [DecidableEq α] (w:World) {ops:Array Oper} {rest:List Oper} {o:Oper} {a:Act} {Q:Exit→Act→World→Prop}
  (hg:o.guard=none) (m x v:Operand) (t:TypeId) (hop:o.op=Op.mapUpdate t m x v) (k e:TypeId) (K:Keyed P k) (ht:P.underlying t=some (.map k e)) (b n:Nat) (ek:α→Value) (ev:β→Value) (g:α→Option β)
  (hown:MapT w P k b n ek ev g) (hm:a.eval m= .map (some b)) (hn:n<maxLen) (y:α) (l:Lit) (hx:a.eval x=ek y) (hkey:keyOf P k (ek y)=some l) (hinj: ∀z,ek z=ek y→z=y) (u:β) (hv:a.eval v=ev u) (hold:(g y).isSome=true)
  (hK: ∀w',MapT w' P k b n ek ev (updT g y u)→w.grownBy w' (some b)→wpList P ops Q rest (a.put o.dst undef) w'):
  wpList P ops Q (o::rest) a w:=by
 obtain⟨D,hD,hgx⟩:=hown
 refine wpList_mapUpdate_own w hg m x v t hop k e K ht heldR b n D hm hD hn (ek y) (ev u) l hx hv hkey (.held (ev u)) [] rfl fun w' h1 h2=>hK w' ⟨_, ?_,put_T hD.isMap K hkey hinj u hgx⟩ h2
 have hs:Maps.size (D.put l (.held (ev u)))≤n:=by
  rw[Maps.size_put (hD.tidy K),(hgx y l hkey).1,hold,if_pos rfl]
  exact(ownsMap_size hD (Nat.le_refl _)).1
 exact(ownsMap_size h1 hs).2
def fdV (bu bf:Nat):Value:= .func (.func 92) #[] #[.pointer (some ⟨bu,0,none⟩), .pointer (some ⟨bf,0,none⟩)]
structure FdIn (w:World) (lo bu bf mu n:Nat) (up:Int→Option Int):Prop where
 cu:w.cell? ⟨bu,0,none⟩=some (.map (some mu))
 cf:w.cell? ⟨bf,0,none⟩=some (fdV bu bf)
 mp:MapT w Try.prog 3 mu n ekI ekI up
 lu:lo≤bu∧bu<w.heap.size
 lf:lo≤bf∧bf<w.heap.size
 lm:lo≤mu
 nu:bu≠mu
 nf:bf≠mu
 fit: ∀x y,up x=some y→fitI y
theorem FdIn.touch {w w':World} {F:List Nat} {lo bu bf mu n:Nat} {up:Int→Option Int} (h:FdIn w lo bu bf mu n up) (t:Touch F w w') (h1:bu∉F) (h2:bf∉F) (h3:mu∉F):FdIn w' lo bu bf mu n up:=
 ⟨(t.cell (p:=⟨bu,0,none⟩) h.lu.2 h1).trans h.cu,(t.cell (p:=⟨bf,0,none⟩) h.lf.2 h2).trans h.cf,h.mp.touch t h3,⟨h.lu.1,Nat.lt_of_lt_of_le h.lu.2 t.size⟩,⟨h.lf.1,Nat.lt_of_lt_of_le h.lf.2 t.size⟩,h.lm,h.nu,h.nf,h.fit⟩
theorem FdIn.below {w w':World} {lo bu bf mu n:Nat} {up:Int→Option Int} (h:FdIn w lo bu bf mu n up) (t:Below w.heap.size w w'):FdIn w' lo bu bf mu n up:=h.touch (F:=[]) (Touch.of_below t) (by simp) (by simp) (by simp)
theorem FdIn.put {w w':World} {lo bu bf mu n n':Nat} {up up':Int→Option Int} (h:FdIn w lo bu bf mu n up) (t:Touch [mu] w w') (m:MapT w' Try.prog 3 mu n' ekI ekI up') (hf: ∀x y,up' x=some y→fitI y):FdIn w' lo bu bf mu n' up':=
 ⟨(t.cell (p:=⟨bu,0,none⟩) h.lu.2 (by simpa using h.nu)).trans h.cu,(t.cell (p:=⟨bf,0,none⟩) h.lf.2 (by simpa using h.nf)).trans h.cf,m,⟨h.lu.1,Nat.lt_of_lt_of_le h.lu.2 t.size⟩,⟨h.lf.1,Nat.lt_of_lt_of_le h.lf.2 t.size⟩,h.lm,h.nu,h.nf,hf⟩
theorem rt_fit {up:Int→Option Int} (hf: ∀x y,up x=some y→fitI y) {a r:Int} (h:Rt up a r) (ha:fitI a):fitI r:=by
 rcases h.mem with e|⟨b,hb⟩
 ·rw[e];exact ha
 ·exact hf b r hb
theorem upd_fit {up:Int→Option Int} {a r:Int} (hr:fitI r) (hf: ∀x y,up x=some y→fitI y): ∀x y,updT up a r x=some y→fitI y:=fun x y h=>by
 unfold updT at h
 split at h
 ·cases h;exact hr
 ·exact hf x y h
def FdPost (w:World) (lo bu bf mu n:Nat) (rk:Int→Nat) (up:Int→Option Int) (r:Int) (e:Ending) (w':World):Prop:=
 e= .returned (.int .i64 r)∧ ∃up',Fo rk up'∧SameR up up'∧(∀x,(up' x).isSome=(up x).isSome)∧FdIn w' lo bu bf mu n up'∧Touch [mu] w w'
set_option maxRecDepth 100000 in
set_option maxHeartbeats 4000000 in
theorem find_any {lo bu bf mu n:Nat} (hn:n≤100000) {rk:Int→Nat}: ∀(N:Nat) (w:World) (up:Int→Option Int) (a r:Int),FdIn w lo bu bf mu n up→Fo rk up→Rt up a r→rk a<N→fitI a→
  Calls Try.prog 92 #[.int .i64 a, .pointer (some ⟨bu,0,none⟩), .pointer (some ⟨bf,0,none⟩)] w (FdPost w lo bu bf mu n rk up r):=by
 intro N
 induction N with
 |zero=>intro w up a r _ _ _ h;exact absurd h (Nat.not_lt_zero _)
 |succ N ih=>
  intro w up a r hI fo hr hN ha
  have lk:=hI.mp.look_ok (t:=138) Try.keyInt Try.underlying138 (zeroInt w) (x:=a) (key_i ha)
  have c0:=hI.cu
  have c1:=hI.cf
  unfold fdV at c1
  have hsame:SameR up up:=fun _ _=>Iff.rfl
  cases hr with
  |top h=>
   have HP:=Lib.hid (show FdPost w lo bu bf mu n rk up a (.returned (.int .i64 a)) w from⟨rfl,up,fo,hsame,fun _=>rfl,hI,Touch.refl _ _⟩)
   rcases h with h|h
   ·rw[h] at lk
    simp only[Option.map_none,Option.getD_none,Option.isSome_none,ekI] at lk
    clear hI fo hsame ih h
    go_enter Try.func92,Try.ntmps92
    go_wp2_with fail
    go_ret
    exact HP.out
   ·rw[h] at lk
    simp only[Option.map_some,Option.getD_some,Option.isSome_some,ekI] at lk
    clear hI fo hsame ih h
    go_enter Try.func92,Try.ntmps92
    go_wp2_with fail
    go_ret
    exact HP.out
  |go h hne hr2=>
   rename_i b
   rw[h] at lk
   simp only[Option.map_some,Option.getD_some,Option.isSome_some,ekI] at lk
   have hbr:rk b<rk a:=fo a b h hne
   have hfb:=hI.fit a b h
   have HIH:=fun(W:World) (t:FdIn W lo bu bf mu n up)=>Lib.hid (ih W up b r t fo hr2 (by omega) hfb)
   have HX:=Lib.hid hI
   have HRT:=Lib.hid (show Rt up a r from .go h hne hr2)
   have HRK:=Lib.hid (show rk r<rk a from Nat.lt_of_le_of_lt (hr2.le fo) hbr)
   have HFR:=Lib.hid (show fitI r from rt_fit hI.fit hr2 hfb)
   have HAS:=Lib.hid (show(up a).isSome=true from by rw[h];rfl)
   have HKA:=Lib.hid (key_i ha)
   have hne2:(b != a)=true:=by simpa using hne
   have HNE:=Lib.hid hne
   clear hI fo hsame ih h hr2 hbr hfb ha
   go_enter Try.func92,Try.ntmps92
   go_wp2_with fail
   have HY:=fun(w':World) (t:Touch [mu] w w')=>Lib.hid (show w'.cell? ⟨bu,0,none⟩=some (.map (some mu))∧w'.cell? ⟨bf,0,none⟩=some (.func (.func 92) #[] #[.pointer (some ⟨bu,0,none⟩), .pointer (some ⟨bf,0,none⟩)])∧True∧True from
    ⟨(t.cell (p:=⟨bu,0,none⟩) HX.out.lu.2 (by simpa using HX.out.nu)).trans c0,(t.cell (p:=⟨bf,0,none⟩) HX.out.lf.2 (by simpa using HX.out.nf)).trans c1,trivial,trivial⟩)
   have HS0:=Lib.hid (Touch.refl [mu] w).drew
   have HXD:=Lib.hid (HX.out.below (Below.refl w.heap.size w).drew)
   clear c0 c1 lk
   refine wp_region_noPanic ?_
   refine wp_region_par3 5 5 (by kernel_rfl) (by kernel_rfl) (by simp) (by omega) (by kernel_rfl) (by kernel_rfl) (fun w':World=>Touch [mu] w w') ?_
   refine par3_read (v:= ?_) 0 (by simp only[zga,zgb,zgc];rfl) (by kernel_rfl) (by rfl) HS0.out ?_ (fun _ _ _ h=>h) ?_
   rotate_left
   ·(intro w9 hSw;obtain⟨y0,y1,y2,y3⟩:=(HY w9 hSw).out;clear hSw;go_simp;try with_reducible rfl)
   simp only[Act.put,zpa,zpb,zpc]
   refine par3_move (v:= ?_) 1 (by simp only[zga,zgb,zgc];rfl) (by kernel_rfl) (by rfl) ?_ (fun _ _ _ h=>h) ?_
   rotate_left
   ·(intro w9;go_simp;try with_reducible rfl)
   simp only[Act.put,zpa,zpb,zpc]
   refine par3_read (v:= ?_) 2 (by simp only[zga,zgb,zgc];rfl) (by kernel_rfl) (by rfl) HS0.out ?_ (fun _ _ _ h=>h) ?_
   rotate_left
   ·(intro w9 hSw;obtain⟨y0,y1,y2,y3⟩:=(HY w9 hSw).out;clear hSw;go_simp;try with_reducible rfl)
   simp only[Act.put,zpa,zpb,zpc]
   refine par3_move (v:= ?_) 3 (by simp only[zga,zgb,zgc];rfl) (by kernel_rfl) (by rfl) ?_ (fun _ _ _ h=>h) ?_
   rotate_left
   ·(intro w9;go_simp;try with_reducible rfl)
   simp only[Act.put,zpa,zpb,zpc]
   refine par3_one 4 (by simp only[zga,zgb,zgc];rfl) (by kernel_rfl) (by rfl) ?_
   refine owp_call (by go_simp;constructor<;>rfl) ?_
   refine(HIH _ HXD.out).out.mono ?_
   rintro e w4 ⟨rfl,up4,f4,s4,d4,i4,t4⟩
   refine⟨_,rfl,fun s _=>s.trans t4 (fun b hb=> .inl hb), ?_⟩
   have hs4:=(s4 a r).1 HRT.out
   obtain⟨f5,s5⟩:=fo_short f4 hs4 HRK.out
   have I4:=Lib.hid i4
   have F5:=Lib.hid f5
   have S5:=Lib.hid (s4.trans s5)
   have D4:=Lib.hid d4
   have T4:=Lib.hid (HS0.out.trans t4 (fun b hb=> .inl hb))
   clear f4 s4 d4 i4 t4 hs4 f5 s5
   simp only[Act.put,zpa,zpb,zpc]
   refine par3_tail _ (by simp only[List.drop_succ_cons,List.drop_zero];rfl) (by kernel_rfl) ?_
   go_wp2_with (at_mapUpdate;go_loud (refine wpList_update_O (P:=Try.prog) (k:=3) (e:=3) (t:=138) _ rfl _ _ _ 138 rfl 3 3 Try.keyInt Try.underlying138 mu n ekI ekI up4 I4.out.mp rfl (by unfold maxLen;omega) a _ rfl HKA.out (ekI_inj _) r rfl (by rw[D4.out];exact HAS.out) ?_;intro w5 hm5 hg5;have k5:=Touch.of_grown hg5;have I5:=Lib.hid (I4.out.put k5 hm5 (upd_fit HFR.out I4.out.fit));have T5:=Lib.hid (T4.out.trans k5 (fun b hb=> .inl hb));clear hm5 hg5 k5))
   refine NoPanic.normal ?_
   have c0:=I5.out.cu
   have lk:=I5.out.mp.look (t:=138) Try.keyInt Try.underlying138 (zeroInt w5) (x:=a) HKA.out
   rw[updT_self] at lk
   simp only[Option.map_some,Option.getD_some,ekI] at lk
   go_wp2_with fail
   go_ret
   refine⟨rfl,_,F5.out,S5.out,fun x=> ?_,I5.out,T5.out⟩
   unfold updT
   by_cases e:x=a
   ·subst e;rw[if_pos rfl,HAS.out];rfl
   ·rw[if_neg e];exact D4.out x
theorem ne_L1 {a b:Nat} (h:a≠b):a∉ [b]:=by simpa using h
theorem pairs_snoc (es:List Ed) (e:Ed):pairsE (es++[e])=pairsE es++[(e.a,e.b)]:=by unfold pairsE;rw[List.map_append];rfl
set_option maxRecDepth 100000 in
set_option maxHeartbeats 4000000 in
theorem pieces_any {w:World} {B vn vc en ec:Nat} {va ea:Option Addr} {p:PL} (he:EsIn w B ea en p.es) (hB:B≤w.heap.size) (hm:en≤1024) (hfit:FitPL p):
  Calls Try.prog 70 #[.agg #[.slice va vn vc, .slice ea en ec]] w fun e w'=> ∃bu bf mu up,e= .returned (fdV bu bf)∧FdIn w' w.heap.size bu bf mu en up∧UF (pairsE p.es) up∧Below w.heap.size w w':=by
 have HE:=fun(W:World) (hb:Below w.heap.size w W)=>Lib.hid (he.below (hb.mono hB))
 have HEL:=Lib.hid he.1
 have HF:=Lib.hid hfit
 have hmm:= @run_makeMap Try.prog
 have hmf: ∀(a b:Value) (w:World),(Instr.makeFunc (Fn.func 92) #[] #[a,b]).run Try.prog w= .ok (.func (Fn.func 92) #[] #[a,b]) w:=fun a b w=>by kernel_rfl
 clear he hfit
 go_enter Try.func70,Try.ntmps70
 go_wp2_with fail
 first|refine wp_name (fun W hW=> ?_)|refine calls_name (fun W hW=> ?_)
 have HW:Hid (Below w.heap.size w W):=Lib.hid (by rw[←hW];repeat (first|exact Below.refl _ _|refine below_alloc ?_))
 have HWs:Hid (W.heap.size=w.heap.size+1+1+1+1):=Lib.hid (by rw[←hW];simp)
 skip
 have HC:=fun(W1:World) (hb:Touch ([w.heap.size+1]) W W1)=>Lib.hid (show W1.cell? ⟨w.heap.size,0,none⟩=some (.slice va vn vc)∧W1.cell? ⟨w.heap.size,1,none⟩=some (.slice ea en ec)∧W1.cell? ⟨w.heap.size+1+1,0,none⟩=some (.map (some (w.heap.size+1)))∧W1.cell? ⟨w.heap.size+1+1+1,0,none⟩=some (.func (.func 92) #[] #[.pointer (some ⟨w.heap.size+1+1,0,none⟩), .pointer (some ⟨w.heap.size+1+1+1,0,none⟩)]) from by exact⟨(touch_cell hb (show w.heap.size<W.heap.size by have:=HWs.out;omega) (by first|(simp;done)|(simp;omega)|(intro hm;simp at hm;omega))).trans (by rw[←hW];clear hW;go_simp),(touch_cell hb (show w.heap.size<W.heap.size by have:=HWs.out;omega) (by first|(simp;done)|(simp;omega)|(intro hm;simp at hm;omega))).trans (by rw[←hW];clear hW;go_simp),(touch_cell hb (show w.heap.size+1+1<W.heap.size by have:=HWs.out;omega) (by first|(simp;done)|(simp;omega)|(intro hm;simp at hm;omega))).trans (by rw[←hW];clear hW;go_simp),(touch_cell hb (show w.heap.size+1+1+1<W.heap.size by have:=HWs.out;omega) (by first|(simp;done)|(simp;omega)|(intro hm;simp at hm;omega))).trans (by rw[←hW];clear hW;go_simp)⟩)
 have HB:=Lib.hid (Touch.refl ([w.heap.size+1]) W)
 obtain⟨q1_0,q1_1,q1_2,q1_3⟩:=(HC _ HB.out).out
 have r1_0:=Nat.lt_of_lt_of_le (show w.heap.size<W.heap.size by have:=HWs.out;omega) HB.out.size
 have r1_1:=Nat.lt_of_lt_of_le (show w.heap.size+1+1<W.heap.size by have:=HWs.out;omega) HB.out.size
 have r1_2:=Nat.lt_of_lt_of_le (show w.heap.size+1+1+1<W.heap.size by have:=HWs.out;omega) HB.out.size
 have HFF:Hid (∀b∈[w.heap.size+1],w.heap.size≤b):=Lib.hid (by intro b hb;simp at hb;omega)
 have HI0:Hid (FdIn W w.heap.size (w.heap.size+1+1) (w.heap.size+1+1+1) (w.heap.size+1) 0 (fun _=>none)):=Lib.hid (by
  have hc:=(HC W (Touch.refl _ _)).out
  refine⟨hc.2.2.1,hc.2.2.2, ?_,⟨by omega,by have:=HWs.out;omega⟩,⟨by omega,by have:=HWs.out;omega⟩,by omega,by omega,by omega,fun x y h=>by cases h⟩
  rw[←hW]
  have h1:=MapT.made (w.alloc (.cells #[.slice va vn vc, .slice ea en ec] 30)) Try.prog 3 ekI ekI
  have e1:(w.alloc (.cells #[.slice va vn vc, .slice ea en ec] 30)).heap.size=w.heap.size+1:=by simp
  rw[e1] at h1
  exact(h1.alloc _).alloc _)
 have HAR:=fun(W1:World) (h:Touch [w.heap.size+1] W W1)=>Lib.hid (args_touch HW.out h HFF.out (Nat.le_refl _))
 clear hW
 clear q1_0 q1_1 q1_2 q1_3 r1_0 r1_1 r1_2
 go_loopw [12] (fun i wr=> ∃(j:Nat) (up:Int→Option Int),j≤en∧i= .int .i64 j∧FdIn wr w.heap.size (w.heap.size+1+1) (w.heap.size+1+1+1) (w.heap.size+1) j up∧UF (pairsE (p.es.take j)) up∧Touch [w.heap.size+1] W wr) (fun i _=>en - (intOf i).toNat)
 case atStart=>exact⟨0,_,Nat.zero_le _,rfl,HI0.out,UF.empty,Touch.refl _ _⟩
 case round=>
  clear HI0 HB
  obtain⟨j,up,hj,rfl,hI,hu,ht⟩:=hrel
  have HI:=Lib.hid hI
  have HU:=Lib.hid hu
  have HB:=Lib.hid ht
  clear hI hu ht
  obtain⟨q2_0,q2_1,q2_2,q2_3⟩:=(HC _ HB.out).out
  have r2_0:=Nat.lt_of_lt_of_le (show w.heap.size<W.heap.size by have:=HWs.out;omega) HB.out.size
  have r2_1:=Nat.lt_of_lt_of_le (show w.heap.size+1+1<W.heap.size by have:=HWs.out;omega) HB.out.size
  have r2_2:=Nat.lt_of_lt_of_le (show w.heap.size+1+1+1<W.heap.size by have:=HWs.out;omega) HB.out.size
  by_cases hlj:j<en
  ·obtain⟨eb,eoff,e,rfl,heb,he,e0,e1,e2⟩:=(HE wr (HAR wr HB.out).out).out.at_ hlj
   have hfe:=HF.out.es e (List.mem_of_getElem? he)
   have HKA:=Lib.hid hfe.2.1
   have HKB:=Lib.hid hfe.2.2
   have HSN:=Lib.hid (show pairsE (p.es.take (j+1))=pairsE (p.es.take j)++[(e.a,e.b)] from by rw[take_snoc' he];exact pairs_snoc _ _)
   have hebw:eb<wr.heap.size:=by have:=HB.out.size;have:=HWs.out;omega
   clear he hfe
   go_wp2_with fail
   clear q2_0 q2_1 q2_2 q2_3 r2_0 r2_1 r2_2
   refine wp_name (fun c hc=> ?_)
   have HCB:=Lib.hid (show Below wr.heap.size wr c from by rw[←hc];exact below_alloc (Below.refl _ _))
   have HCS:=Lib.hid (show wr.heap.size<c.heap.size from by rw[←hc];simp)
   have hcc:c.cell? ⟨wr.heap.size,1,none⟩=some (.int .i64 e.a)∧c.cell? ⟨wr.heap.size,2,none⟩=some (.int .i64 e.b):=by
    rw[←hc]
    clear hc
    simp[World.cell?_alloc_new]
   have IC:=Lib.hid (HI.out.below HCB.out)
   have hlow:w.heap.size+1<wr.heap.size:=by have:=HB.out.size;have:=HWs.out;omega
   have HLW:=Lib.hid hlow
   have HY:=fun(w':World) (t:Touch [w.heap.size+1] c w')=>Lib.hid (show w'.cell? ⟨w.heap.size+1+1,0,none⟩=some (.map (some (w.heap.size+1)))∧w'.cell? ⟨w.heap.size+1+1+1,0,none⟩=some (.func (.func 92) #[] #[.pointer (some ⟨w.heap.size+1+1,0,none⟩), .pointer (some ⟨w.heap.size+1+1+1,0,none⟩)])∧w'.cell? ⟨wr.heap.size,1,none⟩=some (.int .i64 e.a)∧w'.cell? ⟨wr.heap.size,2,none⟩=some (.int .i64 e.b) from
    ⟨(t.cell (p:=⟨w.heap.size+1+1,0,none⟩) IC.out.lu.2 (ne_L1 (show w.heap.size+1+1≠w.heap.size+1 by omega))).trans IC.out.cu,(t.cell (p:=⟨w.heap.size+1+1+1,0,none⟩) IC.out.lf.2 (ne_L1 (show w.heap.size+1+1+1≠w.heap.size+1 by omega))).trans IC.out.cf,(t.cell (p:=⟨wr.heap.size,1,none⟩) HCS.out (by have:=HLW.out;simp;omega)).trans hcc.1,(t.cell (p:=⟨wr.heap.size,2,none⟩) HCS.out (by have:=HLW.out;simp;omega)).trans hcc.2⟩)
   have HS0:=Lib.hid (Touch.refl [w.heap.size+1] c).drew
   have ID:=Lib.hid (IC.out.below (Below.refl c.heap.size c).drew)
   clear hc hcc hlow hebw
   obtain⟨rk,hfo⟩:=HU.out.fo
   obtain⟨ra,hra⟩:=rt_ex hfo e.a
   obtain⟨rb,hrb⟩:=rt_ex hfo e.b
   have HFO:=Lib.hid hfo
   have HRA:=Lib.hid hra
   have HRB:=Lib.hid hrb
   have HFRA:=Lib.hid (rt_fit HI.out.fit hra HKA.out)
   have HFRB:=Lib.hid (rt_fit HI.out.fit hrb HKB.out)
   clear hfo hra hrb
   refine wp_region_noPanic ?_
   refine wp_region_par3 9 9 (by kernel_rfl) (by kernel_rfl) (by simp) (by omega) (by kernel_rfl) (by kernel_rfl) (fun w':World=>Touch [w.heap.size+1] c w') ?_
   refine par3_read (v:= ?_) 0 (by simp only[zga,zgb,zgc];rfl) (by kernel_rfl) (by rfl) HS0.out ?_ (fun _ _ _ h=>h) ?_
   rotate_left
   ·(intro w9 hSw;obtain⟨y0,y1,y2,y3⟩:=(HY w9 hSw).out;clear hSw;go_simp;try with_reducible rfl)
   simp only[Act.put,zpa,zpb,zpc]
   refine par3_read (v:= ?_) 1 (by simp only[zga,zgb,zgc];rfl) (by kernel_rfl) (by rfl) HS0.out ?_ (fun _ _ _ h=>h) ?_
   rotate_left
   ·(intro w9 hSw;obtain⟨y0,y1,y2,y3⟩:=(HY w9 hSw).out;clear hSw;go_simp;try with_reducible rfl)
   simp only[Act.put,zpa,zpb,zpc]
   refine par3_move (v:= ?_) 2 (by simp only[zga,zgb,zgc];rfl) (by kernel_rfl) (by rfl) ?_ (fun _ _ _ h=>h) ?_
   rotate_left
   ·(intro w9;go_simp;try with_reducible rfl)
   simp only[Act.put,zpa,zpb,zpc]
   refine par3_read (v:= ?_) 3 (by simp only[zga,zgb,zgc];rfl) (by kernel_rfl) (by rfl) HS0.out ?_ (fun _ _ _ h=>h) ?_
   rotate_left
   ·(intro w9 hSw;obtain⟨y0,y1,y2,y3⟩:=(HY w9 hSw).out;clear hSw;go_simp;try with_reducible rfl)
   simp only[Act.put,zpa,zpb,zpc]
   refine par3_read (v:= ?_) 5 (by simp only[zga,zgb,zgc];rfl) (by kernel_rfl) (by rfl) HS0.out ?_ (fun _ _ _ h=>h) ?_
   rotate_left
   ·(intro w9 hSw;obtain⟨y0,y1,y2,y3⟩:=(HY w9 hSw).out;clear hSw;go_simp;try with_reducible rfl)
   simp only[Act.put,zpa,zpb,zpc]
   refine par3_move (v:= ?_) 6 (by simp only[zga,zgb,zgc];rfl) (by kernel_rfl) (by rfl) ?_ (fun _ _ _ h=>h) ?_
   rotate_left
   ·(intro w9;go_simp;try with_reducible rfl)
   simp only[Act.put,zpa,zpb,zpc]
   refine par3_read (v:= ?_) 7 (by simp only[zga,zgb,zgc];rfl) (by kernel_rfl) (by rfl) HS0.out ?_ (fun _ _ _ h=>h) ?_
   rotate_left
   ·(intro w9 hSw;obtain⟨y0,y1,y2,y3⟩:=(HY w9 hSw).out;clear hSw;go_simp;try with_reducible rfl)
   simp only[Act.put,zpa,zpb,zpc]
   refine par3_one 4 (by simp only[zga,zgb,zgc];rfl) (by kernel_rfl) (by rfl) ?_
   refine owp_call (by go_simp;constructor<;>rfl) ?_
   refine(find_any (by omega) (rk e.a+1) _ up e.a ra ID.out HFO.out HRA.out (Nat.lt_succ_self _) HKA.out).mono ?_
   rintro x w4 ⟨rfl,up4,f4,s4,d4,i4,t4⟩
   refine⟨_,rfl,fun s _=>s.trans t4 (fun b hb=> .inl hb), ?_⟩
   have I4:=Lib.hid i4
   have F4:=Lib.hid f4
   have S4:=Lib.hid s4
   have T4:=Lib.hid (HS0.out.trans t4 (fun b hb=> .inl hb))
   clear f4 s4 d4 i4 t4
   simp only[Act.put,zpa,zpb,zpc]
   refine par3_one 8 (by simp only[zga,zgb,zgc];rfl) (by kernel_rfl) (by rfl) ?_
   refine owp_call (by go_simp;constructor<;>rfl) ?_
   refine(find_any (by omega) (rk e.b+1) _ up4 e.b rb I4.out F4.out ((S4.out _ _).1 HRB.out) (Nat.lt_succ_self _) HKB.out).mono ?_
   rintro x w5 ⟨rfl,up5,f5,s5,d5,i5,t5⟩
   refine⟨_,rfl,fun s _=>s.trans t5 (fun b hb=> .inl hb), ?_⟩
   have I5:=Lib.hid i5
   have U5:=Lib.hid ((HU.out.same ⟨rk,f5⟩ (S4.out.trans s5)).add ((S4.out.trans s5 _ _).1 HRA.out) ((S4.out.trans s5 _ _).1 HRB.out))
   have T5:=Lib.hid (T4.out.trans t5 (fun b hb=> .inl hb))
   clear f5 s5 d5 i5 t5
   simp only[Act.put,zpa,zpb,zpc]
   refine par3_tail _ (by simp only[List.drop_succ_cons,List.drop_zero];rfl) (by kernel_rfl) ?_
   have HKR:=Lib.hid (key_i HFRA.out)
   go_wp2_with (at_mapUpdate;go_loud (refine wpList_update_T _ rfl _ _ _ 138 rfl 3 3 Try.keyInt Try.underlying138 (w.heap.size+1) j ekI ekI up5 I5.out.mp rfl (by unfold maxLen;omega) ra _ rfl HKR.out (ekI_inj _) rb rfl ?_;intro w6 hm6 hg6;have k6:=Touch.of_grown hg6;have I6:=Lib.hid (I5.out.put k6 hm6 (upd_fit HFRB.out I5.out.fit));have T6:=Lib.hid (T5.out.trans k6 (fun b hb=> .inl hb));clear hm6 hg6 k6))
   refine NoPanic.normal ?_
   go_wp2_with fail
   go_roundw
   case rel=>exact⟨j+1,_,by omega,by go_num,I6.out,by rw[HSN.out];exact U5.out,(touch_later HB.out HCB.out).trans T6.out (fun b hb=> .inl hb)⟩
   case measure=>simp[intOf];omega
  ·obtain rfl:j=en:=by omega
   have HX:=Lib.hid (show UF (pairsE p.es) up from by have:=HU.out;rwa [List.take_of_length_le (by have:=HEL.out;omega)] at this)
   have c1:=HI.out.cf
   unfold fdV at c1
   go_wp2_with fail
   go_ret
   exact⟨_,_,_,up,rfl,HI.out,HX.out,(HAR wr HB.out).out⟩
end Go.Proofs.Ythopjhifepijiaa
namespace Go.Proofs.Ythopjhifepijiaa
open Go.RowKit Go.Joins
open Go.Maps (Keyed)
structure OuAt (w:World) (B b off:Nat) (o:OU):Prop where
 ln: ∃a c,w.cell? ⟨b,off,none⟩=some (.slice a o.lines.length c)∧LnIn w B a o.lines.length o.lines
 a0:w.cell? ⟨b,off+1,none⟩=some (.int .u64 (wrd o.area 0))
 a1:w.cell? ⟨b,off+1+1,none⟩=some (.int .u64 (wrd o.area 1))
 a2:w.cell? ⟨b,off+1+1+1,none⟩=some (.int .u64 (wrd o.area 2))
 a3:w.cell? ⟨b,off+1+1+1+1,none⟩=some (.int .u64 (wrd o.area 3))
 pc:w.cell? ⟨b,off+1+1+1+1+1,none⟩=some (.int .i64 o.piece)
def OuIn (w:World) (B:Nat) (a:Option Addr) (n:Nat) (l:List OU):Prop:=n=l.length∧(n=0∨ ∃b off,a=some ⟨b,off,none⟩∧b<B∧ ∀(i:Nat) (o:OU),l[i]? =some o→OuAt w B b (off+i*6) o)
theorem OuAt.below {w w':World} {B b off:Nat} {o:OU} (h:OuAt w B b off o) (k:Below B w w') (hb:b<B):OuAt w' B b off o:=by
 obtain⟨⟨a,c,h1,h2⟩,h3,h4,h5,h6,h7⟩:=h
 exact⟨⟨a,c,(k.cell (p:=⟨b,_,none⟩) hb).trans h1,h2.below k⟩,(k.cell (p:=⟨b,_,none⟩) hb).trans h3,(k.cell (p:=⟨b,_,none⟩) hb).trans h4,(k.cell (p:=⟨b,_,none⟩) hb).trans h5,(k.cell (p:=⟨b,_,none⟩) hb).trans h6,(k.cell (p:=⟨b,_,none⟩) hb).trans h7⟩
theorem OuAt.mono {w:World} {B B' b off:Nat} {o:OU} (h:OuAt w B b off o) (k:B≤B'):OuAt w B' b off o:=by
 obtain⟨⟨a,c,h1,h2⟩,h3,h4,h5,h6,h7⟩:=h
 exact⟨⟨a,c,h1,h2.mono k⟩,h3,h4,h5,h6,h7⟩
theorem OuIn.below {w w':World} {B:Nat} {a:Option Addr} {n:Nat} {l:List OU} (h:OuIn w B a n l) (k:Below B w w'):OuIn w' B a n l:=
 ⟨h.1,h.2.imp id (fun⟨b,off,e,hb,hs⟩=>⟨b,off,e,hb,fun i o ho=>(hs i o ho).below k hb⟩)⟩
theorem OuIn.at_ {w:World} {B:Nat} {a:Option Addr} {n:Nat} {l:List OU} (h:OuIn w B a n l) {k:Nat} (hk:k<n): ∃b off o,a=some ⟨b,off,none⟩∧b<B∧l[k]? =some o∧OuAt w B b (off+k*6) o:=by
 obtain⟨h1,h2|⟨b,off,e,hb,hs⟩⟩:=h
 ·omega
 ·have hx:=List.getElem?_eq_getElem (l:=l) (i:=k) (by omega)
  exact⟨b,off,_,e,hb,hx,hs k _ hx⟩
structure OuOk (o:OU):Prop where
 fit:Fits o.area
 inl:inL o.lines
 len:o.lines.length≤100000
def arK (l:List OU) (q:Pt) (but:Int) (k:Nat):Int:=(List.range k).foldl (bestS l q but) (-1)
theorem arK_succ (l:List OU) (q:Pt) (but:Int) (k:Nat):arK l q but (k+1)=bestS l q but (arK l q but k) k:=by unfold arK;rw[List.range_succ,List.foldl_append];rfl
theorem arK_bd (l:List OU) (q:Pt) (but:Int): ∀k, -1≤arK l q but k∧arK l q but k<k
 |0=>by simp[arK]
 |k+1=>by
  have h:=arK_bd l q but k
  rw[arK_succ]
  unfold bestS
  cases l[k]? with
  |none=>simp only;omega
  |some o=>
   simp only
   split<;>omega
theorem best_pos {l:List OU} {m:Nat} {o2:OU} (hx:l[m]? =some o2) {oa:Int} {k:Int}:(if ((m:Int)<0∨oa<(((l[(m:Int).toNat]?).map (·.area)).getD 0)) then k else(m:Int))=if oa<o2.area then k else m:=by
 rw[Int.toNat_natCast,hx]
 by_cases h:oa<o2.area
 ·rw[if_pos (.inr h),if_pos h]
 ·rw[if_neg (fun e=>e.elim (fun h=>by omega) h),if_neg h]
set_option maxRecDepth 100000 in
set_option maxHeartbeats 8000000 in
theorem raround_any {w:World} {B n c:Nat} {a:Option Addr} {l:List OU} {q:Pt} {but:Int} (hl:OuIn w B a n l) (hB:B≤w.heap.size) (hok: ∀o∈l,OuOk o) (hq:inB q=true) (hn:n≤100000):
  Calls Try.prog 60 #[.slice a n c, .agg #[.int .i64 q.x, .int .i64 q.y], .int .i64 but] w fun e w'=>e= .returned (.int .i64 (aroundP l q but))∧Below w.heap.size w w':=by
 have HL:=fun(W:World) (hb:Below w.heap.size w W)=>Lib.hid (hl.below (hb.mono hB))
 have HN:=Lib.hid hl.1
 have HO:=Lib.hid hok
 have HQ:=Lib.hid hq
 clear hl hok hq
 go_enter Try.func60,Try.ntmps60
 go_wp2_with fail
 first|refine wp_name (fun W hW=> ?_)|refine calls_name (fun W hW=> ?_)
 have HW:Hid (Below w.heap.size w W):=Lib.hid (by rw[←hW];repeat (first|exact Below.refl _ _|refine below_alloc ?_))
 have HWs:Hid (W.heap.size=w.heap.size+1):=Lib.hid (by rw[←hW];simp)
 have HBW:Hid (W.heap.size≤W.heap.size):=Lib.hid (by have:=HWs.out;omega)
 have HC:=fun(W1:World) (hb:Below (W.heap.size) W W1)=>Lib.hid (show W1.cell? ⟨w.heap.size,0,none⟩=some (.int .i64 q.x)∧W1.cell? ⟨w.heap.size,1,none⟩=some (.int .i64 q.y) from by exact⟨(hb.cell (p:=⟨w.heap.size,0,none⟩) (by show w.heap.size<W.heap.size;have:=HWs.out;omega)).trans (by rw[←hW];clear hW;go_simp),(hb.cell (p:=⟨w.heap.size,1,none⟩) (by show w.heap.size<W.heap.size;have:=HWs.out;omega)).trans (by rw[←hW];clear hW;go_simp)⟩)
 have HB:=Lib.hid (Below.refl (W.heap.size) W)
 clear hW
 obtain⟨q1_0,q1_1⟩:=(HC _ HB.out).out
 have r1_0:=Nat.lt_of_lt_of_le (show w.heap.size<W.heap.size by have:=HWs.out;omega) HB.out.size
 clear q1_0 q1_1 r1_0
 go_loopw [7,12] (fun v i wr=> ∃(k:Nat) (s:Int),k≤n∧i= .int .i64 k∧v= .int .i64 s∧s=arK l q but k∧Below W.heap.size W wr) (fun _ i _=>n - (intOf i).toNat)
 case atStart=>exact⟨0,_,Nat.zero_le _,rfl,rfl,rfl,HB.out⟩
 case round=>
  clear HB
  obtain⟨k,s,hk,rfl,rfl,hs,hb⟩:=hrel
  have HB:=Lib.hid hb
  have HSK:=Lib.hid hs
  have hsb:=arK_bd l q but k
  rw[←hs] at hsb
  clear hb hs
  obtain⟨q2_0,q2_1⟩:=(HC _ HB.out).out
  have r2_0:=Nat.lt_of_lt_of_le (show w.heap.size<W.heap.size by have:=HWs.out;omega) HB.out.size
  by_cases hlt:k<n
  ·have HXW:=Lib.hid (HW.out.trans (HB.out.mono HW.out.size))
   obtain⟨lb,loff,o,rfl,hlb,hx,hat⟩:=(HL _ HXW.out).out.at_ hlt
   have hbw:lb<wr.heap.size:=by have:=HXW.out.size;omega
   have HOK:=Lib.hid (HO.out o (List.mem_of_getElem? hx))
   have HNX:=Lib.hid (show arK l q but (k+1)=if arndB o q but=true∧(s<0∨o.area<(((l[s.toNat]?).map (·.area)).getD 0)) then(k:Int) else s from by rw[arK_succ, ←HSK.out];unfold bestS;rw[hx])
   obtain⟨⟨la,lc,c0,hln⟩,c1,c2,c3,c4,c5⟩:=hat
   have HTC:=fun(W:World) (hb:Below wr.heap.size wr W)=>Lib.hid (touches_any (c:=lc) q (hln.below (hb.mono (Nat.le_trans hB HXW.out.size))) (Nat.le_trans hB (Nat.le_trans HXW.out.size hb.size)) HOK.out.len)
   have HOD:=fun(W:World) (hb:Below wr.heap.size wr W)=>Lib.hid (odd_any (c:=lc) (hln.below (hb.mono (Nat.le_trans hB HXW.out.size))) (Nat.le_trans hB (Nat.le_trans HXW.out.size hb.size)) HOK.out.inl HQ.out HOK.out.len)
   have HFO:=Lib.hid HOK.out.fit
   clear hx hln
   unfold arndB at HNX
   obtain⟨ol,oa,op⟩:=o
   simp only at c0 c1 c2 c3 c4 c5 HTC HOD HNX HFO
   generalize touchB ol q=tch at HTC HNX
   generalize oddB ol q=od at HOD HNX
   have HCM:=fun(W:World) (x:Int) (hf:Fits x)=>Lib.hid (cmpW_any oa x W HFO.out hf)
   generalize hy0:wrd oa 0=y0 at*
   generalize hy1:wrd oa 1=y1 at*
   generalize hy2:wrd oa 2=y2 at*
   generalize hy3:wrd oa 3=y3 at*
   clear hy0 hy1 hy2 hy3
   by_cases h1:op=but
   ·have HV:=Lib.hid (show arK l q but (k+1)=s from HNX.out.trans (by simp[h1]))
    have h1':(op==but)=true:=by simpa using h1
    clear h1
    go_wp2_with fail
    go_roundw
    case rel=>exact⟨k+1,s,by omega,by go_num,rfl,HV.out.symm,HB.out.alloc (Nat.le_trans HBW.out HB.out.size) _⟩
    case measure=>simp[intOf];omega
   ·have h1':(op==but)=false:=by simpa using h1
    have HNE:=Lib.hid h1
    clear h1
    have HBX:=fun(W:World) (h:Below (wr.alloc (.cells #[.slice la ol.length lc, .int .u64 y0, .int .u64 y1, .int .u64 y2, .int .u64 y3, .int .i64 op] 155)).heap.size (wr.alloc (.cells #[.slice la ol.length lc, .int .u64 y0, .int .u64 y1, .int .u64 y2, .int .u64 y3, .int .i64 op] 155)) W)=>Lib.hid (show W.cell? ⟨wr.heap.size,0,none⟩=some (.slice la ol.length lc)∧W.cell? ⟨wr.heap.size,1,none⟩=some (.int .u64 y0)∧W.cell? ⟨wr.heap.size,2,none⟩=some (.int .u64 y1)∧W.cell? ⟨wr.heap.size,3,none⟩=some (.int .u64 y2)∧W.cell? ⟨wr.heap.size,4,none⟩=some (.int .u64 y3) from
     ⟨(h.cell (p:=⟨wr.heap.size,_,none⟩) (by simp)).trans (by simp[World.cell?_alloc_new]),(h.cell (p:=⟨wr.heap.size,_,none⟩) (by simp)).trans (by simp[World.cell?_alloc_new]),(h.cell (p:=⟨wr.heap.size,_,none⟩) (by simp)).trans (by simp[World.cell?_alloc_new]),(h.cell (p:=⟨wr.heap.size,_,none⟩) (by simp)).trans (by simp[World.cell?_alloc_new]),(h.cell (p:=⟨wr.heap.size,_,none⟩) (by simp)).trans (by simp[World.cell?_alloc_new])⟩)
    have HSW:=Lib.hid (show W.heap.size≤wr.heap.size from HB.out.size)
    cases tch
    ·cases od
     ·have HV:=Lib.hid (show arK l q but (k+1)=s from HNX.out.trans (by simp))
      go_wp2_with fail
      refine(HTC _ (below_alloc (Below.refl _ _))).out.mono ?_
      rintro e w3 ⟨rfl,hb3⟩
      have HX3:=Lib.hid hb3
      have HB3:=Lib.hid (below_step hb3 (below_alloc (Below.refl wr.heap.size wr)))
      have HB:=Lib.hid (HB.out.trans (HB3.out.mono HSW.out))
      clear hb3
      obtain⟨x0, -⟩:=(HBX _ HX3.out).out
      clear q2_0 q2_1 r2_0
      obtain⟨q3_0,q3_1⟩:=(HC _ HB.out).out
      have r3_0:=Nat.lt_of_lt_of_le (show w.heap.size<W.heap.size by have:=HWs.out;omega) HB.out.size
      go_wp2_with fail
      refine(HOD _ HB3.out).out.mono ?_
      rintro e w4 ⟨rfl,hb4⟩
      have HX4:=Lib.hid (below_next HX3.out HX3.out.size hb4)
      have HB4:=Lib.hid (below_step hb4 HB3.out)
      have HB:=Lib.hid (below_next HB.out (Nat.le_trans HBW.out HB.out.size) hb4)
      clear hb4 x0
      clear q3_0 q3_1 r3_0
      obtain⟨q4_0,q4_1⟩:=(HC _ HB.out).out
      have r4_0:=Nat.lt_of_lt_of_le (show w.heap.size<W.heap.size by have:=HWs.out;omega) HB.out.size
      go_wp2_with fail
      go_roundw
      case rel=>exact⟨k+1,s,by omega,by go_num,rfl,HV.out.symm,HB.out⟩
      case measure=>simp[intOf];omega
     ·have HNX2:=Lib.hid (show arK l q but (k+1)=if (s<0∨oa<(((l[s.toNat]?).map (·.area)).getD 0)) then(k:Int) else s from HNX.out.trans (by simp[HNE.out]))
      clear HNX
      by_cases hs0:s<0
      ·have HV:=Lib.hid (show arK l q but (k+1)=k from HNX2.out.trans (by simp[hs0]))
       go_wp2_with fail
       refine(HTC _ (below_alloc (Below.refl _ _))).out.mono ?_
       rintro e w3 ⟨rfl,hb3⟩
       have HX3:=Lib.hid hb3
       have HB3:=Lib.hid (below_step hb3 (below_alloc (Below.refl wr.heap.size wr)))
       have HB:=Lib.hid (HB.out.trans (HB3.out.mono HSW.out))
       clear hb3
       obtain⟨x0, -⟩:=(HBX _ HX3.out).out
       clear q2_0 q2_1 r2_0
       obtain⟨q5_0,q5_1⟩:=(HC _ HB.out).out
       have r5_0:=Nat.lt_of_lt_of_le (show w.heap.size<W.heap.size by have:=HWs.out;omega) HB.out.size
       go_wp2_with fail
       refine(HOD _ HB3.out).out.mono ?_
       rintro e w4 ⟨rfl,hb4⟩
       have HX4:=Lib.hid (below_next HX3.out HX3.out.size hb4)
       have HB4:=Lib.hid (below_step hb4 HB3.out)
       have HB:=Lib.hid (below_next HB.out (Nat.le_trans HBW.out HB.out.size) hb4)
       clear hb4 x0
       clear q5_0 q5_1 r5_0
       obtain⟨q6_0,q6_1⟩:=(HC _ HB.out).out
       have r6_0:=Nat.lt_of_lt_of_le (show w.heap.size<W.heap.size by have:=HWs.out;omega) HB.out.size
       go_wp2_with fail
       refine wp_region_later (by kernel_rfl) (by kernel_rfl) ?_
       repeat (first|go_big_quiet_step (fail)|quiet_step (fail))
       refine wpQuiet_nil ?_
       intro w6 hw6
       have hb6:=later_below hw6
       have HB:=Lib.hid (below_next HB.out (Nat.le_trans HBW.out HB.out.size) hb6)
       clear hw6 hb6
       go_wp2_with fail
       go_roundw
       case rel=>exact⟨k+1,k,by omega,by go_num,rfl,HV.out.symm,HB.out⟩
       case measure=>simp[intOf];omega
      ·obtain⟨m,rfl⟩: ∃m:Nat,s=m:=⟨s.toNat,by omega⟩
       have hmk:m<k:=by omega
       have hmn:m<n:=by omega
       obtain⟨lb2,loff2,o2,he2,hlb2,hx2,hat2⟩:=(HL _ HXW.out).out.at_ hmn
       injection he2 with he2
       injection he2 with he3 he4
       subst he3 he4
       obtain⟨⟨la2,lc2,d0, -⟩,d1,d2,d3,d4,d5⟩:=hat2
       have HF2:=Lib.hid (HO.out o2 (List.mem_of_getElem? hx2)).fit
       have HNX3:=Lib.hid (show arK l q but (k+1)=if oa<o2.area then(k:Int) else m from HNX2.out.trans (best_pos hx2))
       have HCC:=fun W=>HCM W o2.area HF2.out
       clear hx2 d0 d5 HCM HNX2
       obtain⟨o2l,o2a,o2p⟩:=o2
       simp only at d1 d2 d3 d4 HCC HNX3
       generalize wrd o2a 0=z0 at*
       generalize wrd o2a 1=z1 at*
       generalize wrd o2a 2=z2 at*
       generalize wrd o2a 3=z3 at*
       have ym:(m:Int)<(n:Int):=by omega
       have ym0: ¬((m:Int)<0):=by omega
       have HDD:=fun(W:World) (h:Below wr.heap.size wr W)=>Lib.hid (show W.cell? ⟨lb,loff+m*6+1,none⟩=some (.int .u64 z0)∧W.cell? ⟨lb,loff+m*6+1+1,none⟩=some (.int .u64 z1)∧W.cell? ⟨lb,loff+m*6+1+1+1,none⟩=some (.int .u64 z2)∧W.cell? ⟨lb,loff+m*6+1+1+1+1,none⟩=some (.int .u64 z3) from
        ⟨(h.cell (p:=⟨lb,_,none⟩) hbw).trans d1,(h.cell (p:=⟨lb,_,none⟩) hbw).trans d2,(h.cell (p:=⟨lb,_,none⟩) hbw).trans d3,(h.cell (p:=⟨lb,_,none⟩) hbw).trans d4⟩)
       clear d1 d2 d3 d4
       by_cases hcm:oa<o2a
       ·have HV:=Lib.hid (show arK l q but (k+1)=k from HNX3.out.trans (by simp[hcm]))
        have hcv:cmpI oa o2a= -1:=by unfold cmpI;rw[if_pos hcm]
        rw[hcv] at HCC
        go_wp2_with fail
        refine(HTC _ (below_alloc (Below.refl _ _))).out.mono ?_
        rintro e w3 ⟨rfl,hb3⟩
        have HX3:=Lib.hid hb3
        have HB3:=Lib.hid (below_step hb3 (below_alloc (Below.refl wr.heap.size wr)))
        have HB:=Lib.hid (HB.out.trans (HB3.out.mono HSW.out))
        clear hb3
        obtain⟨x0, -⟩:=(HBX _ HX3.out).out
        clear q2_0 q2_1 r2_0
        obtain⟨q7_0,q7_1⟩:=(HC _ HB.out).out
        have r7_0:=Nat.lt_of_lt_of_le (show w.heap.size<W.heap.size by have:=HWs.out;omega) HB.out.size
        go_wp2_with fail
        refine(HOD _ HB3.out).out.mono ?_
        rintro e w4 ⟨rfl,hb4⟩
        have HX4:=Lib.hid (below_next HX3.out HX3.out.size hb4)
        have HB4:=Lib.hid (below_step hb4 HB3.out)
        have HB:=Lib.hid (below_next HB.out (Nat.le_trans HBW.out HB.out.size) hb4)
        clear hb4 x0
        clear q7_0 q7_1 r7_0
        obtain⟨q8_0,q8_1⟩:=(HC _ HB.out).out
        have r8_0:=Nat.lt_of_lt_of_le (show w.heap.size<W.heap.size by have:=HWs.out;omega) HB.out.size
        go_wp2_with fail
        clear c0 c1 c2 c3 c4 c5 hcv hcm
        clear q8_0 q8_1 r8_0
        have x0:=fun(x:Later w4)=>(HBX x.1 (below_next HX4.out HX4.out.size x.2)).out.2.1
        have x1:=fun(x:Later w4)=>(HBX x.1 (below_next HX4.out HX4.out.size x.2)).out.2.2.1
        have x2:=fun(x:Later w4)=>(HBX x.1 (below_next HX4.out HX4.out.size x.2)).out.2.2.2.1
        have x3:=fun(x:Later w4)=>(HBX x.1 (below_next HX4.out HX4.out.size x.2)).out.2.2.2.2
        have x4:=fun(x:Later w4)=>(HDD x.1 (below_step x.2 HB4.out)).out.1
        have x5:=fun(x:Later w4)=>(HDD x.1 (below_step x.2 HB4.out)).out.2.1
        have x6:=fun(x:Later w4)=>(HDD x.1 (below_step x.2 HB4.out)).out.2.2.1
        have x7:=fun(x:Later w4)=>(HDD x.1 (below_step x.2 HB4.out)).out.2.2.2
        refine wp_region_later (by kernel_rfl) (by kernel_rfl) ?_
        repeat (first|go_big_quiet_step ((go_at_call 89;with_reducible refine Later.call (HCC _).out))|quiet_step ((go_at_call 89;with_reducible refine Later.call (HCC _).out)))
        refine wpQuiet_nil ?_
        intro w6 hw6
        have hb6:=later_below hw6
        have HB:=Lib.hid (below_next HB.out (Nat.le_trans HBW.out HB.out.size) hb6)
        clear hw6 hb6 x0 x1 x2 x3 x4 x5 x6 x7
        go_wp2_with fail
        go_roundw
        case rel=>exact⟨k+1,k,by omega,by go_num,rfl,HV.out.symm,HB.out⟩
        case measure=>simp[intOf];omega
       ·have HV:=Lib.hid (show arK l q but (k+1)=m from HNX3.out.trans (by simp[hcm]))
        have hcv:cmpI oa o2a=0∨cmpI oa o2a=1:=by unfold cmpI;rw[if_neg hcm];split<;>simp
        rcases hcv with hcv|hcv
        ·rw[hcv] at HCC
         go_wp2_with fail
         refine(HTC _ (below_alloc (Below.refl _ _))).out.mono ?_
         rintro e w3 ⟨rfl,hb3⟩
         have HX3:=Lib.hid hb3
         have HB3:=Lib.hid (below_step hb3 (below_alloc (Below.refl wr.heap.size wr)))
         have HB:=Lib.hid (HB.out.trans (HB3.out.mono HSW.out))
         clear hb3
         obtain⟨x0, -⟩:=(HBX _ HX3.out).out
         clear q2_0 q2_1 r2_0
         obtain⟨q9_0,q9_1⟩:=(HC _ HB.out).out
         have r9_0:=Nat.lt_of_lt_of_le (show w.heap.size<W.heap.size by have:=HWs.out;omega) HB.out.size
         go_wp2_with fail
         refine(HOD _ HB3.out).out.mono ?_
         rintro e w4 ⟨rfl,hb4⟩
         have HX4:=Lib.hid (below_next HX3.out HX3.out.size hb4)
         have HB4:=Lib.hid (below_step hb4 HB3.out)
         have HB:=Lib.hid (below_next HB.out (Nat.le_trans HBW.out HB.out.size) hb4)
         clear hb4 x0
         clear q9_0 q9_1 r9_0
         obtain⟨q10_0,q10_1⟩:=(HC _ HB.out).out
         have r10_0:=Nat.lt_of_lt_of_le (show w.heap.size<W.heap.size by have:=HWs.out;omega) HB.out.size
         go_wp2_with fail
         clear c0 c1 c2 c3 c4 c5 hcv hcm
         clear q10_0 q10_1 r10_0
         have x0:=fun(x:Later w4)=>(HBX x.1 (below_next HX4.out HX4.out.size x.2)).out.2.1
         have x1:=fun(x:Later w4)=>(HBX x.1 (below_next HX4.out HX4.out.size x.2)).out.2.2.1
         have x2:=fun(x:Later w4)=>(HBX x.1 (below_next HX4.out HX4.out.size x.2)).out.2.2.2.1
         have x3:=fun(x:Later w4)=>(HBX x.1 (below_next HX4.out HX4.out.size x.2)).out.2.2.2.2
         have x4:=fun(x:Later w4)=>(HDD x.1 (below_step x.2 HB4.out)).out.1
         have x5:=fun(x:Later w4)=>(HDD x.1 (below_step x.2 HB4.out)).out.2.1
         have x6:=fun(x:Later w4)=>(HDD x.1 (below_step x.2 HB4.out)).out.2.2.1
         have x7:=fun(x:Later w4)=>(HDD x.1 (below_step x.2 HB4.out)).out.2.2.2
         refine wp_region_later (by kernel_rfl) (by kernel_rfl) ?_
         repeat (first|go_big_quiet_step ((go_at_call 89;with_reducible refine Later.call (HCC _).out))|quiet_step ((go_at_call 89;with_reducible refine Later.call (HCC _).out)))
         refine wpQuiet_nil ?_
         intro w6 hw6
         have hb6:=later_below hw6
         have HB:=Lib.hid (below_next HB.out (Nat.le_trans HBW.out HB.out.size) hb6)
         clear hw6 hb6 x0 x1 x2 x3 x4 x5 x6 x7
         go_wp2_with fail
         go_roundw
         case rel=>exact⟨k+1,m,by omega,by go_num,rfl,HV.out.symm,HB.out⟩
         case measure=>simp[intOf];omega
        ·rw[hcv] at HCC
         go_wp2_with fail
         refine(HTC _ (below_alloc (Below.refl _ _))).out.mono ?_
         rintro e w3 ⟨rfl,hb3⟩
         have HX3:=Lib.hid hb3
         have HB3:=Lib.hid (below_step hb3 (below_alloc (Below.refl wr.heap.size wr)))
         have HB:=Lib.hid (HB.out.trans (HB3.out.mono HSW.out))
         clear hb3
         obtain⟨x0, -⟩:=(HBX _ HX3.out).out
         clear q2_0 q2_1 r2_0
         obtain⟨q11_0,q11_1⟩:=(HC _ HB.out).out
         have r11_0:=Nat.lt_of_lt_of_le (show w.heap.size<W.heap.size by have:=HWs.out;omega) HB.out.size
         go_wp2_with fail
         refine(HOD _ HB3.out).out.mono ?_
         rintro e w4 ⟨rfl,hb4⟩
         have HX4:=Lib.hid (below_next HX3.out HX3.out.size hb4)
         have HB4:=Lib.hid (below_step hb4 HB3.out)
         have HB:=Lib.hid (below_next HB.out (Nat.le_trans HBW.out HB.out.size) hb4)
         clear hb4 x0
         clear q11_0 q11_1 r11_0
         obtain⟨q12_0,q12_1⟩:=(HC _ HB.out).out
         have r12_0:=Nat.lt_of_lt_of_le (show w.heap.size<W.heap.size by have:=HWs.out;omega) HB.out.size
         go_wp2_with fail
         clear c0 c1 c2 c3 c4 c5 hcv hcm
         clear q12_0 q12_1 r12_0
         have x0:=fun(x:Later w4)=>(HBX x.1 (below_next HX4.out HX4.out.size x.2)).out.2.1
         have x1:=fun(x:Later w4)=>(HBX x.1 (below_next HX4.out HX4.out.size x.2)).out.2.2.1
         have x2:=fun(x:Later w4)=>(HBX x.1 (below_next HX4.out HX4.out.size x.2)).out.2.2.2.1
         have x3:=fun(x:Later w4)=>(HBX x.1 (below_next HX4.out HX4.out.size x.2)).out.2.2.2.2
         have x4:=fun(x:Later w4)=>(HDD x.1 (below_step x.2 HB4.out)).out.1
         have x5:=fun(x:Later w4)=>(HDD x.1 (below_step x.2 HB4.out)).out.2.1
         have x6:=fun(x:Later w4)=>(HDD x.1 (below_step x.2 HB4.out)).out.2.2.1
         have x7:=fun(x:Later w4)=>(HDD x.1 (below_step x.2 HB4.out)).out.2.2.2
         refine wp_region_later (by kernel_rfl) (by kernel_rfl) ?_
         repeat (first|go_big_quiet_step ((go_at_call 89;with_reducible refine Later.call (HCC _).out))|quiet_step ((go_at_call 89;with_reducible refine Later.call (HCC _).out)))
         refine wpQuiet_nil ?_
         intro w6 hw6
         have hb6:=later_below hw6
         have HB:=Lib.hid (below_next HB.out (Nat.le_trans HBW.out HB.out.size) hb6)
         clear hw6 hb6 x0 x1 x2 x3 x4 x5 x6 x7
         go_wp2_with fail
         go_roundw
         case rel=>exact⟨k+1,m,by omega,by go_num,rfl,HV.out.symm,HB.out⟩
         case measure=>simp[intOf];omega
    ·have HV:=Lib.hid (show arK l q but (k+1)=s from HNX.out.trans (by simp))
     go_wp2_with fail
     refine(HTC _ (below_alloc (Below.refl _ _))).out.mono ?_
     rintro e w3 ⟨rfl,hb3⟩
     have HX3:=Lib.hid hb3
     have HB3:=Lib.hid (below_step hb3 (below_alloc (Below.refl wr.heap.size wr)))
     have HB:=Lib.hid (HB.out.trans (HB3.out.mono HSW.out))
     clear hb3
     obtain⟨x0, -⟩:=(HBX _ HX3.out).out
     clear q2_0 q2_1 r2_0
     obtain⟨q13_0,q13_1⟩:=(HC _ HB.out).out
     have r13_0:=Nat.lt_of_lt_of_le (show w.heap.size<W.heap.size by have:=HWs.out;omega) HB.out.size
     go_wp2_with fail
     go_roundw
     case rel=>exact⟨k+1,s,by omega,by go_num,rfl,HV.out.symm,HB.out⟩
     case measure=>simp[intOf];omega
  ·obtain rfl:k=n:=by omega
   have F:=Lib.hid (show s=aroundP l q but from by rw[HSK.out];unfold arK aroundP;rw[HN.out])
   go_wp2_with fail
   go_ret
   exact⟨by rw[←F.out];rfl,(HW.out.trans (HB.out.mono (by have:=HWs.out;omega)))⟩
end Go.Proofs.Ythopjhifepijiaa
namespace Go.Proofs.Ythopjhifepijiaa
open Go.RowKit Go.Joins
open Go.Maps (Keyed)
def HdR (lo hi:Nat) (w:World) (x:Value) (R:List Hf):Prop:=(R=[]∧x= .slice none 0 0)∨ ∃g c,x= .slice (some ⟨g,0,none⟩) R.length c∧lo≤g∧g<hi∧HsAt w g 0 R
theorem HdR.touch {lo hi:Nat} {w w':World} {x:Value} {R:List Hf} {F:List Nat} (h:HdR lo hi w x R) (t:Touch F w w') (hw:hi≤w.heap.size) (hF: ∀b∈F,b<lo∨hi≤b):HdR lo hi w' x R:=
 h.imp id (fun⟨g,c,e,h1,h2,hs⟩=>⟨g,c,e,h1,h2,hs.touch t (by omega) (fun hm=>by have:=hF g hm;omega)⟩)
structure Fam (w:World) (t:TypeId) (size lo:Nat) (V:Nat→Value) (N:Nat→Nat) (C:Nat→List Value):Prop where
 own: ∀i,w.ownsRow lo t size (V i) (N i) (C i)
 apart: ∀i j b,(V i).ownBlock=some b→(V j).ownBlock=some b→i=j
def upd {α:Type} (f:Nat→α) (i:Nat) (x:α):Nat→α:=fun j=>if j=i then x else f j
section
variable {w w' w2:World} {t:TypeId} {size lo:Nat} {V:Nat→Value} {N:Nat→Nat} {C:Nat→List Value}
theorem Fam.nil (w:World) (t:TypeId) (size lo:Nat):Fam w t size lo (fun _=> .slice none 0 0) (fun _=>0) (fun _=>[]):=⟨fun i=>World.ownsRow_nil _ _ _ _,fun i j b h=>by cases h⟩
theorem Fam.touch {F:List Nat} (h:Fam w t size lo V N C) (k:Touch F w w') (hF: ∀i b,(V i).ownBlock=some b→b∉F):Fam w' t size lo V N C:=⟨fun i=>ownsRow_touch (h.own i) k (hF i),h.apart⟩
theorem Fam.low {F:List Nat} (h:Fam w t size lo V N C) (k:Touch F w w') (hF: ∀b∈F,b<lo):Fam w' t size lo V N C:=h.touch k (fun i b hb hm=>by have:=((h.own i).lt b hb).1;have:=hF b hm;omega)
theorem Fam.put (h:Fam w t size lo V N C) (b:Below w.heap.size w w2) (i:Nat) {v:Value} {n:Nat} {c:List Value} (ho:w'.ownsRow lo t size v n c) (k:w2.grownBy w' (V i).ownBlock) (hat: ∀g,v.ownBlock=some g→(V i).ownBlock=some g∨w2.heap.size≤g):Fam w' t size lo (upd V i v) (upd N i n) (upd C i c):=by
 have kk:=(Touch.of_below (F:=(V i).ownBlock.toList) b).trans (Touch.of_grown k) (fun x hx=> .inl hx)
 have hne: ∀j g,j≠i→(V j).ownBlock=some g→g∉(V i).ownBlock.toList:=fun j g hj hg hm=>hj (h.apart j i g hg (Option.mem_toList.1 hm))
 have hnv: ∀j g,j≠i→(V j).ownBlock=some g→v.ownBlock=some g→False:=fun j g hj hg hv=>by
  rcases hat g hv with h1|h1
  ·exact hj (h.apart j i g hg h1)
  ·have:=((h.own j).lt g hg).2
   have:=b.size
   omega
 refine⟨fun j=> ?_,fun j l g hj hl=> ?_⟩
 ·unfold upd
  by_cases e:j=i
  ·rw[if_pos e,if_pos e,if_pos e];exact ho
  ·rw[if_neg e,if_neg e,if_neg e]
   exact ownsRow_touch (h.own j) kk (fun g hg=>hne j g e hg)
 ·unfold upd at hj hl
  by_cases e1:j=i
  ·by_cases e2:l=i
   ·rw[e1,e2]
   ·rw[if_pos e1] at hj
    rw[if_neg e2] at hl
    exact(hnv l g e2 hl hj).elim
  ·rw[if_neg e1] at hj
   by_cases e2:l=i
   ·rw[if_pos e2] at hl
    exact(hnv j g e1 hj hl).elim
   ·rw[if_neg e2] at hl
    exact h.apart j l g hj hl
end
def rmAt (l:List RM) (i:Nat):RM:=l.getD i ⟨[],[],[]⟩
def HdRs (lo hi:Nat) (w:World) (Z:List Value) (L:List (List Hf)):Prop:=Z.length=L.length∧ ∀(i:Nat) (z:Value) (R:List Hf),Z[i]? =some z→L[i]? =some R→HdR lo hi w z R
theorem HdRs.nil (lo hi:Nat) (w:World):HdRs lo hi w [] []:=⟨rfl,fun i z R h=>by simp at h⟩
theorem HdRs.touch {lo hi:Nat} {w w':World} {Z:List Value} {L:List (List Hf)} {F:List Nat} (h:HdRs lo hi w Z L) (t:Touch F w w') (hw:hi≤w.heap.size) (hF: ∀b∈F,b<lo∨hi≤b):HdRs lo hi w' Z L:=
 ⟨h.1,fun i z R hz hR=>(h.2 i z R hz hR).touch t hw hF⟩
theorem HdRs.snoc {lo hi:Nat} {w:World} {Z:List Value} {L:List (List Hf)} {z:Value} {R:List Hf} (h:HdRs lo hi w Z L) (hz:HdR lo hi w z R):HdRs lo hi w (Z++[z]) (L++[R]):=by
 refine⟨by rw[List.length_append,List.length_append,h.1];rfl,fun i x S hx hS=> ?_⟩
 by_cases hi:i<Z.length
 ·rw[List.getElem?_append_left hi] at hx
  rw[List.getElem?_append_left (by rw[←h.1];exact hi)] at hS
  exact h.2 i x S hx hS
 ·rw[List.getElem?_append_right (by omega)] at hx
  rw[List.getElem?_append_right (by rw[←h.1];omega), ←h.1] at hS
  have h0:i - Z.length=0:=by have:=(List.getElem?_eq_some_iff.1 hx).1;simp at this;omega
  rw[h0] at hx hS
  simp at hx hS
  subst hx hS
  exact hz
structure RlM (tR tS tI:TypeId) (lo hi bs:Nat) (w:World) (v:Value) (l:List RM) (H VI VA:Nat→Value) (ZI:Nat→List Value):Prop where
 row:w.ownsRow 0 tR 3 v l.length ((List.range l.length).flatMap fun i=>[H i,VI i,VA i])
 hd: ∀i,i<l.length→HdR lo hi w (H i) (rmAt l i).outer
 le:hi≤bs
 fi:Fam w tS 1 bs VI (fun i=>(ZI i).length) ZI
 hin: ∀i,HdRs lo hi w (ZI i) (rmAt l i).inner
 fa:Fam w tI 1 bs VA (fun i=>(rmAt l i).alone.length) (fun i=>(rmAt l i).alone.map (Value.int .i64))
 vi: ∀i,l.length≤i→VI i= .slice none 0 0
 va: ∀i,l.length≤i→VA i= .slice none 0 0
theorem RlM.touch {tR tS tI:TypeId} {lo hi bs:Nat} {w w':World} {v:Value} {l:List RM} {H VI VA:Nat→Value} {ZI:Nat→List Value} {F:List Nat} (h:RlM tR tS tI lo hi bs w v l H VI VA ZI) (t:Touch F w w') (hw:hi≤w.heap.size)
  (h1: ∀b∈F,b<lo∨hi≤b) (h2: ∀b,v.ownBlock=some b→b∉F) (h3: ∀i b,(VI i).ownBlock=some b→b∉F) (h4: ∀i b,(VA i).ownBlock=some b→b∉F):RlM tR tS tI lo hi bs w' v l H VI VA ZI:=
 ⟨ownsRow_touch h.row t h2,fun i hi'=>(h.hd i hi').touch t hw h1,h.le,h.fi.touch t h3,fun i=>(h.hin i).touch t hw h1,h.fa.touch t h4,h.vi,h.va⟩
theorem own_alloc (w:World) (base size n:Nat) (t:TypeId) (l:List Value) (hb:base≤w.heap.size) (hl:l.length=n*size) (hn:n≤maxLen):(w.alloc (.cells l.toArray t)).ownsRow base t size (.slice (some ⟨w.heap.size,0,none⟩) n n) n l:=by
 refine⟨hl, .inr ⟨w.heap.size,n,l.toArray,rfl,hb, ?_,Nat.le_refl _,hn,by simpa using hl, ?_⟩⟩
 ·show(w.heap.push _)[w.heap.size]? =_
  rw[Array.getElem?_push_size]
 ·simp[List.take_of_length_le (Nat.le_of_eq hl)]
theorem own_set {w:World} {base g n cap size:Nat} {e:TypeId} {xs:List Value} (h:w.ownsRow base e size (.slice (some ⟨g,0,none⟩) n cap) n xs) {j:Nat} (hj:j<n*size) (x:Value):(w.setCell ⟨g,j,none⟩ x).ownsRow base e size (.slice (some ⟨g,0,none⟩) n cap) n (xs.set j x):=by
 obtain⟨hl,h0|⟨g',cap',cur,hv,hb,hg,h1,h2,h3,h4⟩⟩:=h
 ·cases h0.1
 ·cases hv
  refine⟨by rw[List.length_set];exact hl, .inr ⟨g,cap,cur.setIfInBounds j x,rfl,hb, ?_,h1,h2,by simpa using h3, ?_⟩⟩
  ·simp only[World.setCell,Array.getElem?_modify,if_true,hg,Option.map_some]
   simp
  ·rw[Array.toList_setIfInBounds, ←h4,List.take_set]
theorem range_flat_set (H VI VA:Nat→Value) (k i c:Nat) (hi:i<k) (hc:c<3) (x:Value) (f':Nat→List Value) (hf: ∀j,f' j=if j=i then([H j,VI j,VA j]:List Value).set c x else [H j,VI j,VA j]):
  ((List.range k).flatMap fun i=>[H i,VI i,VA i]).set (i*3+c) x=(List.range k).flatMap f':=by
 have hlen: ∀(F:Nat→List Value),(∀j,(F j).length=3)→((List.range k).flatMap F).length=k*3:=fun F h=>by
  induction k with
  |zero=>simp
  |succ n ih=>clear hi;rw[List.range_succ,List.flatMap_append,List.length_append,show((List.range n).flatMap F).length=n*3 from by
    clear ih
    induction n with
    |zero=>simp
    |succ m ihm=>rw[List.range_succ,List.flatMap_append,List.length_append,ihm];simp[h];omega];simp[h];omega
 have hf3: ∀j,(f' j).length=3:=fun j=>by rw[hf];split<;>simp
 apply List.ext_getElem?
 intro q
 by_cases hq:q<k*3
 ·have hd:q / 3<k:=by omega
  have g1:=flatMap_get (n:=3) (f:=fun i=>[H i,VI i,VA i]) (fun _=>rfl) (List.range k) (q / 3) (q % 3) (q / 3) _ (by rw[List.getElem?_range hd]) (List.getElem?_eq_getElem (l:=[H (q / 3),VI (q / 3),VA (q / 3)]) (i:=q % 3) (by simp;omega))
  have g2:=flatMap_get (n:=3) (f:=f') hf3 (List.range k) (q / 3) (q % 3) (q / 3) _ (by rw[List.getElem?_range hd]) (List.getElem?_eq_getElem (l:=f' (q / 3)) (i:=q % 3) (by rw[hf3];omega))
  rw[show q / 3*3+q % 3=q by omega] at g1 g2
  rw[g2]
  by_cases e:q=i*3+c
  ·rw[e,List.getElem?_set_self (by rw[hlen _ (fun _=>rfl)];omega)]
   have e1:(i*3+c) / 3=i:=by omega
   have e2:(i*3+c) % 3=c:=by omega
   subst e
   rw[←List.getElem?_eq_getElem,hf,e1,e2,if_pos rfl,List.getElem?_set_self (by simpa using hc)]
  ·rw[List.getElem?_set_ne (Ne.symm e),g1, ←List.getElem?_eq_getElem, ←List.getElem?_eq_getElem,hf]
   by_cases e3:q / 3=i
   ·rw[if_pos e3,List.getElem?_set_ne (by omega)]
   ·rw[if_neg e3]
 ·rw[List.getElem?_eq_none (by rw[List.length_set,hlen _ (fun _=>rfl)];omega),List.getElem?_eq_none (by rw[hlen _ hf3];omega)]
theorem rmAt_addI (l:List RM) (i:Nat) (L:List Hf) (j:Nat) (hi:i<l.length):rmAt (addI l i L) j=if j=i then { rmAt l j with inner:=(rmAt l j).inner++[L] } else rmAt l j:=by
 unfold rmAt addI
 rw[List.getD_eq_getElem?_getD,List.getD_eq_getElem?_getD,List.getElem?_modify]
 by_cases e:j=i
 ·subst e
  simp[List.getElem?_eq_getElem hi]
 ·have e2: ¬i=j:=fun h=>e h.symm
  rw[if_neg e]
  cases l[j]? <;>simp[e2]
theorem rmAt_addA (l:List RM) (i:Nat) (id:Int) (j:Nat) (hi:i<l.length):rmAt (addA l i id) j=if j=i then { rmAt l j with alone:=(rmAt l j).alone++[id] } else rmAt l j:=by
 unfold rmAt addA
 rw[List.getD_eq_getElem?_getD,List.getD_eq_getElem?_getD,List.getElem?_modify]
 by_cases e:j=i
 ·subst e
  simp[List.getElem?_eq_getElem hi]
 ·have e2: ¬i=j:=fun h=>e h.symm
  rw[if_neg e]
  cases l[j]? <;>simp[e2]
theorem len_addI (l:List RM) (i:Nat) (L:List Hf):(addI l i L).length=l.length:=List.length_modify _ _ _
theorem len_addA (l:List RM) (i:Nat) (id:Int):(addA l i id).length=l.length:=List.length_modify _ _ _
theorem RlM.addI {tR tS tI:TypeId} {lo hi bs:Nat} {w w2 w':World} {l:List RM} {H VI VA:Nat→Value} {ZI:Nat→List Value} {g cap i:Nat} (h:RlM tR tS tI lo hi bs w (.slice (some ⟨g,0,none⟩) l.length cap) l H VI VA ZI) (hi':i<l.length) {L:List Hf} {z:Value} {g2 cap2:Nat}
  (hz:HdR lo hi w z L) (hw:hi≤w.heap.size) (b:Below w.heap.size w w2) (ho:w'.ownsRow bs tS 1 (.slice (some ⟨g2,0,none⟩) ((ZI i).length+1) cap2) ((ZI i).length+1) (ZI i++[z])) (k:w2.grownBy w' (VI i).ownBlock) (hat:(VI i).ownBlock=some g2∨w2.heap.size≤g2)
  (n1:tR≠tS) (n2:tI≠tS) (n3:tI≠tR) (hg:g<lo∨hi≤g):
  RlM tR tS tI lo hi bs (w'.setCell ⟨g,i*3+1,none⟩ (.slice (some ⟨g2,0,none⟩) ((ZI i).length+1) cap2)) (.slice (some ⟨g,0,none⟩) l.length cap) (addI l i L) H (upd VI i (.slice (some ⟨g2,0,none⟩) ((ZI i).length+1) cap2)) VA (upd ZI i (ZI i++[z])):=by
 have k1:=(Touch.of_below (F:=(VI i).ownBlock.toList) b).trans (Touch.of_grown k) (fun x hx=> .inl hx)
 have hF1: ∀x∈(VI i).ownBlock.toList,x<lo∨hi≤x:=fun x hx=> .inr (Nat.le_trans h.le ((h.fi.own i).lt x (Option.mem_toList.1 hx)).1)
 have hgF:g∉(VI i).ownBlock.toList:=fun hm=>own_apart h.row (h.fi.own i) n1 (g:=g) rfl (Option.mem_toList.1 hm)
 have row1:=ownsRow_touch h.row k1 (fun x hx=>by cases hx;exact hgF)
 have k2:Touch [g] w' (w'.setCell ⟨g,i*3+1,none⟩ (.slice (some ⟨g2,0,none⟩) ((ZI i).length+1) cap2)):=(Touch.refl _ _).setCell (.inl (by simp)) _
 have fi1:=h.fi.put b i ho k (fun q hq=>by cases hq;exact hat)
 have hsz:hi≤w'.heap.size:=Nat.le_trans hw k1.size
 have hF2: ∀x∈[g],x<lo∨hi≤x:=fun x hx=>by simp at hx;subst hx;exact hg
 have hgv: ∀j q,(upd VI i (.slice (some ⟨g2,0,none⟩) ((ZI i).length+1) cap2) j).ownBlock=some q→q∉ [g]:=fun j q hq hm=>by
  simp at hm;subst hm
  exact own_apart row1 (fi1.own j) n1 (g:=q) rfl hq
 have hav: ∀j q,(VA j).ownBlock=some q→q∉(VI i).ownBlock.toList:=fun j q hq hm=>own_apart (h.fa.own j) (h.fi.own i) n2 hq (Option.mem_toList.1 hm)
 have fa1:=h.fa.touch k1 hav
 have hag: ∀j q,(VA j).ownBlock=some q→q∉ [g]:=fun j q hq hm=>by
  simp at hm;subst hm
  exact own_apart (fa1.own j) row1 n3 hq rfl
 have eal:(fun j=>(rmAt (_root_.Go.Proofs.Ythopjhifepijiaa.addI l i L) j).alone)=fun j=>(rmAt l j).alone:=by
  funext j
  rw[rmAt_addI l i L j hi']
  split<;>rfl
 refine⟨?_,fun j hj=> ?_,h.le, ?_,fun j=> ?_, ?_,fun j hj=> ?_,fun j hj=> ?_⟩
 ·have:=own_set row1 (j:=i*3+1) (by omega) (.slice (some ⟨g2,0,none⟩) ((ZI i).length+1) cap2)
  rw[range_flat_set H VI VA l.length i 1 hi' (by omega) _ (fun j=>[H j,upd VI i (.slice (some ⟨g2,0,none⟩) ((ZI i).length+1) cap2) j,VA j]) (fun j=>by
   unfold upd
   by_cases e:j=i
   ·rw[if_pos e,if_pos e];rfl
   ·rw[if_neg e,if_neg e])] at this
  rw[len_addI]
  exact this
 ·rw[len_addI] at hj
  have:=((h.hd j hj).touch k1 hw hF1).touch k2 hsz hF2
  rw[rmAt_addI l i L j hi']
  split<;>exact this
 ·have e:(upd (fun i=>(ZI i).length) i ((ZI i).length+1))=fun j=>(upd ZI i (ZI i++[z]) j).length:=by
   funext j
   unfold upd
   split
   ·simp
   ·rfl
  rw[e] at fi1
  exact fi1.touch k2 hgv
 ·rw[rmAt_addI l i L j hi']
  unfold upd
  by_cases e:j=i
  ·subst e
   rw[if_pos rfl,if_pos rfl]
   exact(((h.hin j).touch k1 hw hF1).touch k2 hsz hF2).snoc ((hz.touch k1 hw hF1).touch k2 hsz hF2)
  ·rw[if_neg e,if_neg e]
   exact((h.hin j).touch k1 hw hF1).touch k2 hsz hF2
 ·have e1:(fun j=>(rmAt (_root_.Go.Proofs.Ythopjhifepijiaa.addI l i L) j).alone.length)=fun j=>(rmAt l j).alone.length:=by funext j;rw[congrFun eal j]
  have e2:(fun j=>(rmAt (_root_.Go.Proofs.Ythopjhifepijiaa.addI l i L) j).alone.map (Value.int .i64))=fun j=>(rmAt l j).alone.map (Value.int .i64):=by funext j;rw[congrFun eal j]
  rw[e1,e2]
  exact fa1.touch k2 hag
 ·rw[len_addI] at hj
  unfold upd
  rw[if_neg (by omega)]
  exact h.vi j hj
 ·rw[len_addI] at hj
  exact h.va j hj
end Go.Proofs.Ythopjhifepijiaa
namespace Go.Proofs.Ythopjhifepijiaa
open Go.RowKit Go.Joins
open Go.Maps (Keyed)
theorem RlM.addA {tR tS tI:TypeId} {lo hi bs:Nat} {w w2 w':World} {l:List RM} {H VI VA:Nat→Value} {ZI:Nat→List Value} {g cap i:Nat} (h:RlM tR tS tI lo hi bs w (.slice (some ⟨g,0,none⟩) l.length cap) l H VI VA ZI) (hi':i<l.length) {id:Int} {g2 cap2:Nat}
  (hw:hi≤w.heap.size) (b:Below w.heap.size w w2) (ho:w'.ownsRow bs tI 1 (.slice (some ⟨g2,0,none⟩) ((rmAt l i).alone.length+1) cap2) ((rmAt l i).alone.length+1) ((rmAt l i).alone.map (Value.int .i64)++[.int .i64 id])) (k:w2.grownBy w' (VA i).ownBlock) (hat:(VA i).ownBlock=some g2∨w2.heap.size≤g2)
  (n1:tR≠tI) (n2:tS≠tI) (n3:tS≠tR) (hg:g<lo∨hi≤g):
  RlM tR tS tI lo hi bs (w'.setCell ⟨g,i*3+2,none⟩ (.slice (some ⟨g2,0,none⟩) ((rmAt l i).alone.length+1) cap2)) (.slice (some ⟨g,0,none⟩) l.length cap) (addA l i id) H VI (upd VA i (.slice (some ⟨g2,0,none⟩) ((rmAt l i).alone.length+1) cap2)) ZI:=by
 have k1:=(Touch.of_below (F:=(VA i).ownBlock.toList) b).trans (Touch.of_grown k) (fun x hx=> .inl hx)
 have hF1: ∀x∈(VA i).ownBlock.toList,x<lo∨hi≤x:=fun x hx=> .inr (Nat.le_trans h.le ((h.fa.own i).lt x (Option.mem_toList.1 hx)).1)
 have hgF:g∉(VA i).ownBlock.toList:=fun hm=>own_apart h.row (h.fa.own i) n1 (g:=g) rfl (Option.mem_toList.1 hm)
 have row1:=ownsRow_touch h.row k1 (fun x hx=>by cases hx;exact hgF)
 have k2:Touch [g] w' (w'.setCell ⟨g,i*3+2,none⟩ (.slice (some ⟨g2,0,none⟩) ((rmAt l i).alone.length+1) cap2)):=(Touch.refl _ _).setCell (.inl (by simp)) _
 have fa1:=h.fa.put b i ho k (fun q hq=>by cases hq;exact hat)
 have hsz:hi≤w'.heap.size:=Nat.le_trans hw k1.size
 have hF2: ∀x∈[g],x<lo∨hi≤x:=fun x hx=>by simp at hx;subst hx;exact hg
 have hgv: ∀j q,(upd VA i (.slice (some ⟨g2,0,none⟩) ((rmAt l i).alone.length+1) cap2) j).ownBlock=some q→q∉ [g]:=fun j q hq hm=>by
  simp at hm;subst hm
  exact own_apart row1 (fa1.own j) n1 (g:=q) rfl hq
 have hav: ∀j q,(VI j).ownBlock=some q→q∉(VA i).ownBlock.toList:=fun j q hq hm=>own_apart (h.fi.own j) (h.fa.own i) n2 hq (Option.mem_toList.1 hm)
 have fi1:=h.fi.touch k1 hav
 have hag: ∀j q,(VI j).ownBlock=some q→q∉ [g]:=fun j q hq hm=>by
  simp at hm;subst hm
  exact own_apart (fi1.own j) row1 n3 hq rfl
 refine⟨?_,fun j hj=> ?_,h.le,fi1.touch k2 hag,fun j=> ?_, ?_,fun j hj=> ?_,fun j hj=> ?_⟩
 ·have:=own_set row1 (j:=i*3+2) (by omega) (.slice (some ⟨g2,0,none⟩) ((rmAt l i).alone.length+1) cap2)
  rw[range_flat_set H VI VA l.length i 2 hi' (by omega) _ (fun j=>[H j,VI j,upd VA i (.slice (some ⟨g2,0,none⟩) ((rmAt l i).alone.length+1) cap2) j]) (fun j=>by
   unfold upd
   by_cases e:j=i
   ·rw[if_pos e,if_pos e];rfl
   ·rw[if_neg e,if_neg e])] at this
  rw[len_addA]
  exact this
 ·rw[len_addA] at hj
  have:=((h.hd j hj).touch k1 hw hF1).touch k2 hsz hF2
  rw[rmAt_addA l i id j hi']
  split<;>exact this
 ·have:=((h.hin j).touch k1 hw hF1).touch k2 hsz hF2
  rw[rmAt_addA l i id j hi']
  split<;>exact this
 ·have e1:(upd (fun i=>(rmAt l i).alone.length) i ((rmAt l i).alone.length+1))=fun j=>(rmAt (_root_.Go.Proofs.Ythopjhifepijiaa.addA l i id) j).alone.length:=by
   funext j
   rw[rmAt_addA l i id j hi']
   unfold upd
   by_cases e:j=i
   ·subst e;simp
   ·rw[if_neg e,if_neg e]
  have e2:(upd (fun i=>(rmAt l i).alone.map (Value.int .i64)) i ((rmAt l i).alone.map (Value.int .i64)++[.int .i64 id]))=fun j=>(rmAt (_root_.Go.Proofs.Ythopjhifepijiaa.addA l i id) j).alone.map (Value.int .i64):=by
   funext j
   rw[rmAt_addA l i id j hi']
   unfold upd
   by_cases e:j=i
   ·subst e;simp
   ·rw[if_neg e,if_neg e]
  rw[e1,e2] at fa1
  exact fa1.touch k2 hgv
 ·rw[len_addA] at hj
  exact h.vi j hj
 ·rw[len_addA] at hj
  unfold upd
  rw[if_neg (by omega)]
  exact h.va j hj
theorem flat_congr {α β:Type} {f g:α→List β}: ∀ {l:List α},(∀x∈l,f x=g x)→l.flatMap f=l.flatMap g
 | [],_=>rfl
 |x::l,h=>by rw[List.flatMap_cons,List.flatMap_cons,h x (by simp),flat_congr (fun y hy=>h y (by simp[hy]))]
theorem rmAt_snoc (l:List RM) (r:RM) (j:Nat):rmAt (l++[r]) j=if j=l.length then r else rmAt l j:=by
 unfold rmAt
 rw[List.getD_eq_getElem?_getD,List.getD_eq_getElem?_getD]
 by_cases e:j=l.length
 ·subst e;simp
 ·rw[if_neg e]
  by_cases h:j<l.length
  ·rw[List.getElem?_append_left h]
  ·rw[List.getElem?_eq_none (by simp;omega),List.getElem?_eq_none (by omega)]
theorem rmAt_out (l:List RM) (j:Nat) (h:l.length≤j):rmAt l j=⟨[],[],[]⟩:=by unfold rmAt;rw[List.getD_eq_getElem?_getD,List.getElem?_eq_none h];rfl
theorem RlM.snoc {tR tS tI:TypeId} {lo hi bs:Nat} {w w2 w':World} {l:List RM} {v:Value} {H VI VA:Nat→Value} {ZI:Nat→List Value} (h:RlM tR tS tI lo hi bs w v l H VI VA ZI) {L:List Hf} {z:Value} {g2 cap2:Nat}
  (hz:HdR lo hi w z L) (hw:hi≤w.heap.size) (b:Below w.heap.size w w2) (ho:w'.ownsRow 0 tR 3 (.slice (some ⟨g2,0,none⟩) (l.length+1) cap2) (l.length+1) (((List.range l.length).flatMap fun i=>[H i,VI i,VA i])++[z, .slice none 0 0, .slice none 0 0])) (k:w2.grownBy w' v.ownBlock)
  (n1:tS≠tR) (n2:tI≠tR) (hg: ∀b,v.ownBlock=some b→b<lo∨hi≤b):
  RlM tR tS tI lo hi bs w' (.slice (some ⟨g2,0,none⟩) (l.length+1) cap2) (l++[⟨L,[],[]⟩]) (upd H l.length z) VI VA ZI:=by
 have k1:=(Touch.of_below (F:=v.ownBlock.toList) b).trans (Touch.of_grown k) (fun x hx=> .inl hx)
 have hF1: ∀x∈v.ownBlock.toList,x<lo∨hi≤x:=fun x hx=>hg x (Option.mem_toList.1 hx)
 have hav: ∀j q,(VA j).ownBlock=some q→q∉v.ownBlock.toList:=fun j q hq hm=>own_apart (h.fa.own j) h.row n2 hq (Option.mem_toList.1 hm)
 have hiv: ∀j q,(VI j).ownBlock=some q→q∉v.ownBlock.toList:=fun j q hq hm=>own_apart (h.fi.own j) h.row n1 hq (Option.mem_toList.1 hm)
 have e0:=rmAt_out l l.length (Nat.le_refl _)
 have ea: ∀j,(rmAt (l++[⟨L,[],[]⟩]) j).alone=(rmAt l j).alone:=fun j=>by
  rw[rmAt_snoc]
  split
  ·rename_i e;rw[e,e0]
  ·rfl
 have ei: ∀j,(rmAt (l++[⟨L,[],[]⟩]) j).inner=(rmAt l j).inner:=fun j=>by
  rw[rmAt_snoc]
  split
  ·rename_i e;rw[e,e0]
  ·rfl
 refine⟨?_,fun j hj=> ?_,h.le,h.fi.touch k1 hiv,fun j=> ?_, ?_,fun j hj=> ?_,fun j hj=> ?_⟩
 ·rw[List.length_append]
  show w'.ownsRow 0 tR 3 _ (l.length+1) _
  rw[show l.length+[(⟨L,[],[]⟩:RM)].length=l.length+1 from rfl,List.range_succ,List.flatMap_append]
  have e1:(List.range l.length).flatMap (fun i=>[upd H l.length z i,VI i,VA i])=(List.range l.length).flatMap (fun i=>[H i,VI i,VA i]):=by
   refine flat_congr (fun j hj=> ?_)
   have:=List.mem_range.1 hj
   unfold upd
   rw[if_neg (by omega)]
  rw[e1]
  have e2:[l.length].flatMap (fun i=>[upd H l.length z i,VI i,VA i])=[z, .slice none 0 0, .slice none 0 0]:=by
   show [upd H l.length z l.length,VI l.length,VA l.length]++[]=_
   unfold upd
   rw[if_pos rfl,h.vi _ (Nat.le_refl _),h.va _ (Nat.le_refl _)]
   rfl
  rw[e2]
  exact ho
 ·rw[rmAt_snoc]
  unfold upd
  by_cases e:j=l.length
  ·rw[if_pos e,if_pos e]
   exact hz.touch k1 hw hF1
  ·rw[if_neg e,if_neg e]
   rw[List.length_append] at hj
   exact(h.hd j (by simp at hj;omega)).touch k1 hw hF1
 ·rw[ei j]
  exact(h.hin j).touch k1 hw hF1
 ·have e1:(fun j=>(rmAt (l++[⟨L,[],[]⟩]) j).alone.length)=fun j=>(rmAt l j).alone.length:=by funext j;rw[ea j]
  have e2:(fun j=>(rmAt (l++[⟨L,[],[]⟩]) j).alone.map (Value.int .i64))=fun j=>(rmAt l j).alone.map (Value.int .i64):=by funext j;rw[ea j]
  rw[e1,e2]
  exact h.fa.touch k1 hav
 ·rw[List.length_append] at hj
  exact h.vi j (by omega)
 ·rw[List.length_append] at hj
  exact h.va j (by omega)
theorem RlM.start {tR tS tI:TypeId} {lo hi bs:Nat} {w':World} {g cap:Nat} (hbs:hi≤bs) (ho:w'.ownsRow 0 tR 3 (.slice (some ⟨g,0,none⟩) 1 cap) 1 [.slice none 0 0, .slice none 0 0, .slice none 0 0]):RlM tR tS tI lo hi bs w' (.slice (some ⟨g,0,none⟩) 1 cap) [⟨[],[],[]⟩] (fun _=> .slice none 0 0) (fun _=> .slice none 0 0) (fun _=> .slice none 0 0) (fun _=>[]):=by
 have e: ∀j,rmAt [⟨[],[],[]⟩] j=⟨[],[],[]⟩:=fun j=>by
  unfold rmAt
  rcases j with _|j<;>rfl
 refine⟨ho,fun j hj=> ?_,hbs,Fam.nil _ _ _ _,fun j=> ?_, ?_,fun _ _=>rfl,fun _ _=>rfl⟩
 ·rw[e];exact .inl ⟨rfl,rfl⟩
 ·rw[e];exact HdRs.nil _ _ _
 ·have e1:(fun i=>(rmAt [⟨[],[],[]⟩] i).alone.length)=fun _=>0:=by funext j;rw[e];rfl
  have e2:(fun i=>(rmAt [⟨[],[],[]⟩] i).alone.map (Value.int .i64))=fun _=>[]:=by funext j;rw[e];rfl
  rw[e1,e2]
  exact Fam.nil _ _ _ _
theorem RlM.rebase {tR tS tI:TypeId} {lo hi bs bs':Nat} {w:World} {l:List RM} {v:Value} {H:Nat→Value} {ZI:Nat→List Value} (h:RlM tR tS tI lo hi bs w v l H (fun _=> .slice none 0 0) (fun _=> .slice none 0 0) ZI) (hb:hi≤bs'):RlM tR tS tI lo hi bs' w v l H (fun _=> .slice none 0 0) (fun _=> .slice none 0 0) ZI:=by
 have re: ∀ {t:TypeId} {n:Nat} {xs:List Value},w.ownsRow bs t 1 (.slice none 0 0) n xs→w.ownsRow bs' t 1 (.slice none 0 0) n xs:=fun h=>by
  obtain⟨h1,h2|⟨g,c,cur,e, -⟩⟩:=h
  ·exact⟨h1, .inl h2⟩
  ·cases e
 exact⟨h.row,h.hd,hb,⟨fun i=>re (h.fi.own i),fun i j b e=>by cases e⟩,h.hin,⟨fun i=>re (h.fa.own i),fun i j b e=>by cases e⟩,h.vi,h.va⟩
def ouC (y:Value) (o:OU):List Value:=[y, .int .u64 (wrd o.area 0), .int .u64 (wrd o.area 1), .int .u64 (wrd o.area 2), .int .u64 (wrd o.area 3), .int .i64 o.piece]
def ouAt (l:List OU) (i:Nat):OU:=l.getD i ⟨[],0,0⟩
structure OuM (tO tP:TypeId) (hi:Nat) (w:World) (v:Value) (l:List OU) (Y:Nat→Value):Prop where
 row:w.ownsRow hi tO 6 v l.length ((List.range l.length).flatMap fun i=>ouC (Y i) (ouAt l i))
 ln: ∀i,i<l.length→w.ownsRow hi tP 4 (Y i) (ouAt l i).lines.length ((ouAt l i).lines.flatMap lnC)
theorem OuM.nil (tO tP:TypeId) (hi:Nat) (w:World):OuM tO tP hi w (.slice none 0 0) [] (fun _=> .slice none 0 0):=⟨World.ownsRow_nil _ _ _ _,fun i h=>by simp at h⟩
theorem OuM.touch {tO tP:TypeId} {hi:Nat} {w w':World} {v:Value} {l:List OU} {Y:Nat→Value} {F:List Nat} (h:OuM tO tP hi w v l Y) (t:Touch F w w') (h1: ∀b,v.ownBlock=some b→b∉F) (h2: ∀i b,i<l.length→(Y i).ownBlock=some b→b∉F):OuM tO tP hi w' v l Y:=
 ⟨ownsRow_touch h.row t h1,fun i hi'=>ownsRow_touch (h.ln i hi') t (fun b hb=>h2 i b hi' hb)⟩
theorem OuM.low {tO tP:TypeId} {hi:Nat} {w w':World} {v:Value} {l:List OU} {Y:Nat→Value} {F:List Nat} (h:OuM tO tP hi w v l Y) (t:Touch F w w') (hF: ∀b∈F,b<hi):OuM tO tP hi w' v l Y:=
 h.touch t (fun b hb hm=>by have:=(h.row.lt b hb).1;have:=hF b hm;omega) (fun i b hi' hb hm=>by have:=((h.ln i hi').lt b hb).1;have:=hF b hm;omega)
theorem OuM.other {tO tP tX:TypeId} {hi base size n:Nat} {w w':World} {v x:Value} {l:List OU} {Y:Nat→Value} {xs:List Value} (h:OuM tO tP hi w v l Y) (t:Touch x.ownBlock.toList w w') (hx:w.ownsRow base tX size x n xs) (n1:tO≠tX) (n2:tP≠tX):OuM tO tP hi w' v l Y:=
 h.touch t (fun b hb hm=>own_apart h.row hx n1 hb (Option.mem_toList.1 hm)) (fun i b hi' hb hm=>own_apart (h.ln i hi') hx n2 hb (Option.mem_toList.1 hm))
theorem ouAt_snoc (l:List OU) (o:OU) (j:Nat):ouAt (l++[o]) j=if j=l.length then o else ouAt l j:=by
 unfold ouAt
 rw[List.getD_eq_getElem?_getD,List.getD_eq_getElem?_getD]
 by_cases e:j=l.length
 ·subst e;simp
 ·rw[if_neg e]
  by_cases h:j<l.length
  ·rw[List.getElem?_append_left h]
  ·rw[List.getElem?_eq_none (by simp;omega),List.getElem?_eq_none (by omega)]
theorem OuM.snoc {tO tP:TypeId} {hi:Nat} {w w2 w':World} {v:Value} {l:List OU} {Y:Nat→Value} (h:OuM tO tP hi w v l Y) {o:OU} {y:Value} {g cap:Nat} (hy:w.ownsRow hi tP 4 y o.lines.length (o.lines.flatMap lnC)) (b:Below w.heap.size w w2)
  (ho:w'.ownsRow hi tO 6 (.slice (some ⟨g,0,none⟩) (l.length+1) cap) (l.length+1) (((List.range l.length).flatMap fun i=>ouC (Y i) (ouAt l i))++ouC y o)) (k:w2.grownBy w' v.ownBlock) (n1:tP≠tO):OuM tO tP hi w' (.slice (some ⟨g,0,none⟩) (l.length+1) cap) (l++[o]) (upd Y l.length y):=by
 have k1:=(Touch.of_below (F:=v.ownBlock.toList) b).trans (Touch.of_grown k) (fun x hx=> .inl hx)
 refine⟨?_,fun i hi'=> ?_⟩
 ·rw[show(l++[o]).length=l.length+1 by simp,List.range_succ,List.flatMap_append]
  have e1:(List.range l.length).flatMap (fun i=>ouC (upd Y l.length y i) (ouAt (l++[o]) i))=(List.range l.length).flatMap (fun i=>ouC (Y i) (ouAt l i)):=flat_congr (fun j hj=>by
   have:=List.mem_range.1 hj
   rw[ouAt_snoc]
   unfold upd
   rw[if_neg (by omega),if_neg (by omega)])
  have e2:[l.length].flatMap (fun i=>ouC (upd Y l.length y i) (ouAt (l++[o]) i))=ouC y o:=by
   show ouC (upd Y l.length y l.length) (ouAt (l++[o]) l.length)++[]=_
   rw[ouAt_snoc,List.append_nil]
   unfold upd
   rw[if_pos rfl,if_pos rfl]
  rw[e1,e2]
  exact ho
 ·rw[ouAt_snoc]
  unfold upd
  by_cases e:i=l.length
  ·rw[if_pos e,if_pos e]
   exact ownsRow_touch hy k1 (fun q hq hm=>own_apart hy h.row n1 hq (Option.mem_toList.1 hm))
  ·rw[if_neg e,if_neg e]
   rw[List.length_append] at hi'
   have hi2:i<l.length:=by simp at hi';omega
   exact ownsRow_touch (h.ln i hi2) k1 (fun q hq hm=>own_apart (h.ln i hi2) h.row n1 hq (Option.mem_toList.1 hm))
theorem OuM.in_ {tO tP:TypeId} {hi:Nat} {w:World} {a:Option Addr} {n c:Nat} {l:List OU} {Y:Nat→Value} (h:OuM tO tP hi w (.slice a n c) l Y) (hn:n=l.length):OuIn w w.heap.size a n l:=by
 subst hn
 refine⟨rfl, ?_⟩
 rcases Nat.eq_zero_or_pos l.length with h0|h0
 ·exact .inl h0
 ·obtain⟨g,cap,e⟩:=ownsRow_form h.row h0
  injection e with e1 e2 e3
  subst e1
  refine .inr ⟨g,0,rfl,(h.row.lt g rfl).2,fun i o hi'=> ?_⟩
  have hil:=(List.getElem?_eq_some_iff.1 hi').1
  have e4:ouAt l i=o:=by unfold ouAt;rw[List.getD_eq_getElem?_getD,hi'];rfl
  have hc:=fun j u (hu:(ouC (Y i) (ouAt l i))[j]? =some u)=>(addr_add0 g (i*6+j))▸h.row.cells (g:=g) rfl (j:=i*6+j) (u:=u) (flatMap_get (n:=6) (f:=fun i=>ouC (Y i) (ouAt l i)) (fun _=>rfl) (List.range l.length) i j i u (by rw[List.getElem?_range hil]) hu)
  have hl:=h.ln i hil
  rw[e4] at hc hl
  obtain⟨ya,yc,hy⟩:=own_form hl
  rw[hy] at hl
  have c0:=hc 0 _ rfl
  rw[hy] at c0
  simp only[Nat.zero_add]
  exact⟨⟨ya,yc,c0,lnIn_of_own hl rfl⟩,hc 1 _ rfl,hc 2 _ rfl,hc 3 _ rfl,hc 4 _ rfl,hc 5 _ rfl⟩
end Go.Proofs.Ythopjhifepijiaa
namespace Go.Proofs.Ythopjhifepijiaa
open Go.RowKit Go.Joins
open Go.Maps (Keyed)
structure RK (w Wc:World) (lo b0 bu bf mu:Nat):Prop where
 lw:w.heap.size≤bu∧w.heap.size≤bf∧w.heap.size≤mu∧w.heap.size≤b0
 up:bu<lo∧bf<lo∧mu<lo∧b0<lo
 ne:bu≠b0∧bf≠b0∧mu≠b0∧bu≠mu∧bf≠mu
 le:lo≤Wc.heap.size
structure RS (w Wc wr:World) (g:Int→Int) (lo b0 bu bf mu bs:Nat) (vo vr vi:Value) (rms:List RM) (ous:List OU) (inns:List (List Hf)) (H VI VA:Nat→Value) (ZI:Nat→List Value) (Y:Nat→Value) (Zn:List Value):Prop where
 k:RK w Wc lo b0 bu bf mu
 rl:RlM 41 33 3 lo Wc.heap.size bs wr vo rms H VI VA ZI
 ob: ∀b,vo.ownBlock=some b→b=b0∨Wc.heap.size≤b
 ou:OuM 155 156 Wc.heap.size wr vr ous Y
 io:wr.ownsRow Wc.heap.size 33 1 vi inns.length Zn
 ih:HdRs lo Wc.heap.size wr Zn inns
 ib: ∀b i c,vi.ownBlock=some b→(VI i).ownBlock=some c→b≠c
 fd: ∃up,FdIn wr w.heap.size bu bf mu 1024 up∧(∃rk,Fo rk up)∧ ∀a,Rt up a (g a)
 tch:Touch [mu,b0] Wc wr
section
variable {w Wc wr w2 w':World} {g:Int→Int} {lo b0 bu bf mu bs:Nat} {vo vr vi:Value} {rms:List RM} {ous:List OU} {inns:List (List Hf)} {H VI VA:Nat→Value} {ZI:Nat→List Value} {Y:Nat→Value} {Zn:List Value}
theorem RS.size (h:RS w Wc wr g lo b0 bu bf mu bs vo vr vi rms ous inns H VI VA ZI Y Zn):Wc.heap.size≤wr.heap.size:=h.tch.size
def RF (Wc:World) (b0:Nat) (F:List Nat):Prop:= ∀b∈F,b=b0∨Wc.heap.size≤b
theorem RS.hF (h:RS w Wc wr g lo b0 bu bf mu bs vo vr vi rms ous inns H VI VA ZI Y Zn) {F:List Nat} (hF:RF Wc b0 F): ∀b∈F,b<lo∨Wc.heap.size≤b:=fun b hb=>(hF b hb).imp (fun e=>by rw[e];exact h.k.up.2.2.2) id
theorem RS.fdT (h:RS w Wc wr g lo b0 bu bf mu bs vo vr vi rms ous inns H VI VA ZI Y Zn) {F:List Nat} (hF:RF Wc b0 F) (t:Touch F wr w'): ∃up,FdIn w' w.heap.size bu bf mu 1024 up∧(∃rk,Fo rk up)∧ ∀a,Rt up a (g a):=by
 obtain⟨up,hf,hr⟩:=h.fd
 have k:=h.k
 have no: ∀q,q<lo→q≠b0→q∉F:=fun q hq hne hm=>by
  rcases hF q hm with e|e
  ·exact hne e
  ·have:=k.le;omega
 exact⟨up,hf.touch t (no _ k.up.1 k.ne.1) (no _ k.up.2.1 k.ne.2.1) (no _ k.up.2.2.1 k.ne.2.2.1),hr⟩
theorem RS.tchT (h:RS w Wc wr g lo b0 bu bf mu bs vo vr vi rms ous inns H VI VA ZI Y Zn) {F:List Nat} (hF:RF Wc b0 F) (t:Touch F wr w'):Touch [mu,b0] Wc w':=h.tch.trans t (fun b hb=>(hF b hb).imp (fun e=>by simp[e]) id)
theorem RS.below (h:RS w Wc wr g lo b0 bu bf mu bs vo vr vi rms ous inns H VI VA ZI Y Zn) (b:Below wr.heap.size wr w'):RS w Wc w' g lo b0 bu bf mu bs vo vr vi rms ous inns H VI VA ZI Y Zn:=by
 have t:Touch [] wr w':=Touch.of_below b
 have hF:RF Wc b0 []:=fun b hb=>by simp at hb
 exact⟨h.k,h.rl.touch t h.size (by simp) (by simp) (by simp) (by simp),h.ob,h.ou.touch t (by simp) (by simp),ownsRow_touch h.io t (by simp),h.ih.touch t h.size (by simp),h.ib,h.fdT hF t,h.tchT hF t⟩
theorem RS.find (h:RS w Wc wr g lo b0 bu bf mu bs vo vr vi rms ous inns H VI VA ZI Y Zn) (a:Int) (ha:fitI a):
  Calls Try.prog 92 #[.int .i64 a, .pointer (some ⟨bu,0,none⟩), .pointer (some ⟨bf,0,none⟩)] wr fun e w'=>e= .returned (.int .i64 (g a))∧RS w Wc w' g lo b0 bu bf mu bs vo vr vi rms ous inns H VI VA ZI Y Zn∧Touch [mu] wr w':=by
 obtain⟨up,hf,⟨rk,fo⟩,hg⟩:=h.fd
 refine(find_any (by omega) (rk a+1) wr up a (g a) hf fo (hg a) (Nat.lt_succ_self _) ha).mono ?_
 rintro e w1 ⟨rfl,up1,f1,s1,d1,i1,t1⟩
 have k:=h.k
 have hs:=h.size
 have hm: ∀b∈[mu],b<lo∨Wc.heap.size≤b:=fun b hb=>by simp at hb;subst hb;exact .inl k.up.2.2.1
 have kle:=k.le
 have kup:=k.up.2.2.1
 refine⟨rfl,⟨k,h.rl.touch t1 hs hm (fun b hb hx=> ?_) (fun i b hb hx=> ?_) (fun i b hb hx=> ?_),h.ob,h.ou.low t1 (fun b hb=>by simp at hb;subst hb;omega),ownsRow_touch h.io t1 (fun b hb hx=> ?_),h.ih.touch t1 hs hm,h.ib,⟨up1,i1,⟨rk,f1⟩,fun a=>(s1 a _).1 (hg a)⟩,h.tch.trans t1 (fun b hb=>by simp at hb;subst hb;simp)⟩,t1⟩
 ·simp at hx;subst hx
  rcases h.ob b hb with e|e
  ·exact k.ne.2.2.1 e
  ·omega
 ·simp at hx;subst hx
  have:=((h.rl.fi.own i).lt b hb).1
  have:=h.rl.le
  omega
 ·simp at hx;subst hx
  have:=((h.rl.fa.own i).lt b hb).1
  have:=h.rl.le
  omega
 ·simp at hx;subst hx
  have:=(h.io.lt b hb).1
  omega
theorem RF.of_io (h:RS w Wc wr g lo b0 bu bf mu bs vo vr vi rms ous inns H VI VA ZI Y Zn):RF Wc b0 vi.ownBlock.toList:=fun b hb=> .inr (h.io.lt b (Option.mem_toList.1 hb)).1
theorem RF.of_ob (h:RS w Wc wr g lo b0 bu bf mu bs vo vr vi rms ous inns H VI VA ZI Y Zn):RF Wc b0 vo.ownBlock.toList:=fun b hb=>h.ob b (Option.mem_toList.1 hb)
theorem RF.of_ou (h:RS w Wc wr g lo b0 bu bf mu bs vo vr vi rms ous inns H VI VA ZI Y Zn):RF Wc b0 vr.ownBlock.toList:=fun b hb=> .inr (h.ou.row.lt b (Option.mem_toList.1 hb)).1
theorem RS.inner (h:RS w Wc wr g lo b0 bu bf mu bs vo vr vi rms ous inns H (fun _=> .slice none 0 0) (fun _=> .slice none 0 0) ZI Y Zn) {L:List Hf} {z:Value} {g2 cap2:Nat} (hz:HdR lo Wc.heap.size wr z L) (b:Below wr.heap.size wr w2)
  (ho:w'.ownsRow Wc.heap.size 33 1 (.slice (some ⟨g2,0,none⟩) (inns.length+1) cap2) (inns.length+1) (Zn++[z])) (k:w2.grownBy w' vi.ownBlock):
  RS w Wc w' g lo b0 bu bf mu bs vo vr (.slice (some ⟨g2,0,none⟩) (inns.length+1) cap2) rms ous (inns++[L]) H (fun _=> .slice none 0 0) (fun _=> .slice none 0 0) ZI Y (Zn++[z]):=by
 have k1:=(Touch.of_below (F:=vi.ownBlock.toList) b).trans (Touch.of_grown k) (fun x hx=> .inl hx)
 have hF:=RF.of_io h
 refine⟨h.k,h.rl.touch k1 h.size (h.hF hF) (fun b hb hm=>own_apart h.rl.row h.io (by decide) hb (Option.mem_toList.1 hm)) (fun i b hb=>(by cases hb)) (fun i b hb=>(by cases hb)),h.ob,h.ou.other k1 h.io (by decide) (by decide),by rw[List.length_append];exact ho,(h.ih.touch k1 h.size (h.hF hF)).snoc (hz.touch k1 h.size (h.hF hF)),fun b i c _ hc=>(by cases hc),h.fdT hF k1,h.tchT hF k1⟩
theorem RS.part (h:RS w Wc wr g lo b0 bu bf mu bs vo vr vi rms ous inns H VI VA ZI Y Zn) {L:List Hf} {z:Value} {g2 cap2:Nat} (hz:HdR lo Wc.heap.size wr z L) (b:Below wr.heap.size wr w2)
  (ho:w'.ownsRow 0 41 3 (.slice (some ⟨g2,0,none⟩) (rms.length+1) cap2) (rms.length+1) (((List.range rms.length).flatMap fun i=>[H i,VI i,VA i])++[z, .slice none 0 0, .slice none 0 0])) (k:w2.grownBy w' vo.ownBlock) (hat:vo.ownBlock=some g2∨w2.heap.size≤g2):
  RS w Wc w' g lo b0 bu bf mu bs (.slice (some ⟨g2,0,none⟩) (rms.length+1) cap2) vr vi (rms++[⟨L,[],[]⟩]) ous inns (upd H rms.length z) VI VA ZI Y Zn:=by
 have k1:=(Touch.of_below (F:=vo.ownBlock.toList) b).trans (Touch.of_grown k) (fun x hx=> .inl hx)
 have hF:=RF.of_ob h
 have hs:=h.size
 have hb:=b.size
 refine⟨h.k,h.rl.snoc hz h.size b ho k (by decide) (by decide) (fun b hb=>h.hF hF b (Option.mem_toList.2 hb)),fun q hq=> ?_,h.ou.other k1 h.rl.row (by decide) (by decide),ownsRow_touch h.io k1 (fun q hq hm=>own_apart h.io h.rl.row (by decide) hq (Option.mem_toList.1 hm)),h.ih.touch k1 h.size (h.hF hF),h.ib,h.fdT hF k1,h.tchT hF k1⟩
 cases hq
 rcases hat with e|e
 ·exact h.ob _ e
 ·exact .inr (by show Wc.heap.size≤g2;omega)
theorem RS.outer (h:RS w Wc wr g lo b0 bu bf mu bs vo vr vi rms ous inns H VI VA ZI Y Zn) {o:OU} {y:Value} {g2 cap2:Nat} (hy:wr.ownsRow Wc.heap.size 156 4 y o.lines.length (o.lines.flatMap lnC)) (b:Below wr.heap.size wr w2)
  (ho:w'.ownsRow Wc.heap.size 155 6 (.slice (some ⟨g2,0,none⟩) (ous.length+1) cap2) (ous.length+1) (((List.range ous.length).flatMap fun i=>ouC (Y i) (ouAt ous i))++ouC y o)) (k:w2.grownBy w' vr.ownBlock):
  RS w Wc w' g lo b0 bu bf mu bs vo (.slice (some ⟨g2,0,none⟩) (ous.length+1) cap2) vi rms (ous++[o]) inns H VI VA ZI (upd Y ous.length y) Zn:=by
 have k1:=(Touch.of_below (F:=vr.ownBlock.toList) b).trans (Touch.of_grown k) (fun x hx=> .inl hx)
 have hF:=RF.of_ou h
 refine⟨h.k,h.rl.touch k1 h.size (h.hF hF) (fun b hb hm=>own_apart h.rl.row h.ou.row (by decide) hb (Option.mem_toList.1 hm)) (fun i b hb hm=>own_apart (h.rl.fi.own i) h.ou.row (by decide) hb (Option.mem_toList.1 hm)) (fun i b hb hm=>own_apart (h.rl.fa.own i) h.ou.row (by decide) hb (Option.mem_toList.1 hm)),h.ob,h.ou.snoc hy b ho k (by decide),ownsRow_touch h.io k1 (fun q hq hm=>own_apart h.io h.ou.row (by decide) hq (Option.mem_toList.1 hm)),h.ih.touch k1 h.size (h.hF hF),h.ib,h.fdT hF k1,h.tchT hF k1⟩
end
end Go.Proofs.Ythopjhifepijiaa
