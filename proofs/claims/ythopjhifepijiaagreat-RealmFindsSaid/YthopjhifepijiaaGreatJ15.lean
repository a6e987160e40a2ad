/- Lemmas on the way to the statement. -/
import Derived.Test.YthopjhifepijiaaGreatJ11
set_option linter.unusedSimpArgs false
set_option linter.unusedVariables false
namespace Go.Proofs.YthopjhifepijiaaGreat
def valD:List Int→Int
 | []=>0
 |d::l=>d+65536*valD l
def okD (l:List Int):Prop:= ∀d∈l,0≤d∧d<65536
def topD (l:List Int):Prop:=l.getLast? ≠some 0
theorem okD_cons {d:Int} {l:List Int}:okD (d::l)↔(0≤d∧d<65536)∧okD l:=by unfold okD;simp
theorem okD_tail {l:List Int} (h:okD l):okD l.tail:=fun d hd=>h d (List.mem_of_mem_tail hd)
theorem okD_head {l:List Int} (h:okD l):0≤l.headD 0∧l.headD 0<65536:=by
 cases l with
 |nil=>simp
 |cons x l=>exact(okD_cons.1 h).1
theorem valD_cut (l:List Int):valD l=l.headD 0+65536*valD l.tail:=by
 cases l with
 |nil=>rfl
 |cons x l=>rfl
theorem valD_nn: ∀ {l:List Int},okD l→0≤valD l
 | [],_=>Int.le_refl _
 |d::l,h=>by
  have h1:=okD_cons.1 h
  have:=valD_nn h1.2
  show 0≤d+65536*valD l
  omega
theorem topD_tail {d:Int} {l:List Int} (h:topD (d::l)):topD l:=by
 unfold topD at*
 cases l with
 |nil=>simp
 |cons x l=>simpa using h
def plusL (n:Nat) (a b:List Int) (c:Int):List Int:=match n with
 |0=>[]
 |n+1=>if a=[]∧b=[]∧c≤0 then [] else(c+a.headD 0+b.headD 0) % 65536::plusL n a.tail b.tail ((c+a.headD 0+b.headD 0) / 65536)
theorem plusL_end (n:Nat):plusL n [] [] 0=[]:=by cases n<;>rfl
theorem plusL_ok: ∀ {n:Nat} {a b:List Int} {c:Int},okD (plusL n a b c)
 |0,_,_,_=>by simp[okD,plusL]
 |n+1,a,b,c=>by
  unfold plusL
  split
  ·simp[okD]
  ·rw[okD_cons]
   exact⟨⟨Int.emod_nonneg _ (by decide),Int.emod_lt_of_pos _ (by decide)⟩,plusL_ok⟩
theorem plusL_val: ∀ {n:Nat} {a b:List Int} {c:Int},okD a→okD b→0≤c→c≤1→a.length<n→b.length<n→valD (plusL n a b c)=valD a+valD b+c
 |0,_,_,_,_,_,_,_,h,_=>absurd h (by omega)
 |n+1,a,b,c,ha,hb,h0,h1,hla,hlb=>by
  have hc:=okD_head ha
  have hd:=okD_head hb
  have ih:(a=[]∧b=[])∨valD (plusL n a.tail b.tail ((c+a.headD 0+b.headD 0) / 65536))=valD a.tail+valD b.tail+(c+a.headD 0+b.headD 0) / 65536:=by
   by_cases hn:n=0
   ·subst hn
    exact .inl ⟨List.eq_nil_of_length_eq_zero (by omega),List.eq_nil_of_length_eq_zero (by omega)⟩
   ·exact .inr (plusL_val (okD_tail ha) (okD_tail hb) (by omega) (by omega) (by rw[List.length_tail];omega) (by rw[List.length_tail];omega))
  unfold plusL
  split
  ·rename_i h
   obtain⟨rfl,rfl,h2⟩:=h
   show(0:Int)=0+0+c
   omega
  ·rename_i hne
   rcases ih with ⟨rfl,rfl⟩|ih
   ·have:c=1:=by
     have: ¬c≤0:=fun h=>hne ⟨rfl,rfl,h⟩
     omega
    subst this
    show(1:Int)+65536*valD (plusL n [] [] 0)=0+0+1
    rw[plusL_end]
    rfl
   ·rw[valD_cut a,valD_cut b]
    show(c+a.headD 0+b.headD 0) % 65536+65536*valD (plusL n a.tail b.tail ((c+a.headD 0+b.headD 0) / 65536))=_
    rw[ih]
    omega
theorem plusL_len: ∀ {n:Nat} {a b:List Int} {c:Int},okD a→okD b→0≤c→c≤1→(plusL n a b c).length≤max a.length b.length+1
 |0,_,_,_,_,_,_,_=>by simp[plusL]
 |n+1,a,b,c,ha,hb,h0,h1=>by
  have hc:=okD_head ha
  have hd:=okD_head hb
  unfold plusL
  split
  ·simp
  ·rename_i hne
   have:=plusL_len (n:=n) (okD_tail ha) (okD_tail hb) (c:=(c+a.headD 0+b.headD 0) / 65536) (by omega) (by omega)
   rw[List.length_tail,List.length_tail] at this
   rw[List.length_cons]
   by_cases h:a=[]∧b=[]
   ·obtain⟨rfl,rfl⟩:=h
    have:c=1:=by
     have: ¬c≤0:=fun h=>hne ⟨rfl,rfl,h⟩
     omega
    subst this
    show(plusL n [] [] 0).length+1≤_
    rw[plusL_end]
    simp
   ·have:0<a.length∨0<b.length:=by
     rcases a with _|⟨x,a⟩
     ·rcases b with _|⟨y,b⟩
      ·exact absurd ⟨rfl,rfl⟩ h
      ·right;simp
     ·left;simp
    omega
theorem plusL_step {n:Nat} {a b:List Int} {c:Int} {k:Nat} (h:k<a.length∨k<b.length∨0<c):plusL (n+1) (a.drop k) (b.drop k) c=(c+(a[k]?).getD 0+(b[k]?).getD 0) % 65536::plusL n (a.drop (k+1)) (b.drop (k+1)) ((c+(a[k]?).getD 0+(b[k]?).getD 0) / 65536):=by
 have e: ∀l:List Int,(l.drop k).headD 0=(l[k]?).getD 0:=fun l=>by
  rw[List.headD_eq_head?_getD,List.head?_drop]
 have e2: ∀l:List Int,(l.drop k).tail=l.drop (k+1):=fun l=>by rw[List.tail_drop]
 show(if _ then _ else _)=_
 rw[if_neg,e,e,e2,e2]
 rintro ⟨h1,h2,h3⟩
 rw[List.drop_eq_nil_iff] at h1 h2
 omega
def minusL:List Int→List Int→Int→List Int
 | [],_,_=>[]
 |x::a,b,w=>(if x - w - b.headD 0<0 then x - w - b.headD 0+65536 else x - w - b.headD 0)::minusL a b.tail (if x - w - b.headD 0<0 then 1 else 0)
theorem minusL_len: ∀(a b:List Int) (w:Int),(minusL a b w).length=a.length
 | [],_,_=>rfl
 |x::a,b,w=>by simp[minusL,minusL_len a]
theorem minusL_ok: ∀ {a b:List Int} {w:Int},okD a→okD b→0≤w→w≤1→okD (minusL a b w)
 | [],_,_,_,_,_,_=>by simp[minusL,okD]
 |x::a,b,w,ha,hb,h0,h1=>by
  have hd:=okD_head hb
  have hx:=(okD_cons.1 ha).1
  unfold minusL
  rw[okD_cons]
  refine⟨by split<;>omega,minusL_ok (okD_cons.1 ha).2 (okD_tail hb) (by split<;>omega) (by split<;>omega)⟩
theorem minusL_val: ∀ {a b:List Int} {w:Int},okD a→okD b→0≤w→w≤1→valD b+w≤valD a→valD (minusL a b w)=valD a - valD b - w
 | [],b,w,_,hb,h0,h1,h=>by
  have:=valD_nn hb
  have h2:valD b+w≤0:=h
  show(0:Int)=0 - valD b - w
  omega
 |x::a,b,w,ha,hb,h0,h1,h=>by
  have hd:=okD_head hb
  have hx:=(okD_cons.1 ha).1
  have hv:=valD_cut b
  have h2:valD b+w≤x+65536*valD a:=h
  unfold minusL
  show(if _ then _ else _)+65536*valD (minusL a b.tail _)=x+65536*valD a - valD b - w
  by_cases hn:x - w - b.headD 0<0
  ·rw[if_pos hn,if_pos hn,minusL_val (okD_cons.1 ha).2 (okD_tail hb) (by omega) (by omega) (by omega)]
   omega
  ·rw[if_neg hn,if_neg hn,minusL_val (okD_cons.1 ha).2 (okD_tail hb) (by omega) (by omega) (by omega)]
   omega
theorem val_top: ∀ {b:List Int},okD b→topD b→b≠ []→0<valD b
 | [],_,_,h=>absurd rfl h
 | [y],hb,ht,_=>by
  have:=(okD_cons.1 hb).1
  have h0:y≠0:=fun e=>ht (by simp[e])
  show 0<y+65536*0
  omega
 |y::z::b,hb,ht,_=>by
  have:=val_top (okD_cons.1 hb).2 (topD_tail ht) (by simp)
  have:=(okD_cons.1 hb).1
  show 0<y+65536*valD (z::b)
  omega
theorem val_len: ∀ {a b:List Int},okD a→okD b→topD b→a.length<b.length→valD a<valD b
 | [],b,_,hb,ht,hl=>val_top hb ht (by intro e;subst e;simp at hl)
 |x::a,[],_,_,_,hl=>absurd hl (by simp)
 |x::a,y::b,ha,hb,ht,hl=>by
  have:=val_len (okD_cons.1 ha).2 (okD_cons.1 hb).2 (topD_tail ht) (by simpa using hl)
  have:=(okD_cons.1 ha).1
  have:=(okD_cons.1 hb).1
  show x+65536*valD a<y+65536*valD b
  omega
theorem val_at: ∀ {a b:List Int} {i:Nat},okD a→okD b→a.length=b.length→a.drop (i+1)=b.drop (i+1)→(a[i]?).getD 0<(b[i]?).getD 0→valD a<valD b
 | [],[],i,_,_,_,_,h=>absurd h (by simp)
 | [],_::_,_,_,_,hl,_,_=>absurd hl (by simp)
 |_::_,[],_,_,_,hl,_,_=>absurd hl (by simp)
 |x::a,y::b,0,ha,hb,hl,hd,h=>by
  have e:a=b:=by simpa using hd
  subst e
  have:x<y:=by simpa using h
  show x+65536*valD a<y+65536*valD a
  omega
 |x::a,y::b,i+1,ha,hb,hl,hd,h=>by
  have:=val_at (i:=i) (okD_cons.1 ha).2 (okD_cons.1 hb).2 (by simpa using hl) (by simpa using hd) (by simpa using h)
  have:=(okD_cons.1 ha).1
  have:=(okD_cons.1 hb).1
  show x+65536*valD a<y+65536*valD b
  omega
def sizeD (a b:List Int):Int:=if valD a<valD b then -1 else if valD b<valD a then 1 else 0
def trimD (l:List Int):List Int:=(l.reverse.dropWhile (fun d=>d==0)).reverse
theorem trimD_nil:trimD []=[]:=rfl
theorem trimD_snoc (l:List Int) (d:Int):trimD (l++[d])=if d=0 then trimD l else l++[d]:=by
 unfold trimD
 rw[List.reverse_append]
 show(((d::l.reverse).dropWhile _).reverse)=_
 rw[List.dropWhile_cons]
 by_cases h:d=0
 ·simp[h]
 ·simp[h]
theorem valD_app (l:List Int):valD (l++[0])=valD l:=by
 induction l with
 |nil=>rfl
 |cons x l ih=>show x+65536*valD (l++[0])=x+65536*valD l;rw[ih]
theorem list_rev {α:Type} {P:List α→Prop} (h0:P []) (h1: ∀l x,P l→P (l++[x])) (l:List α):P l:=by
 rw[←List.reverse_reverse l]
 induction l.reverse with
 |nil=>exact h0
 |cons x l ih=>rw[List.reverse_cons];exact h1 _ _ ih
theorem trimD_val (l:List Int):valD (trimD l)=valD l:=by
 refine list_rev (P:=fun l=>valD (trimD l)=valD l) rfl (fun l x ih=> ?_) l
 show valD (trimD (l++[x]))=valD (l++[x])
 rw[trimD_snoc]
 split
 ·rename_i e
  subst e
  rw[valD_app,ih]
 ·rfl
theorem trimD_top (l:List Int):topD (trimD l):=by
 refine list_rev (P:=fun l=>topD (trimD l)) (by simp[topD,trimD_nil]) (fun l x ih=> ?_) l
 show topD (trimD (l++[x]))
 rw[trimD_snoc]
 split
 ·exact ih
 ·rename_i e
  unfold topD
  simp[e]
theorem trimD_take (l:List Int): ∃k,k≤l.length∧trimD l=l.take k:=by
 refine list_rev (P:=fun l=> ∃k,k≤l.length∧trimD l=l.take k) ⟨0,Nat.le_refl _,rfl⟩ (fun l x ih=> ?_) l
 show∃k,k≤(l++[x]).length∧trimD (l++[x])=(l++[x]).take k
 rw[trimD_snoc]
 split
 ·obtain⟨k,hk,e⟩:=ih
  exact⟨k,by simp;omega,by rw[e,List.take_append_of_le_length hk]⟩
 ·exact⟨l.length+1,by simp,by rw[List.take_of_length_le (by simp)]⟩
theorem trimD_ok {l:List Int} (h:okD l):okD (trimD l):=by
 obtain⟨k,_,e⟩:=trimD_take l
 rw[e]
 exact fun d hd=>h d (List.mem_of_mem_take hd)
structure NumD (x:Int) (g:Bool) (l:List Int):Prop where
 ok:okD l
 top:topD l
 neg:g=decide (x<0)
 val:valD l=x.natAbs
theorem NumD.zero:NumD 0 false []:=⟨by simp[okD],by simp[topD],by decide,rfl⟩
theorem NumD.nil {x:Int} {g:Bool} (h:NumD x g []):x=0∧g=false:=by
 have:=h.val
 have h0:(0:Int)=x.natAbs:=this
 have hx:x=0:=by omega
 exact⟨hx,by rw[h.neg,hx];decide⟩
theorem NumD.len {x:Int} {g:Bool} {l:List Int} (h:NumD x g l):(decide (l.length=0)=decide (x=0)):=by
 refine decide_eq_decide.2 ⟨fun e=> ?_,fun e=> ?_⟩
 ·rw[List.eq_nil_of_length_eq_zero e] at h
  exact h.nil.1
 ·subst e
  by_cases hl:l=[]
  ·rw[hl];rfl
  ·have:=val_top h.ok h.top hl
   have:=h.val
   simp at this
   omega
theorem NumD.trim {x:Int} {l:List Int} (h:okD l) (g:Bool) (e:(if g=true then -valD l else valD l)=x):NumD x (if trimD l=[] then false else g) (trimD l):=by
 have hv:=trimD_val l
 have hn:=valD_nn h
 refine⟨trimD_ok h,trimD_top l, ?_, ?_⟩
 ·split
  ·rename_i h0
   rw[h0] at hv
   have:valD l=0:=hv.symm
   rw[this] at e
   have:x=0:=by rw[←e];split<;>rfl
   rw[this];decide
  ·rename_i h0
   have:=val_top (trimD_ok h) (trimD_top l) h0
   cases g
   ·simp at e
    symm
    simp
    omega
   ·simp at e
    symm
    simp
    omega
 ·rw[hv]
  cases g
  ·simp at e;omega
  ·simp at e;omega
end Go.Proofs.YthopjhifepijiaaGreat
namespace Go.Proofs.YthopjhifepijiaaGreat
open Go.RowKit Go.Joins
theorem NsIn.row {w:World} {B:Nat} {a:Option Addr} {n:Nat} {l:List Int} (h:NsIn w B a n l) (hn:0<n): ∃b off,a=some ⟨b,off,none⟩∧b<B∧ ∀w',Below B w w'→ ∀i x,l[i]? =some x→w'.cell? ⟨b,off+i,none⟩=some (.int .i64 x):=by
 obtain⟨h1,h2|⟨b,off,ha,hlt,hc⟩⟩:=h
 ·omega
 ·exact⟨b,off,ha,hlt,fun w' hb i v hv=>(hb.cell (p:=⟨b,_,none⟩) hlt).trans (hc i v hv)⟩
theorem NsIn.take {w:World} {B:Nat} {a:Option Addr} {n:Nat} {l:List Int} (h:NsIn w B a n l) {k:Nat} (hk:k≤n):NsIn w B a k (l.take k):=by
 obtain⟨h1,h2|⟨b,off,ha,hlt,hc⟩⟩:=h
 ·exact⟨by rw[List.length_take];omega, .inl (by omega)⟩
 ·refine⟨by rw[List.length_take];omega, .inr ⟨b,off,ha,hlt,fun i v hv=>hc i v ?_⟩⟩
  rw[List.getElem?_take] at hv
  split at hv
  ·exact hv
  ·cases hv
def intC (l:List Int):List Value:=l.map (.int .i64)
theorem intC_app (l m:List Int):intC (l++m)=intC l++intC m:=List.map_append
theorem own_ns {w:World} {base n c:Nat} {a:Option Addr} {t:TypeId} {l:List Int} (h:w.ownsRow base t 1 (.slice a n c) n (intC l)) (hn:n=l.length):NsIn w w.heap.size a n l:=by
 refine⟨hn, ?_⟩
 rcases Nat.eq_zero_or_pos n with h0|h0
 ·exact .inl h0
 ·obtain⟨g,cap,e⟩:=ownsRow_form h h0
  injection e with e1 e2 e3
  subst e1
  refine .inr ⟨g,0,rfl,(h.lt g rfl).2,fun i v hv=> ?_⟩
  have hc:=(addr_add0 g i)▸h.cells (g:=g) rfl (j:=i) (u:= .int .i64 v) (by unfold intC;rw[List.getElem?_map,hv];rfl)
  simpa using hc
theorem sizeD_lt {a b:List Int} (h:valD a<valD b):sizeD a b= -1:=by unfold sizeD;rw[if_pos h]
theorem sizeD_gt {a b:List Int} (h:valD b<valD a):sizeD a b=1:=by unfold sizeD;rw[if_neg (by omega),if_pos h]
theorem sizeD_eq (a:List Int):sizeD a a=0:=by unfold sizeD;rw[if_neg (by omega),if_neg (by omega)]
set_option maxRecDepth 100000 in
set_option maxHeartbeats 4000000 in
theorem r3size_any {w:World} {B na ca nb cb:Nat} {aa ab:Option Addr} {l m:List Int} (ha:NsIn w B aa na l) (hb:NsIn w B ab nb m) (ol:okD l) (om:okD m) (tl:topD l) (tm:topD m) (hB:B≤w.heap.size) (hna:na≤1000) (hnb:nb≤1000):
  Calls Tryz.prog 93 #[.slice aa na ca, .slice ab nb cb] w fun e w'=>e= .returned (.int .i64 (sizeD l m))∧Below w.heap.size w w':=by
 have hl:=ha.1
 have hm:=hb.1
 by_cases h1:na<nb
 ·rw[sizeD_lt (val_len ol om tm (by omega))]
  have hne: ¬na=nb:=by omega
  clear ha hb ol om tl tm
  go_enter Tryz.func93,Tryz.ntmps93
  go_wp2_with fail
  go_ret
  exact⟨rfl,Below.refl _ _⟩
 by_cases h2:nb<na
 ·rw[sizeD_gt (val_len om ol tl (by omega))]
  have hne: ¬na=nb:=by omega
  clear ha hb ol om tl tm
  go_enter Tryz.func93,Tryz.ntmps93
  go_wp2_with fail
  go_ret
  exact⟨rfl,Below.refl _ _⟩
 obtain rfl:na=nb:=by omega
 have HL:=Lib.hid hl
 have HM:=Lib.hid hm
 have HA:=Lib.hid ha
 have HBB:=Lib.hid hb
 have HO:=Lib.hid (show okD l∧okD m from⟨ol,om⟩)
 clear ha hb ol om tl tm hl hm h1 h2
 go_enter Tryz.func93,Tryz.ntmps93
 go_wp2_with fail
 go_loopw [5] (fun v wr=> ∃k:Nat,k≤na∧v= .int .i64 ((k:Int) - 1)∧l.drop k=m.drop k∧Below w.heap.size w wr) (fun v _=>(intOf v+1).toNat)
 case atStart=>exact⟨na,Nat.le_refl _,by go_num,by rw[List.drop_of_length_le (by have:=HL.out;omega),List.drop_of_length_le (by have:=HM.out;omega)],Below.refl _ _⟩
 case round=>
  obtain⟨k,hk,rfl,hd,hb⟩:=hrel
  have HD:=Lib.hid hd
  have HB:=Lib.hid hb
  clear hd hb
  rcases k with _|k
  ·have F:=Lib.hid (show sizeD l m=0 from by
    have:=HD.out
    simp at this
    rw[this,sizeD_eq])
   go_wp2_with fail
   go_ret
   exact⟨by rw[F.out];rfl,HB.out⟩
  ·obtain⟨ba,oa,rfl,hba,hca⟩:=HA.out.row (by omega)
   obtain⟨bb,ob,rfl,hbb,hcb⟩:=HBB.out.row (by omega)
   obtain⟨x,hx⟩: ∃x,l[k]? =some x:=⟨_,List.getElem?_eq_getElem (by have:=HL.out;omega)⟩
   obtain⟨y,hy⟩: ∃y,m[k]? =some y:=⟨_,List.getElem?_eq_getElem (by have:=HM.out;omega)⟩
   have HX:=Lib.hid hx
   have HY:=Lib.hid hy
   have HCA:=fun(W1:World) (hb:Below w.heap.size w W1)=>Lib.hid (hca W1 (hb.mono hB) k x hx)
   have HCB:=fun(W1:World) (hb:Below w.heap.size w W1)=>Lib.hid (hcb W1 (hb.mono hB) k y hy)
   clear hca hcb hx hy
   have hk1:k<na:=by omega
   by_cases h1:x<y
   ·have F:=Lib.hid (sizeD_lt (val_at (i:=k) HO.out.1 HO.out.2 (by rw[←HL.out, ←HM.out]) HD.out (by rw[HX.out,HY.out];exact h1)))
    go_wp2_with fail
    refine wp_name (fun c1 hc1=> ?_)
    have HB:=bnm HB (Lib.hid (Nat.le_refl _)) hc1
    have YB:=fun(x:Later c1)=>HB.out.trans (x.2.mono HB.out.size);have y8:=fun(x:Later c1)=>(HCA x.1 (YB x)).out;have y9:=fun(x:Later c1)=>(HCB x.1 (YB x)).out;clear YB
    clear hc1
    refine wp_region_later (by kernel_rfl) (by kernel_rfl) ?_
    repeat (first|go_big_quiet_step ((fail))|quiet_step ((fail)))
    refine wpQuiet_nil ?_
    intro w1 hw1
    have hb1:=later_below hw1
    clear hw1
    have HB:=Lib.hid (bnl HB (Lib.hid (Nat.le_refl _)) hb1)
    skip
    clear hb1
    go_wp2_with fail
    go_ret
    exact⟨by rw[F.out];rfl,HB.out⟩
   ·by_cases h2:y<x
    ·have F:=Lib.hid (sizeD_gt (val_at (i:=k) HO.out.2 HO.out.1 (by rw[←HL.out, ←HM.out]) HD.out.symm (by rw[HX.out,HY.out];exact h2)))
     go_wp2_with fail
     refine wp_name (fun c2 hc2=> ?_)
     have HB:=bnm HB (Lib.hid (Nat.le_refl _)) hc2
     have YB:=fun(x:Later c2)=>HB.out.trans (x.2.mono HB.out.size);have y8:=fun(x:Later c2)=>(HCA x.1 (YB x)).out;have y9:=fun(x:Later c2)=>(HCB x.1 (YB x)).out;clear YB
     clear hc2
     refine wp_region_later (by kernel_rfl) (by kernel_rfl) ?_
     repeat (first|go_big_quiet_step ((fail))|quiet_step ((fail)))
     refine wpQuiet_nil ?_
     intro w2 hw2
     have hb2:=later_below hw2
     clear hw2
     have HB:=Lib.hid (bnl HB (Lib.hid (Nat.le_refl _)) hb2)
     skip
     clear hb2
     go_wp2_with fail
     refine wp_name (fun c3 hc3=> ?_)
     have HB:=bnm HB (Lib.hid (Nat.le_refl _)) hc3
     have YB:=fun(x:Later c3)=>HB.out.trans (x.2.mono HB.out.size);have y8:=fun(x:Later c3)=>(HCA x.1 (YB x)).out;have y9:=fun(x:Later c3)=>(HCB x.1 (YB x)).out;clear YB
     clear hc3
     refine wp_region_later (by kernel_rfl) (by kernel_rfl) ?_
     repeat (first|go_big_quiet_step ((fail))|quiet_step ((fail)))
     refine wpQuiet_nil ?_
     intro w3 hw3
     have hb3:=later_below hw3
     clear hw3
     have HB:=Lib.hid (bnl HB (Lib.hid (Nat.le_refl _)) hb3)
     skip
     clear hb3
     go_wp2_with fail
     go_ret
     exact⟨by rw[F.out];rfl,HB.out⟩
    ·obtain rfl:x=y:=by omega
     go_wp2_with fail
     refine wp_name (fun c4 hc4=> ?_)
     have HB:=bnm HB (Lib.hid (Nat.le_refl _)) hc4
     have YB:=fun(x:Later c4)=>HB.out.trans (x.2.mono HB.out.size);have y8:=fun(x:Later c4)=>(HCA x.1 (YB x)).out;have y9:=fun(x:Later c4)=>(HCB x.1 (YB x)).out;clear YB
     clear hc4
     refine wp_region_later (by kernel_rfl) (by kernel_rfl) ?_
     repeat (first|go_big_quiet_step ((fail))|quiet_step ((fail)))
     refine wpQuiet_nil ?_
     intro w4 hw4
     have hb4:=later_below hw4
     clear hw4
     have HB:=Lib.hid (bnl HB (Lib.hid (Nat.le_refl _)) hb4)
     skip
     clear hb4
     go_wp2_with fail
     refine wp_name (fun c5 hc5=> ?_)
     have HB:=bnm HB (Lib.hid (Nat.le_refl _)) hc5
     have YB:=fun(x:Later c5)=>HB.out.trans (x.2.mono HB.out.size);have y8:=fun(x:Later c5)=>(HCA x.1 (YB x)).out;have y9:=fun(x:Later c5)=>(HCB x.1 (YB x)).out;clear YB
     clear hc5
     refine wp_region_later (by kernel_rfl) (by kernel_rfl) ?_
     repeat (first|go_big_quiet_step ((fail))|quiet_step ((fail)))
     refine wpQuiet_nil ?_
     intro w5 hw5
     have hb5:=later_below hw5
     clear hw5
     have HB:=Lib.hid (bnl HB (Lib.hid (Nat.le_refl _)) hb5)
     skip
     clear hb5
     go_wp2_with fail
     go_roundw
     case rel=>
      refine⟨k,by omega,by go_num, ?_,HB.out⟩
      have h1:=(List.getElem?_eq_some_iff.1 HX.out)
      have h2:=(List.getElem?_eq_some_iff.1 HY.out)
      rw[List.drop_eq_getElem_cons h1.1,List.drop_eq_getElem_cons h2.1,h1.2,h2.2,HD.out]
     case measure=>simp[intOf]
end Go.Proofs.YthopjhifepijiaaGreat
namespace Go.Proofs.YthopjhifepijiaaGreat
open Go.RowKit Go.Joins
structure PlS (w wr:World) (R:Nat→Int→List Int) (T:List Int) (N k:Nat) (c:Int) (o:List Int) (ov:Value):Prop where
 own:wr.ownsRow w.heap.size 3 1 ov k (intC o)
 len:o.length=k
 c0:0≤c
 c1:c≤1
 sum:o++R k c=T
 stop:k<N∨c=0
 blw:Below w.heap.size w wr
theorem PlS.next {w wr w5:World} {R:Nat→Int→List Int} {T:List Int} {N k:Nat} {c:Int} {o:List Int} {ov v:Value} {d c':Int} {q:Obj} (h:PlS w wr R T N k c o ov) (hown:w5.ownsRow w.heap.size 3 1 v (k+1) (intC o++[.int .i64 d])) (hgr:(wr.alloc q).grownBy w5 ov.ownBlock)
  (h0:0≤c') (h1:c'≤1) (hr:R k c=d::R (k+1) c') (hs:k+1<N∨c'=0):PlS w w5 R T N (k+1) c' (o++[d]) v:=
 ⟨by rw[intC_app];exact hown,by simp[h.len],h0,h1,by rw[List.append_assoc,List.singleton_append, ←hr];exact h.sum,hs,
  (h.blw.alloc h.blw.size q).grown hgr (Nat.le_trans h.blw.size (below_alloc (o:=q) (Below.refl wr.heap.size wr)).size) (fun x hx=>(h.own.lt x hx).1)⟩
theorem get_of {l:List Int} {k:Nat} {x:Int} (h:l[k]? =some x) (o:okD l):0≤x∧x<65536:=o x (List.mem_of_getElem? h)
set_option maxRecDepth 100000 in
set_option maxHeartbeats 8000000 in
theorem r3plus_any {w:World} {B na ca nb cb:Nat} {aa ab:Option Addr} {l m:List Int} (ha:NsIn w B aa na l) (hb:NsIn w B ab nb m) (ol:okD l) (om:okD m) (hB:B≤w.heap.size) (hna:na≤1000) (hnb:nb≤1000):
  Calls Tryz.prog 92 #[.slice aa na ca, .slice ab nb cb] w fun e w'=>(∃a n c,e= .returned (.slice a n c)∧n=(plusL (max na nb+1) l m 0).length∧w'.ownsRow w.heap.size 3 1 (.slice a n c) n (intC (plusL (max na nb+1) l m 0)))∧Below w.heap.size w w':=by
 have HL:=Lib.hid ha.1
 have HM:=Lib.hid hb.1
 have HA:=Lib.hid ha
 have HBB:=Lib.hid hb
 have HO:=Lib.hid (show okD l∧okD m from⟨ol,om⟩)
 obtain⟨l0,hl,hl0,hl1,hl2⟩:=info_parts Tryz.infoIn9
 obtain⟨N,hN⟩: ∃N,N=max na nb+1:=⟨_,rfl⟩
 have hN1:na<N:=by omega
 have hN2:nb<N:=by omega
 have HNN:=Lib.hid hN
 rw[←hN]
 have hN3:N≤1001:=by omega
 clear ha hb ol om hN
 go_enter Tryz.func92,Tryz.ntmps92
 go_wp2_with fail
 go_loopw [5,6,7] (fun o c v wr=> ∃(k:Nat) (cc:Int) (ol:List Int) (ov:Value),k≤N∧v= .int .i64 k∧ov=o∧c= .int .i64 cc∧PlS w wr (fun k c=>plusL (N - k) (l.drop k) (m.drop k) c) (plusL N l m 0) N k cc ol ov) (fun _ _ v _=>N - (intOf v).toNat)
 case atStart=>exact⟨0,0,[],_,Nat.zero_le _,rfl,rfl,rfl,World.ownsRow_nil _ _ _ _,rfl,by omega,by omega,by simp, .inr rfl,Below.refl _ _⟩
 case round=>
  obtain⟨k,c,o,ov,hk,rfl,rfl,rfl,hI⟩:=hrel
  have HI:=Lib.hid hI
  have hc0:=hI.c0
  have hc1:=hI.c1
  have hst:=hI.stop
  clear hI
  by_cases h1:k<na
  ·obtain⟨ba,oa,rfl,hba,hca⟩:=HA.out.row (by omega)
   obtain⟨x,hx⟩: ∃x,l[k]? =some x:=⟨_,List.getElem?_eq_getElem (by have:=HL.out;omega)⟩
   have hxo:=get_of hx HO.out.1
   have HX:=Lib.hid hx
   have e1:=hca wr (HI.out.blw.mono hB) k x hx
   have hNk:N - k=N - (k+1)+1:=by omega
   clear hca hx
   by_cases h2:k<nb
   ·obtain⟨bb,ob,rfl,hbb,hcb⟩:=HBB.out.row (by omega)
    obtain⟨y,hy⟩: ∃y,m[k]? =some y:=⟨_,List.getElem?_eq_getElem (by have:=HM.out;omega)⟩
    have hyo:=get_of hy HO.out.2
    have HY:=Lib.hid hy
    have e2:=hcb wr (HI.out.blw.mono hB) k y hy
    clear hcb hy
    go_wp2_with (at_builtin;go_loud (refine wpList_append_near _ rfl (.tmp 46) (.tmp 49) 35 rfl w.heap.size 3 l0 (.int .i64 0) 1 8 Tryz.underlying35 hl hl0 hl1 hl2 rfl (by decide) ov k _ rfl (HI.out.own.alloc _) ⟨wr.heap.size,0,none⟩ 1 1 [.int .i64 ((c+x+y) % 65536)] rfl (by decide) rfl (cell_list_at _ [.int .i64 ((c+x+y) % 65536)] _ rfl) (by simp[Value.oneCell']) (by unfold maxLen;omega) (by omega) (by have:=HI.out.blw.size;simp;omega) ?_;intro g cap w5 hown hgr hat;have HN:=Lib.hid (HI.out.next hown hgr (c':=((c+x+y) / 65536)) (by omega) (by omega) (by have:=plusL_step (n:=N - (k+1)) (a:=l) (b:=m) (c:=c) (k:=k) (.inl (by have:=HL.out;omega));rw[HX.out,HY.out] at this;show plusL (N - k) _ _ _=_;rw[hNk];exact this) (by omega));clear hown hgr hat))
    go_roundw
    case rel=>exact⟨k+1,((c+x+y) / 65536),_,_,by omega,by go_num,rfl,by first|rfl|go_num,HN.out⟩
    case measure=>simp[intOf];omega
   ·have HY:=Lib.hid (show m[k]? =none from List.getElem?_eq_none (by have:=HM.out;omega))
    go_wp2_with (at_builtin;go_loud (refine wpList_append_near _ rfl (.tmp 46) (.tmp 49) 35 rfl w.heap.size 3 l0 (.int .i64 0) 1 8 Tryz.underlying35 hl hl0 hl1 hl2 rfl (by decide) ov k _ rfl (HI.out.own.alloc _) ⟨wr.heap.size,0,none⟩ 1 1 [.int .i64 ((c+x) % 65536)] rfl (by decide) rfl (cell_list_at _ [.int .i64 ((c+x) % 65536)] _ rfl) (by simp[Value.oneCell']) (by unfold maxLen;omega) (by omega) (by have:=HI.out.blw.size;simp;omega) ?_;intro g cap w5 hown hgr hat;have HN:=Lib.hid (HI.out.next hown hgr (c':=((c+x) / 65536)) (by omega) (by omega) (by have:=plusL_step (n:=N - (k+1)) (a:=l) (b:=m) (c:=c) (k:=k) (.inl (by have:=HL.out;omega));rw[HX.out,HY.out] at this;show plusL (N - k) _ _ _=_;rw[hNk, ←Int.add_zero (c+x)];exact this) (by omega));clear hown hgr hat))
    go_roundw
    case rel=>exact⟨k+1,((c+x) / 65536),_,_,by omega,by go_num,rfl,by first|rfl|go_num,HN.out⟩
    case measure=>simp[intOf];omega
  ·have HX:=Lib.hid (show l[k]? =none from List.getElem?_eq_none (by have:=HL.out;omega))
   by_cases h2:k<nb
   ·obtain⟨bb,ob,rfl,hbb,hcb⟩:=HBB.out.row (by omega)
    obtain⟨y,hy⟩: ∃y,m[k]? =some y:=⟨_,List.getElem?_eq_getElem (by have:=HM.out;omega)⟩
    have hyo:=get_of hy HO.out.2
    have HY:=Lib.hid hy
    have e2:=hcb wr (HI.out.blw.mono hB) k y hy
    have hNk:N - k=N - (k+1)+1:=by omega
    clear hcb hy
    go_wp2_with (at_builtin;go_loud (refine wpList_append_near _ rfl (.tmp 46) (.tmp 49) 35 rfl w.heap.size 3 l0 (.int .i64 0) 1 8 Tryz.underlying35 hl hl0 hl1 hl2 rfl (by decide) ov k _ rfl (HI.out.own.alloc _) ⟨wr.heap.size,0,none⟩ 1 1 [.int .i64 ((c+y) % 65536)] rfl (by decide) rfl (cell_list_at _ [.int .i64 ((c+y) % 65536)] _ rfl) (by simp[Value.oneCell']) (by unfold maxLen;omega) (by omega) (by have:=HI.out.blw.size;simp;omega) ?_;intro g cap w5 hown hgr hat;have HN:=Lib.hid (HI.out.next hown hgr (c':=((c+y) / 65536)) (by omega) (by omega) (by have:=plusL_step (n:=N - (k+1)) (a:=l) (b:=m) (c:=c) (k:=k) (.inr (.inl (by have:=HM.out;omega)));rw[HX.out,HY.out] at this;simp only[Option.getD_none,Option.getD_some,Int.add_zero] at this;show plusL (N - k) _ _ _=_;rw[hNk];exact this) (by omega));clear hown hgr hat))
    go_roundw
    case rel=>exact⟨k+1,((c+y) / 65536),_,_,by omega,by go_num,rfl,by first|rfl|go_num,HN.out⟩
    case measure=>simp[intOf];omega
   ·have HY:=Lib.hid (show m[k]? =none from List.getElem?_eq_none (by have:=HM.out;omega))
    by_cases h3:0<c
    ·have hNk:N - k=N - (k+1)+1:=by omega
     go_wp2_with (at_builtin;go_loud (refine wpList_append_near _ rfl (.tmp 46) (.tmp 49) 35 rfl w.heap.size 3 l0 (.int .i64 0) 1 8 Tryz.underlying35 hl hl0 hl1 hl2 rfl (by decide) ov k _ rfl (HI.out.own.alloc _) ⟨wr.heap.size,0,none⟩ 1 1 [.int .i64 (c % 65536)] rfl (by decide) rfl (cell_list_at _ [.int .i64 (c % 65536)] _ rfl) (by simp[Value.oneCell']) (by unfold maxLen;omega) (by omega) (by have:=HI.out.blw.size;simp;omega) ?_;intro g cap w5 hown hgr hat;have HN:=Lib.hid (HI.out.next hown hgr (c':=(c / 65536)) (by omega) (by omega) (by have:=plusL_step (n:=N - (k+1)) (a:=l) (b:=m) (c:=c) (k:=k) (.inr (.inr h3));rw[HX.out,HY.out] at this;show plusL (N - k) _ _ _=_;rw[hNk];simpa using this) (by omega));clear hown hgr hat))
     go_roundw
     case rel=>exact⟨k+1,(c / 65536),_,_,by omega,by go_num,rfl,by first|rfl|go_num,HN.out⟩
     case measure=>simp[intOf];omega
    ·have hT:=HI.out.sum
     have hr:plusL (N - k) (l.drop k) (m.drop k) c=[]:=by
      rw[List.drop_of_length_le (by have:=HL.out;omega),List.drop_of_length_le (by have:=HM.out;omega),show c=0 by omega,plusL_end]
     simp only[hr,List.append_nil] at hT
     have HT:=Lib.hid hT
     clear hT hr
     obtain⟨ra,rc,rfl⟩:=own_form HI.out.own
     go_wp2_with fail
     go_ret
     exact⟨⟨ra,k,rc,rfl,by rw[←HT.out,HI.out.len],by rw[←HT.out];exact HI.out.own⟩,HI.out.blw⟩
theorem minusL_step {l m:List Int} {w x:Int} {k:Nat} (hx:l[k]? =some x):minusL (l.drop k) (m.drop k) w=(if x - w - (m[k]?).getD 0<0 then x - w - (m[k]?).getD 0+65536 else x - w - (m[k]?).getD 0)::minusL (l.drop (k+1)) (m.drop (k+1)) (if x - w - (m[k]?).getD 0<0 then 1 else 0):=by
 obtain⟨h1,h2⟩:=List.getElem?_eq_some_iff.1 hx
 rw[List.drop_eq_getElem_cons h1,h2]
 have e:(m.drop k).headD 0=(m[k]?).getD 0:=by rw[List.headD_eq_head?_getD,List.head?_drop]
 have e2:(m.drop k).tail=m.drop (k+1):=by rw[List.tail_drop]
 unfold minusL
 rw[e,e2]
 cases hd:l.drop (k+1)<;>rfl
set_option maxRecDepth 100000 in
set_option maxHeartbeats 8000000 in
theorem r3minus_any {w:World} {B na ca nb cb:Nat} {aa ab:Option Addr} {l m:List Int} (ha:NsIn w B aa na l) (hb:NsIn w B ab nb m) (ol:okD l) (om:okD m) (hB:B≤w.heap.size) (hna:na≤1000) (hnb:nb≤1000):
  Calls Tryz.prog 94 #[.slice aa na ca, .slice ab nb cb] w fun e w'=>(∃a n c,e= .returned (.slice a n c)∧n=(minusL l m 0).length∧w'.ownsRow w.heap.size 3 1 (.slice a n c) n (intC (minusL l m 0)))∧Below w.heap.size w w':=by
 have HL:=Lib.hid ha.1
 have HM:=Lib.hid hb.1
 have HA:=Lib.hid ha
 have HBB:=Lib.hid hb
 have HO:=Lib.hid (show okD l∧okD m from⟨ol,om⟩)
 obtain⟨l0,hl,hl0,hl1,hl2⟩:=info_parts Tryz.infoIn9
 clear ha hb ol om
 go_enter Tryz.func94,Tryz.ntmps94
 go_wp2_with fail
 go_loopw [5,6,7] (fun o c v wr=> ∃(k:Nat) (cc:Int) (ol:List Int) (ov:Value),k≤na∧v= .int .i64 k∧ov=o∧c= .int .i64 cc∧PlS w wr (fun k c=>minusL (l.drop k) (m.drop k) c) (minusL l m 0) (na+1) k cc ol ov) (fun _ _ v _=>na - (intOf v).toNat)
 case atStart=>exact⟨0,0,[],_,Nat.zero_le _,rfl,rfl,rfl,World.ownsRow_nil _ _ _ _,rfl,by omega,by omega,by simp, .inr rfl,Below.refl _ _⟩
 case round=>
  obtain⟨k,c,o,ov,hk,rfl,rfl,rfl,hI⟩:=hrel
  have HI:=Lib.hid hI
  have hc0:=hI.c0
  have hc1:=hI.c1
  clear hI
  by_cases h1:k<na
  ·obtain⟨ba,oa,rfl,hba,hca⟩:=HA.out.row (by omega)
   obtain⟨x,hx⟩: ∃x,l[k]? =some x:=⟨_,List.getElem?_eq_getElem (by have:=HL.out;omega)⟩
   have hxo:=get_of hx HO.out.1
   have HX:=Lib.hid hx
   have e1:=hca wr (HI.out.blw.mono hB) k x hx
   clear hca hx
   by_cases h2:k<nb
   ·obtain⟨bb,ob,rfl,hbb,hcb⟩:=HBB.out.row (by omega)
    obtain⟨y,hy⟩: ∃y,m[k]? =some y:=⟨_,List.getElem?_eq_getElem (by have:=HM.out;omega)⟩
    have hyo:=get_of hy HO.out.2
    have HY:=Lib.hid hy
    have e2:=hcb wr (HI.out.blw.mono hB) k y hy
    clear hcb hy
    by_cases h3:x - c - y<0
    ·go_wp2_with (at_builtin;go_loud (refine wpList_append_near _ rfl (.tmp 35) (.tmp 37) 35 rfl w.heap.size 3 l0 (.int .i64 0) 1 8 Tryz.underlying35 hl hl0 hl1 hl2 rfl (by decide) ov k _ rfl (HI.out.own.alloc _) ⟨wr.heap.size,0,none⟩ 1 1 [.int .i64 (x - c - y+65536)] rfl (by decide) rfl (cell_list_at _ [.int .i64 (x - c - y+65536)] _ rfl) (by simp[Value.oneCell']) (by unfold maxLen;omega) (by omega) (by have:=HI.out.blw.size;simp;omega) ?_;intro g cap w5 hown hgr hat;have HN:=Lib.hid (HI.out.next hown hgr (c':=(1)) (by omega) (by omega) (by have:=minusL_step (m:=m) (w:=c) HX.out;rw[HY.out] at this;simp only[Option.getD_none,Option.getD_some] at this;rw[if_pos h3,if_pos h3] at this;exact this) (by omega));clear hown hgr hat))
     go_roundw
     case rel=>exact⟨k+1,(1),_,_,by omega,by go_num,rfl,by first|rfl|go_num,HN.out⟩
     case measure=>simp[intOf];omega
    ·go_wp2_with (at_builtin;go_loud (refine wpList_append_near _ rfl (.tmp 35) (.tmp 37) 35 rfl w.heap.size 3 l0 (.int .i64 0) 1 8 Tryz.underlying35 hl hl0 hl1 hl2 rfl (by decide) ov k _ rfl (HI.out.own.alloc _) ⟨wr.heap.size,0,none⟩ 1 1 [.int .i64 (x - c - y)] rfl (by decide) rfl (cell_list_at _ [.int .i64 (x - c - y)] _ rfl) (by simp[Value.oneCell']) (by unfold maxLen;omega) (by omega) (by have:=HI.out.blw.size;simp;omega) ?_;intro g cap w5 hown hgr hat;have HN:=Lib.hid (HI.out.next hown hgr (c':=(0)) (by omega) (by omega) (by have:=minusL_step (m:=m) (w:=c) HX.out;rw[HY.out] at this;simp only[Option.getD_none,Option.getD_some] at this;rw[if_neg h3,if_neg h3] at this;exact this) (by omega));clear hown hgr hat))
     go_roundw
     case rel=>exact⟨k+1,(0),_,_,by omega,by go_num,rfl,by first|rfl|go_num,HN.out⟩
     case measure=>simp[intOf];omega
   ·have HY:=Lib.hid (show m[k]? =none from List.getElem?_eq_none (by have:=HM.out;omega))
    by_cases h3:x - c<0
    ·go_wp2_with (at_builtin;go_loud (refine wpList_append_near _ rfl (.tmp 35) (.tmp 37) 35 rfl w.heap.size 3 l0 (.int .i64 0) 1 8 Tryz.underlying35 hl hl0 hl1 hl2 rfl (by decide) ov k _ rfl (HI.out.own.alloc _) ⟨wr.heap.size,0,none⟩ 1 1 [.int .i64 (x - c+65536)] rfl (by decide) rfl (cell_list_at _ [.int .i64 (x - c+65536)] _ rfl) (by simp[Value.oneCell']) (by unfold maxLen;omega) (by omega) (by have:=HI.out.blw.size;simp;omega) ?_;intro g cap w5 hown hgr hat;have HN:=Lib.hid (HI.out.next hown hgr (c':=(1)) (by omega) (by omega) (by have:=minusL_step (m:=m) (w:=c) HX.out;rw[HY.out] at this;simp only[Option.getD_none,Option.getD_some,Int.sub_zero] at this;rw[if_pos h3,if_pos h3] at this;exact this) (by omega));clear hown hgr hat))
     go_roundw
     case rel=>exact⟨k+1,(1),_,_,by omega,by go_num,rfl,by first|rfl|go_num,HN.out⟩
     case measure=>simp[intOf];omega
    ·go_wp2_with (at_builtin;go_loud (refine wpList_append_near _ rfl (.tmp 35) (.tmp 37) 35 rfl w.heap.size 3 l0 (.int .i64 0) 1 8 Tryz.underlying35 hl hl0 hl1 hl2 rfl (by decide) ov k _ rfl (HI.out.own.alloc _) ⟨wr.heap.size,0,none⟩ 1 1 [.int .i64 (x - c)] rfl (by decide) rfl (cell_list_at _ [.int .i64 (x - c)] _ rfl) (by simp[Value.oneCell']) (by unfold maxLen;omega) (by omega) (by have:=HI.out.blw.size;simp;omega) ?_;intro g cap w5 hown hgr hat;have HN:=Lib.hid (HI.out.next hown hgr (c':=(0)) (by omega) (by omega) (by have:=minusL_step (m:=m) (w:=c) HX.out;rw[HY.out] at this;simp only[Option.getD_none,Option.getD_some,Int.sub_zero] at this;rw[if_neg h3,if_neg h3] at this;exact this) (by omega));clear hown hgr hat))
     go_roundw
     case rel=>exact⟨k+1,(0),_,_,by omega,by go_num,rfl,by first|rfl|go_num,HN.out⟩
     case measure=>simp[intOf];omega
  ·have hT:=HI.out.sum
   have hr:minusL (l.drop k) (m.drop k) c=[]:=by
    rw[List.drop_of_length_le (by have:=HL.out;omega)];rfl
   simp only[hr,List.append_nil] at hT
   have HT:=Lib.hid hT
   clear hT hr
   obtain⟨ra,rc,rfl⟩:=own_form HI.out.own
   go_wp2_with fail
   go_ret
   exact⟨⟨ra,k,rc,rfl,by rw[←HT.out,HI.out.len],by rw[←HT.out];exact HI.out.own⟩,HI.out.blw⟩
end Go.Proofs.YthopjhifepijiaaGreat
namespace Go.Proofs.YthopjhifepijiaaGreat
open Go.RowKit Go.Joins
def nmF (g:Bool) (v:Value):Nat→Value
 |0=> .bool g
 |_=>v
theorem nm_load {W:World} {b:Nat} {g:Bool} {v:Value} (hr:W.rowIs b 87 2 (nmF g v)):(loadVar 87 ⟨b,0,none⟩).run Tryz.prog W= .ok (.agg #[.bool g,v]) W:=by
 obtain⟨c,hc,hs,hi⟩:=hr
 have hcs:c= #[.bool g,v]:=by
  apply Array.ext_getElem?
  intro i
  by_cases hlt:i<2
  ·rw[hi i hlt]
   rcases i with _|_|i<;>first|rfl|(exfalso;omega)
  ·rw[Array.getElem?_eq_none (by omega),Array.getElem?_eq_none (by simp;omega)]
 subst hcs
 exact run_loadVar_row (P:=Tryz.prog) W b _ 87 _ _ _ hc Tryz.underlying87 rfl (by kernel_rfl)
theorem res_nm {fn:Func} {p:Tmp} {tmps:Array Value} {W:World} {b:Nat} {g:Bool} {v:Value} (h:fn.results= #[.cell p 87]) (hp:tmps.getD p undef= .pointer (some ⟨b,0,none⟩)) (hr:W.rowIs b 87 2 (nmF g v)):
  (results fn tmps).run Tryz.prog W= .ok (.agg #[.bool g,v]) W:=by
 have hp':tmps[p]?.getD undef= .pointer (some ⟨b,0,none⟩):=by simpa using hp
 simp[results,h,hp',asAddr,nm_load hr]
theorem Tryz.results91:Tryz.f91.results= #[.cell 2 87]:=by kernel_rfl
def lenC (w:World) (b:Nat):Nat:=match w.cell? ⟨b,1,none⟩ with
 |some (.slice _ n _)=>n
 |_=>0
theorem trimD_cut {l:List Int} {k:Nat} (hk:k<l.length) (h:l[k]? =some 0):trimD (l.take (k+1))=trimD (l.take k):=by
 rw[take_snoc' h,trimD_snoc,if_pos rfl]
theorem trimD_stay {l:List Int} {k:Nat} {x:Int} (h:l[k]? =some x) (hx:x≠0):trimD (l.take (k+1))=l.take (k+1):=by
 rw[take_snoc' h,trimD_snoc,if_neg hx]
set_option maxRecDepth 100000 in
set_option maxHeartbeats 4000000 in
theorem r3trim_any {w:World} {B n c:Nat} {a:Option Addr} {g:Bool} {l:List Int} (h:NsIn w B a n l) (hB:B≤w.heap.size) (hn:n≤1000) (hc:n≤c):
  Calls Tryz.prog 91 #[.agg #[.bool g, .slice a n c]] w fun e w'=>e= .returned (.agg #[.bool (if trimD l=[] then false else g), .slice a (trimD l).length c])∧Below w.heap.size w w':=by
 have HA:=Lib.hid h
 have HL:=Lib.hid h.1
 obtain⟨g',hg'⟩: ∃x,x=(if trimD l=[] then false else g):=⟨_,rfl⟩
 obtain⟨n',hn'⟩: ∃x,x=(trimD l).length:=⟨_,rfl⟩
 rw[←hg', ←hn']
 have HG:=Lib.hid hg'
 have HN:=Lib.hid hn'
 clear h hg' hn'
 go_enter Tryz.func91,Tryz.ntmps91
 go_wp2_with fail
 first|refine wp_name (fun W hW=> ?_)|refine calls_name (fun W hW=> ?_)
 have HW:Hid (Below w.heap.size w W):=Lib.hid (by rw[←hW];repeat (first|exact Below.refl _ _|refine below_alloc ?_))
 have HWs:Hid (W.heap.size=w.heap.size+1+1):=Lib.hid (by rw[←hW];simp)
 have HBW:Hid (W.heap.size≤W.heap.size):=Lib.hid (by have:=HWs.out;omega)
 have HC:=fun(W1:World) (hb:Below (W.heap.size) W W1)=>Lib.hid (show W1.cell? ⟨w.heap.size,0,none⟩=some (.bool g)∧W1.cell? ⟨w.heap.size,1,none⟩=some (.slice a n c)∧W1.cell? ⟨w.heap.size+1,0,none⟩=some (.bool false)∧W1.cell? ⟨w.heap.size+1,1,none⟩=some (.slice none 0 0) from by have hs:=HWs.out;refine⟨?_, ?_, ?_, ?_⟩<;>(refine(hb.cell (by dsimp only;omega)).trans ?_;rw[←hW];clear hW;go_simp))
 have HB:=Lib.hid (Below.refl (W.heap.size) W)
 have HZ:=fun(W1:World) (hb:W.heap.size≤W1.heap.size)=>Lib.hid (show w.heap.size<W1.heap.size∧w.heap.size+1<W1.heap.size from by have:=HWs.out;refine⟨?_, ?_⟩<;>omega)
 obtain⟨qx0,qx1,qx2,qx3⟩:=(HC _ HB.out).out
 obtain⟨rx0,rx1⟩:=(HZ _ HB.out.size).out
 have HP:=Lib.hid (show W.rowIs w.heap.size 87 2 (nmF g (.slice a n c)) from by
  have:=(World.rowIs_alloc w #[.bool g, .slice a n c] 87 (nmF g (.slice a n c)) (fun i hi=>by rcases i with _|_|i<;>first|rfl|(simp at hi;omega))).alloc (.cells #[.bool false, .slice none 0 0] 87)
  rw[hW] at this
  simpa using this)
 have HQ:=Lib.hid (show W.rowIs (w.heap.size+1) 87 2 (nmF false (.slice none 0 0)) from by
  have:=World.rowIs_alloc (w.alloc (.cells #[.bool g, .slice a n c] 87)) #[.bool false, .slice none 0 0] 87 (nmF false (.slice none 0 0)) (fun i hi=>by rcases i with _|_|i<;>first|rfl|(simp at hi;omega))
  rw[hW] at this
  simpa using this)
 clear hW
 clear qx0 qx1 qx2 qx3 rx0 rx1
 go_loopw [] (fun wr=> ∃k:Nat,k≤n∧trimD (l.take k)=trimD l∧wr.rowIs w.heap.size 87 2 (nmF g (.slice a k c))∧Touch [w.heap.size] W wr) (fun wr=>lenC wr w.heap.size)
 case atStart=>exact⟨n,Nat.le_refl _,by rw[List.take_of_length_le (by have:=HL.out;omega)],HP.out,Touch.refl _ _⟩
 case round=>
  obtain⟨k,hk,htr,hr,ht⟩:=hrel
  have HR:=Lib.hid hr
  have HT:=Lib.hid ht
  have HTR:=Lib.hid htr
  have hs0:w.heap.size<wr.heap.size:=by have:=HWs.out;have:=ht.size;omega
  have hs1:w.heap.size+1<wr.heap.size:=by have:=HWs.out;have:=ht.size;omega
  have HX:=Lib.hid (HW.out.trans (Touch.below ht HW.out.size (by intro b hb;simp at hb;omega)))
  have HQ1:=Lib.hid (rowIs_touch HQ.out ht (by simp))
  have f0:=fun i=>World.rowIs.frozen hr i
  have c0:wr.cell? ⟨w.heap.size,0,none⟩=some (.bool g):=World.rowIs.cell hr (i:=0) (by decide)
  have c1:wr.cell? ⟨w.heap.size,1,none⟩=some (.slice a k c):=World.rowIs.cell hr (i:=1) (by decide)
  have f1:=fun i=>World.rowIs.frozen HQ1.out i
  have q0:wr.cell? ⟨w.heap.size+1,0,none⟩=some (.bool false):=World.rowIs.cell HQ1.out (i:=0) (by decide)
  have q1:wr.cell? ⟨w.heap.size+1,1,none⟩=some (.slice none 0 0):=World.rowIs.cell HQ1.out (i:=1) (by decide)
  clear hr ht htr
  rcases k with _|k
  ·have F:=Lib.hid (show trimD l=[] from by rw[←HTR.out];rfl)
   go_wp2_with fail
   refine bodyPost_ret_by (res_nm (g:=false) (v:= .slice a 0 c) Tryz.results91 rfl (World.rowIs.congr (World.rowIs.set (World.rowIs.set (rowIs_touch (F:=[w.heap.size]) HQ1.out ((Touch.refl _ _).setCell (.inl (by simp)) _) (by simp)) 0 _) 1 _) (fun i hi=>by rcases i with _|_|i<;>first|rfl|exact absurd hi (by omega)))) rfl ?_
   exact⟨by rw[HG.out,HN.out,F.out];rfl,((HX.out.setCell (by simp) _).setCell (by simp) _).setCell (by simp) _⟩
  ·obtain⟨ba,oa,rfl,hba,hca⟩:=HA.out.row (by omega)
   obtain⟨x,hx⟩: ∃x,l[k]? =some x:=⟨_,List.getElem?_eq_getElem (by have:=HL.out;omega)⟩
   have HXK:=Lib.hid hx
   have e1:=hca wr (HX.out.mono hB) k x hx
   have hkc:k≤c:=by omega
   clear hca hx
   by_cases hx0:x=0
   ·subst hx0
    go_wp2_with fail
    go_roundw
    case rel=>exact⟨k,by omega,by rw[←HTR.out,trimD_cut (by have:=HL.out;omega) HXK.out],World.rowIs.congr (World.rowIs.set HR.out 1 _) (fun i hi=>by rcases i with _|_|i<;>first|rfl|exact absurd hi (by omega)),HT.out.setCell (.inl (by simp)) _⟩
    case measure=>
     have hrow:=World.rowIs.congr (g:=nmF g (.slice (some ⟨ba,oa,none⟩) k c)) (World.rowIs.set HR.out 1 (.slice (some ⟨ba,oa,none⟩) k c)) (fun i hi=>by rcases i with _|_|i<;>first|rfl|exact absurd hi (by omega))
     have hz2:(wr.setCell ⟨w.heap.size,1,none⟩ (.slice (some ⟨ba,oa,none⟩) k c)).cell? ⟨w.heap.size,1,none⟩=some (.slice (some ⟨ba,oa,none⟩) k c):=World.rowIs.cell hrow (i:=1) (by decide)
     unfold lenC
     rw[hz2,c1]
     show k<k+1
     omega
   ·have hz:(x==0)=false:=by simpa using hx0
    have F:=Lib.hid (show trimD l=l.take (k+1) from by rw[←HTR.out,trimD_stay HXK.out hx0])
    go_wp2_with fail
    refine bodyPost_ret_by (res_nm (g:=g) (v:= .slice (some ⟨ba,oa,none⟩) (k+1) c) Tryz.results91 rfl (World.rowIs.congr (World.rowIs.set (World.rowIs.set HQ1.out 0 _) 1 _) (fun i hi=>by rcases i with _|_|i<;>first|rfl|exact absurd hi (by omega)))) rfl ?_
    refine⟨?_,(HX.out.setCell (by simp) _).setCell (by simp) _⟩
    have hlen:(l.take (k+1)).length=k+1:=by rw[List.length_take];have:=HL.out;omega
    rw[HG.out,HN.out,F.out,if_neg (fun e=>by rw[e] at hlen;simp at hlen),hlen]
def NmV (w:World) (lo B:Nat) (v:Value) (x:Int):Prop:= ∃g a n c l,v= .agg #[.bool g, .slice a n c]∧NsIn w B a n l∧n≤c∧NumD x g l∧(n=0∨ ∀q,a=some q→lo≤q.block)
theorem NmV.below {w w':World} {lo B:Nat} {v:Value} {x:Int} (h:NmV w lo B v x) (k:Below B w w'):NmV w' lo B v x:=by
 obtain⟨g,a,n,c,l,e,hn,hc,hd⟩:=h
 exact⟨g,a,n,c,l,e,hn.below k,hc,hd⟩
theorem NmV.weak {w:World} {lo lo' B:Nat} {v:Value} {x:Int} (h:NmV w lo B v x) (k:lo'≤lo):NmV w lo' B v x:=by
 obtain⟨g,a,n,c,l,e,hn,hc,hd,ha⟩:=h
 exact⟨g,a,n,c,l,e,hn,hc,hd,ha.imp id (fun f q hq=>Nat.le_trans k (f q hq))⟩
theorem NmV.touch {w w':World} {lo B:Nat} {v:Value} {x:Int} {F:List Nat} (h:NmV w lo B v x) (t:Touch F w w') (hB:B≤w.heap.size) (hF: ∀b∈F,b<lo):NmV w' lo B v x:=by
 obtain⟨g,a,n,c,l,e,⟨hn,hs⟩,hc,hd,ha⟩:=h
 refine⟨g,a,n,c,l,e,⟨hn, ?_⟩,hc,hd,ha⟩
 rcases hs with h0|⟨b,off,rfl,hb,hcl⟩
 ·exact .inl h0
 ·rcases ha with h0|ha
  ·exact .inl h0
  ·exact .inr ⟨b,off,rfl,hb,fun i y hy=>(t.cell (p:=⟨b,_,none⟩) (Nat.lt_of_lt_of_le hb hB) (fun hm=>by have:=hF b hm;have:=ha _ rfl;simp at this;omega)).trans (hcl i y hy)⟩
theorem NmV.zero (w:World) (lo B:Nat):NmV w lo B (.agg #[.bool false, .slice none 0 0]) 0:=⟨false,none,0,0,[],rfl,⟨rfl, .inl rfl⟩,Nat.le_refl _,NumD.zero, .inl rfl⟩
def bdN (x:Int):Prop:=x.natAbs<1180591620717411303424
theorem NumD.few {x:Int} {g:Bool} {l:List Int} (h:NumD x g l) (hb:bdN x):l.length≤5:=by
 rcases Nat.lt_or_ge 5 l.length with hl|hl
 ·have:=val_len (a:=[65535,65535,65535,65535,65535]) (by intro d hd;simp at hd;omega) h.ok h.top (by simpa using hl)
  have h2:valD [65535,65535,65535,65535,65535]=1208925819614629174706175:=by decide
  rw[h2,h.val] at this
  unfold bdN at hb
  omega
 ·exact hl
theorem NsIn.mono {w:World} {B B':Nat} {a:Option Addr} {n:Nat} {l:List Int} (h:NsIn w B a n l) (k:B≤B'):NsIn w B' a n l:=
 ⟨h.1,h.2.imp id (fun⟨b,off,e,hb,hc⟩=>⟨b,off,e,Nat.lt_of_lt_of_le hb k,hc⟩)⟩
theorem NmV.mono {w:World} {lo B B':Nat} {v:Value} {x:Int} (h:NmV w lo B v x) (k:B≤B'):NmV w lo B' v x:=by
 obtain⟨g,a,n,c,l,e,hn,hc,hd⟩:=h
 exact⟨g,a,n,c,l,e,hn.mono k,hc,hd⟩
theorem sizeD_num {x y:Int} {g k:Bool} {l m:List Int} (hx:NumD x g l) (hy:NumD y k m):sizeD l m=if x.natAbs<y.natAbs then -1 else if y.natAbs<x.natAbs then 1 else 0:=by
 unfold sizeD
 rw[hx.val,hy.val]
 by_cases h1:x.natAbs<y.natAbs
 ·rw[if_pos (by omega),if_pos h1]
 ·rw[if_neg (by omega),if_neg h1]
  by_cases h2:y.natAbs<x.natAbs
  ·rw[if_pos (by omega),if_pos h2]
  ·rw[if_neg (by omega),if_neg h2]
def cmpN (x y:Int):Int:=if x<y then -1 else if y<x then 1 else 0
set_option maxRecDepth 100000 in
set_option maxHeartbeats 4000000 in
theorem r3cmp_any {w:World} {B l0 l1:Nat} {u v:Value} {x y:Int} (hu:NmV w l0 B u x) (hv:NmV w l1 B v y) (bx:bdN x) (by_:bdN y) (hB:B≤w.heap.size):
  Calls Tryz.prog 68 #[u,v] w fun e w'=>e= .returned (.int .i64 (cmpN x y))∧Below w.heap.size w w':=by
 obtain⟨g,a,n,c,l,rfl,hn,hc,hd, -⟩:=hu
 obtain⟨k,b,m,d,q,rfl,hm,he,hq, -⟩:=hv
 have l1:=hd.few bx
 have l2:=hq.few by_
 have e1:=hn.1
 have e2:=hm.1
 have HS:=fun(W:World) (hb:Below w.heap.size w W)=>Lib.hid (r3size_any (w:=W) (ca:=c) (cb:=d) (hn.below (hb.mono hB)) (hm.below (hb.mono hB)) hd.ok hq.ok hd.top hq.top (Nat.le_trans hB hb.size) (by omega) (by omega))
 have HS2:=fun(W:World) (hb:Below w.heap.size w W)=>Lib.hid (r3size_any (w:=W) (ca:=d) (cb:=c) (hm.below (hb.mono hB)) (hn.below (hb.mono hB)) hq.ok hd.ok hq.top hd.top (Nat.le_trans hB hb.size) (by omega) (by omega))
 rw[sizeD_num hd hq] at HS
 rw[sizeD_num hq hd] at HS2
 have hg:=hd.neg
 have hk:=hq.neg
 obtain⟨z,hz⟩: ∃z,z=cmpN x y:=⟨_,rfl⟩
 obtain⟨s1,hs1⟩: ∃z:Int,z=(if x.natAbs<y.natAbs then -1 else if y.natAbs<x.natAbs then 1 else 0):=⟨_,rfl⟩
 obtain⟨s2,hs2⟩: ∃z:Int,z=(if y.natAbs<x.natAbs then -1 else if x.natAbs<y.natAbs then 1 else 0):=⟨_,rfl⟩
 rw[←hs1] at HS
 rw[←hs2] at HS2
 rw[←hz]
 have HZ:Hid ((g=true→k=true→z=s2)∧(g=false→k=false→z=s1)∧(g=true→k=false→z= -1)∧(g=false→k=true→z=1)):=Lib.hid (by
  subst hz hs1 hs2 hg hk
  unfold cmpN
  simp only[decide_eq_true_eq,decide_eq_false_iff_not]
  refine⟨fun h1 h2=> ?_,fun h1 h2=> ?_,fun h1 h2=> ?_,fun h1 h2=> ?_⟩<;>(repeat (first|split|rfl|omega)))
 clear hz hs1 hs2 hn hm hc he hd hq bx by_ hg hk l1 l2 e1 e2
 cases g<;>cases k
 ·have F:=Lib.hid (HZ.out.2.1 rfl rfl)
  go_enter Tryz.func68,Tryz.ntmps68
  go_wp2_with fail
  first|refine wp_name (fun W hW=> ?_)|refine calls_name (fun W hW=> ?_)
  have HW:Hid (Below w.heap.size w W):=Lib.hid (by rw[←hW];repeat (first|exact Below.refl _ _|refine below_alloc ?_))
  have HWs:Hid (W.heap.size=w.heap.size+1+1):=Lib.hid (by rw[←hW];simp)
  have HBW:Hid (W.heap.size≤W.heap.size):=Lib.hid (by have:=HWs.out;omega)
  have HC:=fun(W1:World) (hb:Below (W.heap.size) W W1)=>Lib.hid (show W1.cell? ⟨w.heap.size,0,none⟩=some (.bool false)∧W1.cell? ⟨w.heap.size,1,none⟩=some (.slice a n c)∧W1.cell? ⟨w.heap.size+1,0,none⟩=some (.bool false)∧W1.cell? ⟨w.heap.size+1,1,none⟩=some (.slice b m d) from by have hs:=HWs.out;refine⟨?_, ?_, ?_, ?_⟩<;>(refine(hb.cell (by dsimp only;omega)).trans ?_;rw[←hW];clear hW;go_simp))
  have HB:=Lib.hid (Below.refl (W.heap.size) W)
  clear hW
  have HZ:=fun(W1:World) (hb:W.heap.size≤W1.heap.size)=>Lib.hid (show w.heap.size<W1.heap.size∧w.heap.size+1<W1.heap.size from by have:=HWs.out;refine⟨?_, ?_⟩<;>omega)
  obtain⟨qx0,qx1,qx2,qx3⟩:=(HC _ HB.out).out
  obtain⟨rx0,rx1⟩:=(HZ _ HB.out.size).out
  refine((HS _ HW.out).out).mono ?_
  rintro e w3 ⟨rfl,hb3⟩
  have HB:=bnx HB HBW hb3
  clear qx0 qx1 qx2 qx3 rx0 rx1
  obtain⟨qx0,qx1,qx2,qx3⟩:=(HC _ HB.out).out
  clear hb3
  obtain⟨rx0,rx1⟩:=(HZ _ HB.out.size).out
  go_wp2_with fail
  go_ret
  exact⟨by rw[F.out];rfl,bfn HW HB⟩
 ·have F:=Lib.hid (HZ.out.2.2.2 rfl rfl)
  go_enter Tryz.func68,Tryz.ntmps68
  go_wp2_with fail
  go_ret
  exact⟨by rw[F.out];rfl,below_alloc (below_alloc (Below.refl _ _))⟩
 ·have F:=Lib.hid (HZ.out.2.2.1 rfl rfl)
  go_enter Tryz.func68,Tryz.ntmps68
  go_wp2_with fail
  go_ret
  exact⟨by rw[F.out];rfl,below_alloc (below_alloc (Below.refl _ _))⟩
 ·have F:=Lib.hid (HZ.out.1 rfl rfl)
  go_enter Tryz.func68,Tryz.ntmps68
  go_wp2_with fail
  first|refine wp_name (fun W hW=> ?_)|refine calls_name (fun W hW=> ?_)
  have HW:Hid (Below w.heap.size w W):=Lib.hid (by rw[←hW];repeat (first|exact Below.refl _ _|refine below_alloc ?_))
  have HWs:Hid (W.heap.size=w.heap.size+1+1):=Lib.hid (by rw[←hW];simp)
  have HBW:Hid (W.heap.size≤W.heap.size):=Lib.hid (by have:=HWs.out;omega)
  have HC:=fun(W1:World) (hb:Below (W.heap.size) W W1)=>Lib.hid (show W1.cell? ⟨w.heap.size,0,none⟩=some (.bool true)∧W1.cell? ⟨w.heap.size,1,none⟩=some (.slice a n c)∧W1.cell? ⟨w.heap.size+1,0,none⟩=some (.bool true)∧W1.cell? ⟨w.heap.size+1,1,none⟩=some (.slice b m d) from by have hs:=HWs.out;refine⟨?_, ?_, ?_, ?_⟩<;>(refine(hb.cell (by dsimp only;omega)).trans ?_;rw[←hW];clear hW;go_simp))
  have HB:=Lib.hid (Below.refl (W.heap.size) W)
  clear hW
  have HZ:=fun(W1:World) (hb:W.heap.size≤W1.heap.size)=>Lib.hid (show w.heap.size<W1.heap.size∧w.heap.size+1<W1.heap.size from by have:=HWs.out;refine⟨?_, ?_⟩<;>omega)
  obtain⟨qx0,qx1,qx2,qx3⟩:=(HC _ HB.out).out
  obtain⟨rx0,rx1⟩:=(HZ _ HB.out.size).out
  refine((HS2 _ HW.out).out).mono ?_
  rintro e w6 ⟨rfl,hb6⟩
  have HB:=bnx HB HBW hb6
  clear qx0 qx1 qx2 qx3 rx0 rx1
  obtain⟨qx0,qx1,qx2,qx3⟩:=(HC _ HB.out).out
  clear hb6
  obtain⟨rx0,rx1⟩:=(HZ _ HB.out.size).out
  go_wp2_with fail
  go_ret
  exact⟨by rw[F.out];rfl,bfn HW HB⟩
end Go.Proofs.YthopjhifepijiaaGreat
namespace Go.Proofs.YthopjhifepijiaaGreat
open Go.RowKit Go.Joins
theorem Tryz.results65:Tryz.f65.results= #[.cell 4 87]:=by kernel_rfl
theorem own_cap {w:World} {base n c size:Nat} {a:Option Addr} {t:TypeId} {l:List Value} (h:w.ownsRow base t size (.slice a n c) n l):n≤c:=by
 rcases h.2 with ⟨e,h0⟩|⟨g,cap,cur,e,_,_,hc,_⟩
 ·omega
 ·injection e with e1 e2 e3
  omega
theorem NmV.trim {w:World} {base n c:Nat} {a:Option Addr} {t:TypeId} {l:List Int} {x:Int} (h:w.ownsRow base t 1 (.slice a n c) n (intC l)) (hn:n=l.length) (ok:okD l) (g:Bool) (e:(if g=true then -valD l else valD l)=x):
  NmV w base w.heap.size (.agg #[.bool (if trimD l=[] then false else g), .slice a (trimD l).length c]) x:=by
 obtain⟨k,hk,ht⟩:=trimD_take l
 have hl:(trimD l).length=k:=by rw[ht,List.length_take];omega
 have h2:=(own_ns h hn).take (k:=k) (by omega)
 have hc:=own_cap h
 rw[←ht] at h2
 rw[hl]
 exact⟨_,a,k,c,trimD l,rfl,h2,by omega,NumD.trim ok g e, .inr (fun q hq=>(h.lt q.block (by subst hq;rfl)).1)⟩
set_option maxRecDepth 100000 in
set_option maxHeartbeats 8000000 in
theorem r3add_any {w:World} {B l0 l1:Nat} {u v:Value} {x y:Int} (hu:NmV w l0 B u x) (hv:NmV w l1 B v y) (bx:bdN x) (by_:bdN y) (hB:B≤w.heap.size):
  Calls Tryz.prog 65 #[u,v] w fun e w'=>(∃z,e= .returned z∧NmV w' w.heap.size w'.heap.size z (x+y))∧Below w.heap.size w w':=by
 obtain⟨g,a,n,c,l,rfl,hn,hc,hd, -⟩:=hu
 obtain⟨k,b,m,d,q,rfl,hm,he,hq, -⟩:=hv
 have l1:=hd.few bx
 have l2:=hq.few by_
 have e1:=hn.1
 have e2:=hm.1
 have hg:=hd.neg
 have hk:=hq.neg
 have v1:=hd.val
 have v2:=hq.val
 cases hgk:(g==k)
 ·have hne:g≠k:=by simpa using hgk
  have HS:=fun(W:World) (hb:Below w.heap.size w W)=>Lib.hid (r3size_any (w:=W) (ca:=c) (cb:=d) (hn.below (hb.mono hB)) (hm.below (hb.mono hB)) hd.ok hq.ok hd.top hq.top (Nat.le_trans hB hb.size) (by omega) (by omega))
  by_cases hcmp:y.natAbs≤x.natAbs
  ·have hs:0≤sizeD l q:=by rw[sizeD_num hd hq,if_neg (by omega)];split<;>omega
   generalize sizeD l q=s at HS hs
   have HPO:=Lib.hid (minusL_ok (w:=0) hd.ok hq.ok (by omega) (by omega))
   have hpv:=minusL_val (w:=0) hd.ok hq.ok (by omega) (by omega) (by omega)
   have HPV:Hid ((if g=true then -valD (minusL l q 0) else valD (minusL l q 0))=x+y):=Lib.hid (by
    rw[hpv,v1,v2]
    cases g<;>cases k<;>simp at hg hk hne ⊢ <;>omega)
   have HLN:Hid ((minusL l q 0).length≤100):=Lib.hid (by rw[minusL_len];omega)
   have HMI:=fun(W:World) (hb:Below w.heap.size w W)=>Lib.hid (r3minus_any (w:=W) (ca:=c) (cb:=d) (hn.below (hb.mono hB)) (hm.below (hb.mono hB)) hd.ok hq.ok (Nat.le_trans hB hb.size) (by omega) (by omega))
   clear hn hm hc he hd hq bx by_ hg hk v1 v2 e1 e2 l1 l2 hpv hcmp hne
   go_enter Tryz.func65,Tryz.ntmps65
   go_wp2_with fail
   first|refine wp_name (fun W hW=> ?_)|refine calls_name (fun W hW=> ?_)
   have HW:Hid (Below w.heap.size w W):=Lib.hid (by rw[←hW];repeat (first|exact Below.refl _ _|refine below_alloc ?_))
   have HWs:Hid (W.heap.size=w.heap.size+1+1+1):=Lib.hid (by rw[←hW];simp)
   have HBW:Hid (W.heap.size≤W.heap.size):=Lib.hid (by have:=HWs.out;omega)
   have HC:=fun(W1:World) (hb:Below (W.heap.size) W W1)=>Lib.hid (show W1.cell? ⟨w.heap.size,0,none⟩=some (.bool g)∧W1.cell? ⟨w.heap.size,1,none⟩=some (.slice a n c)∧W1.cell? ⟨w.heap.size+1,0,none⟩=some (.bool k)∧W1.cell? ⟨w.heap.size+1,1,none⟩=some (.slice b m d)∧W1.cell? ⟨w.heap.size+1+1,0,none⟩=some (.bool false)∧W1.cell? ⟨w.heap.size+1+1,1,none⟩=some (.slice none 0 0) from by have hs:=HWs.out;refine⟨?_, ?_, ?_, ?_, ?_, ?_⟩<;>(refine(hb.cell (by dsimp only;omega)).trans ?_;rw[←hW];clear hW;go_simp))
   have HB:=Lib.hid (Below.refl (W.heap.size) W)
   have HZ:=fun(W1:World) (hb:W.heap.size≤W1.heap.size)=>Lib.hid (show w.heap.size<W1.heap.size∧w.heap.size+1<W1.heap.size∧w.heap.size+1+1<W1.heap.size from by have:=HWs.out;refine⟨?_, ?_, ?_⟩<;>omega)
   obtain⟨qx0,qx1,qx2,qx3,qx4,qx5⟩:=(HC _ HB.out).out
   obtain⟨rx0,rx1,rx2⟩:=(HZ _ HB.out.size).out
   have HQ:=Lib.hid (show W.rowIs (w.heap.size+1+1) 87 2 (nmF false (.slice none 0 0)) from by
    have:=World.rowIs_alloc ((w.alloc (.cells #[.bool g, .slice a n c] 87)).alloc (.cells #[.bool k, .slice b m d] 87)) #[.bool false, .slice none 0 0] 87 (nmF false (.slice none 0 0)) (fun i hi=>by rcases i with _|_|i<;>first|rfl|(simp at hi;omega))
    rw[hW] at this
    simpa using this)
   clear hW
   refine((HS _ HW.out).out).mono ?_
   rintro e w1 ⟨rfl,hb2⟩
   have HB:=bnx HB HBW hb2
   clear qx0 qx1 qx2 qx3 qx4 qx5 rx0 rx1 rx2
   obtain⟨qx0,qx1,qx2,qx3,qx4,qx5⟩:=(HC _ HB.out).out
   clear hb2
   obtain⟨rx0,rx1,rx2⟩:=(HZ _ HB.out.size).out
   go_wp2_with fail
   clear qx0 qx1 qx2 qx3 qx4 qx5 rx0 rx1 rx2
   have HY:=fun(w':World) (t:Below W.heap.size W w')=>Lib.hid (show w'.cell? ⟨w.heap.size,0,none⟩=some (.bool g)∧w'.cell? ⟨w.heap.size,1,none⟩=some (.slice a n c)∧w'.cell? ⟨w.heap.size+1,0,none⟩=some (.bool k)∧w'.cell? ⟨w.heap.size+1,1,none⟩=some (.slice b m d) from by
    obtain⟨d0,d1,d2,d3, -⟩:=(HC _ t).out
    exact⟨d0,d1,d2,d3⟩)
   have HS0:=Lib.hid HB.out.drew
   refine wp_region_noPanic ?_
   refine wp_region_par3 9 9 (by kernel_rfl) (by kernel_rfl) (by simp) (by omega) (by kernel_rfl) (by kernel_rfl) (fun w':World=>Below W.heap.size W w') ?_
   refine par3_move (v:= ?_) 0 (by simp only[zga,zgb,zgc];rfl) (by kernel_rfl) (by rfl) ?_ (fun _ _ _ h=>h) ?_
   rotate_left
   ·(intro w9;go_simp;try with_reducible rfl)
   simp only[Act.put,zpa,zpb,zpc]
   refine par3_read (v:= ?_) 1 (by simp only[zga,zgb,zgc];rfl) (by kernel_rfl) (by rfl) HS0.out ?_ (fun _ _ _ h=>h) ?_
   rotate_left
   ·(intro w9 hSw;obtain⟨y0,y1,y2,y3⟩:=(HY w9 hSw).out;clear hSw;go_simp;try with_reducible rfl)
   simp only[Act.put,zpa,zpb,zpc]
   refine par3_move (v:= ?_) 2 (by simp only[zga,zgb,zgc];rfl) (by kernel_rfl) (by rfl) ?_ (fun _ _ _ h=>h) ?_
   rotate_left
   ·(intro w9;go_simp;try with_reducible rfl)
   simp only[Act.put,zpa,zpb,zpc]
   refine par3_read (v:= ?_) 3 (by simp only[zga,zgb,zgc];rfl) (by kernel_rfl) (by rfl) HS0.out ?_ (fun _ _ _ h=>h) ?_
   rotate_left
   ·(intro w9 hSw;obtain⟨y0,y1,y2,y3⟩:=(HY w9 hSw).out;clear hSw;go_simp;try with_reducible rfl)
   simp only[Act.put,zpa,zpb,zpc]
   refine par3_move (v:= ?_) 4 (by simp only[zga,zgb,zgc];rfl) (by kernel_rfl) (by rfl) ?_ (fun _ _ _ h=>h) ?_
   rotate_left
   ·(intro w9;go_simp;try with_reducible rfl)
   simp only[Act.put,zpa,zpb,zpc]
   refine par3_read (v:= ?_) 5 (by simp only[zga,zgb,zgc];rfl) (by kernel_rfl) (by rfl) HS0.out ?_ (fun _ _ _ h=>h) ?_
   rotate_left
   ·(intro w9 hSw;obtain⟨y0,y1,y2,y3⟩:=(HY w9 hSw).out;clear hSw;go_simp;try with_reducible rfl)
   simp only[Act.put,zpa,zpb,zpc]
   refine par3_nm (fun W0 hW0=> ?_)
   rw[←hW0] at HS0
   clear hW0
   refine par3_one 6 (by simp only[zga,zgb,zgc];rfl) (by kernel_rfl) (by rfl) ?_
   refine owp_call (by go_simp;constructor<;>rfl) ?_
   refine(HMI _ (HW.out.trans (HS0.out.mono HW.out.size))).out.mono ?_
   rintro z W6 ⟨⟨ra,rn,rc,rfl,hrn,hown⟩,hb6⟩
   have HS6:=Lib.hid (below_next HS0.out HS0.out.size hb6)
   have HO6:=Lib.hid hown
   have HRN:=Lib.hid hrn
   refine⟨_,rfl,fun s _=>HS6.out, ?_⟩
   clear hb6 hown hrn
   simp only[Act.put,zpa,zpb,zpc]
   refine par3_move (v:= ?_) 7 (by simp only[zga,zgb,zgc];rfl) (by kernel_rfl) (by rfl) ?_ (fun _ _ _ h=>h) ?_
   rotate_left
   ·(intro w9;go_simp;try with_reducible rfl)
   simp only[Act.put,zpa,zpb,zpc]
   refine par3_one 8 (by simp only[zga,zgb,zgc];rfl) (by kernel_rfl) (by rfl) ?_
   refine owp_call (by go_simp;constructor<;>rfl) ?_
   refine(r3trim_any (own_ns HO6.out HRN.out) (Nat.le_refl _) (by have:=HRN.out;have:=HLN.out;omega) (own_cap HO6.out)).mono ?_
   rintro z W8 ⟨rfl,hb8⟩
   have HS8:=Lib.hid (below_next HS6.out HS6.out.size hb8)
   have HO8:=Lib.hid (ownsRow_touch HO6.out (Touch.of_below (F:=[]) hb8) (by simp))
   refine⟨_,rfl,fun s _=>HS8.out, ?_⟩
   clear hb8
   simp only[Act.put,zpa,zpb,zpc]
   have HQ8:=Lib.hid (rowIs_touch HQ.out (Touch.of_below (F:=[]) HS8.out) (by simp))
   have hlo:w.heap.size+1+1<W0.heap.size:=by have:=HWs.out;have:=HS0.out.size;omega
   have HOF:=Lib.hid (fun(x y:Value)=>ownsRow_touch HO8.out (((Touch.refl [w.heap.size+1+1] W8).setCell (p:=⟨w.heap.size+1+1,0,none⟩) (.inl (by simp)) x).setCell (p:=⟨w.heap.size+1+1,1,none⟩) (.inl (by simp)) y) (fun q hq hm=>by have:=(HO8.out.lt q hq).1;simp at hm;omega))
   have f0:=fun i=>World.rowIs.frozen HQ8.out i
   have q0:W8.cell? ⟨w.heap.size+1+1,0,none⟩=some (.bool false):=World.rowIs.cell HQ8.out (i:=0) (by decide)
   have q1:W8.cell? ⟨w.heap.size+1+1,1,none⟩=some (.slice none 0 0):=World.rowIs.cell HQ8.out (i:=1) (by decide)
   obtain⟨tg,htg⟩: ∃y,y=(if trimD (minusL l q 0)=[] then false else g):=⟨_,rfl⟩
   obtain⟨tn,htn⟩: ∃y,y=(trimD (minusL l q 0)).length:=⟨_,rfl⟩
   have HTG:=Lib.hid (show tg=(if trimD (minusL l q 0)=[] then false else g)∧tn=(trimD (minusL l q 0)).length from⟨htg,htn⟩)
   rw[←htg, ←htn]
   clear htg htn
   refine par3_tail _ (by simp only[List.drop_succ_cons,List.drop_zero];rfl) (by kernel_rfl) ?_
   go_wp2_with fail
   refine NoPanic.normal ?_
   go_wp2_with fail
   refine bodyPost_ret_by (res_nm (g:=tg) (v:= .slice ra tn rc) Tryz.results65 rfl (World.rowIs.congr (World.rowIs.set (World.rowIs.set HQ8.out 0 _) 1 _) (fun i hi=>by rcases i with _|_|i<;>first|rfl|exact absurd hi (by omega)))) rfl ?_
   refine⟨⟨_,rfl, ?_⟩,((HW.out.trans (HS8.out.mono HW.out.size)).setCell (p:=⟨w.heap.size+1+1,0,none⟩) (by show _≤w.heap.size+1+1;omega) _).setCell (p:=⟨w.heap.size+1+1,1,none⟩) (by show _≤w.heap.size+1+1;omega) _⟩
   rw[HTG.out.1,HTG.out.2]
   exact(NmV.trim (HOF.out _ _) HRN.out HPO.out g HPV.out).weak (by omega)
  ·have hs:sizeD l q<0:=by rw[sizeD_num hd hq,if_pos (by omega)];omega
   generalize sizeD l q=s at HS hs
   have HPO:=Lib.hid (minusL_ok (w:=0) hq.ok hd.ok (by omega) (by omega))
   have hpv:=minusL_val (w:=0) hq.ok hd.ok (by omega) (by omega) (by omega)
   have HPV:Hid ((if k=true then -valD (minusL q l 0) else valD (minusL q l 0))=x+y):=Lib.hid (by
    rw[hpv,v1,v2]
    cases g<;>cases k<;>simp at hg hk hne ⊢ <;>omega)
   have HLN:Hid ((minusL q l 0).length≤100):=Lib.hid (by rw[minusL_len];omega)
   have HMI:=fun(W:World) (hb:Below w.heap.size w W)=>Lib.hid (r3minus_any (w:=W) (ca:=d) (cb:=c) (hm.below (hb.mono hB)) (hn.below (hb.mono hB)) hq.ok hd.ok (Nat.le_trans hB hb.size) (by omega) (by omega))
   clear hn hm hc he hd hq bx by_ hg hk v1 v2 e1 e2 l1 l2 hpv hcmp hne
   go_enter Tryz.func65,Tryz.ntmps65
   go_wp2_with fail
   first|refine wp_name (fun W hW=> ?_)|refine calls_name (fun W hW=> ?_)
   have HW:Hid (Below w.heap.size w W):=Lib.hid (by rw[←hW];repeat (first|exact Below.refl _ _|refine below_alloc ?_))
   have HWs:Hid (W.heap.size=w.heap.size+1+1+1):=Lib.hid (by rw[←hW];simp)
   have HBW:Hid (W.heap.size≤W.heap.size):=Lib.hid (by have:=HWs.out;omega)
   have HC:=fun(W1:World) (hb:Below (W.heap.size) W W1)=>Lib.hid (show W1.cell? ⟨w.heap.size,0,none⟩=some (.bool g)∧W1.cell? ⟨w.heap.size,1,none⟩=some (.slice a n c)∧W1.cell? ⟨w.heap.size+1,0,none⟩=some (.bool k)∧W1.cell? ⟨w.heap.size+1,1,none⟩=some (.slice b m d)∧W1.cell? ⟨w.heap.size+1+1,0,none⟩=some (.bool false)∧W1.cell? ⟨w.heap.size+1+1,1,none⟩=some (.slice none 0 0) from by have hs:=HWs.out;refine⟨?_, ?_, ?_, ?_, ?_, ?_⟩<;>(refine(hb.cell (by dsimp only;omega)).trans ?_;rw[←hW];clear hW;go_simp))
   have HB:=Lib.hid (Below.refl (W.heap.size) W)
   have HZ:=fun(W1:World) (hb:W.heap.size≤W1.heap.size)=>Lib.hid (show w.heap.size<W1.heap.size∧w.heap.size+1<W1.heap.size∧w.heap.size+1+1<W1.heap.size from by have:=HWs.out;refine⟨?_, ?_, ?_⟩<;>omega)
   obtain⟨qx0,qx1,qx2,qx3,qx4,qx5⟩:=(HC _ HB.out).out
   obtain⟨rx0,rx1,rx2⟩:=(HZ _ HB.out.size).out
   have HQ:=Lib.hid (show W.rowIs (w.heap.size+1+1) 87 2 (nmF false (.slice none 0 0)) from by
    have:=World.rowIs_alloc ((w.alloc (.cells #[.bool g, .slice a n c] 87)).alloc (.cells #[.bool k, .slice b m d] 87)) #[.bool false, .slice none 0 0] 87 (nmF false (.slice none 0 0)) (fun i hi=>by rcases i with _|_|i<;>first|rfl|(simp at hi;omega))
    rw[hW] at this
    simpa using this)
   clear hW
   refine((HS _ HW.out).out).mono ?_
   rintro e w1 ⟨rfl,hb4⟩
   have HB:=bnx HB HBW hb4
   clear qx0 qx1 qx2 qx3 qx4 qx5 rx0 rx1 rx2
   obtain⟨qx0,qx1,qx2,qx3,qx4,qx5⟩:=(HC _ HB.out).out
   clear hb4
   obtain⟨rx0,rx1,rx2⟩:=(HZ _ HB.out.size).out
   go_wp2_with fail
   clear qx0 qx1 qx2 qx3 qx4 qx5 rx0 rx1 rx2
   have HY:=fun(w':World) (t:Below W.heap.size W w')=>Lib.hid (show w'.cell? ⟨w.heap.size,0,none⟩=some (.bool g)∧w'.cell? ⟨w.heap.size,1,none⟩=some (.slice a n c)∧w'.cell? ⟨w.heap.size+1,0,none⟩=some (.bool k)∧w'.cell? ⟨w.heap.size+1,1,none⟩=some (.slice b m d) from by
    obtain⟨d0,d1,d2,d3, -⟩:=(HC _ t).out
    exact⟨d0,d1,d2,d3⟩)
   have HS0:=Lib.hid HB.out.drew
   refine wp_region_noPanic ?_
   refine wp_region_par3 9 9 (by kernel_rfl) (by kernel_rfl) (by simp) (by omega) (by kernel_rfl) (by kernel_rfl) (fun w':World=>Below W.heap.size W w') ?_
   refine par3_move (v:= ?_) 0 (by simp only[zga,zgb,zgc];rfl) (by kernel_rfl) (by rfl) ?_ (fun _ _ _ h=>h) ?_
   rotate_left
   ·(intro w9;go_simp;try with_reducible rfl)
   simp only[Act.put,zpa,zpb,zpc]
   refine par3_read (v:= ?_) 1 (by simp only[zga,zgb,zgc];rfl) (by kernel_rfl) (by rfl) HS0.out ?_ (fun _ _ _ h=>h) ?_
   rotate_left
   ·(intro w9 hSw;obtain⟨y0,y1,y2,y3⟩:=(HY w9 hSw).out;clear hSw;go_simp;try with_reducible rfl)
   simp only[Act.put,zpa,zpb,zpc]
   refine par3_move (v:= ?_) 2 (by simp only[zga,zgb,zgc];rfl) (by kernel_rfl) (by rfl) ?_ (fun _ _ _ h=>h) ?_
   rotate_left
   ·(intro w9;go_simp;try with_reducible rfl)
   simp only[Act.put,zpa,zpb,zpc]
   refine par3_read (v:= ?_) 3 (by simp only[zga,zgb,zgc];rfl) (by kernel_rfl) (by rfl) HS0.out ?_ (fun _ _ _ h=>h) ?_
   rotate_left
   ·(intro w9 hSw;obtain⟨y0,y1,y2,y3⟩:=(HY w9 hSw).out;clear hSw;go_simp;try with_reducible rfl)
   simp only[Act.put,zpa,zpb,zpc]
   refine par3_move (v:= ?_) 4 (by simp only[zga,zgb,zgc];rfl) (by kernel_rfl) (by rfl) ?_ (fun _ _ _ h=>h) ?_
   rotate_left
   ·(intro w9;go_simp;try with_reducible rfl)
   simp only[Act.put,zpa,zpb,zpc]
   refine par3_read (v:= ?_) 5 (by simp only[zga,zgb,zgc];rfl) (by kernel_rfl) (by rfl) HS0.out ?_ (fun _ _ _ h=>h) ?_
   rotate_left
   ·(intro w9 hSw;obtain⟨y0,y1,y2,y3⟩:=(HY w9 hSw).out;clear hSw;go_simp;try with_reducible rfl)
   simp only[Act.put,zpa,zpb,zpc]
   refine par3_nm (fun W0 hW0=> ?_)
   rw[←hW0] at HS0
   clear hW0
   refine par3_one 6 (by simp only[zga,zgb,zgc];rfl) (by kernel_rfl) (by rfl) ?_
   refine owp_call (by go_simp;constructor<;>rfl) ?_
   refine(HMI _ (HW.out.trans (HS0.out.mono HW.out.size))).out.mono ?_
   rintro z W6 ⟨⟨ra,rn,rc,rfl,hrn,hown⟩,hb6⟩
   have HS6:=Lib.hid (below_next HS0.out HS0.out.size hb6)
   have HO6:=Lib.hid hown
   have HRN:=Lib.hid hrn
   refine⟨_,rfl,fun s _=>HS6.out, ?_⟩
   clear hb6 hown hrn
   simp only[Act.put,zpa,zpb,zpc]
   refine par3_move (v:= ?_) 7 (by simp only[zga,zgb,zgc];rfl) (by kernel_rfl) (by rfl) ?_ (fun _ _ _ h=>h) ?_
   rotate_left
   ·(intro w9;go_simp;try with_reducible rfl)
   simp only[Act.put,zpa,zpb,zpc]
   refine par3_one 8 (by simp only[zga,zgb,zgc];rfl) (by kernel_rfl) (by rfl) ?_
   refine owp_call (by go_simp;constructor<;>rfl) ?_
   refine(r3trim_any (own_ns HO6.out HRN.out) (Nat.le_refl _) (by have:=HRN.out;have:=HLN.out;omega) (own_cap HO6.out)).mono ?_
   rintro z W8 ⟨rfl,hb8⟩
   have HS8:=Lib.hid (below_next HS6.out HS6.out.size hb8)
   have HO8:=Lib.hid (ownsRow_touch HO6.out (Touch.of_below (F:=[]) hb8) (by simp))
   refine⟨_,rfl,fun s _=>HS8.out, ?_⟩
   clear hb8
   simp only[Act.put,zpa,zpb,zpc]
   have HQ8:=Lib.hid (rowIs_touch HQ.out (Touch.of_below (F:=[]) HS8.out) (by simp))
   have hlo:w.heap.size+1+1<W0.heap.size:=by have:=HWs.out;have:=HS0.out.size;omega
   have HOF:=Lib.hid (fun(x y:Value)=>ownsRow_touch HO8.out (((Touch.refl [w.heap.size+1+1] W8).setCell (p:=⟨w.heap.size+1+1,0,none⟩) (.inl (by simp)) x).setCell (p:=⟨w.heap.size+1+1,1,none⟩) (.inl (by simp)) y) (fun q hq hm=>by have:=(HO8.out.lt q hq).1;simp at hm;omega))
   have f0:=fun i=>World.rowIs.frozen HQ8.out i
   have q0:W8.cell? ⟨w.heap.size+1+1,0,none⟩=some (.bool false):=World.rowIs.cell HQ8.out (i:=0) (by decide)
   have q1:W8.cell? ⟨w.heap.size+1+1,1,none⟩=some (.slice none 0 0):=World.rowIs.cell HQ8.out (i:=1) (by decide)
   obtain⟨tg,htg⟩: ∃y,y=(if trimD (minusL q l 0)=[] then false else k):=⟨_,rfl⟩
   obtain⟨tn,htn⟩: ∃y,y=(trimD (minusL q l 0)).length:=⟨_,rfl⟩
   have HTG:=Lib.hid (show tg=(if trimD (minusL q l 0)=[] then false else k)∧tn=(trimD (minusL q l 0)).length from⟨htg,htn⟩)
   rw[←htg, ←htn]
   clear htg htn
   refine par3_tail _ (by simp only[List.drop_succ_cons,List.drop_zero];rfl) (by kernel_rfl) ?_
   go_wp2_with fail
   refine NoPanic.normal ?_
   go_wp2_with fail
   refine bodyPost_ret_by (res_nm (g:=tg) (v:= .slice ra tn rc) Tryz.results65 rfl (World.rowIs.congr (World.rowIs.set (World.rowIs.set HQ8.out 0 _) 1 _) (fun i hi=>by rcases i with _|_|i<;>first|rfl|exact absurd hi (by omega)))) rfl ?_
   refine⟨⟨_,rfl, ?_⟩,((HW.out.trans (HS8.out.mono HW.out.size)).setCell (p:=⟨w.heap.size+1+1,0,none⟩) (by show _≤w.heap.size+1+1;omega) _).setCell (p:=⟨w.heap.size+1+1,1,none⟩) (by show _≤w.heap.size+1+1;omega) _⟩
   rw[HTG.out.1,HTG.out.2]
   exact(NmV.trim (HOF.out _ _) HRN.out HPO.out k HPV.out).weak (by omega)
 ·have hne:g=k:=by simpa using hgk
  obtain⟨N,hN⟩: ∃N,N=max n m+1:=⟨_,rfl⟩
  have HPO:=Lib.hid (plusL_ok (n:=N) (a:=l) (b:=q) (c:=0))
  have hpv:=plusL_val (n:=N) (c:=0) hd.ok hq.ok (by omega) (by omega) (by omega) (by omega)
  have HPV:Hid ((if g=true then -valD (plusL N l q 0) else valD (plusL N l q 0))=x+y):=Lib.hid (by
   rw[hpv,v1,v2]
   cases g<;>cases k<;>simp at hg hk hne ⊢ <;>omega)
  have hln:=plusL_len (n:=N) (c:=0) hd.ok hq.ok (by omega) (by omega)
  have HLN:Hid ((plusL N l q 0).length≤100):=Lib.hid (by omega)
  have HMI:=fun(W:World) (hb:Below w.heap.size w W)=>Lib.hid (r3plus_any (w:=W) (ca:=c) (cb:=d) (hn.below (hb.mono hB)) (hm.below (hb.mono hB)) hd.ok hq.ok (Nat.le_trans hB hb.size) (by omega) (by omega))
  rw[←hN] at HMI
  clear hn hm hc he hd hq bx by_ hg hk v1 v2 e1 e2 l1 l2 hpv hln hN hne
  go_enter Tryz.func65,Tryz.ntmps65
  go_wp2_with fail
  first|refine wp_name (fun W hW=> ?_)|refine calls_name (fun W hW=> ?_)
  have HW:Hid (Below w.heap.size w W):=Lib.hid (by rw[←hW];repeat (first|exact Below.refl _ _|refine below_alloc ?_))
  have HWs:Hid (W.heap.size=w.heap.size+1+1+1):=Lib.hid (by rw[←hW];simp)
  have HBW:Hid (W.heap.size≤W.heap.size):=Lib.hid (by have:=HWs.out;omega)
  have HC:=fun(W1:World) (hb:Below (W.heap.size) W W1)=>Lib.hid (show W1.cell? ⟨w.heap.size,0,none⟩=some (.bool g)∧W1.cell? ⟨w.heap.size,1,none⟩=some (.slice a n c)∧W1.cell? ⟨w.heap.size+1,0,none⟩=some (.bool k)∧W1.cell? ⟨w.heap.size+1,1,none⟩=some (.slice b m d)∧W1.cell? ⟨w.heap.size+1+1,0,none⟩=some (.bool false)∧W1.cell? ⟨w.heap.size+1+1,1,none⟩=some (.slice none 0 0) from by have hs:=HWs.out;refine⟨?_, ?_, ?_, ?_, ?_, ?_⟩<;>(refine(hb.cell (by dsimp only;omega)).trans ?_;rw[←hW];clear hW;go_simp))
  have HB:=Lib.hid (Below.refl (W.heap.size) W)
  have HZ:=fun(W1:World) (hb:W.heap.size≤W1.heap.size)=>Lib.hid (show w.heap.size<W1.heap.size∧w.heap.size+1<W1.heap.size∧w.heap.size+1+1<W1.heap.size from by have:=HWs.out;refine⟨?_, ?_, ?_⟩<;>omega)
  obtain⟨qx0,qx1,qx2,qx3,qx4,qx5⟩:=(HC _ HB.out).out
  obtain⟨rx0,rx1,rx2⟩:=(HZ _ HB.out.size).out
  have HQ:=Lib.hid (show W.rowIs (w.heap.size+1+1) 87 2 (nmF false (.slice none 0 0)) from by
   have:=World.rowIs_alloc ((w.alloc (.cells #[.bool g, .slice a n c] 87)).alloc (.cells #[.bool k, .slice b m d] 87)) #[.bool false, .slice none 0 0] 87 (nmF false (.slice none 0 0)) (fun i hi=>by rcases i with _|_|i<;>first|rfl|(simp at hi;omega))
   rw[hW] at this
   simpa using this)
  clear hW
  go_wp2_with fail
  clear qx0 qx1 qx2 qx3 qx4 qx5 rx0 rx1 rx2
  have HY:=fun(w':World) (t:Below W.heap.size W w')=>Lib.hid (show w'.cell? ⟨w.heap.size,0,none⟩=some (.bool g)∧w'.cell? ⟨w.heap.size,1,none⟩=some (.slice a n c)∧w'.cell? ⟨w.heap.size+1,0,none⟩=some (.bool k)∧w'.cell? ⟨w.heap.size+1,1,none⟩=some (.slice b m d) from by
   obtain⟨d0,d1,d2,d3, -⟩:=(HC _ t).out
   exact⟨d0,d1,d2,d3⟩)
  have HS0:=Lib.hid HB.out.drew
  refine wp_region_noPanic ?_
  refine wp_region_par3 9 9 (by kernel_rfl) (by kernel_rfl) (by simp) (by omega) (by kernel_rfl) (by kernel_rfl) (fun w':World=>Below W.heap.size W w') ?_
  refine par3_move (v:= ?_) 0 (by simp only[zga,zgb,zgc];rfl) (by kernel_rfl) (by rfl) ?_ (fun _ _ _ h=>h) ?_
  rotate_left
  ·(intro w9;go_simp;try with_reducible rfl)
  simp only[Act.put,zpa,zpb,zpc]
  refine par3_read (v:= ?_) 1 (by simp only[zga,zgb,zgc];rfl) (by kernel_rfl) (by rfl) HS0.out ?_ (fun _ _ _ h=>h) ?_
  rotate_left
  ·(intro w9 hSw;obtain⟨y0,y1,y2,y3⟩:=(HY w9 hSw).out;clear hSw;go_simp;try with_reducible rfl)
  simp only[Act.put,zpa,zpb,zpc]
  refine par3_move (v:= ?_) 2 (by simp only[zga,zgb,zgc];rfl) (by kernel_rfl) (by rfl) ?_ (fun _ _ _ h=>h) ?_
  rotate_left
  ·(intro w9;go_simp;try with_reducible rfl)
  simp only[Act.put,zpa,zpb,zpc]
  refine par3_read (v:= ?_) 3 (by simp only[zga,zgb,zgc];rfl) (by kernel_rfl) (by rfl) HS0.out ?_ (fun _ _ _ h=>h) ?_
  rotate_left
  ·(intro w9 hSw;obtain⟨y0,y1,y2,y3⟩:=(HY w9 hSw).out;clear hSw;go_simp;try with_reducible rfl)
  simp only[Act.put,zpa,zpb,zpc]
  refine par3_move (v:= ?_) 4 (by simp only[zga,zgb,zgc];rfl) (by kernel_rfl) (by rfl) ?_ (fun _ _ _ h=>h) ?_
  rotate_left
  ·(intro w9;go_simp;try with_reducible rfl)
  simp only[Act.put,zpa,zpb,zpc]
  refine par3_read (v:= ?_) 5 (by simp only[zga,zgb,zgc];rfl) (by kernel_rfl) (by rfl) HS0.out ?_ (fun _ _ _ h=>h) ?_
  rotate_left
  ·(intro w9 hSw;obtain⟨y0,y1,y2,y3⟩:=(HY w9 hSw).out;clear hSw;go_simp;try with_reducible rfl)
  simp only[Act.put,zpa,zpb,zpc]
  refine par3_nm (fun W0 hW0=> ?_)
  rw[←hW0] at HS0
  clear hW0
  refine par3_one 6 (by simp only[zga,zgb,zgc];rfl) (by kernel_rfl) (by rfl) ?_
  refine owp_call (by go_simp;constructor<;>rfl) ?_
  refine(HMI _ (HW.out.trans (HS0.out.mono HW.out.size))).out.mono ?_
  rintro z W6 ⟨⟨ra,rn,rc,rfl,hrn,hown⟩,hb6⟩
  have HS6:=Lib.hid (below_next HS0.out HS0.out.size hb6)
  have HO6:=Lib.hid hown
  have HRN:=Lib.hid hrn
  refine⟨_,rfl,fun s _=>HS6.out, ?_⟩
  clear hb6 hown hrn
  simp only[Act.put,zpa,zpb,zpc]
  refine par3_move (v:= ?_) 7 (by simp only[zga,zgb,zgc];rfl) (by kernel_rfl) (by rfl) ?_ (fun _ _ _ h=>h) ?_
  rotate_left
  ·(intro w9;go_simp;try with_reducible rfl)
  simp only[Act.put,zpa,zpb,zpc]
  refine par3_one 8 (by simp only[zga,zgb,zgc];rfl) (by kernel_rfl) (by rfl) ?_
  refine owp_call (by go_simp;constructor<;>rfl) ?_
  refine(r3trim_any (own_ns HO6.out HRN.out) (Nat.le_refl _) (by have:=HRN.out;have:=HLN.out;omega) (own_cap HO6.out)).mono ?_
  rintro z W8 ⟨rfl,hb8⟩
  have HS8:=Lib.hid (below_next HS6.out HS6.out.size hb8)
  have HO8:=Lib.hid (ownsRow_touch HO6.out (Touch.of_below (F:=[]) hb8) (by simp))
  refine⟨_,rfl,fun s _=>HS8.out, ?_⟩
  clear hb8
  simp only[Act.put,zpa,zpb,zpc]
  have HQ8:=Lib.hid (rowIs_touch HQ.out (Touch.of_below (F:=[]) HS8.out) (by simp))
  have hlo:w.heap.size+1+1<W0.heap.size:=by have:=HWs.out;have:=HS0.out.size;omega
  have HOF:=Lib.hid (fun(x y:Value)=>ownsRow_touch HO8.out (((Touch.refl [w.heap.size+1+1] W8).setCell (p:=⟨w.heap.size+1+1,0,none⟩) (.inl (by simp)) x).setCell (p:=⟨w.heap.size+1+1,1,none⟩) (.inl (by simp)) y) (fun q hq hm=>by have:=(HO8.out.lt q hq).1;simp at hm;omega))
  have f0:=fun i=>World.rowIs.frozen HQ8.out i
  have q0:W8.cell? ⟨w.heap.size+1+1,0,none⟩=some (.bool false):=World.rowIs.cell HQ8.out (i:=0) (by decide)
  have q1:W8.cell? ⟨w.heap.size+1+1,1,none⟩=some (.slice none 0 0):=World.rowIs.cell HQ8.out (i:=1) (by decide)
  obtain⟨tg,htg⟩: ∃y,y=(if trimD (plusL N l q 0)=[] then false else g):=⟨_,rfl⟩
  obtain⟨tn,htn⟩: ∃y,y=(trimD (plusL N l q 0)).length:=⟨_,rfl⟩
  have HTG:=Lib.hid (show tg=(if trimD (plusL N l q 0)=[] then false else g)∧tn=(trimD (plusL N l q 0)).length from⟨htg,htn⟩)
  rw[←htg, ←htn]
  clear htg htn
  refine par3_tail _ (by simp only[List.drop_succ_cons,List.drop_zero];rfl) (by kernel_rfl) ?_
  go_wp2_with fail
  refine NoPanic.normal ?_
  go_wp2_with fail
  refine bodyPost_ret_by (res_nm (g:=tg) (v:= .slice ra tn rc) Tryz.results65 rfl (World.rowIs.congr (World.rowIs.set (World.rowIs.set HQ8.out 0 _) 1 _) (fun i hi=>by rcases i with _|_|i<;>first|rfl|exact absurd hi (by omega)))) rfl ?_
  refine⟨⟨_,rfl, ?_⟩,((HW.out.trans (HS8.out.mono HW.out.size)).setCell (p:=⟨w.heap.size+1+1,0,none⟩) (by show _≤w.heap.size+1+1;omega) _).setCell (p:=⟨w.heap.size+1+1,1,none⟩) (by show _≤w.heap.size+1+1;omega) _⟩
  rw[HTG.out.1,HTG.out.2]
  exact(NmV.trim (HOF.out _ _) HRN.out HPO.out g HPV.out).weak (by omega)
end Go.Proofs.YthopjhifepijiaaGreat
