/- Lemmas on the way to the statement. -/
import Derived.Test.YthopjhifepijiaaGreatJ1
import Derived.DeepKeys4
import Derived.Maps.RangeWalk
import Derived.Shelf.SlSortCmp.NoneTotal
set_option linter.unusedSimpArgs false
set_option linter.unusedVariables false
namespace Go.Proofs.YthopjhifepijiaaGreat
open Go.RowKit
open Go.Maps (Keyed)
def heldR (v:Value):Option (DataW Value × List MemPlace):=some (.held v,[])
def MapT {α β:Type} (w:World) (P:Program) (k:TypeId) (b n:Nat) (ek:α→Value) (ev:β→Value) (g:α→Option β):Prop:=
 ∃D:DataW Value,w.ownsMap P k heldR b n D∧ ∀x l,keyOf P k (ek x)=some l→Maps.has D l=(g x).isSome∧ ∀z,D.atKey l z=match g x with
  |some u=> .held (ev u)
  |none=>z
variable {α β:Type} {w w':World} {P:Program} {k e t:TypeId} {b n:Nat} {ek:α→Value} {ev:β→Value} {g:α→Option β}
theorem MapT.lt (h:MapT w P k b n ek ev g):b<w.heap.size:=h.elim fun D h=>h.1.lt
theorem MapT.mono (h:MapT w P k b n ek ev g) {m:Nat} (hm:n≤m):MapT w P k b m ek ev g:=h.elim fun D h=>⟨D,h.1.mono hm,h.2⟩
theorem MapT.touch {F:List Nat} (h:MapT w P k b n ek ev g) (ht:Touch F w w') (hb:b∉F):MapT w' P k b n ek ev g:=h.elim fun D h=>⟨D,ownsMap_touch h.1 ht hb,h.2⟩
theorem MapT.alloc (h:MapT w P k b n ek ev g) (o:Obj):MapT (w.alloc o) P k b n ek ev g:=h.elim fun D h=>⟨D,h.1.alloc o,h.2⟩
theorem MapT.below (h:MapT w P k b n ek ev g) (hb:Below w.heap.size w w'):MapT w' P k b n ek ev g:=h.touch (F:=[]) (Touch.of_below hb) (by simp)
theorem MapT.made (w:World) (P:Program) (k:TypeId) (ek:α→Value) (ev:β→Value):MapT (w.alloc (.map #[] 0)) P k w.heap.size 0 ek ev (fun _=>none):=
 ⟨_,World.ownsMap_made _ _ _ _,fun _ _ _=>⟨rfl,fun _=>rfl⟩⟩
theorem MapT.congr (h:MapT w P k b n ek ev g) {g':α→Option β} (hg: ∀x l,keyOf P k (ek x)=some l→g x=g' x):MapT w P k b n ek ev g':=
 h.elim fun D ⟨h1,h2⟩=>⟨D,h1,fun x l hx=>hg x l hx▸h2 x l hx⟩
theorem MapT.look (h:MapT w P k b n ek ev g) (K:Keyed P k) (ht:P.underlying t=some (.map k e)) {z:Value} (hz:(zeroValue e).run P w= .ok z w) {x:α} {l:Lit} (hk:keyOf P k (ek x)=some l):
  (Instr.lookup t (.map (some b)) (ek x) false).run P w= .ok (((g x).map ev).getD z) w:=by
 obtain⟨D,hD,hg⟩:=h
 obtain⟨v,ps,hrun,hv⟩:=hD.lookup K ht hz (zd:= .held z) (zp:=[]) rfl hk
 rw[hrun]
 unfold heldR at hv
 injection hv with hv
 injection hv with hv1 hv2
 rw[(hg x l hk).2] at hv1
 cases hgx:g x with
 |none=>rw[hgx] at hv1;injection hv1 with h1;rw[h1];rfl
 |some u=>rw[hgx] at hv1;injection hv1 with h1;rw[h1];rfl
theorem MapT.look_ok (h:MapT w P k b n ek ev g) (K:Keyed P k) (ht:P.underlying t=some (.map k e)) {z:Value} (hz:(zeroValue e).run P w= .ok z w) {x:α} {l:Lit} (hk:keyOf P k (ek x)=some l):
  (Instr.lookup t (.map (some b)) (ek x) true).run P w= .ok (.tuple #[((g x).map ev).getD z, .bool (g x).isSome]) w:=by
 obtain⟨D,hD,hg⟩:=h
 obtain⟨v,ps,hrun,hv⟩:=hD.look_ok K ht hz (zd:= .held z) (zp:=[]) rfl hk
 rw[hrun,(hg x l hk).1]
 unfold heldR at hv
 injection hv with hv
 injection hv with hv1 hv2
 rw[(hg x l hk).2] at hv1
 cases hgx:g x with
 |none=>rw[hgx] at hv1;injection hv1 with h1;rw[h1];rfl
 |some u=>rw[hgx] at hv1;injection hv1 with h1;rw[h1];rfl
def updT {α β:Type} [DecidableEq α] (g:α→Option β) (x:α) (v:β):α→Option β:=fun y=>if y=x then some v else g y
theorem put_T [DecidableEq α] {D:DataW Value} (hm:Maps.IsMap D) (K:Keyed P k) {x:α} {l:Lit} (hk:keyOf P k (ek x)=some l) (hinj: ∀y,ek y=ek x→y=x) (v:β)
  (hg: ∀x l,keyOf P k (ek x)=some l→Maps.has D l=(g x).isSome∧ ∀z,D.atKey l z=match g x with
  |some u=> .held (ev u)
  |none=>z): ∀y l',keyOf P k (ek y)=some l'→Maps.has (D.put l (.held (ev v))) l'=(updT g x v y).isSome∧ ∀z,(D.put l (.held (ev v))).atKey l' z=match updT g x v y with
  |some u=> .held (ev u)
  |none=>z:=by
 intro y l' hy
 by_cases e:y=x
 ·subst e
  rw[hk] at hy
  injection hy with hy
  subst hy
  unfold updT
  rw[if_pos rfl]
  exact⟨Maps.has_put_same hm (K.key hk) _,fun z=>Maps.atKey_put_same hm (K.key hk) _ _⟩
 ·have hne:l'≠l:=fun e'=>by
   subst e'
   exact e (hinj y (K.inj hy hk))
  unfold updT
  rw[if_neg e]
  exact⟨(Maps.has_put_other hne _).trans (hg y l' hy).1,fun z=>(Maps.atKey_put_other hne _ _).trans ((hg y l' hy).2 z)⟩
theorem wpList_update_T [DecidableEq α] (w:World) {ops:Array Oper} {rest:List Oper} {o:Oper} {a:Act} {Q:Exit→Act→World→Prop}
  (hg:o.guard=none) (m x v:Operand) (t:TypeId) (hop:o.op=Op.mapUpdate t m x v) (k e:TypeId) (K:Keyed P k) (ht:P.underlying t=some (.map k e)) (b n:Nat) (ek:α→Value) (ev:β→Value) (g:α→Option β)
  (hown:MapT w P k b n ek ev g) (hm:a.eval m= .map (some b)) (hn:n<maxLen) (y:α) (l:Lit) (hx:a.eval x=ek y) (hkey:keyOf P k (ek y)=some l) (hinj: ∀z,ek z=ek y→z=y) (u:β) (hv:a.eval v=ev u)
  (hK: ∀w',MapT w' P k b (n+1) ek ev (updT g y u)→w.grownBy w' (some b)→wpList P ops Q rest (a.put o.dst undef) w'):
  wpList P ops Q (o::rest) a w:=by
 obtain⟨D,hD,hgx⟩:=hown
 exact wpList_mapUpdate_own w hg m x v t hop k e K ht heldR b n D hm hD hn (ek y) (ev u) l hx hv hkey (.held (ev u)) [] rfl fun w' h1 h2=>
  hK w' ⟨_,h1,put_T hD.isMap K hkey hinj u hgx⟩ h2
def RngT {α β:Type} (w:World) (P:Program) (k:TypeId) (b r n:Nat) (ek:α→Value) (ev:β→Value) (g:α→Option β) (left:α→Bool) (cnt:Nat):Prop:=
 ∃(D:DataW Value) (lf:Lit→Bool),w.ranges P k heldR b r n D lf cnt∧(∀x l,keyOf P k (ek x)=some l→Maps.has D l=(g x).isSome∧ ∀z,D.atKey l z=match g x with
  |some u=> .held (ev u)
  |none=>z)∧ ∀x l,keyOf P k (ek x)=some l→lf l=left x
theorem RngT.map {r cnt:Nat} {left:α→Bool} (h:RngT w P k b r n ek ev g left cnt):MapT w P k b n ek ev g:=h.elim fun D h=>h.elim fun lf h=>⟨D,h.1.owns,h.2.1⟩
theorem RngT.lt {r cnt:Nat} {left:α→Bool} (h:RngT w P k b r n ek ev g left cnt):r<w.heap.size:=h.elim fun D h=>h.elim fun lf h=>h.1.lt
theorem RngT.ne {r cnt:Nat} {left:α→Bool} (h:RngT w P k b r n ek ev g left cnt):r≠b:=h.elim fun D h=>h.elim fun lf h=>h.1.ne
theorem RngT.left_eq {r cnt:Nat} {left:α→Bool} (h:RngT w P k b r n ek ev g left cnt):w.rangeLeft b r=cnt:=h.elim fun D h=>h.elim fun lf h=>h.1.left_eq
theorem ranges_touch {H:Type} {F:List Nat} {R:Value→Option (DataW H × List MemPlace)} {r cnt:Nat} {D:DataW H} {left:Lit→Bool} (h:w.ranges P k R b r n D left cnt) (ht:Touch F w w') (hb:b∉F) (hr:r∉F):w'.ranges P k R b r n D left cnt:=by
 have h1:=h.owns.lt
 have h2:=h.lt
 obtain⟨es,clock,since,seen,c0,hb',Fi,hs,hD,hr',rest⟩:=h
 exact⟨es,clock,since,seen,c0,(ht.block h1 hb).trans hb',Fi,hs,hD,(ht.block h2 hr).trans hr',rest⟩
theorem RngT.touch {F:List Nat} {r cnt:Nat} {left:α→Bool} (h:RngT w P k b r n ek ev g left cnt) (ht:Touch F w w') (hb:b∉F) (hr:r∉F):RngT w' P k b r n ek ev g left cnt:=
 h.elim fun D h=>h.elim fun lf h=>⟨D,lf,ranges_touch h.1 ht hb hr,h.2⟩
theorem wpList_range_T (w:World) {ops:Array Oper} {rest:List Oper} {o:Oper} {a:Act} {Q:Exit→Act→World→Prop}
  (hg:o.guard=none) (m:Operand) (t:TypeId) (hop:o.op=Op.range t m) (k e:TypeId) (K:Keyed P k) (ht:P.underlying t=some (.map k e)) (b n:Nat) (ek:α→Value) (ev:β→Value) (g:α→Option β)
  (hm:a.eval m= .map (some b)) (hown:MapT w P k b n ek ev g)
  (hK: ∀w' cnt,RngT w' P k b w.heap.size n ek ev g (fun x=>(g x).isSome) cnt→w.grownBy w' none→w'.heap.size=w.heap.size+1→wpList P ops Q rest (a.put o.dst (.pointer (some ⟨w.heap.size,0,none⟩))) w'):
  wpList P ops Q (o::rest) a w:=by
 obtain⟨D,hD,hgx⟩:=hown
 exact wpList_range_own w hg m t hop k e K ht heldR b n D hm hD fun w' h1 h2 h3=>hK w' _ ⟨D,_,h1,hgx,fun x l hx=>(hgx x l hx).1⟩ h2 h3
theorem wpList_next_T [DecidableEq α] (w:World) {ops:Array Oper} {rest:List Oper} {o:Oper} {a:Act} {Q:Exit→Act→World→Prop}
  (hg:o.guard=none) (it:Operand) (hop:o.op=Op.next it false) (k:TypeId) (K:Keyed P k) (b r n:Nat) (ek:α→Value) (ev:β→Value) (g:α→Option β) (left:α→Bool) (cnt:Nat)
  (invK: ∀key kl,keyOf P k key=some kl→ ∃x,key=ek x) (hinj: ∀y z,ek z=ek y→z=y)
  (hit:a.eval it= .pointer (some ⟨r,0,none⟩)) (h:RngT w P k b r n ek ev g left cnt)
  (hDone:(∀x l,keyOf P k (ek x)=some l→left x=false)→wpList P ops Q rest (a.put o.dst (.tuple #[.bool false])) w)
  (hMore: ∀(x:α) (u:β) (l:Lit) (w':World) (cnt':Nat),keyOf P k (ek x)=some l→left x=true→g x=some u→RngT w' P k b r n ek ev g (fun z=>left z&& !decide (z=x)) cnt'→cnt'<cnt→
   w.grownBy w' (some r)→w'.heap.size=w.heap.size→(Instr.entry (.pointer (some ⟨r,0,none⟩))).run P w'= .ok (.tuple #[ek x,ev u]) w'→wpList P ops Q rest (a.put o.dst (.tuple #[.bool true,ek x,ev u])) w'):
  wpList P ops Q (o::rest) a w:=by
 obtain⟨D,lf,hR,hgx,hlf⟩:=h
 refine wpList_next_ranges w hg it hop k K heldR ek (fun v:Value=>v) invK (fun v y hv=>⟨v,rfl⟩) b r n D lf cnt hit hR (fun h0 hl=>hDone fun x l hx=>by rw[←hlf x l hx];exact hl l) ?_
 intro x c kl y w' cnt' hkey hlx hRc hat hrg hlt hgr hsz hen
 unfold heldR at hRc
 injection hRc with hRc
 subst hRc
 have hg1:=(hgx x kl hkey).2 (.held (.bool true))
 have hg2:=(hgx x kl hkey).2 (.held (.bool false))
 rw[hat] at hg1 hg2
 cases hgx':g x with
 |none=>
  rw[hgx'] at hg1 hg2
  injection hg1 with e1
  injection hg2 with e2
  rw[e1] at e2
  cases e2
 |some u=>
  rw[hgx'] at hg1
  injection hg1 with e1
  have e2:c=ev u:=e1
  subst e2
  refine hMore x u kl w' cnt' hkey (by rw[←hlf x kl hkey];exact hlx) hgx' ⟨D,_,hrg,hgx,fun z l hz=> ?_⟩ hlt hgr hsz hen
  rw[hlf z l hz]
  by_cases e:z=x
  ·subst e
   rw[hkey] at hz
   injection hz with hz
   subst hz
   rw[WideAt.sameKey_self (K.key hkey)]
   simp
  ·have hne:l≠kl:=fun e'=>by
    subst e'
    exact e (hinj x z (K.inj hz hkey))
   rw[Maps.sameKey_ne hne]
   simp[e]
end Go.Proofs.YthopjhifepijiaaGreat
namespace Go.Proofs.YthopjhifepijiaaGreat
structure Vx where
 id:Int
 at_:Pt
deriving DecidableEq,Inhabited
structure Ed where
 id:Int
 a:Int
 b:Int
deriving DecidableEq,Inhabited
structure PL where
 vs:List Vx
 es:List Ed
def fitI (x:Int):Prop:= -9223372036854775808≤x∧x≤9223372036854775807
structure FitPL (p:PL):Prop where
 vs: ∀v∈p.vs,fitI v.id∧fitP v.at_
 es: ∀e∈p.es,fitI e.id∧fitI e.a∧fitI e.b
def ptOf (vs:List Vx) (id:Int):Option Pt:=(vs.find? (fun v=>v.id==id)).map (·.at_)
def ptZ (vs:List Vx) (id:Int):Pt:=(ptOf vs id).getD ⟨0,0⟩
theorem ptOf_some {vs:List Vx} {id:Int} {q:Pt} (h:ptOf vs id=some q): ∃v∈vs,v.id=id∧v.at_=q:=by
 unfold ptOf at h
 rw[Option.map_eq_some_iff] at h
 obtain⟨v,hv,e⟩:=h
 exact⟨v,List.mem_of_find?_eq_some hv,by simpa using List.find?_some hv,e⟩
theorem ptOf_snoc {vs:List Vx} {v:Vx} (h: ∀u∈vs,u.id≠v.id):ptOf (vs++[v])=updT (ptOf vs) v.id v.at_:=by
 funext id
 unfold updT
 by_cases e:id=v.id
 ·subst e
  rw[if_pos rfl]
  unfold ptOf
  rw[List.find?_append]
  have:vs.find? (fun u=>u.id==v.id)=none:=by
   rw[List.find?_eq_none];intro u hu;simpa using h u hu
  rw[this];simp
 ·rw[if_neg e]
  unfold ptOf
  rw[List.find?_append]
  have:[v].find? (fun u=>u.id==id)=none:=by
   rw[List.find?_eq_none];intro u hu;simp at hu;subst hu;simpa using fun h=>e h.symm
  rw[this];simp
def pid (vs:List Vx):Nat→Int
 |0=>0
 |i+1=>((vs[i]?).map (·.id)).getD 0
def eid (es:List Ed):Nat→Int
 |0=>0
 |i+1=>((es[i]?).map (·.id)).getD 0
structure VOk (vs:List Vx) (i:Nat) (v:Vx):Prop where
 rise:pid vs i<v.id
 inr:inB v.at_=true
 ne: ∀j u,j<i→vs[j]? =some u→u.at_≠v.at_
def ends (e:Ed):Int × Int:=(min e.a e.b,max e.a e.b)
structure EOk (vs:List Vx) (es:List Ed) (i:Nat) (e:Ed) (A B:Pt):Prop where
 rise:eid es i<e.id
 pa:ptOf vs e.a=some A
 pb:ptOf vs e.b=some B
 ab:e.a≠e.b
 pair: ∀j f,j<i→es[j]? =some f→ends f≠ends e
 way: ∀v∈vs,onB v.at_ A B=false
 cross: ∀j f,j<i→es[j]? =some f→meetB A B (ptZ vs f.a) (ptZ vs f.b)=false
structure RightP (p:PL):Prop where
 nv:p.vs.length≤512
 ne:p.es.length≤1024
 v: ∀i v,p.vs[i]? =some v→VOk p.vs i v
 e: ∀i e,p.es[i]? =some e→ ∃A B,EOk p.vs p.es i e A B
open Classical in
noncomputable def rightB (p:PL):Bool:=decide (RightP p)
open Classical in
theorem rightB_iff {p:PL}:rightB p=true↔RightP p:=by unfold rightB;exact decide_eq_true_iff
theorem rightB_no {p:PL} (h: ¬RightP p):rightB p=false:=by rw[Bool.eq_false_iff,ne_eq,rightB_iff];exact h
theorem pid_rise {vs:List Vx} {k:Nat} (h: ∀i v,i<k→vs[i]? =some v→VOk vs i v): ∀(d j:Nat) (u:Vx),j+d+1≤k→vs[j]? =some u→k≤vs.length→u.id≤pid vs (j+d+1)
 |0,j,u,hk,hu,hl=>by show u.id≤((vs[j]?).map (·.id)).getD 0;rw[hu];exact Int.le_refl _
 |d+1,j,u,hk,hu,hl=>by
  have ih:=pid_rise h d j u (by omega) hu hl
  obtain⟨x,hx⟩: ∃x,vs[j+d+1]? =some x:=⟨vs[j+d+1]'(by omega),List.getElem?_eq_getElem _⟩
  have:=(h (j+d+1) x (by omega) hx).rise
  show u.id≤((vs[j+d+1]?).map (·.id)).getD 0
  rw[hx]
  show u.id≤x.id
  omega
theorem id_new {vs:List Vx} {k:Nat} {v:Vx} (h: ∀i v,i<k→vs[i]? =some v→VOk vs i v) (hk:vs[k]? =some v) (hv:pid vs k<v.id): ∀u∈vs.take k,u.id<v.id:=by
 intro u hu
 obtain⟨j,hj⟩:=List.mem_iff_getElem?.1 hu
 have hjk:j<k:=by
  have:=(List.getElem?_eq_some_iff.1 hj).1
  rw[List.length_take] at this;omega
 rw[List.getElem?_take_of_lt hjk] at hj
 have hl:=(List.getElem?_eq_some_iff.1 hk).1
 have:=pid_rise h (k - 1 - j) j u (by omega) hj (by omega)
 rw[show j+(k - 1 - j)+1=k by omega] at this
 omega
theorem take_snoc' {α:Type} {l:List α} {k:Nat} {v:α} (h:l[k]? =some v):l.take (k+1)=l.take k++[v]:=by
 obtain⟨hk,rfl⟩:=List.getElem?_eq_some_iff.1 h
 exact List.take_succ_eq_append_getElem hk
theorem ids_apart {vs:List Vx} (h: ∀i v,vs[i]? =some v→VOk vs i v):vs.Pairwise (fun u v=>u.id≠v.id):=by
 rw[List.pairwise_iff_getElem]
 intro i j hi hj hij
 have h2:=id_new (k:=j) (v:=vs[j]) (fun i v _ hv=>h i v hv) (List.getElem?_eq_getElem hj) (h j _ (List.getElem?_eq_getElem hj)).rise vs[i] (by
  rw[List.mem_iff_getElem?]
  exact⟨i,by rw[List.getElem?_take_of_lt hij];exact List.getElem?_eq_getElem hi⟩)
 omega
end Go.Proofs.YthopjhifepijiaaGreat
namespace Go.Proofs.YthopjhifepijiaaGreat
def upB (q u:Pt):Bool:=decide (q.y<u.y)
def rayB (u v q:Pt):Bool:=(!upB q u&&upB q v&&decide (0<crs u v q))||(upB q u&& !upB q v&&decide (crs u v q<0))
theorem crs_swap (a b c:Pt):crs b a c= - crs a b c:=by unfold crs;grind
section
variable {a b u v:Pt}
theorem ea (a b u v:Pt):crs u v a*(b.y - a.y)=crs a b v*(u.y - a.y) - crs a b u*(v.y - a.y):=by unfold crs;grind
theorem eb (a b u v:Pt):crs u v b*(b.y - a.y)=crs a b v*(u.y - b.y) - crs a b u*(v.y - b.y):=by unfold crs;grind
theorem ev (a b u v:Pt):crs a b v*(v.y - u.y)=crs u v b*(a.y - v.y) - crs u v a*(b.y - v.y):=by unfold crs;grind
theorem sp {x y:Int} (h:0<x) (k:0<y):0<x*y:=Int.mul_pos h k
theorem wpp {x y:Int} (h:0≤x) (k:0≤y):0≤x*y:=Int.mul_nonneg h k
theorem wnp {x y:Int} (h:x≤0) (k:0≤y):x*y≤0:=by have:=Int.mul_nonneg (show 0≤ -x by omega) k;rw[Int.neg_mul] at this;omega
theorem snp {x y:Int} (h:x<0) (k:0<y):x*y<0:=by have:=Int.mul_pos (show 0< -x by omega) k;rw[Int.neg_mul] at this;omega
theorem spn {x y:Int} (h:0<x) (k:y<0):x*y<0:=by rw[Int.mul_comm];exact snp k h
theorem snn {x y:Int} (h:x<0) (k:y<0):0<x*y:=by have:=Int.mul_pos (show 0< -x by omega) (show 0< -y by omega);rw[Int.neg_mul_neg] at this;exact this
theorem cp {x k:Int} (hk:0<k) (h:0<x*k):0<x:=by
 by_cases hx:0<x
 ·exact hx
 ·have:=wnp (show x≤0 by omega) (show 0≤k by omega);omega
theorem cn {x k:Int} (hk:0<k) (h:x*k<0):x<0:=by
 by_cases hx:x<0
 ·exact hx
 ·have:=wpp (show 0≤x by omega) (show 0≤k by omega);omega
end
def oddB (l:List (Pt × Pt)) (q:Pt):Bool:=l.foldl (fun o x=>o ^^ rayB x.1 x.2 q) false
theorem xor_fold {α:Type} (f:α→Bool): ∀(l:List α) (o:Bool),l.foldl (fun o x=>o ^^ f x) o=(o ^^ l.foldl (fun o x=>o ^^ f x) false)
 | [],o=>by simp
 |x::l,o=>by
  rw[List.foldl_cons,List.foldl_cons,xor_fold f l,xor_fold f l (false ^^ f x)]
  simp
theorem oddB_cons (x:Pt × Pt) (l:List (Pt × Pt)) (q:Pt):oddB (x::l) q=(rayB x.1 x.2 q ^^ oddB l q):=by
 unfold oddB
 rw[List.foldl_cons,xor_fold]
 simp
def Chain (s:Pt):List (Pt × Pt)→Pt→Prop
 | [],e=>s=e
 |x::l,e=>x.1=s∧Chain x.2 l e
end Go.Proofs.YthopjhifepijiaaGreat
namespace Go.Proofs.YthopjhifepijiaaGreat
def areaR (a b c:Pt):Int:=a.x*b.y - a.y*b.x+b.x*c.y - b.y*c.x+c.x*a.y - c.y*a.x
theorem areaR_eq (a b c:Pt):areaR a b c=crs a b c:=by unfold areaR crs;grind
def wthR (p a b:Pt):Bool:=decide (trn a b p=0)&&(decide (a.x≤p.x∧p.x≤b.x∨b.x≤p.x∧p.x≤a.x)&&decide (a.y≤p.y∧p.y≤b.y∨b.y≤p.y∧p.y≤a.y))
def onR (p a b:Pt):Bool:=wthR p a b&&(decide (p≠a)&&decide (p≠b))
def meetR (a b c d:Pt):Bool:=
 if trn a b c=0∧trn a b d=0 then onR a c d||onR b c d||onR c a b||onR d a b||(wthR a c d&&wthR b c d)
 else if a=c∨a=d∨b=c∨b=d then false
 else !(decide (trn a b c=trn a b d)||decide (trn c d a=trn c d b))
theorem trn_zero {a b c:Pt}:trn a b c=0↔crs a b c=0:=by unfold trn;exact Int.sign_eq_zero_iff_zero
theorem pt_ext {a b:Pt} (h1:a.x=b.x) (h2:a.y=b.y):a=b:=by
 obtain⟨a1,a2⟩:=a
 obtain⟨b1,b2⟩:=b
 simp only at h1 h2
 subst h1 h2
 rfl
theorem pt_ne {a b:Pt} (h:a≠b):a.x≠b.x∨a.y≠b.y:=by
 by_cases h1:a.x=b.x
 ·right;intro h2;exact h (pt_ext h1 h2)
 ·exact .inl h1
theorem mul_zero {x y:Int} (h:x*y=0) (hx:x≠0):y=0:=(Int.mul_eq_zero.1 h).resolve_left hx
theorem on_wide {a b u:Pt} (h:crs a b u=0) (h1:a.x<b.x) (h2:a.x≤u.x) (h3:u.x≤b.x):a.y≤u.y∧u.y≤b.y∨b.y≤u.y∧u.y≤a.y:=by
 unfold crs at h
 have hd:0<b.x - a.x:=by omega
 rcases Int.le_total a.y b.y with hx|hx
 ·left
  have e1:0≤(b.y - a.y)*(u.x - a.x):=Int.mul_nonneg (by omega) (by omega)
  have e2:0≤(b.y - a.y)*(b.x - u.x):=Int.mul_nonneg (by omega) (by omega)
  refine⟨?_, ?_⟩
  ·have:0≤(b.x - a.x)*(u.y - a.y):=by omega
   have:=Int.nonneg_of_mul_nonneg_right this hd
   omega
  ·have:0≤(b.x - a.x)*(b.y - u.y):=by grind
   have:=Int.nonneg_of_mul_nonneg_right this hd
   omega
 ·right
  have e1:0≤(a.y - b.y)*(u.x - a.x):=Int.mul_nonneg (by omega) (by omega)
  have e2:0≤(a.y - b.y)*(b.x - u.x):=Int.mul_nonneg (by omega) (by omega)
  refine⟨?_, ?_⟩
  ·have:0≤(b.x - a.x)*(u.y - b.y):=by grind
   have:=Int.nonneg_of_mul_nonneg_right this hd
   omega
  ·have:0≤(b.x - a.x)*(a.y - u.y):=by grind
   have:=Int.nonneg_of_mul_nonneg_right this hd
   omega
theorem on_edge {a b u:Pt} (h:crs a b u=0) (h1:a.x≠b.x) (h2:u.x=a.x):u=a:=by
 refine pt_ext h2 ?_
 unfold crs at h
 rw[h2,Int.sub_self,Int.mul_zero,Int.sub_zero] at h
 have:=mul_zero h (by omega)
 omega
theorem btw_iff {p a b:Pt} (h:crs a b p=0):btwB p a b=true↔(((a.x≤p.x∧p.x≤b.x∨b.x≤p.x∧p.x≤a.x)∧(a.y≤p.y∧p.y≤b.y∨b.y≤p.y∧p.y≤a.y))∧p≠a∧p≠b):=by
 have h':crs b a p=0:=by rw[crs_swap];omega
 have hb:btwB p a b=true↔((a.x<p.x∨(a.x=p.x∧a.y<p.y))∧(p.x<b.x∨(p.x=b.x∧p.y<b.y)))∨((b.x<p.x∨(b.x=p.x∧b.y<p.y))∧(p.x<a.x∨(p.x=a.x∧p.y<a.y))):=by
  unfold btwB lessB
  simp only[Bool.or_eq_true,Bool.and_eq_true,decide_eq_true_eq]
 rw[hb]
 constructor
 ·intro hq
  have hna:p≠a:=fun e=>by subst e;omega
  have hnb:p≠b:=fun e=>by subst e;omega
  refine⟨⟨by omega, ?_⟩,hna,hnb⟩
  rcases Int.lt_trichotomy a.x b.x with hx|hx|hx
  ·exact on_wide h hx (by omega) (by omega)
  ·omega
  ·have:=on_wide h' hx (by omega) (by omega)
   omega
 ·rintro ⟨⟨h1,h2⟩,hna,hnb⟩
  rcases Int.lt_trichotomy a.x b.x with hx|hx|hx
  ·have n1:p.x≠a.x:=fun e=>hna (on_edge h (by omega) e)
   have n2:p.x≠b.x:=fun e=>hnb (on_edge h' (by omega) e)
   omega
  ·have n1:=pt_ne hna
   have n2:=pt_ne hnb
   omega
  ·have n1:p.x≠a.x:=fun e=>hna (on_edge h (by omega) e)
   have n2:p.x≠b.x:=fun e=>hnb (on_edge h' (by omega) e)
   omega
theorem onR_eq {p a b:Pt} (hp:inB p=true) (ha:inB a=true) (hb:inB b=true):onR p a b=onB p a b:=by
 unfold onR wthR onB
 rw[hp,ha,hb]
 by_cases h:trn a b p=0
 ·have hc:=trn_zero.1 h
  rw[Bool.eq_iff_iff]
  have:=btw_iff hc
  simp only[h,decide_true,Bool.true_and,Bool.and_eq_true,decide_eq_true_eq,this,Bool.and_self]
 ·simp[h]
end Go.Proofs.YthopjhifepijiaaGreat
namespace Go.Proofs.YthopjhifepijiaaGreat
section
variable {a b c d:Pt}
theorem kx (h:crs a b c=0):crs a b d*(c.x - a.x)=crs c d a*(b.x - a.x):=by
 have:crs a b d*(c.x - a.x) - crs c d a*(b.x - a.x)=crs a b c*(d.x - a.x):=by unfold crs;grind
 rw[h,Int.zero_mul] at this;omega
theorem ky (h:crs a b c=0):crs a b d*(c.y - a.y)=crs c d a*(b.y - a.y):=by
 have:crs a b d*(c.y - a.y) - crs c d a*(b.y - a.y)=crs a b c*(d.y - a.y):=by unfold crs;grind
 rw[h,Int.zero_mul] at this;omega
theorem lx (h:crs a b c=0):crs a b d*(c.x - b.x)=crs c d b*(b.x - a.x):=by
 have:crs a b d*(c.x - b.x) - crs c d b*(b.x - a.x)=crs a b c*(d.x - b.x):=by unfold crs;grind
 rw[h,Int.zero_mul] at this;omega
theorem ly (h:crs a b c=0):crs a b d*(c.y - b.y)=crs c d b*(b.y - a.y):=by
 have:crs a b d*(c.y - b.y) - crs c d b*(b.y - a.y)=crs a b c*(d.y - b.y):=by unfold crs;grind
 rw[h,Int.zero_mul] at this;omega
theorem btw_cases {p q r:Pt}:btwB p q r=true↔((q.x<p.x∨(q.x=p.x∧q.y<p.y))∧(p.x<r.x∨(p.x=r.x∧p.y<r.y)))∨((r.x<p.x∨(r.x=p.x∧r.y<p.y))∧(p.x<q.x∨(p.x=q.x∧p.y<q.y))):=by
 unfold btwB lessB
 simp only[Bool.or_eq_true,Bool.and_eq_true,decide_eq_true_eq]
theorem sgn_pos {x:Int} (h:0<x):x.sign=1:=Int.sign_eq_one_of_pos h
theorem sgn_neg {x:Int} (h:x<0):x.sign= -1:=Int.sign_eq_neg_one_of_neg h
theorem sgn_eq {x y k m:Int} (e:x*k=y*m) (hk:0<k) (hm:0<m):x.sign=y.sign:=by
 rcases Int.lt_trichotomy x 0 with h|h|h
 ·have:=snp h hk
  rw[sgn_neg h,sgn_neg (cn hm (by omega))]
 ·subst h
  rw[Int.zero_mul] at e
  have:y=0:=(Int.mul_eq_zero.1 e.symm).resolve_right (by omega)
  rw[this]
 ·have:=sp h hk
  rw[sgn_pos h,sgn_pos (cp hm (by omega))]
theorem part1 (h:crs a b c=0) (hd:crs a b d≠0) (hb:btwB c a b=true):(crs c d a).sign≠(crs c d b).sign:=by
 have k1:=kx (d:=d) h
 have k2:=ky (d:=d) h
 have l1:=lx (d:=d) h
 have l2:=ly (d:=d) h
 rw[btw_cases] at hb
 have key: ∀p q r:Int,p<r→r<q→crs a b d*(r - p)=crs c d a*(q - p)→crs a b d*(r - q)=crs c d b*(q - p)→(crs c d a).sign≠(crs c d b).sign:=fun p q r h1 h2 e1 e2=>by
  have s1:=sgn_eq e1 (by omega) (by omega)
  have e3:(- crs a b d)*(q - r)=crs c d b*(q - p):=by rw[←e2];grind
  have s2:=sgn_eq e3 (by omega) (by omega)
  rw[Int.sign_neg] at s2
  rcases sign_cases (crs a b d) with g|g|g<;>omega
 have key2: ∀p q r:Int,q<r→r<p→crs a b d*(r - p)=crs c d a*(q - p)→crs a b d*(r - q)=crs c d b*(q - p)→(crs c d a).sign≠(crs c d b).sign:=fun p q r h1 h2 e1 e2=>by
  have e1':crs a b d*(p - r)=crs c d a*(p - q):=by grind
  have s1:=sgn_eq e1' (by omega) (by omega)
  have e3:(- crs a b d)*(r - q)=crs c d b*(p - q):=by grind
  have s2:=sgn_eq e3 (by omega) (by omega)
  rw[Int.sign_neg] at s2
  rcases sign_cases (crs a b d) with g|g|g<;>omega
 rcases Int.lt_trichotomy a.x b.x with hx|hx|hx
 ·have e:a.x<c.x∧c.x<b.x:=by
   have h':crs b a c=0:=by rw[crs_swap];omega
   have n1:c.x=a.x→c=a:=on_edge h (by omega)
   have n2:c.x=b.x→c=b:=on_edge h' (by omega)
   have m1:c≠a:=fun e=>by subst e;omega
   have m2:c≠b:=fun e=>by subst e;omega
   have n3:c.x≠a.x:=fun e=>m1 (n1 e)
   have n4:c.x≠b.x:=fun e=>m2 (n2 e)
   omega
  exact key _ _ _ e.1 e.2 k1 l1
 ·rcases Int.lt_trichotomy a.y b.y with hy|hy|hy
  ·exact key a.y b.y c.y (by omega) (by omega) k2 l2
  ·omega
  ·exact key2 a.y b.y c.y (by omega) (by omega) k2 l2
 ·have e:b.x<c.x∧c.x<a.x:=by
   have h':crs b a c=0:=by rw[crs_swap];omega
   have n1:c.x=a.x→c=a:=on_edge h (by omega)
   have n2:c.x=b.x→c=b:=on_edge h' (by omega)
   have m1:c≠a:=fun e=>by subst e;omega
   have m2:c≠b:=fun e=>by subst e;omega
   have n3:c.x≠a.x:=fun e=>m1 (n1 e)
   have n4:c.x≠b.x:=fun e=>m2 (n2 e)
   omega
  exact key2 _ _ _ e.1 e.2 k1 l1
theorem part2 (h:crs a b c=0) (hd:crs a b d≠0) (ha:c≠a) (hb:c≠b) (hs:(crs c d a).sign≠(crs c d b).sign):btwB c a b=true:=by
 have k1:=kx (d:=d) h
 have k2:=ky (d:=d) h
 have l1:=lx (d:=d) h
 have l2:=ly (d:=d) h
 have e0:crs a b d=crs c d a - crs c d b+crs a b c:=by unfold crs;grind
 rw[h] at e0
 have nA:crs c d a≠0:=fun e=>by
  rw[e,Int.zero_mul] at k1 k2
  exact ha (pt_ext (by have:=mul_zero k1 hd;omega) (by have:=mul_zero k2 hd;omega))
 have nB:crs c d b≠0:=fun e=>by
  rw[e,Int.zero_mul] at l1 l2
  exact hb (pt_ext (by have:=mul_zero l1 hd;omega) (by have:=mul_zero l2 hd;omega))
 have one: ∀p q r:Int,p<q→crs a b d*(r - p)=crs c d a*(q - p)→crs a b d*(r - q)=crs c d b*(q - p)→p<r∧r<q:=fun p q r h1 e1 e2=>by
  rcases sign_cases (crs c d a) with ⟨g,g'⟩|⟨g,g'⟩|⟨g,g'⟩
  ·rcases sign_cases (crs c d b) with ⟨f,f'⟩|⟨f,f'⟩|⟨f,f'⟩
   ·omega
   ·omega
   ·have hD:0< - crs a b d:=by omega
    have p1:=snp g (show 0<q - p by omega)
    have p2:=sp f (show 0<q - p by omega)
    have q1:0<(r - p)*(- crs a b d):=by grind
    have q2:(r - q)*(- crs a b d)<0:=by grind
    have:=cp hD q1
    have:=cn hD q2
    omega
  ·omega
  ·rcases sign_cases (crs c d b) with ⟨f,f'⟩|⟨f,f'⟩|⟨f,f'⟩
   ·have hD:0<crs a b d:=by omega
    have p1:=sp g (show 0<q - p by omega)
    have p2:=snp f (show 0<q - p by omega)
    have q1:0<(r - p)*crs a b d:=by grind
    have q2:(r - q)*crs a b d<0:=by grind
    have:=cp hD q1
    have:=cn hD q2
    omega
   ·omega
   ·omega
 have two: ∀p q r:Int,q<p→crs a b d*(r - p)=crs c d a*(q - p)→crs a b d*(r - q)=crs c d b*(q - p)→q<r∧r<p:=fun p q r h1 e1 e2=>by
  have:=one (-p) (-q) (-r) (by omega) (by grind) (by grind)
  omega
 have zero: ∀p q r:Int,p=q→crs a b d*(r - p)=crs c d a*(q - p)→r=p:=fun p q r h1 e1=>by
  subst h1
  rw[Int.sub_self,Int.mul_zero] at e1
  have:=mul_zero e1 hd
  omega
 rw[btw_cases]
 rcases Int.lt_trichotomy a.x b.x with hx|hx|hx
 ·have:=one _ _ _ hx k1 l1;omega
 ·have z:=zero _ _ _ hx k1
  rcases Int.lt_trichotomy a.y b.y with hy|hy|hy
  ·have:=one _ _ _ hy k2 l2;omega
  ·exact absurd (pt_ext z (zero _ _ _ hy k2)) ha
  ·have:=two _ _ _ hy k2 l2;omega
 ·have:=two _ _ _ hx k1 l1;omega
theorem crs_cyc (a b c:Pt):crs b c a=crs a b c:=by unfold crs;grind
theorem crs_aab (a b:Pt):crs a b a=0:=by unfold crs;grind
theorem crs_abb (a b:Pt):crs a b b=0:=by unfold crs;grind
theorem line4 (hab:a≠b) (h1:crs a b c=0) (h2:crs a b d=0):crs c d a=0∧crs c d b=0:=by
 have k1:=kx (d:=d) h1
 have k2:=ky (d:=d) h1
 have l1:=lx (d:=d) h1
 have l2:=ly (d:=d) h1
 rw[h2,Int.zero_mul] at k1 k2 l1 l2
 have hne:=pt_ne hab
 rcases hne with h|h
 ·exact⟨(Int.mul_eq_zero.1 k1.symm).resolve_right (by omega),(Int.mul_eq_zero.1 l1.symm).resolve_right (by omega)⟩
 ·exact⟨(Int.mul_eq_zero.1 k2.symm).resolve_right (by omega),(Int.mul_eq_zero.1 l2.symm).resolve_right (by omega)⟩
theorem wth_end {p a b:Pt} (h:wthR p a b=true) (ho:onR p a b=false):p=a∨p=b:=by
 unfold onR at ho
 rw[h] at ho
 by_cases e:p=a
 ·exact .inl e
 ·right
  by_cases e2:p=b
  ·exact e2
  ·simp[e,e2] at ho
theorem wth_l (a b:Pt):wthR a a b=true:=by
 have:trn a b a=0:=trn_zero.2 (crs_aab a b)
 unfold wthR
 rw[this]
 simp
 omega
theorem wth_r (a b:Pt):wthR b a b=true:=by
 have:trn a b b=0:=trn_zero.2 (crs_abb a b)
 unfold wthR
 rw[this]
 simp
 omega
theorem onB_iff {p a b:Pt} (hp:inB p=true) (ha:inB a=true) (hb:inB b=true):onB p a b=true↔crs a b p=0∧btwB p a b=true:=by
 unfold onB
 rw[hp,ha,hb]
 simp[trn_zero]
theorem btw_ne {p a b:Pt} (h:btwB p a b=true):p≠a∧p≠b:=by
 rw[btw_cases] at h
 exact⟨fun e=>by subst e;omega,fun e=>by subst e;omega⟩
theorem mul_neg_iff {x y:Int} (hx:x= -1∨x=0∨x=1) (hy:y= -1∨y=0∨y=1):x*y<0↔(x≠0∧y≠0∧x≠y):=by
 rcases hx with rfl|rfl|rfl<;>rcases hy with rfl|rfl|rfl<;>simp
theorem meetR_eq (ha:inB a=true) (hb:inB b=true) (hc:inB c=true) (hd:inB d=true) (hab:a≠b) (hcd:c≠d):meetR a b c d=meetB a b c d:=by
 have o1:=onB_iff ha hc hd
 have o2:=onB_iff hb hc hd
 have o3:=onB_iff hc ha hb
 have o4:=onB_iff hd ha hb
 unfold meetR meetB
 rw[ha,hb,hc,hd,onR_eq ha hc hd,onR_eq hb hc hd,onR_eq hc ha hb,onR_eq hd ha hb]
 have e0:(!(true&&true&&true&&true)||decide (a=b)||decide (c=d))=false:=by simp[hab,hcd]
 simp only[Bool.and_self,Bool.not_true,Bool.false_or]
 rw[if_neg (show¬(decide (a=b)||decide (c=d))=true by simp[hab,hcd])]
 by_cases hcol:trn a b c=0∧trn a b d=0
 ·rw[if_pos hcol]
  by_cases hon:(onB a c d||onB b c d||onB c a b||onB d a b)=true
  ·rw[if_pos hon,hon,Bool.true_or]
  ·rw[if_neg hon]
   have hon':(onB a c d||onB b c d||onB c a b||onB d a b)=false:=by simpa using hon
   rw[hon',Bool.false_or]
   simp only[Bool.or_eq_false_iff] at hon'
   obtain⟨⟨⟨n1,n2⟩,n3⟩,n4⟩:=hon'
   rw[hcol.1,hcol.2]
   simp only[Int.zero_mul,Int.lt_irrefl,decide_false,Bool.false_and]
   by_cases hs:(decide (a=c)&&decide (b=d)||decide (a=d)&&decide (b=c))=true
   ·rw[if_pos hs]
    simp only[Bool.or_eq_true,Bool.and_eq_true,decide_eq_true_eq] at hs
    rcases hs with ⟨rfl,rfl⟩|⟨rfl,rfl⟩
    ·rw[wth_l,wth_r];rfl
    ·rw[wth_l,wth_r];rfl
   ·rw[if_neg hs]
    by_cases w1:wthR a c d=true
    ·by_cases w2:wthR b c d=true
     ·exfalso
      have q1:=wth_end w1 (by rw[onR_eq ha hc hd];exact n1)
      have q2:=wth_end w2 (by rw[onR_eq hb hc hd];exact n2)
      apply hs
      simp only[Bool.or_eq_true,Bool.and_eq_true,decide_eq_true_eq]
      rcases q1 with rfl|rfl<;>rcases q2 with rfl|rfl
      ·exact absurd rfl hab
      ·exact .inl ⟨rfl,rfl⟩
      ·exact .inr ⟨rfl,rfl⟩
      ·exact absurd rfl hab
     ·simp[w2]
    ·simp[w1]
 ·rw[if_neg hcol]
  have hcol': ¬(crs a b c=0∧crs a b d=0):=fun⟨h1,h2⟩=>hcol ⟨trn_zero.2 h1,trn_zero.2 h2⟩
  by_cases hsh:a=c∨a=d∨b=c∨b=d
  ·rw[if_pos hsh]
   have z1:crs a b c=0∨crs a b d=0:=by
    rcases hsh with rfl|rfl|rfl|rfl
    ·exact .inl (crs_aab _ _)
    ·exact .inr (crs_aab _ _)
    ·exact .inl (crs_abb _ _)
    ·exact .inr (crs_abb _ _)
   have n1:onB a c d=false:=by
    rw[Bool.eq_false_iff]
    intro h
    obtain⟨h1,h2⟩:=o1.1 h
    obtain⟨m1,m2⟩:=btw_ne h2
    rcases hsh with e|e|e|e
    ·exact m1 e
    ·exact m2 e
    ·subst e
     exact hcol' ⟨crs_abb _ _,by rw[←crs_cyc];exact h1⟩
    ·subst e
     have hq:crs c b a= - crs a b c:=by unfold crs;grind
     exact hcol' ⟨by omega,crs_abb _ _⟩
   have n2:onB b c d=false:=by
    rw[Bool.eq_false_iff]
    intro h
    obtain⟨h1,h2⟩:=o2.1 h
    obtain⟨m1,m2⟩:=btw_ne h2
    rcases hsh with e|e|e|e
    ·subst e
     exact hcol' ⟨crs_aab _ _,by have:=crs_cyc d a b;have:=crs_cyc b d a;have:=crs_swap a b d;have:=crs_swap a d b;have:=crs_cyc a b d;have:=crs_swap b d a;omega⟩
    ·subst e
     exact hcol' ⟨by have:=crs_cyc c a b;have:=crs_cyc b c a;have:=crs_cyc a b c;omega,crs_aab _ _⟩
    ·exact m1 e
    ·exact m2 e
   have n3:onB c a b=false:=by
    rw[Bool.eq_false_iff]
    intro h
    obtain⟨h1,h2⟩:=o3.1 h
    obtain⟨m1,m2⟩:=btw_ne h2
    rcases hsh with e|e|e|e
    ·exact m1 e.symm
    ·subst e;exact hcol' ⟨h1,crs_aab _ _⟩
    ·exact m2 e.symm
    ·subst e;exact hcol' ⟨h1,crs_abb _ _⟩
   have n4:onB d a b=false:=by
    rw[Bool.eq_false_iff]
    intro h
    obtain⟨h1,h2⟩:=o4.1 h
    obtain⟨m1,m2⟩:=btw_ne h2
    rcases hsh with e|e|e|e
    ·subst e;exact hcol' ⟨crs_aab _ _,h1⟩
    ·exact m1 e.symm
    ·subst e;exact hcol' ⟨crs_abb _ _,h1⟩
    ·exact m2 e.symm
   rw[n1,n2,n3,n4]
   have hns: ¬((decide (a=c)&&decide (b=d)||decide (a=d)&&decide (b=c))=true):=fun hs=>by
    simp only[Bool.or_eq_true,Bool.and_eq_true,decide_eq_true_eq] at hs
    rcases hs with ⟨rfl,rfl⟩|⟨rfl,rfl⟩
    ·exact hcol' ⟨crs_aab _ _,crs_abb _ _⟩
    ·exact hcol' ⟨crs_abb _ _,crs_aab _ _⟩
   rw[if_neg (by simp),if_neg hns]
   have hz:trn a b c*trn a b d=0:=by
    rcases z1 with z|z
    ·rw[trn_zero.2 z,Int.zero_mul]
    ·rw[trn_zero.2 z,Int.mul_zero]
   rw[hz]
   simp
  ·rw[if_neg hsh]
   have n1:a≠c:=fun e=>hsh (.inl e)
   have n2:a≠d:=fun e=>hsh (.inr (.inl e))
   have n3:b≠c:=fun e=>hsh (.inr (.inr (.inl e)))
   have n4:b≠d:=fun e=>hsh (.inr (.inr (.inr e)))
   have hns: ¬((decide (a=c)&&decide (b=d)||decide (a=d)&&decide (b=c))=true):=by simp[n1,n2]
   rw[if_neg hns]
   have hcol2: ¬(crs c d a=0∧crs c d b=0):=fun⟨h1,h2⟩=>hcol' (line4 hcd h1 h2)
   rw[Bool.eq_iff_iff]
   have hL:(!(decide (trn a b c=trn a b d)||decide (trn c d a=trn c d b)))=true↔(trn a b c≠trn a b d∧trn c d a≠trn c d b):=by simp
   rw[hL]
   constructor
   ·rintro ⟨h1,h2⟩
    by_cases hon:(onB a c d||onB b c d||onB c a b||onB d a b)=true
    ·rw[if_pos hon]
    ·rw[if_neg hon]
     simp only[Bool.or_eq_true,not_or] at hon
     obtain⟨⟨⟨m1,m2⟩,m3⟩,m4⟩:=hon
     have z1:trn a b c≠0:=fun e=>by
      have e':=trn_zero.1 e
      exact m3 (o3.2 ⟨e',part2 (d:=d) e' (fun e2=>hcol' ⟨e',e2⟩) n1.symm n3.symm h2⟩)
     have z2:trn a b d≠0:=fun e=>by
      have e':=trn_zero.1 e
      refine m4 (o4.2 ⟨e',part2 (d:=c) e' (fun e2=>hcol' ⟨e2,e'⟩) n2.symm n4.symm ?_⟩)
      rw[crs_swap c d a,crs_swap c d b,Int.sign_neg,Int.sign_neg]
      intro h;apply h2;unfold trn;omega
     have z3:trn c d a≠0:=fun e=>by
      have e':=trn_zero.1 e
      exact m1 (o1.2 ⟨e',part2 (d:=b) e' (fun e2=>hcol2 ⟨e',e2⟩) n1 n2 h1⟩)
     have z4:trn c d b≠0:=fun e=>by
      have e':=trn_zero.1 e
      refine m2 (o2.2 ⟨e',part2 (d:=a) e' (fun e2=>hcol2 ⟨e2,e'⟩) n3 n4 ?_⟩)
      rw[crs_swap a b c,crs_swap a b d,Int.sign_neg,Int.sign_neg]
      intro h;apply h1;unfold trn;omega
     rw[Bool.and_eq_true,decide_eq_true_iff,decide_eq_true_iff,mul_neg_iff (trn_cases _ _ _) (trn_cases _ _ _),mul_neg_iff (trn_cases _ _ _) (trn_cases _ _ _)]
     exact⟨⟨z1,z2,h1⟩,z3,z4,h2⟩
   ·intro h
    by_cases hon:(onB a c d||onB b c d||onB c a b||onB d a b)=true
    ·simp only[Bool.or_eq_true] at hon
     rcases hon with ((h1|h1)|h1)|h1
     ·obtain⟨e,hb1⟩:=o1.1 h1
      have hne:crs c d b≠0:=fun e2=>hcol2 ⟨e,e2⟩
      refine⟨part1 e hne hb1,fun e3=>hne (trn_zero.1 (by rw[←e3];exact trn_zero.2 e))⟩
     ·obtain⟨e,hb1⟩:=o2.1 h1
      have hne:crs c d a≠0:=fun e2=>hcol2 ⟨e2,e⟩
      have:=part1 e hne hb1
      rw[crs_swap a b c,crs_swap a b d,Int.sign_neg,Int.sign_neg] at this
      refine⟨fun e3=>this (by unfold trn at e3;omega),fun e3=>hne (trn_zero.1 (by rw[e3];exact trn_zero.2 e))⟩
     ·obtain⟨e,hb1⟩:=o3.1 h1
      have hne:crs a b d≠0:=fun e2=>hcol' ⟨e,e2⟩
      exact⟨fun e3=>hne (trn_zero.1 (by rw[←e3];exact trn_zero.2 e)),part1 e hne hb1⟩
     ·obtain⟨e,hb1⟩:=o4.1 h1
      have hne:crs a b c≠0:=fun e2=>hcol' ⟨e2,e⟩
      have:=part1 e hne hb1
      rw[crs_swap c d a,crs_swap c d b,Int.sign_neg,Int.sign_neg] at this
      refine⟨fun e3=>hne (trn_zero.1 (by rw[e3];exact trn_zero.2 e)),fun e3=>this (by unfold trn at e3;omega)⟩
    ·rw[if_neg hon] at h
     rw[Bool.and_eq_true,decide_eq_true_iff,decide_eq_true_iff,mul_neg_iff (trn_cases _ _ _) (trn_cases _ _ _),mul_neg_iff (trn_cases _ _ _) (trn_cases _ _ _)] at h
     exact⟨h.1.2.2,h.2.2.2⟩
end
end Go.Proofs.YthopjhifepijiaaGreat
namespace Go.Proofs.YthopjhifepijiaaGreat
def dirLt (o a b:Pt):Prop:=halfI o a<halfI o b∨(halfI o a=halfI o b∧0<crs o a b)
theorem half_cases (o a:Pt):(halfI o a=0∧(o.y<a.y∨(a.y=o.y∧o.x<a.x)))∨(halfI o a=1∧ ¬(o.y<a.y∨(a.y=o.y∧o.x<a.x))):=by
 unfold halfI
 split
 ·exact .inl ⟨rfl,by assumption⟩
 ·exact .inr ⟨rfl,by assumption⟩
theorem trn_cs (a b c:Pt):(trn a b c=1∧0<crs a b c)∨(trn a b c=0∧crs a b c=0)∨(trn a b c= -1∧crs a b c<0):=by
 unfold trn
 rcases sign_cases (crs a b c) with ⟨h,k⟩|⟨h,k⟩|⟨h,k⟩
 ·exact .inr (.inr ⟨k,h⟩)
 ·exact .inr (.inl ⟨k,h⟩)
 ·exact .inl ⟨k,h⟩
theorem arnd_neg {o a b:Pt} (ho:inB o=true) (ha:inB a=true) (hb:inB b=true) (na:a≠o) (nb:b≠o):arnd o a b<0↔dirLt o a b:=by
 unfold arnd dirLt
 rw[ho,ha,hb,if_neg (by simp[na,nb])]
 have h1:=half_bd o a
 have h2:=half_bd o b
 have h3:=trn_cs o a b
 split<;>omega
theorem dir_irrefl (o a:Pt): ¬dirLt o a a:=by
 unfold dirLt
 have:crs o a a=0:=crs_abb o a
 omega
theorem dir_asymm {o a b:Pt} (h:dirLt o a b): ¬dirLt o b a:=by
 unfold dirLt at*
 have h4:crs o b a= - crs o a b:=by unfold crs;grind
 omega
theorem crs_trans {o a b c:Pt} (ha:o.y<a.y∨(a.y=o.y∧o.x<a.x)) (hb:o.y<b.y∨(b.y=o.y∧o.x<b.x)) (hc:o.y<c.y∨(c.y=o.y∧o.x<c.x)) (h1:0<crs o a b) (h2:0<crs o b c):0<crs o a c:=by
 have e:crs o a b*(c.y - o.y)+crs o b c*(a.y - o.y)=crs o a c*(b.y - o.y):=by unfold crs;grind
 have p1:=wpp (show 0≤crs o a b by omega) (show 0≤c.y - o.y by omega)
 have p2:=wpp (show 0≤crs o b c by omega) (show 0≤a.y - o.y by omega)
 rcases hb with hb|⟨hb1,hb2⟩
 ·have hk:0<b.y - o.y:=by omega
  by_cases hca:o.y<c.y∨o.y<a.y
  ·refine cp hk ?_
   rcases hca with h|h
   ·have:=sp h1 (show 0<c.y - o.y by omega);omega
   ·have:=sp h2 (show 0<a.y - o.y by omega);omega
  ·exfalso
   have hc':c.y=o.y∧o.x<c.x:=by omega
   have:crs o b c= - ((b.y - o.y)*(c.x - o.x)):=by unfold crs;rw[hc'.1];grind
   have:=sp hk (show 0<c.x - o.x by omega)
   omega
 ·exfalso
  have e2:crs o a b= - ((a.y - o.y)*(b.x - o.x)):=by unfold crs;rw[hb1];grind
  have:=wpp (show 0≤a.y - o.y by omega) (show 0≤b.x - o.x by omega)
  omega
def negP (o a:Pt):Pt:=⟨2*o.x - a.x,2*o.y - a.y⟩
theorem crs_negP (o a b:Pt):crs o (negP o a) (negP o b)=crs o a b:=by unfold crs negP;grind
theorem dir_trans {o a b c:Pt} (na:a≠o) (nb:b≠o) (nc:c≠o) (h1:dirLt o a b) (h2:dirLt o b c):dirLt o a c:=by
 unfold dirLt at*
 rcases half_cases o a with ⟨a1,a2⟩|⟨a1,a2⟩<;>rcases half_cases o b with ⟨b1,b2⟩|⟨b1,b2⟩<;>rcases half_cases o c with ⟨c1,c2⟩|⟨c1,c2⟩
 ·right
  exact⟨by omega,crs_trans a2 b2 c2 (by omega) (by omega)⟩
 ·left;omega
 ·left;omega
 ·left;omega
 ·omega
 ·omega
 ·omega
 ·right
  refine⟨by omega, ?_⟩
  have q:=pt_ne na
  have r:=pt_ne nb
  have s:=pt_ne nc
  rw[←crs_negP]
  refine crs_trans (b:=negP o b) ?_ ?_ ?_ (by rw[crs_negP];omega) (by rw[crs_negP];omega)
  ·show o.y<2*o.y - a.y∨(2*o.y - a.y=o.y∧o.x<2*o.x - a.x);omega
  ·show o.y<2*o.y - b.y∨(2*o.y - b.y=o.y∧o.x<2*o.x - b.x);omega
  ·show o.y<2*o.y - c.y∨(2*o.y - c.y=o.y∧o.x<2*o.x - c.x);omega
theorem dir_tie {o a b:Pt} (h1: ¬dirLt o a b) (h2: ¬dirLt o b a):halfI o a=halfI o b∧crs o a b=0:=by
 unfold dirLt at*
 have h4:crs o b a= - crs o a b:=by unfold crs;grind
 omega
def wedgeI (x y:Int):Int:=if y=0 then(if 0<x then 0 else 4) else if 0<y then(if 0<x then 1 else if x=0 then 2 else 3) else(if x<0 then 5 else if x=0 then 6 else 7)
def arndR (o a b:Pt):Int:=
 if wedgeI (a.x - o.x) (a.y - o.y)<wedgeI (b.x - o.x) (b.y - o.y) then -1 else if wedgeI (b.x - o.x) (b.y - o.y)<wedgeI (a.x - o.x) (a.y - o.y) then 1 else - trn o a b
theorem wedge_cases (x y:Int):(wedgeI x y=0∧y=0∧0<x)∨(wedgeI x y=1∧0<y∧0<x)∨(wedgeI x y=2∧0<y∧x=0)∨(wedgeI x y=3∧0<y∧x<0)∨(wedgeI x y=4∧y=0∧x≤0)∨(wedgeI x y=5∧y<0∧x<0)∨(wedgeI x y=6∧y<0∧x=0)∨(wedgeI x y=7∧y<0∧0<x):=by
 unfold wedgeI
 split
 ·split<;>omega
 ·split
  ·split
   ·omega
   ·split<;>omega
  ·split
   ·omega
   ·split<;>omega
theorem sgn_mul (x y:Int):((0<x∧0<y∨x<0∧y<0)∧0<x*y)∨((0<x∧y<0∨x<0∧0<y)∧x*y<0)∨((x=0∨y=0)∧x*y=0):=by
 rcases Int.lt_trichotomy x 0 with h|h|h<;>rcases Int.lt_trichotomy y 0 with k|k|k
 ·exact .inl ⟨.inr ⟨h,k⟩,snn h k⟩
 ·exact .inr (.inr ⟨.inr k,by rw[k,Int.mul_zero]⟩)
 ·exact .inr (.inl ⟨.inr ⟨h,k⟩,snp h k⟩)
 ·exact .inr (.inr ⟨.inl h,by rw[h,Int.zero_mul]⟩)
 ·exact .inr (.inr ⟨.inl h,by rw[h,Int.zero_mul]⟩)
 ·exact .inr (.inr ⟨.inl h,by rw[h,Int.zero_mul]⟩)
 ·exact .inr (.inl ⟨.inl ⟨h,k⟩,spn h k⟩)
 ·exact .inr (.inr ⟨.inr k,by rw[k,Int.mul_zero]⟩)
 ·exact .inl ⟨.inl ⟨h,k⟩,sp h k⟩
theorem wedge_lt {ax ay bx by_:Int} (h:wedgeI ax ay<wedgeI bx by_) (hh:wedgeI bx by_≤3∨4≤wedgeI ax ay) (na:ax≠0∨ay≠0) (nb:bx≠0∨by_≠0):0<ax*by_ - ay*bx:=by
 have wa:=wedge_cases ax ay
 have wb:=wedge_cases bx by_
 have s1:=sgn_mul ax by_
 have s2:=sgn_mul ay bx
 generalize ax*by_=P at*
 generalize ay*bx=Q at*
 generalize wedgeI ax ay=W at*
 generalize wedgeI bx by_=V at*
 rcases wa with ⟨w,w1,w2⟩|⟨w,w1,w2⟩|⟨w,w1,w2⟩|⟨w,w1,w2⟩|⟨w,w1,w2⟩|⟨w,w1,w2⟩|⟨w,w1,w2⟩|⟨w,w1,w2⟩<;>subst w<;>rcases wb with ⟨v,v1,v2⟩|⟨v,v1,v2⟩|⟨v,v1,v2⟩|⟨v,v1,v2⟩|⟨v,v1,v2⟩|⟨v,v1,v2⟩|⟨v,v1,v2⟩|⟨v,v1,v2⟩<;>subst v<;>first|(exfalso;clear s1 s2;omega)|(rcases s1 with s1|s1|s1<;>first|(exfalso;omega)|(rcases s2 with s2|s2|s2<;>omega))
theorem half_wedge {o a:Pt} (na:a≠o):(wedgeI (a.x - o.x) (a.y - o.y)≤3∧halfI o a=0)∨(4≤wedgeI (a.x - o.x) (a.y - o.y)∧halfI o a=1):=by
 have q:=pt_ne na
 have ha:=half_cases o a
 have wa:=wedge_cases (a.x - o.x) (a.y - o.y)
 rcases ha with ⟨h1,h2⟩|⟨h1,h2⟩
 ·left;omega
 ·right;omega
theorem arndR_neg {o a b:Pt} (na:a≠o) (nb:b≠o):arndR o a b<0↔dirLt o a b:=by
 have q:=pt_ne na
 have r:=pt_ne nb
 have h3:=trn_cs o a b
 have ha:=half_wedge na
 have hb:=half_wedge nb
 have hc:crs o a b=(a.x - o.x)*(b.y - o.y) - (a.y - o.y)*(b.x - o.x):=rfl
 have k1:=fun h hh=>wedge_lt (ax:=a.x - o.x) (ay:=a.y - o.y) (bx:=b.x - o.x) (by_:=b.y - o.y) h hh (by omega) (by omega)
 have k2:=fun h hh=>wedge_lt (ax:=b.x - o.x) (ay:=b.y - o.y) (bx:=a.x - o.x) (by_:=a.y - o.y) h hh (by omega) (by omega)
 have e2:(b.x - o.x)*(a.y - o.y) - (b.y - o.y)*(a.x - o.x)= - crs o a b:=by rw[hc];grind
 rw[e2] at k2
 rw[←hc] at k1
 unfold arndR dirLt
 generalize wedgeI (a.x - o.x) (a.y - o.y)=W at*
 generalize wedgeI (b.x - o.x) (b.y - o.y)=V at*
 clear hc e2 q r
 by_cases h1:W<V
 ·rw[if_pos h1]
  refine⟨fun _=> ?_,fun _=>by omega⟩
  by_cases hh:V≤3∨4≤W
  ·have:=k1 h1 hh;right;omega
  ·left;omega
 ·rw[if_neg h1]
  by_cases h2:V<W
  ·rw[if_pos h2]
   refine⟨fun h=>by omega,fun h=> ?_⟩
   exfalso
   by_cases hh:W≤3∨4≤V
   ·have:=k2 h2 hh;omega
   ·omega
  ·rw[if_neg h2]
   omega
end Go.Proofs.YthopjhifepijiaaGreat
namespace Go.Proofs.YthopjhifepijiaaGreat
section
variable {α:Type}
def Link (f:α→α):α→List α→α→Prop
 |h,[],x=>x=h
 |h,y::l,x=>y=h∧Link f (f h) l x
variable {f:α→α}
theorem link_app: ∀ {P Q:List α} {h x:α},Link f h (P++Q) x↔ ∃m,Link f h P m∧Link f m Q x
 | [],Q,h,x=>⟨fun e=>⟨h,rfl,e⟩,fun⟨m,e,e2⟩=>by have e:m=h:=e;subst e;exact e2⟩
 |y::P,Q,h,x=>by
  show(y=h∧Link f (f h) (P++Q) x)↔ ∃m,(y=h∧Link f (f h) P m)∧Link f m Q x
  rw[link_app]
  exact⟨fun⟨a,m,b,c⟩=>⟨m,⟨a,b⟩,c⟩,fun⟨m,⟨a,b⟩,c⟩=>⟨a,m,b,c⟩⟩
theorem link_snoc {P:List α} {h x y:α}:Link f h (P++[y]) x↔Link f h P y∧x=f y:=by
 rw[link_app]
 constructor
 ·rintro ⟨m,a,b,c⟩
  have b:y=m:=b
  subst b
  exact⟨a,c⟩
 ·rintro ⟨a,rfl⟩
  exact⟨y,a,rfl,rfl⟩
theorem nodup_len {all P:List α} (hn:P.Nodup) (ha: ∀y∈P,y∈all):P.length≤all.length:=hn.length_le_of_subset ha
theorem Link.mem_next: ∀ {L:List α} {h x y:α},Link f h L x→y∈L→f y∈L∨f y=x
 | [],h,x,y,_,hy=>by cases hy
 |z::L,h,x,y,⟨h1,h2⟩,hy=>by
  rcases List.mem_cons.1 hy with rfl|hy
  ·subst h1
   cases L with
   |nil=>right;exact h2.symm
   |cons w L=>left;have:=h2.1;rw[this];simp
  ·rcases Link.mem_next h2 hy with h3|h3
   ·exact .inl (List.mem_cons_of_mem _ h3)
   ·exact .inr h3
theorem link_back {all:List α} (inj: ∀x∈all, ∀y∈all,f x=f y→x=y) {P:List α} {h x:α} (hl:Link f h P x) (hn:P.Nodup) (ha: ∀y∈P,y∈all) (hx:x∈P):x=h:=by
 obtain⟨A,B,rfl⟩:=List.append_of_mem hx
 rcases List.eq_nil_or_concat A with rfl|⟨A',z,rfl⟩
 ·exact hl.1
 ·exfalso
  obtain⟨m,h1,h2⟩:=link_app.1 hl
  rw[List.concat_eq_append] at*
  obtain⟨h3,h4⟩:=link_snoc.1 h1
  have hm:x=m:=h2.1
  rcases List.eq_nil_or_concat (x::B) with e|⟨B',y,e⟩
  ·cases e
  ·rw[List.concat_eq_append] at e
   rw[e] at hl hn ha
   rw[←List.append_assoc] at hl
   obtain⟨h5,h6⟩:=link_snoc.1 hl
   have:z=y:=inj z (ha z (by simp)) y (ha y (by simp)) (by rw[←h4, ←h6,hm])
   rw[List.nodup_append] at hn
   exact hn.2.2 z (by simp) y (by simp) this
structure Ring (f:α→α) (all met:List α) (h:α) (L:List α):Prop where
 link:Link f h L h
 ne:L≠ []
 nd:L.Nodup
 mem: ∀y∈L,y∈all∧y∉met
theorem Ring.closed {all met:List α} {h:α} {L:List α} (r:Ring f all met h L): ∀y∈L,f y∈L:=fun y hy=>by
 rcases r.link.mem_next hy with h1|h1
 ·exact h1
 ·rw[h1]
  cases L with
  |nil=>exact absurd rfl r.ne
  |cons z L=>have:=r.link.1;rw[this];simp
theorem Ring.back {all met:List α} {h:α} {L:List α} (inj: ∀x∈all, ∀y∈all,f x=f y→x=y) (r:Ring f all met h L): ∀x∈all,f x∈L→x∈L:=fun x hx hfx=>by
 have h1: ∀ {P:List α} {g e:α},Link f g P e→ ∀y∈P,y=g∨ ∃z∈P,f z=y:=by
  intro P
  induction P with
  |nil=>intro g e _ y hy;cases hy
  |cons w P ih=>
   intro g e ⟨a,b⟩ y hy
   rcases List.mem_cons.1 hy with rfl|hy
   ·exact .inl a
   ·rcases ih b y hy with h|⟨z,hz,h⟩
    ·right;exact⟨w,by simp,by rw[a];exact h.symm⟩
    ·right;exact⟨z,by simp[hz],h⟩
 have h2: ∀y∈L, ∃z∈L,f z=y:=fun y hy=>by
  rcases h1 r.link y hy with h|h
  ·rcases List.eq_nil_or_concat L with e|⟨Q,z,e⟩
   ·exact absurd e r.ne
   ·rw[List.concat_eq_append] at e
    have hl:=r.link
    rw[e] at hl
    obtain⟨-,h3⟩:=link_snoc.1 hl
    exact⟨z,by rw[e];simp,by rw[←h3,h]⟩
  ·exact h
 obtain⟨z,hz,e⟩:=h2 _ hfx
 rw[←inj z (r.mem z hz).1 x hx e]
 exact hz
end
section
variable {α:Type} [DecidableEq α]
def orbF (f:α→α):Nat→List α→α→List α
 |0,_,_=>[]
 |n+1,met,h=>if h∈met then [] else h::orbF f n (met++[h]) (f h)
variable {f:α→α}
theorem orb_go {all met:List α} (hf: ∀x∈all,f x∈all) (inj: ∀x∈all, ∀y∈all,f x=f y→x=y) (hm: ∀x∈all,f x∈met→x∈met) {h0:α}:
  ∀(n:Nat) (P:List α) (x:α),P≠ []→Link f h0 P x→P.Nodup→(∀y∈P,y∈all∧y∉met)→all.length<P.length+n→
   ∃L,orbF f n (met++P) x=L∧Link f h0 (P++L) h0∧(P++L).Nodup∧ ∀y∈P++L,y∈all∧y∉met
 |0,P,x,hne,hl,hn,ha,hlen=>by
  have:=nodup_len hn (fun y hy=>(ha y hy).1)
  omega
 |n+1,P,x,hne,hl,hn,ha,hlen=>by
  unfold orbF
  rcases List.eq_nil_or_concat P with rfl|⟨Q,y,rfl⟩
  ·exact absurd rfl hne
  rw[List.concat_eq_append] at*
  obtain⟨h1,h2⟩:=link_snoc.1 hl
  have hy:=ha y (by simp)
  have hxall:x∈all:=by rw[h2];exact hf y hy.1
  by_cases hx:x∈met++(Q++[y])
  ·rw[if_pos hx]
   rcases List.mem_append.1 hx with hx|hx
   ·exact absurd (hm y hy.1 (by rw[←h2];exact hx)) hy.2
   ·have e:=link_back inj hl hn (fun z hz=>(ha z hz).1) hx
    rw[e] at hl
    exact⟨[],rfl,by rw[List.append_nil];exact hl,by rw[List.append_nil];exact hn,by rw[List.append_nil];exact ha⟩
  ·rw[if_neg hx]
   have hxm:x∉met:=fun h=>hx (List.mem_append_left _ h)
   have hxp:x∉Q++[y]:=fun h=>hx (List.mem_append_right _ h)
   obtain⟨L,e1,e2,e3,e4⟩:=orb_go hf inj hm n ((Q++[y])++[x]) (f x) (by simp) (link_snoc.2 ⟨hl,rfl⟩) (by
    rw[List.nodup_append]
    exact⟨hn,by simp,fun a ha' b hb e=>by simp at hb;subst hb;subst e;exact hxp ha'⟩) (fun z hz=>by
    rcases List.mem_append.1 hz with hz|hz
    ·exact ha z hz
    ·simp at hz;subst hz;exact⟨hxall,hxm⟩) (by simp at hlen ⊢;omega)
   refine⟨x::L, ?_, ?_, ?_, ?_⟩
   ·rw[List.append_assoc,e1]
   ·have:(Q++[y])++(x::L)=((Q++[y])++[x])++L:=by simp
    rw[this];exact e2
   ·have:(Q++[y])++(x::L)=((Q++[y])++[x])++L:=by simp
    rw[this];exact e3
   ·have:(Q++[y])++(x::L)=((Q++[y])++[x])++L:=by simp
    rw[this];exact e4
theorem orb_ring {all met:List α} (hf: ∀x∈all,f x∈all) (inj: ∀x∈all, ∀y∈all,f x=f y→x=y) (hm: ∀x∈all,f x∈met→x∈met) {h:α} (ha:h∈all) (hmet:h∉met) {n:Nat} (hn:all.length<n):Ring f all met h (orbF f n met h):=by
 obtain⟨k,rfl⟩: ∃k,n=k+1:=⟨n - 1,by omega⟩
 unfold orbF
 rw[if_neg hmet]
 obtain⟨L,e1,e2,e3,e4⟩:=orb_go (met:=met) hf inj hm k [h] (f h) (by simp) ⟨rfl,rfl⟩ (by simp) (fun y hy=>by simp at hy;subst hy;exact⟨ha,hmet⟩) (by simp;omega)
 rw[e1]
 exact⟨e2,by simp,e3,e4⟩
def ringsF (f:α→α) (n:Nat):List α→List α→List (List α)
 | [],_=>[]
 |h::l,met=>if h∈met then ringsF f n l met else orbF f n met h::ringsF f n l (met++orbF f n met h)
theorem rings_all {all:List α} (hf: ∀x∈all,f x∈all) (inj: ∀x∈all, ∀y∈all,f x=f y→x=y) {n:Nat} (hn:all.length<n):
  ∀(l met:List α),(∀x∈l,x∈all)→met.Nodup→(∀x∈met,x∈all∧f x∈met)→(∀x∈all,f x∈met→x∈met)→
   (∀L∈ringsF f n l met, ∃h m,Ring f all m h L∧ ∀x∈met,x∈m)∧(met++(ringsF f n l met).flatten).Nodup∧(∀x∈l,x∈met++(ringsF f n l met).flatten)∧ ∀x∈met++(ringsF f n l met).flatten,x∈all
 | [],met,hl,hd,hc,hb=>⟨by simp[ringsF],by simpa[ringsF] using hd,by simp,fun x hx=>by simp[ringsF] at hx;exact(hc x hx).1⟩
 |h::l,met,hl,hd,hc,hb=>by
  unfold ringsF
  by_cases hm:h∈met
  ·rw[if_pos hm]
   obtain⟨a,b,c,d⟩:=rings_all hf inj hn l met (fun x hx=>hl x (by simp[hx])) hd hc hb
   exact⟨a,b,fun x hx=>by
    rcases List.mem_cons.1 hx with rfl|hx
    ·exact List.mem_append_left _ hm
    ·exact c x hx,d⟩
  ·rw[if_neg hm]
   have r:=orb_ring (n:=n) hf inj hb (hl h (by simp)) hm hn
   generalize orbF f n met h=L at r ⊢
   have hd2:(met++L).Nodup:=by
    rw[List.nodup_append]
    exact⟨hd,r.nd,fun a ha b hb' e=>by subst e;exact(r.mem a hb').2 ha⟩
   obtain⟨a,b,c,d⟩:=rings_all hf inj hn l (met++L) (fun x hx=>hl x (by simp[hx])) hd2 (fun x hx=>by
    rcases List.mem_append.1 hx with hx|hx
    ·exact⟨(hc x hx).1,List.mem_append_left _ (hc x hx).2⟩
    ·exact⟨(r.mem x hx).1,List.mem_append_right _ (r.closed x hx)⟩) (fun x hx hfx=>by
    rcases List.mem_append.1 hfx with hfx|hfx
    ·exact List.mem_append_left _ (hb x hx hfx)
    ·exact List.mem_append_right _ (r.back inj x hx hfx))
   rw[List.flatten_cons]
   refine⟨fun K hK=> ?_,by rw[←List.append_assoc];exact b,fun x hx=> ?_,fun x hx=>d x (by rw[List.append_assoc];exact hx)⟩
   ·rcases List.mem_cons.1 hK with rfl|hK
    ·exact⟨h,met,r,fun x hx=>hx⟩
    ·obtain⟨g,m,r',hs⟩:=a K hK
     exact⟨g,m,r',fun x hx=>hs x (List.mem_append_left _ hx)⟩
   ·rw[←List.append_assoc]
    rcases List.mem_cons.1 hx with rfl|hx
    ·refine List.mem_append_left _ (List.mem_append_right _ ?_)
     cases L with
     |nil=>exact absurd rfl r.ne
     |cons z L=>have:=r.link.1;rw[this];simp
    ·exact c x hx
end
end Go.Proofs.YthopjhifepijiaaGreat
namespace Go.Proofs.YthopjhifepijiaaGreat
structure Hf where
 edge:Int
 back:Bool
deriving DecidableEq,Inhabited
def twinH (h:Hf):Hf:=⟨h.edge, !h.back⟩
theorem twin_twin (h:Hf):twinH (twinH h)=h:=by
 obtain⟨e,b⟩:=h
 simp[twinH]
theorem twin_inj {h g:Hf} (e:twinH h=twinH g):h=g:=by rw[←twin_twin h,e,twin_twin]
def halvesE (es:List Ed):List Hf:=es.flatMap fun e=>[⟨e.id,false⟩,⟨e.id,true⟩]
def edgeOf (es:List Ed) (id:Int):Option Ed:=es.find? fun e=>e.id==id
def fromH (es:List Ed) (h:Hf):Int:=match edgeOf es h.edge with
 |some e=>if h.back=true then e.b else e.a
 |none=>0
def toH (es:List Ed) (h:Hf):Int:=fromH es (twinH h)
def ptH (p:PL) (h:Hf):Pt:=ptZ p.vs (fromH p.es h)
instance (o a b:Pt):Decidable (dirLt o a b):=by unfold dirLt;exact inferInstance
def leavP (es:List Ed) (id:Int):List Hf:=(halvesE es).filter fun h=>fromH es h==id
def leH (p:PL) (id:Int) (x y:Hf):Bool:= !decide (dirLt (ptZ p.vs id) (ptH p (twinH y)) (ptH p (twinH x)))
def outP (p:PL) (id:Int):List Hf:=(leavP p.es id).mergeSort (leH p id)
def nextP (p:PL) (h:Hf):Hf:=(outP p (toH p.es h)).getD (((outP p (toH p.es h)).idxOf (twinH h)+(outP p (toH p.es h)).length - 1) % (outP p (toH p.es h)).length) ⟨0,false⟩
def lineH (p:PL) (h:Hf):Pt × Pt:=(ptH p h,ptH p (twinH h))
section
variable {p:PL}
theorem mem_halves {es:List Ed} {h:Hf}:h∈halvesE es↔ ∃e∈es,e.id=h.edge:=by
 unfold halvesE
 rw[List.mem_flatMap]
 constructor
 ·rintro ⟨e,he,hm⟩
  simp at hm
  rcases hm with rfl|rfl
  ·exact⟨e,he,rfl⟩
  ·exact⟨e,he,rfl⟩
 ·rintro ⟨e,he,hm⟩
  refine⟨e,he, ?_⟩
  obtain⟨i,b⟩:=h
  simp only at hm
  subst hm
  cases b<;>simp
theorem twin_mem {es:List Ed} {h:Hf} (hm:h∈halvesE es):twinH h∈halvesE es:=by
 rw[mem_halves] at hm ⊢
 exact hm
theorem eid_rise {es:List Ed} {vs:List Vx} {k:Nat} (h: ∀i e,i<k→es[i]? =some e→ ∃A B,EOk vs es i e A B): ∀(d j:Nat) (u:Ed),j+d+1≤k→es[j]? =some u→k≤es.length→u.id≤eid es (j+d+1)
 |0,j,u,hk,hu,hl=>by show u.id≤((es[j]?).map (·.id)).getD 0;rw[hu];exact Int.le_refl _
 |d+1,j,u,hk,hu,hl=>by
  have ih:=eid_rise h d j u (by omega) hu hl
  obtain⟨x,hx⟩: ∃x,es[j+d+1]? =some x:=⟨es[j+d+1]'(by omega),List.getElem?_eq_getElem _⟩
  obtain⟨A,B,hab⟩:=h (j+d+1) x (by omega) hx
  have:=hab.rise
  show u.id≤((es[j+d+1]?).map (·.id)).getD 0
  rw[hx]
  show u.id≤x.id
  omega
theorem RightP.es_apart (r:RightP p):p.es.Pairwise (fun u v=>u.id≠v.id):=by
 rw[List.pairwise_iff_getElem]
 intro i j hi hj hij
 obtain⟨A,B,hab⟩:=r.e j _ (List.getElem?_eq_getElem hj)
 have h1:=hab.rise
 have h2:=eid_rise (k:=j) (fun i e hi he=>r.e i e he) (j - 1 - i) i p.es[i] (by omega) (List.getElem?_eq_getElem hi) (by omega)
 rw[show i+(j - 1 - i)+1=j by omega] at h2
 omega
theorem edge_mem {es:List Ed} (hd:es.Pairwise (fun u v=>u.id≠v.id)) {e:Ed} (he:e∈es):edgeOf es e.id=some e:=by
 induction es with
 |nil=>cases he
 |cons u l ih=>
  obtain⟨h1,h2⟩:=List.pairwise_cons.1 hd
  unfold edgeOf
  rw[List.find?_cons]
  by_cases e':u.id=e.id
  ·rw[show(u.id==e.id)=true by simpa using e']
   rcases List.mem_cons.1 he with rfl|he
   ·rfl
   ·exact absurd e' (h1 e he)
  ·rw[show(u.id==e.id)=false by simpa using e']
   rcases List.mem_cons.1 he with rfl|he
   ·exact absurd rfl e'
   ·exact ih h2 he
theorem halves_nd {es:List Ed} (hd:es.Pairwise (fun u v=>u.id≠v.id)):(halvesE es).Nodup:=by
 induction es with
 |nil=>exact List.nodup_nil
 |cons u l ih=>
  obtain⟨h1,h2⟩:=List.pairwise_cons.1 hd
  show([⟨u.id,false⟩,⟨u.id,true⟩]++halvesE l:List Hf).Nodup
  rw[List.nodup_append]
  refine⟨by simp,ih h2,fun a ha b hb e=> ?_⟩
  subst e
  obtain⟨e,he,hh⟩:=mem_halves.1 hb
  simp at ha
  rcases ha with rfl|rfl
  ·exact h1 e he hh.symm
  ·exact h1 e he hh.symm
theorem RightP.ends_of (r:RightP p) {h:Hf} (hm:h∈halvesE p.es): ∃e∈p.es,e.id=h.edge∧fromH p.es h=(if h.back=true then e.b else e.a)∧toH p.es h=(if h.back=true then e.a else e.b):=by
 obtain⟨e,he,hh⟩:=mem_halves.1 hm
 have h1:=edge_mem r.es_apart he
 refine⟨e,he,hh, ?_, ?_⟩
 ·unfold fromH;rw[←hh,h1]
 ·unfold toH fromH twinH
  simp only
  rw[←hh,h1]
  cases h.back<;>simp
theorem mem_leav {es:List Ed} {id:Int} {h:Hf}:h∈leavP es id↔h∈halvesE es∧fromH es h=id:=by
 unfold leavP
 rw[List.mem_filter]
 simp
theorem mem_out {id:Int} {h:Hf}:h∈outP p id↔h∈halvesE p.es∧fromH p.es h=id:=by
 unfold outP
 rw[List.mem_mergeSort,mem_leav]
theorem RightP.out_nd (r:RightP p) (id:Int):(outP p id).Nodup:=by
 unfold outP leavP
 exact(List.mergeSort_perm _ _).nodup_iff.2 ((halves_nd r.es_apart).filter _)
theorem turn_idx {n i:Nat} (hi:i<n):(i+n - 1) % n<n:=Nat.mod_lt _ (by omega)
theorem turn_inj {n i j:Nat} (hi:i<n) (hj:j<n) (h:(i+n - 1) % n=(j+n - 1) % n):i=j:=by
 have key: ∀k,k<n→(k+n - 1) % n=if k=0 then n - 1 else k - 1:=fun k hk=>by
  split
  ·rename_i e;subst e;rw[Nat.zero_add];exact Nat.mod_eq_of_lt (by omega)
  ·rename_i e
   rw[show k+n - 1=(k - 1)+n by omega,Nat.add_mod_right]
   exact Nat.mod_eq_of_lt (by omega)
 rw[key i hi,key j hj] at h
 split at h<;>split at h<;>omega
theorem nodup_idx {α:Type} {l:List α} (hn:l.Nodup) {i j:Nat} (hi:i<l.length) (hj:j<l.length) (e:l[i]=l[j]):i=j:=by
 have h:=List.pairwise_iff_getElem.1 hn
 rcases Nat.lt_trichotomy i j with k|k|k
 ·exact absurd e (h i j hi hj k)
 ·exact k
 ·exact absurd e.symm (h j i hj hi k)
theorem RightP.next_mem (r:RightP p) {h:Hf} (hm:h∈halvesE p.es):nextP p h∈outP p (toH p.es h):=by
 have ht:twinH h∈outP p (toH p.es h):=mem_out.2 ⟨twin_mem hm,rfl⟩
 have hi:=List.idxOf_lt_length_of_mem ht
 unfold nextP
 rw[List.getD_eq_getElem?_getD,List.getElem?_eq_getElem (turn_idx hi)]
 exact List.getElem_mem _
theorem RightP.next_half (r:RightP p) {h:Hf} (hm:h∈halvesE p.es):nextP p h∈halvesE p.es:=(mem_out.1 (r.next_mem hm)).1
theorem RightP.next_from (r:RightP p) {h:Hf} (hm:h∈halvesE p.es):fromH p.es (nextP p h)=toH p.es h:=(mem_out.1 (r.next_mem hm)).2
theorem RightP.next_inj (r:RightP p) {h g:Hf} (hm:h∈halvesE p.es) (gm:g∈halvesE p.es) (e:nextP p h=nextP p g):h=g:=by
 have e1:toH p.es h=toH p.es g:=by rw[←r.next_from hm, ←r.next_from gm,e]
 have ht:twinH h∈outP p (toH p.es h):=mem_out.2 ⟨twin_mem hm,rfl⟩
 have gt:twinH g∈outP p (toH p.es h):=mem_out.2 ⟨twin_mem gm,by rw[e1];rfl⟩
 have hi:=List.idxOf_lt_length_of_mem ht
 have gi:=List.idxOf_lt_length_of_mem gt
 have hn:=r.out_nd (toH p.es h)
 unfold nextP at e
 rw[←e1] at e
 generalize outP p (toH p.es h)=l at*
 rw[List.getD_eq_getElem?_getD,List.getD_eq_getElem?_getD,List.getElem?_eq_getElem (turn_idx hi),List.getElem?_eq_getElem (turn_idx gi)] at e
 have e2:=nodup_idx hn (turn_idx hi) (turn_idx gi) (by simpa using e)
 have e3:=turn_inj hi gi e2
 have h1:=List.getElem_idxOf hi
 have h2:=List.getElem_idxOf gi
 exact twin_inj (by rw[←h1, ←h2];congr 1)
def ringsP (p:PL):List (List Hf):=ringsF (nextP p) (2*p.es.length+1) (halvesE p.es) []
theorem halves_len (es:List Ed):(halvesE es).length=2*es.length:=by
 induction es with
 |nil=>rfl
 |cons u l ih=>
  show([⟨u.id,false⟩,⟨u.id,true⟩]++halvesE l:List Hf).length=_
  rw[List.length_append,ih]
  simp
  omega
theorem RightP.rings (r:RightP p):(∀L∈ringsP p, ∃h m,Ring (nextP p) (halvesE p.es) m h L)∧(ringsP p).flatten.Nodup∧ ∀h,h∈(ringsP p).flatten↔h∈halvesE p.es:=by
 obtain⟨a,b,c,d⟩:=rings_all (f:=nextP p) (all:=halvesE p.es) (fun x hx=>r.next_half hx) (fun x hx y hy e=>r.next_inj hx hy e) (n:=2*p.es.length+1) (by rw[halves_len];omega) (halvesE p.es) [] (fun x hx=>hx) List.nodup_nil (by simp) (by simp)
 rw[List.nil_append] at b c d
 exact⟨fun L hL=>by
  obtain⟨h,m,r', -⟩:=a L hL
  exact⟨h,m,r'⟩,b,fun h=>⟨fun hm=>d h hm,fun hm=>c h hm⟩⟩
theorem RightP.chain (r:RightP p): ∀ {L:List Hf} {h x:Hf},Link (nextP p) h L x→(∀y∈L,y∈halvesE p.es)→Chain (ptH p h) (L.map (lineH p)) (ptH p x)
 | [],h,x,hl,_=>by
  have hl:x=h:=hl
  subst hl
  rfl
 |y::L,h,x,⟨h1,h2⟩,hm=>by
  subst h1
  have hy:=hm y (by simp)
  refine⟨rfl, ?_⟩
  have:=r.chain h2 (fun z hz=>hm z (by simp[hz]))
  have e:ptH p (nextP p y)=ptH p (twinH y):=by unfold ptH;rw[r.next_from hy];rfl
  rw[e] at this
  exact this
end
end Go.Proofs.YthopjhifepijiaaGreat
namespace Go.Proofs.YthopjhifepijiaaGreat
theorem same_dir {o a b:Pt} (ho:inB o=true) (ha:inB a=true) (hb:inB b=true) (na:a≠o) (nb:b≠o) (hab:a≠b) (hh:halfI o a=halfI o b) (hc:crs o a b=0):onB a o b=true∨onB b o a=true:=by
 have hc2:crs o b a=0:=by rw[show crs o b a= - crs o a b by unfold crs;grind,hc];rfl
 rw[onB_iff ha ho hb,onB_iff hb ho ha,btw_cases,btw_cases]
 simp only[hc,hc2,true_and]
 have e:(a.x - o.x)*(b.y - o.y)=(a.y - o.y)*(b.x - o.x):=by unfold crs at hc;omega
 have s1:=sgn_mul (a.x - o.x) (b.y - o.y)
 have s2:=sgn_mul (a.y - o.y) (b.x - o.x)
 have q:=pt_ne na
 have r:=pt_ne nb
 have s:=pt_ne hab
 have t:a.x=b.x→(a.x - o.x=0∨a.y=b.y):=fun h=>by
  have:(a.x - o.x)*(b.y - a.y)=0:=by rw[←h] at e;grind
  rcases Int.mul_eq_zero.1 this with h|h
  ·exact .inl h
  ·exact .inr (by omega)
 rcases half_cases o a with ⟨a1,a2⟩|⟨a1,a2⟩<;>rcases half_cases o b with ⟨b1,b2⟩|⟨b1,b2⟩<;>omega
section
variable {p:PL}
theorem RightP.half_pts (r:RightP p) {h:Hf} (hm:h∈halvesE p.es):inB (ptH p h)=true∧inB (ptH p (twinH h))=true∧(∃v∈p.vs,v.id=fromH p.es h∧v.at_=ptH p h)∧(∃v∈p.vs,v.id=toH p.es h∧v.at_=ptH p (twinH h))∧ptH p (twinH h)≠ptH p h:=by
 obtain⟨e,he,hid,h1,h2⟩:=r.ends_of hm
 obtain⟨i,hi⟩:=List.mem_iff_getElem?.1 he
 obtain⟨A,B,hab⟩:=r.e i e hi
 have hz: ∀ {id:Int} {q:Pt},ptOf p.vs id=some q→ptZ p.vs id=q:=fun h=>by unfold ptZ;rw[h];rfl
 obtain⟨va,ha,ea,e1⟩:=ptOf_some hab.pa
 obtain⟨vb,hb,eb,e2⟩:=ptOf_some hab.pb
 have inA:inB A=true:=by
  obtain⟨j,hj⟩:=List.mem_iff_getElem?.1 ha
  rw[←e1];exact(r.v j va hj).inr
 have inC:inB B=true:=by
  obtain⟨j,hj⟩:=List.mem_iff_getElem?.1 hb
  rw[←e2];exact(r.v j vb hj).inr
 have hne:A≠B:=fun e'=>by
  have hne:va≠vb:=fun e=>hab.ab (by rw[←ea, ←eb,e])
  obtain⟨j,hj⟩:=List.mem_iff_getElem?.1 ha
  obtain⟨k,hk⟩:=List.mem_iff_getElem?.1 hb
  rcases Nat.lt_trichotomy j k with hjk|hjk|hjk
  ·exact(r.v k vb hk).ne j va hjk hj (by rw[e1,e2,e'])
  ·subst hjk;rw[hj] at hk;injection hk with hk;exact hne hk
  ·exact(r.v j va hj).ne k vb hjk hk (by rw[e1,e2,e'])
 unfold ptH
 rw[show fromH p.es (twinH h)=toH p.es h from rfl,h1,h2]
 cases h.back
 ·simp only[Bool.false_eq_true,if_false]
  rw[hz hab.pa,hz hab.pb]
  exact⟨inA,inC,⟨va,ha,ea,e1⟩,⟨vb,hb,eb,e2⟩,fun e=>hne e.symm⟩
 ·simp only[if_true]
  rw[hz hab.pa,hz hab.pb]
  exact⟨inC,inA,⟨vb,hb,eb,e2⟩,⟨va,ha,ea,e1⟩,hne⟩
theorem RightP.half_way (r:RightP p) {h:Hf} (hm:h∈halvesE p.es) {v:Vx} (hv:v∈p.vs):onB v.at_ (ptH p h) (ptH p (twinH h))=false:=by
 obtain⟨e,he,hid,h1,h2⟩:=r.ends_of hm
 obtain⟨i,hi⟩:=List.mem_iff_getElem?.1 he
 obtain⟨A,B,hab⟩:=r.e i e hi
 have hz: ∀ {id:Int} {q:Pt},ptOf p.vs id=some q→ptZ p.vs id=q:=fun h=>by unfold ptZ;rw[h];rfl
 have w:=hab.way v hv
 unfold ptH
 rw[show fromH p.es (twinH h)=toH p.es h from rfl,h1,h2]
 cases h.back
 ·simp only[Bool.false_eq_true,if_false]
  rw[hz hab.pa,hz hab.pb]
  exact w
 ·simp only[if_true]
  rw[hz hab.pa,hz hab.pb]
  rw[←w]
  have t:decide (trn B A v.at_=0)=decide (trn A B v.at_=0):=decide_eq_decide.2 (by unfold trn;rw[crs_swap,Int.sign_neg];omega)
  have bb:btwB v.at_ B A=btwB v.at_ A B:=by unfold btwB;rw[Bool.or_comm]
  unfold onB
  rw[t,bb]
  cases inB v.at_<;>cases inB A<;>cases inB B<;>rfl
theorem RightP.vs_apart (r:RightP p) {u v:Vx} (hu:u∈p.vs) (hv:v∈p.vs) (e:u.at_=v.at_):u=v:=by
 obtain⟨j,hj⟩:=List.mem_iff_getElem?.1 hu
 obtain⟨k,hk⟩:=List.mem_iff_getElem?.1 hv
 rcases Nat.lt_trichotomy j k with hjk|hjk|hjk
 ·exact absurd e ((r.v k v hk).ne j u hjk hj)
 ·subst hjk;rw[hj] at hk;injection hk
 ·exact absurd e.symm ((r.v j u hj).ne k v hjk hk)
theorem RightP.half_one (r:RightP p) {h g:Hf} (hm:h∈halvesE p.es) (gm:g∈halvesE p.es) (e1:fromH p.es h=fromH p.es g) (e2:toH p.es h=toH p.es g):h=g:=by
 obtain⟨e,he,hid,h1,h2⟩:=r.ends_of hm
 obtain⟨f,hf,fid,f1,f2⟩:=r.ends_of gm
 obtain⟨i,hi⟩:=List.mem_iff_getElem?.1 he
 obtain⟨j,hj⟩:=List.mem_iff_getElem?.1 hf
 obtain⟨A,B,hab⟩:=r.e i e hi
 obtain⟨C,D,hcd⟩:=r.e j f hj
 have hnab:=hab.ab
 have hncd:=hcd.ab
 have hends:ends e=ends f:=by
  unfold ends
  rw[h1,f1] at e1
  rw[h2,f2] at e2
  cases hb:h.back<;>cases gb:g.back<;>simp only[hb,gb,Bool.false_eq_true,if_false,if_true] at e1 e2<;>rw[e1,e2]
  ·rw[Int.min_comm,Int.max_comm]
  ·rw[Int.min_comm,Int.max_comm]
 have hij:i=j:=by
  rcases Nat.lt_trichotomy i j with k|k|k
  ·exact absurd hends (hcd.pair i e k hi)
  ·exact k
  ·exact absurd hends.symm (hab.pair j f k hj)
 subst hij
 rw[hi] at hj
 injection hj with hj
 subst hj
 obtain⟨x,b⟩:=h
 obtain⟨y,c⟩:=g
 simp only at hid fid
 subst hid
 subst fid
 rw[h1,f1] at e1
 cases b<;>cases c
 ·rfl
 ·simp at e1;exact absurd e1 hnab
 ·simp at e1;exact absurd e1.symm hnab
 ·rfl
theorem RightP.dir_tot (r:RightP p) {h g:Hf} (hm:h∈halvesE p.es) (gm:g∈halvesE p.es) (e:fromH p.es h=fromH p.es g) (hn:h≠g):dirLt (ptH p h) (ptH p (twinH h)) (ptH p (twinH g))∨dirLt (ptH p h) (ptH p (twinH g)) (ptH p (twinH h)):=by
 have eo:ptH p g=ptH p h:=by unfold ptH;rw[e]
 obtain⟨h1,h2, -,⟨u,hu,u1,u2⟩,h5⟩:=r.half_pts hm
 obtain⟨g1,g2, -,⟨v,hv,v1,v2⟩,g5⟩:=r.half_pts gm
 rw[eo] at g5
 by_cases hd:dirLt (ptH p h) (ptH p (twinH h)) (ptH p (twinH g))
 ·exact .inl hd
 by_cases hd2:dirLt (ptH p h) (ptH p (twinH g)) (ptH p (twinH h))
 ·exact .inr hd2
 exfalso
 obtain⟨t1,t2⟩:=dir_tie hd hd2
 have hne:ptH p (twinH h)≠ptH p (twinH g):=fun e'=>by
  have:u=v:=r.vs_apart hu hv (by rw[u2,v2,e'])
  subst this
  exact hn (r.half_one hm gm e (by rw[←u1, ←v1]))
 rcases same_dir h1 h2 g2 h5 g5 hne t1 t2 with k|k
 ·have:=r.half_way gm hu
  rw[eo,u2,k] at this;cases this
 ·have:=r.half_way hm hv
  rw[v2,k] at this;cases this
end
end Go.Proofs.YthopjhifepijiaaGreat
namespace Go.Proofs.YthopjhifepijiaaGreat
section
variable {p:PL}
abbrev LeavT (p:PL) (id:Int):= {h:Hf // h∈halvesE p.es∧fromH p.es h=id}
def ltH (p:PL) (id:Int) (x y:Hf):Bool:=decide (dirLt (ptZ p.vs id) (ptH p (twinH x)) (ptH p (twinH y)))
theorem leH_lt (id:Int) (x y:Hf):leH p id x y= !ltH p id y x:=rfl
theorem RightP.lt_trans (r:RightP p) {id:Int} {x y z:Hf} (hx:x∈halvesE p.es∧fromH p.es x=id) (hy:y∈halvesE p.es∧fromH p.es y=id) (hz:z∈halvesE p.es∧fromH p.es z=id) (h1:ltH p id x y=true) (h2:ltH p id y z=true):ltH p id x z=true:=by
 unfold ltH at*
 rw[decide_eq_true_eq] at*
 have a:=(r.half_pts hx.1).2.2.2.2
 have b:=(r.half_pts hy.1).2.2.2.2
 have c:=(r.half_pts hz.1).2.2.2.2
 unfold ptH at a b c h1 h2 ⊢
 rw[hx.2] at a
 rw[hy.2] at b
 rw[hz.2] at c
 exact dir_trans a b c h1 h2
theorem RightP.lt_tot (r:RightP p) {id:Int} {x y:Hf} (hx:x∈halvesE p.es∧fromH p.es x=id) (hy:y∈halvesE p.es∧fromH p.es y=id) (hn:x≠y):ltH p id x y=true∨ltH p id y x=true:=by
 unfold ltH
 rw[decide_eq_true_eq,decide_eq_true_eq]
 have:=r.dir_tot hx.1 hy.1 (by rw[hx.2,hy.2]) hn
 rw[show ptH p x=ptZ p.vs id by unfold ptH;rw[hx.2]] at this
 exact this
theorem lt_irr (id:Int) (x:Hf):ltH p id x x=false:=by unfold ltH;exact decide_eq_false (dir_irrefl _ _)
theorem lt_asy {id:Int} {x y:Hf} (h:ltH p id x y=true):ltH p id y x=false:=by
 unfold ltH at*
 rw[decide_eq_true_eq] at h
 exact decide_eq_false (dir_asymm h)
theorem RightP.out_one (r:RightP p) {id:Int} {l:List Hf} (hp:l.Perm (leavP p.es id)) (hs:l.Pairwise (fun x y=>ltH p id y x=false)):l=outP p id:=by
 have hm: ∀x,x∈l→x∈halvesE p.es∧fromH p.es x=id:=fun x hx=>mem_leav.1 (hp.mem_iff.1 hx)
 have key:outP p id=(((leavP p.es id).attach.map fun x=>(⟨x.1,mem_leav.1 x.2⟩:LeavT p id)).mergeSort fun x y=>leH p id x.1 y.1).map (·.1):=by
  rw[List.map_mergeSort (s:=leH p id) (fun a _ b _=>rfl),List.map_map]
  unfold outP
  congr 1
  exact(List.attach_map_subtype_val (leavP p.es id)).symm
 have hso:(outP p id).Pairwise (fun x y=>ltH p id y x=false):=by
  rw[key,List.pairwise_map]
  have h:=List.pairwise_mergeSort (le:=fun(x y:LeavT p id)=>leH p id x.1 y.1) (fun a b c h1 h2=>by
   rw[leH_lt,Bool.not_eq_true'] at h1 h2 ⊢
   rw[Bool.eq_false_iff]
   intro h3
   by_cases e:a.1=b.1
   ·rw[←e] at h2;rw[h2] at h3;cases h3
   ·rcases r.lt_tot a.2 b.2 e with k|k
    ·have:=r.lt_trans c.2 a.2 b.2 h3 k
     rw[this] at h2;cases h2
    ·rw[k] at h1;cases h1) (fun a b=>by
   rw[leH_lt,leH_lt]
   cases h:ltH p id b.1 a.1
   ·rfl
   ·rw[lt_asy h];rfl) ((leavP p.es id).attach.map fun x=>(⟨x.1,mem_leav.1 x.2⟩:LeavT p id))
  refine h.imp (fun {a b} h=> ?_)
  rw[leH_lt,Bool.not_eq_true'] at h
  exact h
 refine List.Perm.eq_of_pairwise (le:=fun x y=>ltH p id y x=false) (fun a b ha hb h1 h2=> ?_) hs hso (hp.trans (List.mergeSort_perm _ _).symm)
 by_cases e:a=b
 ·exact e
 ·rcases r.lt_tot (hm a ha) (mem_out.1 hb) e with k|k
  ·rw[k] at h2;cases h2
  ·rw[k] at h1;cases h1
def insH (lt:Hf→Hf→Bool) (x:Hf):List Hf→List Hf
 | []=>[x]
 |y::l=>if lt x y=true then x::y::l else y::insH lt x l
theorem insH_perm (lt:Hf→Hf→Bool) (x:Hf): ∀l,(insH lt x l).Perm (x::l)
 | []=>List.Perm.refl _
 |y::l=>by
  unfold insH
  split
  ·exact List.Perm.refl _
  ·exact((insH_perm lt x l).cons y).trans (List.Perm.swap x y l)
theorem RightP.ins_ok (r:RightP p) {id:Int} {x:Hf} (hx:x∈halvesE p.es∧fromH p.es x=id): ∀ {l:List Hf},(∀y∈l,y∈halvesE p.es∧fromH p.es y=id)→l.Pairwise (fun x y=>ltH p id y x=false)→(insH (ltH p id) x l).Pairwise (fun x y=>ltH p id y x=false)
 | [],_,_=>by simp[insH]
 |y::l,hm,hs=>by
  obtain⟨h1,h2⟩:=List.pairwise_cons.1 hs
  unfold insH
  split
  ·rename_i hxy
   refine List.pairwise_cons.2 ⟨fun z hz=> ?_,hs⟩
   rcases List.mem_cons.1 hz with rfl|hz
   ·exact lt_asy hxy
   ·rw[Bool.eq_false_iff]
    intro h3
    have:=r.lt_trans (hm z (by simp[hz])) hx (hm y (by simp)) h3 hxy
    rw[h1 z hz] at this;cases this
  ·rename_i hxy
   refine List.pairwise_cons.2 ⟨fun z hz=> ?_,r.ins_ok hx (fun z hz=>hm z (by simp[hz])) h2⟩
   rcases List.mem_cons.1 ((insH_perm _ x l).mem_iff.1 hz) with rfl|hz
   ·simpa using hxy
   ·exact h1 z hz
def outR (p:PL) (id:Int):List Hf:=(halvesE p.es).foldl (fun l x=>if fromH p.es x=id then insH (ltH p id) x l else l) []
theorem RightP.outR_go (r:RightP p) {id:Int}: ∀(H l:List Hf),(∀y∈H,y∈halvesE p.es)→(∀y∈l,y∈halvesE p.es∧fromH p.es y=id)→l.Pairwise (fun x y=>ltH p id y x=false)→
  (H.foldl (fun l x=>if fromH p.es x=id then insH (ltH p id) x l else l) l).Perm (l++H.filter fun h=>fromH p.es h==id)∧(H.foldl (fun l x=>if fromH p.es x=id then insH (ltH p id) x l else l) l).Pairwise (fun x y=>ltH p id y x=false)
 | [],l,_,_,hs=>by simpa using hs
 |x::H,l,hH,hl,hs=>by
  rw[List.foldl_cons]
  by_cases e:fromH p.es x=id
  ·rw[if_pos e,List.filter_cons_of_pos (by simp[e])]
   have hx:=(⟨hH x (by simp),e⟩:x∈halvesE p.es∧fromH p.es x=id)
   obtain⟨a,b⟩:=r.outR_go H (insH (ltH p id) x l) (fun y hy=>hH y (by simp[hy])) (fun y hy=>by
    rcases List.mem_cons.1 ((insH_perm _ x l).mem_iff.1 hy) with rfl|hy
    ·exact hx
    ·exact hl y hy) (r.ins_ok hx hl hs)
   exact⟨a.trans (((insH_perm _ x l).append_right _).trans (List.perm_middle.symm)),b⟩
  ·rw[if_neg e,List.filter_cons_of_neg (by simp[e])]
   exact r.outR_go H l (fun y hy=>hH y (by simp[hy])) hl hs
theorem RightP.outR_eq (r:RightP p) (id:Int):outR p id=outP p id:=by
 obtain⟨a,b⟩:=r.outR_go (id:=id) (halvesE p.es) [] (fun y hy=>hy) (by simp) List.Pairwise.nil
 rw[List.nil_append] at a
 exact r.out_one a b
def nextR (p:PL) (h:Hf):Hf:=match (outR p (toH p.es h)).idxOf? (twinH h) with
 |some 0=>(outR p (toH p.es h)).getLast?.getD ⟨0,false⟩
 |some (i+1)=>(outR p (toH p.es h)).getD i ⟨0,false⟩
 |none=>⟨0,false⟩
theorem RightP.nextR_eq (r:RightP p) {h:Hf} (hm:h∈halvesE p.es):nextR p h=nextP p h:=by
 unfold nextR nextP
 rw[r.outR_eq]
 have ht:twinH h∈outP p (toH p.es h):=mem_out.2 ⟨twin_mem hm,rfl⟩
 generalize outP p (toH p.es h)=l at ht
 have hi:=List.idxOf_lt_length_of_mem ht
 have e:l.idxOf? (twinH h)=some (l.idxOf (twinH h)):=by
  rw[List.idxOf?_eq_some_iff]
  exact⟨hi,by simp,fun j hj=>by
   have:=List.not_of_lt_findIdx (p:=(· ==twinH h)) (xs:=l) (i:=j) hj
   simpa using this⟩
 rw[e]
 generalize l.idxOf (twinH h)=i at hi
 cases i with
 |zero=>
  simp only
  rw[Nat.zero_add,Nat.mod_eq_of_lt (show l.length - 1<l.length by omega),List.getLast?_eq_getElem?,List.getD_eq_getElem?_getD]
 |succ i=>
  simp only
  rw[show i+1+l.length - 1=i+l.length by omega,Nat.add_mod_right,Nat.mod_eq_of_lt (show i<l.length by omega)]
end
end Go.Proofs.YthopjhifepijiaaGreat
namespace Go.Proofs.YthopjhifepijiaaGreat
open Go.RowKit Go.Sort Go.Shelf Go.Lib
section
variable {p:PL}
def cfH (p:PL) (id:Int) (x y:LeavT p id):Int:=arnd (ptZ p.vs id) (ptH p (twinH x.1)) (ptH p (twinH y.1))
theorem RightP.cf_lt (r:RightP p) {id:Int} (x y:LeavT p id):ltOf (cfH p id) x y=ltH p id x.1 y.1:=by
 have hx:=r.half_pts x.2.1
 have hy:=r.half_pts y.2.1
 rw[show ptH p x.1=ptZ p.vs id by unfold ptH;rw[x.2.2]] at hx
 rw[show ptH p y.1=ptZ p.vs id by unfold ptH;rw[y.2.2]] at hy
 unfold ltOf cfH ltH
 exact decide_eq_decide.2 (arnd_neg hx.1 hx.2.1 hy.2.1 hx.2.2.2.2 hy.2.2.2.2)
theorem RightP.cf_swo (r:RightP p) (id:Int):SWO (ltOf (cfH p id)) where
 irrefl x:=by rw[r.cf_lt];exact lt_irr _ _
 trans x y z h1 h2:=by rw[r.cf_lt] at*;exact r.lt_trans x.2 y.2 z.2 h1 h2
 ntrans x y z h1 h2:=by
  rw[r.cf_lt] at*
  by_cases e1:x.1=y.1
  ·rw[e1];exact h2
  ·by_cases e2:y.1=z.1
   ·rw[←e2];exact h1
   ·rcases r.lt_tot x.2 y.2 e1 with k|k
    ·rw[k] at h1;cases h1
    ·rcases r.lt_tot y.2 z.2 e2 with k2|k2
     ·rw[k2] at h2;cases h2
     ·exact lt_asy (r.lt_trans z.2 y.2 x.2 k2 k)
theorem RightP.cf_tot (r:RightP p) {id:Int} (x y:LeavT p id) (h1:ltOf (cfH p id) x y=false) (h2:ltOf (cfH p id) y x=false):x=y:=by
 rw[r.cf_lt] at h1 h2
 by_cases e:x.1=y.1
 ·exact Subtype.ext e
 ·rcases r.lt_tot x.2 y.2 e with k|k
  ·rw[k] at h1;cases h1
  ·rw[k] at h2;cases h2
theorem RightP.sorted_out (r:RightP p) {id:Int} {d:List (LeavT p id)} (hd:d.map (·.1)=leavP p.es id):(d.mergeSort fun x y=> !(ltOf (cfH p id)) y x).map (·.1)=outP p id:=by
 unfold outP
 rw[List.map_mergeSort (s:=leH p id) (fun a _ b _=>by rw[r.cf_lt];rfl),hd]
def leavT (p:PL) (id:Int):List (LeavT p id):=(leavP p.es id).attach.map fun x=>⟨x.1,mem_leav.1 x.2⟩
theorem leavT_map (p:PL) (id:Int):(leavT p id).map (·.1)=leavP p.es id:=by
 unfold leavT
 rw[List.map_map]
 exact List.attach_map_subtype_val (leavP p.es id)
theorem leavT_len (p:PL) (id:Int):(leavT p id).length=(leavP p.es id).length:=by rw[←leavT_map p id,List.length_map]
def HsAt (w:World) (b off:Nat) (R:List Hf):Prop:= ∀(i:Nat) (h:Hf),R[i]? =some h→w.cell? ⟨b,off+i*2,none⟩=some (.int .i64 h.edge)∧w.cell? ⟨b,off+i*2+1,none⟩=some (.bool h.back)
theorem HsAt.block {w w':World} {b off:Nat} {R:List Hf} (h:HsAt w b off R) (e:w'.heap[b]? =w.heap[b]?):HsAt w' b off R:=fun i x hx=>
 ⟨(World.cell?_of_block (a:=⟨b,_,none⟩) e).trans (h i x hx).1,(World.cell?_of_block (a:=⟨b,_,none⟩) e).trans (h i x hx).2⟩
theorem HsAt.touch {w w':World} {F:List Nat} {b off:Nat} {R:List Hf} (h:HsAt w b off R) (t:Touch F w w') (hb:b<w.heap.size) (hF:b∉F):HsAt w' b off R:=h.block (t.block hb hF)
theorem HsAt.below {w w':World} {b off B:Nat} {R:List Hf} (h:HsAt w b off R) (t:Below B w w') (hb:b<B):HsAt w' b off R:=h.block (t.block b hb)
def encH {p:PL} {id:Int} (x:LeavT p id):List Value:=[.int .i64 x.1.edge, .bool x.1.back]
theorem holds_of {id:Int} [Inhabited (LeavT p id)] {w:World} {b off:Nat} {d:Array (LeavT p id)} (h:HsAt w b off (d.toList.map (·.1))) (hf: ∀j,j<d.size*2→w.frozen? ⟨b,off+j,none⟩=false):HoldsK encH 2 w b off d:=by
 intro j hj
 rw[size_flatK] at hj
 refine⟨?_,hf j hj⟩
 rw[get_flatK _ _ _ _ hj]
 have hi:j / 2<d.size:=by omega
 have hx:(d.toList.map (·.1))[j / 2]? =some (d[j / 2]!).1:=by
  rw[List.getElem?_map,Array.getElem?_toList,getElem!_pos d _ hi,Array.getElem?_eq_getElem hi];rfl
 obtain⟨h0,h1⟩:=h _ _ hx
 have hm:j % 2=0∨j % 2=1:=by omega
 rcases hm with e|e
 ·rw[e,show off+j=off+j / 2*2 by omega,h0];rfl
 ·rw[e,show off+j=off+j / 2*2+1 by omega,h1];rfl
theorem of_holds {id:Int} [Inhabited (LeavT p id)] {w:World} {b off:Nat} {d:Array (LeavT p id)} (h:HoldsK encH 2 w b off d):HsAt w b off (d.toList.map (·.1)):=by
 intro i x hx
 rw[List.getElem?_map,Array.getElem?_toList] at hx
 obtain⟨y,hy,rfl⟩:=Option.map_eq_some_iff.1 hx
 obtain⟨hi,rfl⟩:=Array.getElem?_eq_some_iff.1 hy
 have h0:=(h.cell hi (c:=0) (by decide)).1
 have h1:=(h.cell hi (c:=1) (by decide)).1
 rw[getElem!_pos d _ hi] at h0 h1
 exact⟨h0,h1⟩
theorem sort_touch {id:Int} [Inhabited (LeavT p id)] (w:World) (b off n:Nat) (d:Array (LeavT p id)) (os:Array Obj):Touch [b] w (sortWorldK encH 2 w b off n d os):=by
 refine⟨rfl,rfl,rfl,size_sortWorldK_c encH 2 w b off n d os,fun k hk hF=> ?_⟩
 show((w.heap.modify b _)++os)[k]? =_
 rw[Array.getElem?_append_left (by simpa using hk),Array.getElem?_modify,if_neg (fun e=>hF (by simp[e]))]
theorem sort_of {P:Program} {ρ:Ren} (L:SlLaysF0.n6 P ρ) (aE: ∀w,(isAgg (ρ.t 24)).run P w= .ok true w) (zE: ∀w,(Go.sizeOf (ρ.t 24)).run P w= .ok 2 w) (r:RightP p) {id:Int} (hne:leavP p.es id≠ []) (g:Nat) (cb:Array Value) (b off cap:Nat) (w:World)
  (eg: ∀args w,(callFunc g args).run P w= .ok (.enter g args) w)
  (hcmp: ∀(x y:LeavT p id) (w1:World),Touch [b] w w1→Calls P g (#[.agg #[.int .i64 x.1.edge, .bool x.1.back], .agg #[.int .i64 y.1.edge, .bool y.1.back]]++cb) w1 fun e w'=>e= .returned (.int .i64 (cfH p id x y))∧ ∃q os',w'=grow (w1.drewN q) os')
  (hH:HsAt w b off (leavP p.es id)) (hf: ∀j,j<(leavP p.es id).length*2→w.frozen? ⟨b,off+j,none⟩=false) (hb:b<w.heap.size) (hsz:(leavP p.es id).length<4611686018427387904):
  Calls P (ρ.f 6) #[.slice (some ⟨b,off,none⟩) (leavP p.es id).length cap, .func (.func g) #[] cb] w fun e w'=>e= .returned (.tuple #[])∧Touch [b] w w'∧HsAt w' b off (outP p id):=by
 haveI:Inhabited (LeavT p id):=⟨⟨(leavP p.es id).head hne,mem_leav.1 (List.head_mem hne)⟩⟩
 have es:(leavT p id).toArray.size=(leavP p.es id).length:=by rw[List.size_toArray,leavT_len]
 have hK:HoldsK encH 2 w b off (leavT p id).toArray:=holds_of (by rw[leavT_map];exact hH) (by rw[es];exact hf)
 have:=AnyQ.slices_SortFunc_total L 2 aE zE (encH (p:=p) (id:=id)) (fun _=>rfl) (fun x v hv=>by simp[encH] at hv;rcases hv with rfl|rfl<;>rfl) (cfH p id) (r.cf_swo id) g cb b off cap (leavT p id).toArray w eg
  (fun m os dk hs x y=>hcmp x y _ (sort_touch w b off m dk os)) hK hb (by rw[es];exact hsz) (fun x y=>r.cf_tot x y)
 rw[es] at this
 refine this.mono ?_
 rintro e w' ⟨he,n,os,rfl⟩
 refine⟨he,sort_touch _ _ _ _ _ _, ?_⟩
 have h2:=of_holds (holdsK_sortWorldK_c encH 2 w b off (leavT p id).toArray ((leavT p id).toArray.toList.mergeSort fun x y=> !(ltOf (cfH p id)) y x).toArray n os hK hb (by simp))
 rw[List.toList_toArray,r.sorted_out (leavT_map p id)] at h2
 exact h2
end
end Go.Proofs.YthopjhifepijiaaGreat
