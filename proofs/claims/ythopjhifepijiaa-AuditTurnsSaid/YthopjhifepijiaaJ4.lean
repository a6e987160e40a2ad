/- Lemmas on the way to the statement. -/
import Derived.Test.YthopjhifepijiaaJ3
import Derived.Deep.RegionHeld3
import Derived.Deep.RegionLawGrows
import Derived.Ground.SlgfProg
import Derived.Ground.SlsfProg
import Derived.Lib.AppendZeros
import Derived.OwnWalk
import Derived.Shelf.SlicesQ.IndexFunc
import Derived.Test.YthopjhifepijiaaProg
set_option linter.unusedSimpArgs false
set_option linter.unusedVariables false
namespace Go.Proofs.Ythopjhifepijiaa
theorem updT_self {up:Int→Option Int} {a r:Int}:updT up a r a=some r:=if_pos rfl
theorem updT_ne {up:Int→Option Int} {a r x:Int} (h:x≠a):updT up a r x=up x:=if_neg h
inductive Rt (up:Int→Option Int):Int→Int→Prop
 |top {a:Int}:(up a=none∨up a=some a)→Rt up a a
 |go {a b r:Int}:up a=some b→b≠a→Rt up b r→Rt up a r
def Fo (rk:Int→Nat) (up:Int→Option Int):Prop:= ∀a b,up a=some b→b≠a→rk b<rk a
theorem Rt.one {up:Int→Option Int} {a r s:Int} (h:Rt up a r) (k:Rt up a s):r=s:=by
 induction h with
 |top h=>
  cases k with
  |top _=>rfl
  |go e n _=>rcases h with h|h<;>rw[h] at e<;>simp_all
 |go e n _ ih=>
  cases k with
  |top h=>rcases h with h|h<;>rw[h] at e<;>simp_all
  |go e2 _ k2=>
   rw[e] at e2
   injection e2 with e2
   subst e2
   exact ih k2
theorem Rt.is_top {up:Int→Option Int} {a r:Int} (h:Rt up a r):up r=none∨up r=some r:=by
 induction h with
 |top h=>exact h
 |go _ _ _ ih=>exact ih
theorem Rt.self {up:Int→Option Int} {a r:Int} (h:Rt up a r):Rt up r r:= .top h.is_top
theorem Rt.le {rk:Int→Nat} {up:Int→Option Int} (f:Fo rk up) {a r:Int} (h:Rt up a r):rk r≤rk a:=by
 induction h with
 |top _=>exact Nat.le_refl _
 |go e n _ ih=>exact Nat.le_trans ih (Nat.le_of_lt (f _ _ e n))
theorem rt_ex {rk:Int→Nat} {up:Int→Option Int} (f:Fo rk up) (a:Int): ∃r,Rt up a r:=by
 have key: ∀n a,rk a<n→ ∃r,Rt up a r:=by
  intro n
  induction n with
  |zero=>intro a h;omega
  |succ n ih=>
   intro a h
   cases e:up a with
   |none=>exact⟨a, .top (.inl e)⟩
   |some b=>
    by_cases hb:b=a
    ·exact⟨a, .top (.inr (by rw[e,hb]))⟩
    ·have:=f a b e hb
     obtain⟨r,hr⟩:=ih b (by omega)
     exact⟨r, .go e hb hr⟩
 exact key _ a (Nat.lt_succ_self _)
def SameR (up vp:Int→Option Int):Prop:= ∀a r,Rt up a r↔Rt vp a r
theorem SameR.of {rk:Int→Nat} {up vp:Int→Option Int} (f:Fo rk up) (h: ∀a r,Rt up a r→Rt vp a r):SameR up vp:=fun a r=>⟨h a r,fun k=>by
 obtain⟨s,hs⟩:=rt_ex f a
 rw[k.one (h a s hs)]
 exact hs⟩
theorem SameR.trans {a b c:Int→Option Int} (h:SameR a b) (k:SameR b c):SameR a c:=fun x r=>(h x r).trans (k x r)
theorem fo_short {rk:Int→Nat} {up:Int→Option Int} (f:Fo rk up) {a r:Int} (h:Rt up a r) (hr:rk r<rk a):Fo rk (updT up a r)∧SameR up (updT up a r):=by
 have hne:r≠a:=fun e=>by rw[e] at hr;omega
 refine⟨fun x y e n=> ?_,SameR.of f (fun x s hx=> ?_)⟩
 ·by_cases hx:x=a
  ·subst hx
   rw[updT_self] at e
   injection e with e
   subst e
   exact hr
  ·rw[updT_ne hx] at e
   exact f x y e n
 ·have top:Rt (updT up a r) r r:= .top (by rw[updT_ne hne];exact h.is_top)
  have e:(updT up a r) a=some r:=updT_self
  induction hx with
  | @top x hx=>
   by_cases hxa:x=a
   ·subst hxa
    exact absurd ((Rt.top hx).one h) (fun e=>hne e.symm)
   ·exact .top (by rw[updT_ne hxa];exact hx)
  | @go x b s e1 n k ih=>
   by_cases hxa:x=a
   ·subst hxa
    rw[(Rt.go e1 n k).one h]
    exact .go e hne top
   ·exact .go (by rw[updT_ne hxa];exact e1) n ih
theorem fo_self {rk:Int→Nat} {up:Int→Option Int} (f:Fo rk up) {r:Int} (h:Rt up r r):Fo rk (updT up r r)∧SameR up (updT up r r):=by
 have ht:up r=none∨up r=some r:=h.is_top
 refine⟨fun x y e n=> ?_,SameR.of f (fun x s hx=> ?_)⟩
 ·by_cases hx:x=r
  ·subst hx
   rw[updT_self] at e
   injection e with e
   exact absurd e.symm n
  ·rw[updT_ne hx] at e
   exact f x y e n
 ·induction hx with
  | @top x hx=>
   by_cases hxa:x=r
   ·subst hxa;exact .top (.inr updT_self)
   ·exact .top (by rw[updT_ne hxa];exact hx)
  | @go x b s e1 n k ih=>
   have hxa:x≠r:=fun e=>by
    subst e
    rcases ht with ht|ht<;>rw[ht] at e1<;>simp_all
   exact .go (by rw[updT_ne hxa];exact e1) n ih
theorem fo_join {rk:Int→Nat} {up:Int→Option Int} (f:Fo rk up) {r s:Int} (hr:Rt up r r) (hs:Rt up s s) (hne:r≠s):(∃rk',Fo rk' (updT up r s))∧ ∀x t,Rt up x t→Rt (updT up r s) x (if t=r then s else t):=by
 have hsr:s≠r:=fun e=>hne e.symm
 have top:Rt (updT up r s) s s:= .top (by rw[updT_ne hsr];exact hs.is_top)
 refine⟨?_,fun x t hx=> ?_⟩
 ·refine⟨fun x=>open Classical in if Rt up x r then rk x+rk s+1 else rk x,fun x y e n=> ?_⟩
  by_cases hx:x=r
  ·subst hx
   rw[updT_self] at e
   injection e with e
   subst e
   dsimp only
   rw[if_pos hr,if_neg (fun h:Rt up s x=>hne (h.one hs))]
   omega
  ·rw[updT_ne hx] at e
   have h1:=f x y e n
   have h2:Rt up x r↔Rt up y r:=⟨fun h=>by
    cases h with
    |top _=>exact absurd rfl hx
    |go e2 _ k=>rw[e] at e2;injection e2 with e2;rw[e2];exact k,fun h=> .go e n h⟩
   dsimp only
   by_cases h3:Rt up x r
   ·rw[if_pos h3,if_pos (h2.1 h3)];omega
   ·rw[if_neg h3,if_neg (fun h=>h3 (h2.2 h))];exact h1
 ·induction hx with
  | @top x hx=>
   by_cases hxa:x=r
   ·subst hxa
    rw[if_pos rfl]
    exact .go updT_self hsr top
   ·rw[if_neg hxa]
    exact .top (by rw[updT_ne hxa];exact hx)
  | @go x b t e1 n k ih=>
   have hxa:x≠r:=fun e=>by
    subst e
    rcases hr.is_top with ht|ht<;>rw[ht] at e1<;>simp_all
   exact .go (by rw[updT_ne hxa];exact e1) n ih
structure UF (es:List (Int × Int)) (up:Int→Option Int):Prop where
 fo: ∃rk,Fo rk up
 iff: ∀ {a b r s:Int},Rt up a r→Rt up b s→(r=s↔Conn es a b)
theorem UF.empty:UF [] (fun _=>none):=by
 refine⟨⟨fun _=>0,fun a b e _=>by cases e⟩,fun {a b r s} h k=> ?_⟩
 have h1:a=r:=(Rt.top (.inl rfl)).one h
 have h2:b=s:=(Rt.top (.inl rfl)).one k
 subst h1
 subst h2
 refine⟨fun e=>by rw[e];exact Conn.refl _,fun c=> ?_⟩
 cases c with
 |refl=>rfl
 |fwd _ e=>cases e
 |bwd _ e=>cases e
theorem UF.same {es:List (Int × Int)} {up vp:Int→Option Int} (u:UF es up) (f: ∃rk,Fo rk vp) (h:SameR up vp):UF es vp:=⟨f,fun h1 h2=>u.iff ((h _ _).2 h1) ((h _ _).2 h2)⟩
theorem UF.add {es:List (Int × Int)} {up:Int→Option Int} (u:UF es up) {a b r s:Int} (ha:Rt up a r) (hb:Rt up b s):UF (es++[(a,b)]) (updT up r s):=by
 obtain⟨rk,f⟩:=u.fo
 have sub: ∀ {x y:Int},Conn es x y→Conn (es++[(a,b)]) x y:=fun h=>h.mono (fun e he=>List.mem_append_left _ he)
 have new:Conn (es++[(a,b)]) a b:=(Conn.refl a).fwd (by simp)
 have self: ∀ {x t:Int},Rt up x t→Conn es x t:=fun h=>(u.iff h h.self).1 rfl
 -- whatever gives the same number to what hangs together, and the same to a and b
 have ind: ∀(g:Int→Int),(∀x y,Conn es x y→g x=g y)→g a=g b→ ∀x y,Conn (es++[(a,b)]) x y→g x=g y:=fun g h1 h2 x y h=>by
  induction h with
  |refl=>rfl
  |fwd _ e ih=>
   rcases List.mem_append.1 e with e|e
   ·exact ih.trans (h1 _ _ ((Conn.refl _).fwd e))
   ·simp at e
    rw[ih,e.1,e.2];exact h2
  |bwd _ e ih=>
   rcases List.mem_append.1 e with e|e
   ·exact ih.trans (h1 _ _ ((Conn.refl _).bwd e))
   ·simp at e
    rw[ih,e.1,e.2];exact h2.symm
 by_cases hrs:r=s
 ·subst hrs
  obtain⟨f2,h⟩:=fo_self f ha.self
  refine⟨⟨rk,f2⟩,fun {x y t v} hx hy=> ?_⟩
  rw[←h x t] at hx
  rw[←h y v] at hy
  rw[u.iff hx hy]
  refine⟨sub,fun c=> ?_⟩
  have hab:Conn es a b:=(u.iff ha hb).1 rfl
  clear hx hy
  induction c with
  |refl=>exact Conn.refl _
  |fwd _ e ih=>
   rcases List.mem_append.1 e with e|e
   ·exact ih.fwd e
   ·simp at e
    rw[e.2];exact Conn.trans (by rw[e.1] at ih;exact ih) hab
  |bwd _ e ih=>
   rcases List.mem_append.1 e with e|e
   ·exact ih.bwd e
   ·simp at e
    rw[e.1];exact Conn.trans (by rw[e.2] at ih;exact ih) hab.symm
 ·obtain⟨f2,h⟩:=fo_join f ha.self hb.self hrs
  refine⟨f2,fun {x y t v} hx hy=> ?_⟩
  obtain⟨x0,hx0⟩:=rt_ex f x
  obtain⟨y0,hy0⟩:=rt_ex f y
  rw[hx.one (h x x0 hx0),hy.one (h y y0 hy0)]
  constructor
  ·intro e
   have cr:Conn (es++[(a,b)]) r s:=(sub (self ha)).symm.trans (new.trans (sub (self hb)))
   have c1:Conn (es++[(a,b)]) x (if x0=r then s else x0):=by
    split
    ·rename_i e;exact(sub (self hx0)).trans (by rw[e];exact cr)
    ·exact sub (self hx0)
   have c2:Conn (es++[(a,b)]) y (if y0=r then s else y0):=by
    split
    ·rename_i e;exact(sub (self hy0)).trans (by rw[e];exact cr)
    ·exact sub (self hy0)
   rw[e] at c1
   exact c1.trans c2.symm
  ·intro c
   have g:=ind (fun x=>open Classical in if Classical.choose (rt_ex f x)=r then s else Classical.choose (rt_ex f x)) (fun x y c=>by
    have:=(u.iff (Classical.choose_spec (rt_ex f x)) (Classical.choose_spec (rt_ex f y))).2 c
    simp only[this]) (by
    have e1:=(Classical.choose_spec (rt_ex f a)).one ha
    have e2:=(Classical.choose_spec (rt_ex f b)).one hb
    simp only[e1,e2]
    rw[if_pos trivial,if_neg (fun e=>hrs e.symm)]) x y c
   have e1:=(Classical.choose_spec (rt_ex f x)).one hx0
   have e2:=(Classical.choose_spec (rt_ex f y)).one hy0
   simp only[e1,e2] at g
   exact g
end Go.Proofs.Ythopjhifepijiaa
namespace Go.Proofs.Ythopjhifepijiaa
def touchB (l:List (Pt × Pt)) (q:Pt):Bool:=l.any fun x=>decide (q=x.1)||(decide (q=x.2)||onB q x.1 x.2)
def areaL (l:List (Pt × Pt)):Int:=l.foldl (fun s x=>s+(x.1.x*x.2.y - x.2.x*x.1.y)) 0
structure OU where
 lines:List (Pt × Pt)
 area:Int
 piece:Int
def arndB (o:OU) (q:Pt) (but:Int):Bool:= !(decide (o.piece=but)||touchB o.lines q|| !oddB o.lines q)
def bestS (l:List OU) (q:Pt) (but:Int) (best:Int) (i:Nat):Int:=match l[i]? with
 |some o=>if arndB o q but=true∧(best<0∨o.area<(((l[best.toNat]?).map (·.area)).getD 0)) then(i:Int) else best
 |none=>best
def aroundP (l:List OU) (q:Pt) (but:Int):Int:=(List.range l.length).foldl (bestS l q but) (-1)
end Go.Proofs.Ythopjhifepijiaa
namespace Go.Proofs.Ythopjhifepijiaa
def pairsE (es:List Ed):List (Int × Int):=es.map fun e=>(e.a,e.b)
def IsV (p:PL) (id:Int):Prop:= ∃v∈p.vs,v.id=id
def PieceFn (p:PL) (g:Int→Int):Prop:= ∀a b,IsV p a→IsV p b→(g a=g b↔Conn (pairsE p.es) a b)
theorem PieceFn.agree {p:PL} {g k:Int→Int} (h1:PieceFn p g) (h2:PieceFn p k) {a b:Int} (ha:IsV p a) (hb:IsV p b):decide (g a=g b)=decide (k a=k b):=decide_eq_decide.2 ((h1 a b ha hb).trans (h2 a b ha hb).symm)
def placeV (vs:List Vx) (id:Int):Nat:=vs.findIdx fun v=>v.id==id
def idAt (vs:List Vx) (i:Nat):Int:=((vs[i]?).map (·.id)).getD 0
theorem place_lt {p:PL} {id:Int} (h:IsV p id):placeV p.vs id<p.vs.length:=by
 obtain⟨v,hv,e⟩:=h
 exact List.findIdx_lt_length_of_exists ⟨v,hv,by simpa using e⟩
theorem id_place {p:PL} {id:Int} (h:IsV p id):idAt p.vs (placeV p.vs id)=id:=by
 have hl:=place_lt h
 have:=List.findIdx_getElem (p:=fun v:Vx=>v.id==id) (xs:=p.vs) (w:=hl)
 unfold idAt
 rw[List.getElem?_eq_getElem hl]
 exact beq_iff_eq.1 this
section
variable {p:PL}
theorem RightP.isV_a (r:RightP p) {e:Ed} (he:e∈p.es):IsV p e.a∧IsV p e.b:=by
 obtain⟨i,hi⟩:=List.mem_iff_getElem?.1 he
 obtain⟨A,B,hab⟩:=r.e i e hi
 obtain⟨u,hu,u1, -⟩:=ptOf_some hab.pa
 obtain⟨v,hv,v1, -⟩:=ptOf_some hab.pb
 exact⟨⟨u,hu,u1⟩,⟨v,hv,v1⟩⟩
def placesE (p:PL):List (Nat × Nat):=p.es.map fun e=>(placeV p.vs e.a,placeV p.vs e.b)
def pieceR (p:PL) (id:Int):Int:=(roundsL (placesE p) p.vs.length (placeV p.vs id):Nat)
theorem RightP.pieceR_fn (r:RightP p):PieceFn p (pieceR p):=fun a b ha hb=>by
 have hes: ∀e∈placesE p,e.1<p.vs.length∧e.2<p.vs.length:=fun e he=>by
  obtain⟨x,hx,rfl⟩:=List.mem_map.1 he
  exact⟨place_lt (r.isV_a hx).1,place_lt (r.isV_a hx).2⟩
 unfold pieceR
 rw[Int.ofNat_inj,rounds_iff hes (place_lt ha)]
 constructor
 ·intro h
  have:=h.map (idAt p.vs)
  rw[id_place ha,id_place hb] at this
  have e:(placesE p).map (fun e=>(idAt p.vs e.1,idAt p.vs e.2))=pairsE p.es:=by
   unfold placesE pairsE
   rw[List.map_map]
   refine List.map_congr_left (fun x hx=> ?_)
   show(idAt p.vs (placeV p.vs x.a),idAt p.vs (placeV p.vs x.b))=(x.a,x.b)
   rw[id_place (r.isV_a hx).1,id_place (r.isV_a hx).2]
  rw[e] at this
  exact this
 ·intro h
  have:=h.map (placeV p.vs)
  have e:(pairsE p.es).map (fun e=>(placeV p.vs e.1,placeV p.vs e.2))=placesE p:=by
   unfold placesE pairsE
   rw[List.map_map]
   rfl
  rw[e] at this
  exact this
theorem UF.piece_fn {up:Int→Option Int} (u:UF (pairsE p.es) up) {g:Int→Int} (hg: ∀a,Rt up a (g a)):PieceFn p g:=fun a b _ _=>u.iff (hg a) (hg b)
theorem Rt.mem {up:Int→Option Int} {a s:Int} (h:Rt up a s):s=a∨ ∃b,up b=some s:=by
 induction h with
 |top _=>exact .inl rfl
 | @go a b s e _ _ ih=>
  rcases ih with rfl|h
  ·exact .inr ⟨a,e⟩
  ·exact .inr h
structure OR where
 lines:List (Pt × Pt)
 area:Int
 from_:Int
def ouOf (g:Int→Int) (o:OR):OU:=⟨o.lines,o.area,g o.from_⟩
theorem around_agree {g k:Int→Int} (h1:PieceFn p g) (h2:PieceFn p k) {l:List OR} (hl: ∀o∈l,IsV p o.from_) (q:Pt) {b:Int} (hb:IsV p b):aroundP (l.map (ouOf g)) q (g b)=aroundP (l.map (ouOf k)) q (k b):=by
 unfold aroundP
 rw[List.length_map,List.length_map]
 generalize (-1:Int)=s
 generalize List.range l.length=L
 induction L generalizing s with
 |nil=>rfl
 |cons i L ih=>
  rw[List.foldl_cons,List.foldl_cons]
  have e:bestS (l.map (ouOf g)) q (g b) s i=bestS (l.map (ouOf k)) q (k b) s i:=by
   unfold bestS
   simp only[List.getElem?_map]
   cases ho:l[i]? with
   |none=>rfl
   |some o=>
    have e1:arndB (ouOf g o) q (g b)=arndB (ouOf k o) q (k b):=by
     unfold arndB
     show(!(decide (g o.from_=g b)||_||_))=(!(decide (k o.from_=k b)||_||_))
     rw[h1.agree h2 (hl o (List.mem_of_getElem? ho)) hb]
     rfl
    simp only[Option.map_some,e1]
    have e2: ∀j:Nat,(((l[j]?).map (ouOf g)).map (·.area))=(((l[j]?).map (ouOf k)).map (·.area)):=fun j=>by cases l[j]? <;>rfl
    rw[e2]
    rfl
  rw[e]
  exact ih _
theorem around_none {g k:Int→Int} {x y:Int} {l:List OR} (hx: ∀o∈l,g o.from_≠x) (hy: ∀o∈l,k o.from_≠y) (q:Pt):aroundP (l.map (ouOf g)) q x=aroundP (l.map (ouOf k)) q y:=by
 unfold aroundP
 rw[List.length_map,List.length_map]
 generalize (-1:Int)=s
 generalize List.range l.length=L
 induction L generalizing s with
 |nil=>rfl
 |cons i L ih=>
  rw[List.foldl_cons,List.foldl_cons]
  have e:bestS (l.map (ouOf g)) q x s i=bestS (l.map (ouOf k)) q y s i:=by
   unfold bestS
   simp only[List.getElem?_map]
   cases ho:l[i]? with
   |none=>rfl
   |some o=>
    have e1:arndB (ouOf g o) q x=arndB (ouOf k o) q y:=by
     unfold arndB
     show(!(decide (g o.from_=x)||_||_))=(!(decide (k o.from_=y)||_||_))
     rw[decide_eq_false (hx o (List.mem_of_getElem? ho)),decide_eq_false (hy o (List.mem_of_getElem? ho))]
     rfl
    simp only[Option.map_some,e1]
    have e2: ∀j:Nat,(((l[j]?).map (ouOf g)).map (·.area))=(((l[j]?).map (ouOf k)).map (·.area)):=fun j=>by cases l[j]? <;>rfl
    rw[e2]
    rfl
  rw[e]
  exact ih _
end
end Go.Proofs.Ythopjhifepijiaa
namespace Go.Proofs.Ythopjhifepijiaa
def rayPr (a b q:Pt):Bool:=if decide (q.y<a.y)=decide (q.y<b.y) then false else if b.y<a.y then decide (0<trn b a q) else decide (0<trn a b q)
theorem rayPr_eq (a b q:Pt):rayPr a b q=rayB a b q:=by
 unfold rayPr rayB upB
 have e1:decide (0<trn a b q)=decide (0<crs a b q):=decide_eq_decide.2 (by rcases trn_cs a b q with h|h|h<;>omega)
 have e2:decide (0<trn b a q)=decide (crs a b q<0):=decide_eq_decide.2 (by
  have h:=crs_swap a b q
  rcases trn_cs b a q with k|k|k<;>omega)
 rw[e1,e2]
 by_cases h1:q.y<a.y<;>by_cases h2:q.y<b.y
 ·rw[decide_eq_true h1,decide_eq_true h2,if_pos rfl];simp
 ·rw[decide_eq_true h1,decide_eq_false h2,if_neg (by decide),if_pos (by omega)];simp
 ·rw[decide_eq_false h1,decide_eq_true h2,if_neg (by decide),if_neg (by omega)];simp
 ·rw[decide_eq_false h1,decide_eq_false h2,if_pos rfl];simp
theorem odd_pr (l:List (Pt × Pt)) (q:Pt):l.foldl (fun o x=>if rayPr x.1 x.2 q=true then !o else o) false=oddB l q:=by
 unfold oddB
 congr 1
 funext o x
 rw[rayPr_eq]
 cases rayB x.1 x.2 q<;>cases o<;>rfl
end Go.Proofs.Ythopjhifepijiaa
namespace Go.Proofs.Ythopjhifepijiaa
structure RM where
 outer:List Hf
 inner:List (List Hf)
 alone:List Int
def areaH (p:PL) (L:List Hf):Int:=areaL (L.map (lineH p))
def outersP (p:PL):List (List Hf):=(ringsP p).filter fun L=>decide (0<areaH p L)
def innersP (p:PL):List (List Hf):=(ringsP p).filter fun L=> !decide (0<areaH p L)
def headH (L:List Hf):Hf:=L.head?.getD ⟨0,false⟩
def frA (p:PL) (L:List Hf):Int:=((edgeOf p.es (headH L).edge).map (·.a)).getD 0
def orOf (p:PL) (L:List Hf):OR:=⟨L.map (lineH p),areaH p L,frA p L⟩
def orsP (p:PL):List OR:=(outersP p).map (orOf p)
def leastPt (p:PL) (L:List Hf):Pt:=L.foldl (fun m h=>if lessB (ptH p h) m=true then ptH p h else m) (ptH p (headH L))
def degB (es:List Ed) (id:Int):Bool:= !es.any fun e=>decide (e.a=id)||decide (e.b=id)
def addI (l:List RM) (i:Nat) (L:List Hf):List RM:=l.modify i fun r=> { r with inner:=r.inner++[L] }
def addA (l:List RM) (i:Nat) (id:Int):List RM:=l.modify i fun r=> { r with alone:=r.alone++[id] }
def base17 (p:PL):List RM:=⟨[],[],[]⟩::(outersP p).map fun L=>⟨L,[],[]⟩
def realmsP (p:PL) (g:Int→Int) (no:Int):List RM:=
 (p.vs.filter fun v=>degB p.es v.id).foldl (fun l v=>addA l (1+aroundP ((orsP p).map (ouOf g)) v.at_ no).toNat v.id)
  ((innersP p).foldl (fun l L=>addI l (1+aroundP ((orsP p).map (ouOf g)) (leastPt p L) (g (frA p L))).toNat L) (base17 p))
theorem foldl_same {α β:Type} {f k:β→α→β}: ∀ {l:List α} {b:β},(∀b, ∀x∈l,f b x=k b x)→l.foldl f b=l.foldl k b
 | [],_,_=>rfl
 |x::l,b,h=>by
  rw[List.foldl_cons,List.foldl_cons,h b x (by simp)]
  exact foldl_same (fun b y hy=>h b y (by simp[hy]))
theorem around_bd (l:List OU) (q:Pt) (but:Int): -1≤aroundP l q but∧aroundP l q but<l.length:=by
 unfold aroundP
 have key: ∀(L:List Nat) (s:Int),(∀i∈L,i<l.length)→(-1≤s∧s<l.length)→(-1≤L.foldl (bestS l q but) s∧L.foldl (bestS l q but) s<l.length):=by
  intro L
  induction L with
  |nil=>intro s _ h;exact h
  |cons i L ih=>
   intro s hL h
   rw[List.foldl_cons]
   refine ih _ (fun j hj=>hL j (by simp[hj])) ?_
   have hi:=hL i (by simp)
   unfold bestS
   split
   ·split
    ·omega
    ·exact h
   ·exact h
 exact key _ _ (fun i hi=>List.mem_range.1 hi) (by omega)
section
variable {p:PL}
theorem RightP.ring_head (r:RightP p) {L:List Hf} (h:L∈ringsP p):headH L∈halvesE p.es:=by
 obtain⟨x,m,hr⟩:=r.rings.1 L h
 cases L with
 |nil=>exact absurd rfl hr.ne
 |cons y L=>exact(hr.mem y (by simp)).1
theorem RightP.frA_is (r:RightP p) {L:List Hf} (h:L∈ringsP p): ∃e∈p.es,e.id=(headH L).edge∧frA p L=e.a:=by
 obtain⟨e,he,hh⟩:=mem_halves.1 (r.ring_head h)
 have h1:=edge_mem r.es_apart he
 rw[hh] at h1
 refine⟨e,he,hh, ?_⟩
 unfold frA
 rw[h1]
 rfl
theorem RightP.frA_v (r:RightP p) {L:List Hf} (h:L∈ringsP p):IsV p (frA p L):=by
 obtain⟨e,he, -,e1⟩:=r.frA_is h
 rw[e1]
 exact(r.isV_a he).1
theorem RightP.ors_v (r:RightP p): ∀o∈orsP p,IsV p o.from_:=fun o ho=>by
 obtain⟨L,hL,rfl⟩:=List.mem_map.1 ho
 exact r.frA_v (List.mem_filter.1 hL).1
theorem RightP.realms_agree (r:RightP p) {g k:Int→Int} (h1:PieceFn p g) (h2:PieceFn p k) {x y:Int} (hx: ∀id,IsV p id→g id≠x) (hy: ∀id,IsV p id→k id≠y):realmsP p g x=realmsP p k y:=by
 unfold realmsP
 have e:(innersP p).foldl (fun l L=>addI l (1+aroundP ((orsP p).map (ouOf g)) (leastPt p L) (g (frA p L))).toNat L) (base17 p)=(innersP p).foldl (fun l L=>addI l (1+aroundP ((orsP p).map (ouOf k)) (leastPt p L) (k (frA p L))).toNat L) (base17 p):=
  foldl_same (fun b L hL=>by rw[around_agree h1 h2 r.ors_v _ (r.frA_v (List.mem_filter.1 hL).1)])
 rw[e]
 exact foldl_same (fun b v hv=>by rw[around_none (fun o ho=>hx _ (r.ors_v o ho)) (fun o ho=>hy _ (r.ors_v o ho)) v.at_])
theorem pieceR_no (id:Int):pieceR p id≠ -1:=by unfold pieceR;omega
end
end Go.Proofs.Ythopjhifepijiaa
namespace Go.Proofs.Ythopjhifepijiaa
def hOf (r:RM):List Hf:=r.outer++r.inner.flatten
def allH (l:List RM):List Hf:=l.flatMap hOf
theorem addI_perm: ∀ {l:List RM} {i:Nat} {L:List Hf},i<l.length→(allH (addI l i L)).Perm (allH l++L)
 | [],i,L,h=>by simp at h
 |r::l,0,L,_=>by
  show((r.outer++(r.inner++[L]).flatten)++allH l).Perm ((hOf r++allH l)++L)
  rw[List.flatten_append]
  show((r.outer++(r.inner.flatten++[L].flatten))++allH l).Perm (((r.outer++r.inner.flatten)++allH l)++L)
  rw[show [L].flatten=L by simp, ←List.append_assoc,List.append_assoc,List.append_assoc (r.outer++r.inner.flatten)]
  exact List.perm_append_comm.append_left _
 |r::l,i+1,L,h=>by
  show(hOf r++allH (addI l i L)).Perm ((hOf r++allH l)++L)
  rw[List.append_assoc]
  exact(addI_perm (by simpa using h)).append_left _
theorem addI_len (l:List RM) (i:Nat) (L:List Hf):(addI l i L).length=l.length:=by unfold addI;exact List.length_modify ..
theorem addA_len (l:List RM) (i:Nat) (v:Int):(addA l i v).length=l.length:=by unfold addA;exact List.length_modify ..
theorem addA_all: ∀(l:List RM) (i:Nat) (v:Int),allH (addA l i v)=allH l
 | [],i,v=>by unfold addA;rw[List.modify_nil]
 |r::l,0,v=>rfl
 |r::l,i+1,v=>by
  show hOf r++allH (addA l i v)=hOf r++allH l
  rw[addA_all]
theorem fold_inner {g:List Hf→Nat}: ∀ {R:List (List Hf)} {l:List RM},(∀L∈R,g L<l.length)→(allH (R.foldl (fun l L=>addI l (g L) L) l)).Perm (allH l++R.flatten)∧(R.foldl (fun l L=>addI l (g L) L) l).length=l.length
 | [],l,_=>by simp
 |L::R,l,h=>by
  rw[List.foldl_cons]
  obtain⟨a,b⟩:=fold_inner (g:=g) (R:=R) (l:=addI l (g L) L) (fun M hM=>by rw[addI_len];exact h M (by simp[hM]))
  refine⟨a.trans ?_,by rw[b,addI_len]⟩
  rw[List.flatten_cons, ←List.append_assoc]
  exact(addI_perm (h L (by simp))).append_right _
theorem fold_alone {g:Vx→Nat}: ∀ {R:List Vx} {l:List RM},allH (R.foldl (fun l v=>addA l (g v) v.id) l)=allH l∧(R.foldl (fun l v=>addA l (g v) v.id) l).length=l.length
 | [],l=>⟨rfl,rfl⟩
 |v::R,l=>by
  rw[List.foldl_cons]
  obtain⟨a,b⟩:=fold_alone (g:=g) (R:=R) (l:=addA l (g v) v.id)
  exact⟨by rw[a,addA_all],by rw[b,addA_len]⟩
section
variable {p:PL}
theorem base_all (p:PL):allH (base17 p)=(outersP p).flatten:=by
 unfold allH base17
 rw[List.flatMap_cons,List.flatMap_map]
 show([]++_:List Hf)=_
 rw[List.nil_append,List.flatMap_def]
 congr 1
 refine(List.map_congr_left (fun x _=> ?_)).trans (List.map_id _)
 show x++[]=x
 exact List.append_nil x
theorem base_len (p:PL):(base17 p).length=(outersP p).length+1:=by simp[base17]
theorem realms_halves (p:PL) (g:Int→Int) (no:Int):(allH (realmsP p g no)).Perm (ringsP p).flatten∧(realmsP p g no).length=(outersP p).length+1:=by
 unfold realmsP
 obtain⟨a1,a2⟩:=fold_alone (g:=fun v=>(1+aroundP ((orsP p).map (ouOf g)) v.at_ no).toNat) (R:=p.vs.filter fun v=>degB p.es v.id)
  (l:=(innersP p).foldl (fun l L=>addI l (1+aroundP ((orsP p).map (ouOf g)) (leastPt p L) (g (frA p L))).toNat L) (base17 p))
 obtain⟨b1,b2⟩:=fold_inner (g:=fun L=>(1+aroundP ((orsP p).map (ouOf g)) (leastPt p L) (g (frA p L))).toNat) (R:=innersP p) (l:=base17 p) (fun L _=>by
  have h:=around_bd ((orsP p).map (ouOf g)) (leastPt p L) (g (frA p L))
  rw[base_len]
  rw[List.length_map,show(orsP p).length=(outersP p).length by simp[orsP]] at h
  show(1+aroundP ((orsP p).map (ouOf g)) (leastPt p L) (g (frA p L))).toNat<_
  omega)
 refine⟨?_,by rw[a2,b2,base_len]⟩
 rw[a1]
 refine b1.trans ?_
 rw[base_all, ←List.flatten_append]
 exact(List.filter_append_perm (fun L=>decide (0<areaH p L)) (ringsP p)).flatten
theorem RightP.realms_all (r:RightP p) (g:Int→Int) (no:Int):(allH (realmsP p g no)).Nodup∧ ∀h,h∈allH (realmsP p g no)↔h∈halvesE p.es:=by
 have h:=(realms_halves p g no).1
 exact⟨h.nodup_iff.2 r.rings.2.1,fun x=>h.mem_iff.trans (r.rings.2.2 x)⟩
end
end Go.Proofs.Ythopjhifepijiaa
namespace Go.Proofs.Ythopjhifepijiaa
theorem addI_outer (l:List RM) (i:Nat) (L:List Hf):(addI l i L).map (·.outer)=l.map (·.outer):=by
 refine List.ext_getElem? (fun j=> ?_)
 rw[List.getElem?_map,List.getElem?_map]
 unfold addI
 rw[List.getElem?_modify]
 cases l[j]? with
 |none=>rfl
 |some r=>simp only[Option.map_some];split<;>rfl
theorem addA_outer (l:List RM) (i:Nat) (v:Int):(addA l i v).map (·.outer)=l.map (·.outer):=by
 refine List.ext_getElem? (fun j=> ?_)
 rw[List.getElem?_map,List.getElem?_map]
 unfold addA
 rw[List.getElem?_modify]
 cases l[j]? with
 |none=>rfl
 |some r=>simp only[Option.map_some];split<;>rfl
theorem foldI_outer {g:List Hf→Nat}: ∀ {R:List (List Hf)} {l:List RM},(R.foldl (fun l L=>addI l (g L) L) l).map (·.outer)=l.map (·.outer)
 | [],l=>rfl
 |L::R,l=>by rw[List.foldl_cons,foldI_outer,addI_outer]
theorem foldA_outer {g:Vx→Nat}: ∀ {R:List Vx} {l:List RM},(R.foldl (fun l v=>addA l (g v) v.id) l).map (·.outer)=l.map (·.outer)
 | [],l=>rfl
 |L::R,l=>by rw[List.foldl_cons,foldA_outer,addA_outer]
theorem realms_outer (p:PL) (g:Int→Int) (no:Int):(realmsP p g no).map (·.outer)=[]::outersP p:=by
 unfold realmsP
 rw[foldA_outer (g:=fun v=>(1+aroundP ((orsP p).map (ouOf g)) v.at_ no).toNat),foldI_outer (g:=fun L=>(1+aroundP ((orsP p).map (ouOf g)) (leastPt p L) (g (frA p L))).toNat)]
 unfold base17
 rw[List.map_cons,List.map_map]
 congr 1
 exact(List.map_congr_left (fun x _=>rfl)).trans (List.map_id _)
def InIn (R:List (List Hf)) (l:List RM):Prop:= ∀r∈l, ∀L∈r.inner,L∈R
theorem addI_in {R:List (List Hf)}: ∀ {l:List RM} {i:Nat} {L:List Hf},InIn R l→L∈R→InIn R (addI l i L)
 | [],i,L,h,_=>by unfold addI;rw[List.modify_nil];exact h
 |r::l,0,L,h,hL=>fun x hx M hM=>by
  rcases List.mem_cons.1 hx with rfl|hx
  ·rcases List.mem_append.1 hM with hM|hM
   ·exact h r (by simp) M hM
   ·simp at hM;subst hM;exact hL
  ·exact h x (by simp[hx]) M hM
 |r::l,i+1,L,h,hL=>fun x hx M hM=>by
  rcases List.mem_cons.1 hx with rfl|hx
  ·exact h x (by simp) M hM
  ·exact addI_in (l:=l) (i:=i) (fun x hx=>h x (by simp[hx])) hL x hx M hM
theorem addA_in {R:List (List Hf)}: ∀ {l:List RM} {i:Nat} {v:Int},InIn R l→InIn R (addA l i v)
 | [],i,L,h=>by unfold addA;rw[List.modify_nil];exact h
 |r::l,0,L,h=>fun x hx M hM=>by
  rcases List.mem_cons.1 hx with rfl|hx
  ·exact h r (by simp) M hM
  ·exact h x (by simp[hx]) M hM
 |r::l,i+1,L,h=>fun x hx M hM=>by
  rcases List.mem_cons.1 hx with rfl|hx
  ·exact h x (by simp) M hM
  ·exact addA_in (l:=l) (i:=i) (fun x hx=>h x (by simp[hx])) x hx M hM
theorem foldI_in {R:List (List Hf)} {g:List Hf→Nat}: ∀ {S:List (List Hf)} {l:List RM},(∀L∈S,L∈R)→InIn R l→InIn R (S.foldl (fun l L=>addI l (g L) L) l)
 | [],l,_,h=>h
 |L::S,l,hS,h=>foldI_in (S:=S) (fun M hM=>hS M (by simp[hM])) (addI_in h (hS L (by simp)))
theorem foldA_in {R:List (List Hf)} {g:Vx→Nat}: ∀ {S:List Vx} {l:List RM},InIn R l→InIn R (S.foldl (fun l v=>addA l (g v) v.id) l)
 | [],l,h=>h
 |v::S,l,h=>foldA_in (S:=S) (addA_in h)
theorem realms_inner (p:PL) (g:Int→Int) (no:Int):InIn (innersP p) (realmsP p g no):=by
 unfold realmsP
 refine foldA_in (g:=fun v=>(1+aroundP ((orsP p).map (ouOf g)) v.at_ no).toNat) (foldI_in (g:=fun L=>(1+aroundP ((orsP p).map (ouOf g)) (leastPt p L) (g (frA p L))).toNat) (fun L h=>h) ?_)
 intro r hr L hL
 unfold base17 at hr
 rcases List.mem_cons.1 hr with rfl|hr
 ·cases hL
 ·obtain⟨M,hM,rfl⟩:=List.mem_map.1 hr
  cases hL
section
variable {p:PL}
theorem RightP.realm_two (r:RightP p) (g:Int→Int) (no:Int) {x:RM} (hx:x∈realmsP p g no) {h:Hf} (hh:h∈hOf x): ∃L∈ringsP p,h∈L∧(∀y∈L,y∈hOf x)∧ ∃z∈L,z≠h:=by
 have key: ∀ {L:List Hf},L∈ringsP p→h∈L→(∀y∈L,y∈hOf x)→ ∃L∈ringsP p,h∈L∧(∀y∈L,y∈hOf x)∧ ∃z∈L,z≠h:=fun {L} hL hm hs=>by
  obtain⟨s,m,hr⟩:=r.rings.1 L hL
  exact⟨L,hL,hm,hs,r.ring_two hr h hm⟩
 rcases List.mem_append.1 hh with h1|h1
 ·have hm:x.outer∈(realmsP p g no).map (·.outer):=List.mem_map.2 ⟨x,hx,rfl⟩
  rw[realms_outer] at hm
  rcases List.mem_cons.1 hm with hm|hm
  ·rw[hm] at h1;cases h1
  ·exact key (List.mem_filter.1 hm).1 h1 (fun y hy=>List.mem_append_left _ hy)
 ·obtain⟨L,hL,hm⟩:=List.mem_flatten.1 h1
  exact key (List.mem_filter.1 (realms_inner p g no x hx L hL)).1 hm (fun y hy=>List.mem_append_right _ (List.mem_flatten.2 ⟨L,hL,hy⟩))
end
end Go.Proofs.Ythopjhifepijiaa
namespace Go.Proofs.Ythopjhifepijiaa
section
variable {α:Type} {f:α→α}
theorem link_at: ∀ {L:List α} {h x:α} {i:Nat} (hi:i<L.length),Link f h L x→(i+1<L.length→L[i+1]? =some (f L[i]))∧(i+1=L.length→x=f L[i])
 |y::L,h,x,0,hi,⟨h1,h2⟩=>by
  subst h1
  cases L with
  |nil=>exact⟨fun h=>by simp at h,fun _=>h2⟩
  |cons z L=>
   obtain⟨z1, -⟩:=h2
   exact⟨fun _=>by rw[z1];rfl,fun h=>by simp at h⟩
 |y::L,h,x,i+1,hi,⟨h1,h2⟩=>by
  obtain⟨a,b⟩:=link_at (L:=L) (i:=i) (by simpa using hi) h2
  exact⟨fun h=>a (by simpa using h),fun h=>b (by simpa using h)⟩
theorem Ring.at_next {all m L:List α} {h:α} (r:Ring f all m h L) {i:Nat} (hi:i<L.length):L[(i+1) % L.length]? =some (f L[i]):=by
 obtain⟨a,b⟩:=link_at hi r.link
 by_cases e:i+1<L.length
 ·rw[Nat.mod_eq_of_lt e]
  exact a e
 ·have e2:i+1=L.length:=by omega
  rw[e2,Nat.mod_self, ←b e2]
  have hl:=r.link
  cases L with
  |nil=>exact absurd rfl r.ne
  |cons y L=>rw[←hl.1];rfl
theorem Ring.has_prev {all m L:List α} {h:α} (r:Ring f all m h L) {x:α} (hx:x∈L): ∃y∈L,f y=x:=by
 obtain⟨i,hi,rfl⟩:=List.mem_iff_getElem.1 hx
 have hn:0<L.length:=by omega
 have key: ∀j,j<L.length→(j+1) % L.length=i→ ∃y∈L,f y=L[i]:=fun j hj e=>by
  have h1:=r.at_next hj
  rw[e,List.getElem?_eq_getElem hi] at h1
  injection h1 with h1
  exact⟨L[j],List.getElem_mem _,h1.symm⟩
 cases i with
 |zero=>exact key (L.length - 1) (by omega) (by rw[Nat.sub_add_cancel hn,Nat.mod_self])
 |succ i=>exact key i (by omega) (Nat.mod_eq_of_lt hi)
end
section
variable {p:PL}
def prevP (p:PL) (h:Hf):Hf:=((halvesE p.es).find? fun y=>decide (nextP p y=h)).getD ⟨0,false⟩
theorem RightP.prev_of_next (r:RightP p) {y:Hf} (hy:y∈halvesE p.es):prevP p (nextP p y)=y:=by
 unfold prevP
 cases e:(halvesE p.es).find? fun z=>decide (nextP p z=nextP p y) with
 |none=>
  have:=List.find?_eq_none.1 e y hy
  simp at this
 |some z=>
  have h1:=List.find?_some e
  rw[decide_eq_true_eq] at h1
  exact r.next_inj (List.mem_of_find?_eq_some e) hy h1
theorem RightP.has_prev (r:RightP p) {h:Hf} (hh:h∈halvesE p.es): ∃y∈halvesE p.es,nextP p y=h:=by
 obtain⟨L,hL,hm⟩:=List.mem_flatten.1 ((r.rings.2.2 h).2 hh)
 obtain⟨s,m,hr⟩:=r.rings.1 L hL
 obtain⟨y,hy,e⟩:=hr.has_prev hm
 exact⟨y,(hr.mem y hy).1,e⟩
theorem RightP.next_of_prev (r:RightP p) {h:Hf} (hh:h∈halvesE p.es):nextP p (prevP p h)=h∧prevP p h∈halvesE p.es:=by
 obtain⟨y,hy,e⟩:=r.has_prev hh
 rw[←e,r.prev_of_next hy]
 exact⟨rfl,hy⟩
theorem RightP.ring_at (r:RightP p) {L:List Hf} (hL:L∈ringsP p) {i:Nat} (hi:i<L.length):L[(i+1) % L.length]? =some (nextP p L[i]):=by
 obtain⟨s,m,hr⟩:=r.rings.1 L hL
 exact hr.at_next hi
end
end Go.Proofs.Ythopjhifepijiaa
namespace Go.Proofs.Ythopjhifepijiaa
section
variable {p:PL}
def OneFace (l:List RM) (face:Hf→Int):Prop:= ∀x∈l, ∃id, ∀h∈hOf x,face h=id
theorem RightP.in_part (r:RightP p) (g:Int→Int) (no:Int) {h:Hf} (hh:h∈halvesE p.es): ∃x∈realmsP p g no,h∈hOf x:=List.mem_flatMap.1 (((r.realms_all g no).2 h).2 hh)
theorem RightP.turned_face (r:RightP p) (g:Int→Int) (no:Int) {face face':Hf→Int} {h0:Hf} (hh:h0∈halvesE p.es) (hs: ∀h,h≠h0→face' h=face h) (hn:face' h0≠face h0) (ok:OneFace (realmsP p g no) face): ¬OneFace (realmsP p g no) face':=fun k=>by
 obtain⟨x,hx,hm⟩:=r.in_part g no hh
 obtain⟨L, -, -,hL,z,hz,hzn⟩:=r.realm_two g no hx hm
 obtain⟨c,hc⟩:=ok x hx
 obtain⟨d,hd⟩:=k x hx
 have h1:=hd z (hL z hz)
 rw[hs z hzn,hc z (hL z hz)] at h1
 exact hn ((hd h0 hm).trans (h1.symm.trans (hc h0 hm).symm))
theorem flat_apart {l:List RM} (hn:(allH l).Nodup): ∀ {i j:Nat} {x y:RM} {h:Hf},l[i]? =some x→l[j]? =some y→h∈hOf x→h∈hOf y→i=j:=by
 unfold allH at hn
 rw[List.flatMap_def] at hn
 unfold List.Nodup at hn
 obtain⟨-,hp⟩:=List.pairwise_flatten.1 hn
 rw[List.pairwise_map,List.pairwise_iff_getElem] at hp
 intro i j x y h hi hj h1 h2
 obtain⟨li,rfl⟩:=List.getElem?_eq_some_iff.1 hi
 obtain⟨lj,rfl⟩:=List.getElem?_eq_some_iff.1 hj
 rcases Nat.lt_trichotomy i j with k|k|k
 ·exact absurd rfl (hp i j li lj k h h1 h h2)
 ·exact k
 ·exact absurd rfl (hp j i lj li k h h2 h h1)
theorem RightP.part_one (r:RightP p) (g:Int→Int) (no:Int) {i j:Nat} {x y:RM} {h:Hf} (hi:(realmsP p g no)[i]? =some x) (hj:(realmsP p g no)[j]? =some y) (h1:h∈hOf x) (h2:h∈hOf y):i=j:=flat_apart (r.realms_all g no).1 hi hj h1 h2
end
end Go.Proofs.Ythopjhifepijiaa
namespace Go.Proofs.Ythopjhifepijiaa
theorem edge_snoc {es:List Ed} {e:Ed} {id:Int} (h:edgeOf es id≠none):edgeOf (es++[e]) id=edgeOf es id:=by
 unfold edgeOf at*
 rw[List.find?_append]
 cases k:es.find? fun e=>e.id==id with
 |none=>exact absurd k h
 |some x=>rfl
theorem edge_ne {es:List Ed} {h:Hf} (hm:h∈halvesE es):edgeOf es h.edge≠none:=fun k=>by
 obtain⟨e,he,hh⟩:=mem_halves.1 hm
 have:=List.find?_eq_none.1 k e he
 simp[hh] at this
theorem from_snoc {es:List Ed} {e:Ed} {h:Hf} (hm:h∈halvesE es):fromH (es++[e]) h=fromH es h:=by
 unfold fromH
 rw[edge_snoc (edge_ne hm)]
theorem from_new {es:List Ed} {e:Ed} (hn: ∀u∈es,u.id≠e.id) (b:Bool):fromH (es++[e]) ⟨e.id,b⟩=if b=true then e.b else e.a:=by
 unfold fromH edgeOf
 rw[List.find?_append,List.find?_eq_none.2 (fun u hu=>by simpa using hn u hu)]
 simp
theorem halves_snoc (es:List Ed) (e:Ed):halvesE (es++[e])=halvesE es++[⟨e.id,false⟩,⟨e.id,true⟩]:=by
 unfold halvesE
 rw[List.flatMap_append]
 simp
theorem leav_snoc {es:List Ed} {e:Ed} (hn: ∀u∈es,u.id≠e.id) (id:Int):leavP (es++[e]) id=(leavP es id++(if e.a=id then [⟨e.id,false⟩] else []))++(if e.b=id then [⟨e.id,true⟩] else []):=by
 unfold leavP
 rw[halves_snoc,List.filter_append,List.append_assoc]
 congr 1
 ·exact List.filter_congr (fun h hm=>by rw[from_snoc hm])
 ·rw[List.filter_cons,List.filter_cons,List.filter_nil]
  rw[from_new hn false,from_new hn true]
  by_cases h1:e.a=id<;>by_cases h2:e.b=id<;>simp[h1,h2]
end Go.Proofs.Ythopjhifepijiaa
namespace Go.Proofs.Ythopjhifepijiaa
open Go.RowKit Go.Joins
theorem flatMap_get {α β:Type} {f:α→List β} {n:Nat} (hf: ∀x,(f x).length=n): ∀(l:List α) (i j:Nat) (x:α) (u:β),l[i]? =some x→(f x)[j]? =some u→(l.flatMap f)[i*n+j]? =some u
 | [],i,j,x,u,h,_=>by simp at h
 |y::l,0,j,x,u,h,hu=>by
  simp at h
  subst h
  have hj:j<n:=by rw[←hf y];exact(List.getElem?_eq_some_iff.1 hu).1
  rw[List.flatMap_cons,List.getElem?_append_left (by rw[hf];omega)]
  simpa using hu
 |y::l,i+1,j,x,u,h,hu=>by
  have hj:j<n:=by rw[←hf x];exact(List.getElem?_eq_some_iff.1 hu).1
  rw[List.flatMap_cons,List.getElem?_append_right (by rw[hf,Nat.succ_mul];omega),hf]
  have:=flatMap_get hf l i j x u (by simpa using h) hu
  rw[show(i+1)*n+j - n=i*n+j by rw[Nat.succ_mul];omega]
  exact this
theorem addr_add0 (g j:Nat):(⟨g,0,none⟩:Addr).add j=⟨g,j,none⟩:=by unfold Addr.add;split<;>simp_all
theorem own_form {w:World} {base n size:Nat} {e:TypeId} {v:Value} {xs:List Value} (h:w.ownsRow base e size v n xs): ∃a c,v= .slice a n c:=by
 rcases ownsRow_forms h with ⟨h1,h0⟩|⟨g,cap,h1⟩
 ·exact⟨none,0,by rw[h1,h0]⟩
 ·exact⟨_,_,h1⟩
theorem cell_list_at (w:World) (l:List Value) (t:TypeId) {n:Nat} (hn:w.heap.size=n): ∀(j:Nat) (u:Value),l[j]? =some u→(w.alloc (.cells l.toArray t)).cell? ((⟨n,0,none⟩:Addr).add j)=some u:=by
 intro j u hj
 rw[addr_add0]
 subst hn
 have hb:(w.alloc (.cells l.toArray t)).heap[w.heap.size]? =some (.cells l.toArray t (0,0)):=by
  show(w.heap.push _)[w.heap.size]? =_
  rw[Array.getElem?_push_size]
 unfold World.cell?
 rw[hb]
 simpa using hj
theorem own_apart {w:World} {b1 b2 n1 n2 s1 s2:Nat} {e1 e2:TypeId} {v1 v2:Value} {x1 x2:List Value} (h1:w.ownsRow b1 e1 s1 v1 n1 x1) (h2:w.ownsRow b2 e2 s2 v2 n2 x2) (hne:e1≠e2) {g:Nat} (h:v1.ownBlock=some g):v2.ownBlock≠some g:=by
 intro h'
 rcases h1.2 with ⟨rfl,_⟩|⟨g1,c1,cur1,rfl,_,hg1,_⟩
 ·cases h
 ·rcases h2.2 with ⟨rfl,_⟩|⟨g2,c2,cur2,rfl,_,hg2,_⟩
  ·cases h'
  ·have a1:g1=g:=by simpa[Value.ownBlock] using h
   have a2:g2=g:=by simpa[Value.ownBlock] using h'
   rw[a1] at hg1
   rw[a2,hg1] at hg2
   injection hg2 with hg2
   injection hg2 with _ ht _
   exact hne ht
end Go.Proofs.Ythopjhifepijiaa
namespace Go.Proofs.Ythopjhifepijiaa
open Go.RowKit Go.Joins
open Go.Maps (Keyed)
structure Hd where
 b:Nat
 n:Nat
 c:Nat
def hdV (h:Hd):Value:= .slice (some ⟨h.b,0,none⟩) h.n h.c
def hfC (L:List Hf):List Value:=L.flatMap fun h=>[.int .i64 h.edge, .bool h.back]
theorem hfC_app (A B:List Hf):hfC (A++B)=hfC A++hfC B:=List.flatMap_append
theorem own_hs {w:World} {base n cap g:Nat} {t:TypeId} {L:List Hf} (h:w.ownsRow base t 2 (.slice (some ⟨g,0,none⟩) n cap) n (hfC L)):HsAt w g 0 L:=fun i x hx=>by
 have hc:=fun j u (hu:([Value.int .i64 x.edge, .bool x.back])[j]? =some u)=>(addr_add0 g (i*2+j))▸h.cells (g:=g) rfl (j:=i*2+j) (u:=u) (flatMap_get (n:=2) (f:=fun h:Hf=>[Value.int .i64 h.edge, .bool h.back]) (fun _=>rfl) L i j x u hx hu)
 simp only[Nat.zero_add]
 exact⟨hc 0 _ rfl,hc 1 _ rfl⟩
theorem own_fz {w:World} {base n cap g size:Nat} {t:TypeId} {xs:List Value} (h:w.ownsRow base t size (.slice (some ⟨g,0,none⟩) n cap) n xs) (j:Nat):w.frozen? ⟨g,j,none⟩=false:=by
 obtain⟨-,h0|⟨g',cap',cur,hv,hb,hg, -⟩⟩:=h
 ·cases h0.1
 ·cases hv
  simp[World.frozen?,hg]
structure RowsIn (w:World) (t:TypeId) (lo:Nat) (G:Int→Option Hd) (L:Int→List Hf):Prop where
 own: ∀id h,G id=some h→h.n=(L id).length∧0<h.n∧w.ownsRow lo t 2 (hdV h) h.n (hfC (L id))
 apart: ∀i j x y,G i=some x→G j=some y→i≠j→x.b≠y.b
def NoG (G:Int→Option Hd) (L:Int→List Hf):Prop:= ∀id,G id=none→L id=[]
section
variable {w w':World} {t:TypeId} {lo:Nat} {G:Int→Option Hd} {L:Int→List Hf}
theorem RowsIn.lt (h:RowsIn w t lo G L) {id:Int} {x:Hd} (hx:G id=some x):lo≤x.b∧x.b<w.heap.size:=(h.own id x hx).2.2.lt x.b rfl
theorem RowsIn.touch {F:List Nat} (h:RowsIn w t lo G L) (k:Touch F w w') (hF: ∀id x,G id=some x→x.b∉F):RowsIn w' t lo G L:=
 ⟨fun id x hx=>⟨(h.own id x hx).1,(h.own id x hx).2.1,ownsRow_touch (h.own id x hx).2.2 k (fun g hg=>by cases hg;exact hF id x hx)⟩,h.apart⟩
theorem RowsIn.low {F:List Nat} (h:RowsIn w t lo G L) (k:Touch F w w') (hF: ∀b∈F,b<lo):RowsIn w' t lo G L:=h.touch k (fun id x hx hm=>by have:=hF _ hm;have:=(h.lt hx).1;omega)
theorem RowsIn.row (h:RowsIn w t lo G L) (n:NoG G L) (id:Int):w.ownsRow lo t 2 (((G id).map hdV).getD (.slice none 0 0)) (L id).length (hfC (L id)):=by
 cases e:G id with
 |none=>rw[n id e];exact World.ownsRow_nil _ _ _ _
 |some x=>have:=(h.own id x e);rw[this.1] at this;exact this.2.2
def updL (L:Int→List Hf) (id:Int) (h:Hf):Int→List Hf:=fun j=>if j=id then L j++[h] else L j
theorem RowsIn.add (h:RowsIn w t lo G L) (n:NoG G L) (id:Int) (x:Hf) {g cap:Nat} (ho:w'.ownsRow lo t 2 (.slice (some ⟨g,0,none⟩) ((L id).length+1) cap) ((L id).length+1) (hfC (L id)++[.int .i64 x.edge, .bool x.back]))
  (k:w.grownBy w' (((G id).map hdV).getD (.slice none 0 0)).ownBlock) (hat:(((G id).map hdV).getD (.slice none 0 0)).ownBlock=some g∨w.heap.size≤g):RowsIn w' t lo (updT G id ⟨g,(L id).length+1,cap⟩) (updL L id x)∧NoG (updT G id ⟨g,(L id).length+1,cap⟩) (updL L id x):=by
 have k:=Touch.of_grown k
 have key: ∀j y,j≠id→G j=some y→y.b∉(((G id).map hdV).getD (.slice none 0 0)).ownBlock.toList∧y.b≠g:=by
  intro j y hj hy
  have h1:y.b∉(((G id).map hdV).getD (.slice none 0 0)).ownBlock.toList:=fun hm=>by
   cases e:G id with
   |none=>rw[e] at hm;simp[Value.ownBlock] at hm
   |some z=>
    rw[e] at hm
    simp[hdV,Value.ownBlock] at hm
    exact h.apart j id y z hy e hj hm
  refine⟨h1,fun e=> ?_⟩
  rcases hat with hg|hg
  ·rw[hg] at h1;simp[e] at h1
  ·have:=(h.lt hy).2;omega
 refine⟨⟨fun j y hy=> ?_,fun i j y z hy hz hij=> ?_⟩,fun j hj=> ?_⟩
 ·unfold updT at hy
  unfold updL
  by_cases e:j=id
  ·subst e
   rw[if_pos rfl] at hy
   cases hy
   rw[if_pos rfl,hfC_app]
   exact⟨by simp,by simp,ho⟩
  ·rw[if_neg e] at hy
   rw[if_neg e]
   have:=h.own j y hy
   exact⟨this.1,this.2.1,ownsRow_touch this.2.2 k (fun b hb=>by cases hb;exact(key j y e hy).1)⟩
 ·unfold updT at hy hz
  by_cases e:i=id
  ·rw[if_pos e] at hy
   cases hy
   rw[if_neg (fun e2=>hij (e.trans e2.symm))] at hz
   exact fun e3=>(key j z (fun e2=>hij (e.trans e2.symm)) hz).2 e3.symm
  ·rw[if_neg e] at hy
   by_cases e2:j=id
   ·rw[if_pos e2] at hz
    cases hz
    exact(key i y e hy).2
   ·rw[if_neg e2] at hz
    exact h.apart i j y z hy hz hij
 ·unfold updT at hj
  unfold updL
  by_cases e:j=id
  ·rw[if_pos e] at hj;cases hj
  ·rw[if_neg e] at hj ⊢
   exact n j hj
end
theorem ne_toL {a b:Nat} (h:a≠b):a∉(some b).toList:=by simpa using h
theorem toL_lt {b n:Nat} (h:b<n): ∀x∈(some b).toList,x<n:=by simpa using h
abbrev tuF (h:Nat):List Nat:=[h+1+1,h+1+1+1,h+1+1+1+1,h+1+1+1+1+1]
structure TuI (P:Program) (tI tH:TypeId) (h:Nat) (W wr:World) (na nf no nn:Nat) (ga:Int→Option Vx) (gf:Hf→Option Int) (G:Int→Option Hd) (L:Int→List Hf):Prop where
 at_:MapT wr P tI (h+1+1) na ekI vxV ga
 fr:MapT wr P tH (h+1+1+1) nf ekH ekI gf
 ou:MapT wr P tI (h+1+1+1+1) no ekI hdV G
 nx:MapT wr P tH (h+1+1+1+1+1) nn ekH ekH (fun _=>none)
 rows:RowsIn wr tH W.heap.size G L
 nog:NoG G L
 tch:Touch (tuF h) W wr
 low:h+1+1+1+1+1<W.heap.size
section
variable {P:Program} {tI tH:TypeId} {h na nf no nn:Nat} {W wr w2 w3 w4:World} {ga:Int→Option Vx} {gf:Hf→Option Int} {G:Int→Option Hd} {L:Int→List Hf}
theorem TuI.start (w:World) (A B C:Obj) {W:World} (hW:((((((w.alloc A).alloc B).alloc (.map #[] 0)).alloc (.map #[] 0)).alloc (.map #[] 0)).alloc (.map #[] 0)).alloc C=W):TuI P tI tH w.heap.size W W 0 0 0 0 (fun _=>none) (fun _=>none) (fun _=>none) (fun _=>[]):=by
 have e1:((w.alloc A).alloc B).heap.size=w.heap.size+1+1:=by simp
 have e2:(((w.alloc A).alloc B).alloc (.map #[] 0)).heap.size=w.heap.size+1+1+1:=by simp
 have e3:((((w.alloc A).alloc B).alloc (.map #[] 0)).alloc (.map #[] 0)).heap.size=w.heap.size+1+1+1+1:=by simp
 have e4:(((((w.alloc A).alloc B).alloc (.map #[] 0)).alloc (.map #[] 0)).alloc (.map #[] 0)).heap.size=w.heap.size+1+1+1+1+1:=by simp
 have h1:=MapT.made ((w.alloc A).alloc B) P tI ekI vxV
 have h2:=MapT.made (((w.alloc A).alloc B).alloc (.map #[] 0)) P tH ekH ekI
 have h3:=MapT.made ((((w.alloc A).alloc B).alloc (.map #[] 0)).alloc (.map #[] 0)) P tI ekI hdV
 have h4:=MapT.made (((((w.alloc A).alloc B).alloc (.map #[] 0)).alloc (.map #[] 0)).alloc (.map #[] 0)) P tH ekH ekH
 rw[e1] at h1
 rw[e2] at h2
 rw[e3] at h3
 rw[e4] at h4
 subst hW
 exact⟨(((h1.alloc _).alloc _).alloc _).alloc _,((h2.alloc _).alloc _).alloc _,(h3.alloc _).alloc _,h4.alloc _,⟨fun _ _ hx=>(by cases hx),fun _ _ _ _ hx=>(by cases hx)⟩,fun _ _=>rfl,Touch.refl _ _,by simp⟩
theorem TuI.later (I:TuI P tI tH h W wr na nf no nn ga gf G L) (b:Below wr.heap.size wr w2):TuI P tI tH h W w2 na nf no nn ga gf G L:=
 ⟨I.at_.below b,I.fr.below b,I.ou.below b,I.nx.below b,I.rows.touch (Touch.of_below (F:=[]) b) (by simp),I.nog,touch_later I.tch b,I.low⟩
theorem TuI.putAt (I:TuI P tI tH h W wr na nf no nn ga gf G L) {x:Int} {v:Vx} (m:MapT w2 P tI (h+1+1) (na+1) ekI vxV (updT ga x v)) (g:wr.grownBy w2 (some (h+1+1))):TuI P tI tH h W w2 (na+1) nf no nn (updT ga x v) gf G L:=
 have k:=Touch.of_grown g
 have lw:=I.low
 ⟨m,I.fr.touch k (ne_toL (by omega)),I.ou.touch k (ne_toL (by omega)),I.nx.touch k (ne_toL (by omega)),I.rows.low k (toL_lt (by omega)),I.nog,I.tch.trans k (by simp),I.low⟩
theorem TuI.putFr (I:TuI P tI tH h W wr na nf no nn ga gf G L) {x:Hf} {v:Int} (m:MapT w2 P tH (h+1+1+1) (nf+1) ekH ekI (updT gf x v)) (g:wr.grownBy w2 (some (h+1+1+1))):TuI P tI tH h W w2 na (nf+1) no nn ga (updT gf x v) G L:=
 have k:=Touch.of_grown g
 have lw:=I.low
 ⟨I.at_.touch k (ne_toL (by omega)),m,I.ou.touch k (ne_toL (by omega)),I.nx.touch k (ne_toL (by omega)),I.rows.low k (toL_lt (by omega)),I.nog,I.tch.trans k (by simp),I.low⟩
theorem TuI.grow (I:TuI P tI tH h W wr na nf no nn ga gf G L) {id:Int} {x:Hf} {g cap:Nat} (ho:w2.ownsRow W.heap.size tH 2 (.slice (some ⟨g,0,none⟩) ((L id).length+1) cap) ((L id).length+1) (hfC (L id)++[.int .i64 x.edge, .bool x.back]))
  (k:wr.grownBy w2 (((G id).map hdV).getD (.slice none 0 0)).ownBlock) (hat:(((G id).map hdV).getD (.slice none 0 0)).ownBlock=some g∨wr.heap.size≤g):
  MapT w2 P tI (h+1+1+1+1) no ekI hdV G∧ ∀w3,MapT w3 P tI (h+1+1+1+1) (no+1) ekI hdV (updT G id ⟨g,(L id).length+1,cap⟩)→w2.grownBy w3 (some (h+1+1+1+1))→
   TuI P tI tH h W w3 na nf (no+1) nn ga gf (updT G id ⟨g,(L id).length+1,cap⟩) (updL L id x):=by
 obtain⟨h1,h2⟩:=I.rows.add I.nog id x ho k hat
 have kk:=Touch.of_grown k
 have lw:=I.low
 have hlo: ∀b∈(((G id).map hdV).getD (.slice none 0 0)).ownBlock.toList,W.heap.size≤b:=fun b hb=>((I.rows.row I.nog id).lt b (Option.mem_toList.1 hb)).1
 have no_: ∀q,q<W.heap.size→q∉(((G id).map hdV).getD (.slice none 0 0)).ownBlock.toList:=fun q hq hm=>by have:=hlo q hm;omega
 refine⟨I.ou.touch kk (no_ _ (by omega)),fun w3 m g3=> ?_⟩
 have k3:=Touch.of_grown g3
 refine⟨(I.at_.touch kk (no_ _ (by omega))).touch k3 (ne_toL (by omega)),(I.fr.touch kk (no_ _ (by omega))).touch k3 (ne_toL (by omega)),m,(I.nx.touch kk (no_ _ (by omega))).touch k3 (ne_toL (by omega)),h1.low k3 (toL_lt (by omega)),h2, ?_,I.low⟩
 exact(I.tch.trans kk (fun b hb=> .inr (hlo b hb))).trans k3 (by simp)
theorem own_not {w:World} {B n size b m:Nat} {e t:TypeId} {v:Value} {xs:List Value} {f:Nat→Value} (h:w.ownsRow B e size v n xs) (r:w.rowIs b t m f) (hne:e≠t):b∉v.ownBlock.toList:=fun hm=>by
 obtain⟨-,h0|⟨g,cap,cur,rfl,hb,hg, -⟩⟩:=h
 ·rw[h0.1] at hm;simp[Value.ownBlock] at hm
 ·obtain⟨c2,hg2, -⟩:=r
  simp[Value.ownBlock] at hm
  subst hm
  rw[hg] at hg2
  injection hg2 with hg2
  injection hg2 with _ ht _
  exact hne ht
end
section
variable {p:PL}
def nxD (p:PL) (ds:List Int) (h:Hf):Option Hf:=if h∈halvesE p.es∧toH p.es h∈ds then some (nextP p h) else none
def nxI (p:PL) (ds:List Int) (id:Int) (i:Nat) (h:Hf):Option Hf:=if h∈halvesE p.es∧(toH p.es h∈ds∨(toH p.es h=id∧twinH h∈(outP p id).take i)) then some (nextP p h) else none
def nxM (p:PL) (h:Hf):Option Hf:=if h∈halvesE p.es then some (nextP p h) else none
theorem nxI_zero (ds:List Int) (id:Int):nxI p ds id 0=nxD p ds:=by funext h;unfold nxI nxD;simp
theorem nxD_nil:nxD p []=fun _=>none:=by funext h;unfold nxD;simp
theorem RightP.nxI_succ (r:RightP p) {ds:List Int} {id:Int} {i:Nat} {h:Hf} (hi:(outP p id)[i]? =some h):
  updT (nxI p ds id i) (twinH h) ((outP p id).getD ((i+(outP p id).length - 1) % (outP p id).length) ⟨0,false⟩)=nxI p ds id (i+1):=by
 have hm:=mem_out.1 (List.mem_of_getElem? hi)
 have htw:=twin_mem hm.1
 have ht:toH p.es (twinH h)=id:=by unfold toH;rw[twin_twin];exact hm.2
 have hl:=(List.getElem?_eq_some_iff.1 hi).1
 have he:=(List.getElem?_eq_some_iff.1 hi).2
 funext y
 unfold updT
 by_cases e:y=twinH h
 ·subst e
  rw[if_pos rfl]
  unfold nxI
  rw[if_pos ⟨htw, .inr ⟨ht,by rw[twin_twin,List.mem_iff_getElem?];exact⟨i,by rw[List.getElem?_take_of_lt (by omega)];exact hi⟩⟩⟩]
  unfold nextP
  rw[ht,twin_twin]
  have hidx:(outP p id).idxOf h=i:=by
   have h1:(outP p id).idxOf h<(outP p id).length:=List.idxOf_lt_length_of_mem (List.mem_of_getElem? hi)
   exact nodup_idx (r.out_nd id) h1 hl (by rw[List.getElem_idxOf h1,he])
  rw[hidx]
 ·rw[if_neg e]
  unfold nxI
  have:twinH y∈(outP p id).take (i+1)↔twinH y∈(outP p id).take i:=by
   rw[List.take_succ_eq_append_getElem hl,List.mem_append,List.mem_singleton,he]
   exact⟨fun k=>k.resolve_right (fun e2=>e (by rw[←e2,twin_twin])), .inl⟩
  simp only[this]
theorem nxI_full (ds:List Int) (id:Int):nxI p ds id (outP p id).length=nxD p (ds++[id]):=by
 funext h
 unfold nxI nxD
 rw[List.take_length]
 congr 1
 apply propext
 refine and_congr_right (fun hm=> ?_)
 rw[List.mem_append,List.mem_singleton]
 refine or_congr Iff.rfl ⟨fun k=>k.1,fun k=>⟨k,mem_out.2 ⟨twin_mem hm,k⟩⟩⟩
theorem nxD_all {ds:List Int} (h: ∀x∈halvesE p.es,toH p.es x∈ds):nxD p ds=nxM p:=by
 funext x
 unfold nxD nxM
 by_cases hx:x∈halvesE p.es
 ·rw[if_pos hx,if_pos ⟨hx,h x hx⟩]
 ·rw[if_neg hx,if_neg (fun k=>hx k.1)]
theorem RightP.leav_id (r:RightP p) {id:Int} (h:leavP p.es id≠ []):id∈p.vs.map (·.id):=by
 obtain⟨x,hx⟩:=List.exists_mem_of_ne_nil _ h
 obtain⟨hm,e⟩:=mem_leav.1 hx
 obtain⟨-, -,⟨v,hv,e1, -⟩, -⟩:=r.half_pts hm
 exact List.mem_map.2 ⟨v,hv,by rw[e1,e]⟩
theorem RightP.ds_few (r:RightP p) {ds:List Int} (hn:ds.Nodup) (h: ∀id∈ds,leavP p.es id≠ []):ds.length≤512:=by
 have h1:=hn.length_le_of_subset (fun x hx=>r.leav_id (h x hx))
 rw[List.length_map] at h1
 have:=r.nv
 omega
theorem leav_len (es:List Ed) (id:Int):(leavP es id).length≤2*es.length:=by
 unfold leavP
 have:=List.length_filter_le (fun h=>fromH es h==id) (halvesE es)
 rw[halves_len] at this
 exact this
theorem out_len (id:Int):(outP p id).length=(leavP p.es id).length:=by unfold outP;exact List.length_mergeSort _
theorem vxM_snoc {vs:List Vx} {v:Vx} (h: ∀u∈vs,u.id≠v.id):vxM (vs++[v])=updT (vxM vs) v.id v:=by
 funext id
 unfold updT vxM
 rw[List.find?_append]
 by_cases e:id=v.id
 ·subst e
  rw[if_pos rfl,List.find?_eq_none.2 (fun u hu=>by simpa[isV] using h u hu)]
  simp[isV]
 ·rw[if_neg e]
  have:[v].find? (isV id)=none:=by
   rw[List.find?_eq_none];intro u hu;simp at hu;subst hu;simpa[isV] using fun h=>e h.symm
  rw[this];simp
theorem frM_snoc {es:List Ed} {e:Ed} (h: ∀u∈es,u.id≠e.id):frM (es++[e])=updT (updT (frM es) ⟨e.id,false⟩ e.a) ⟨e.id,true⟩ e.b:=by
 have hno: ∀b,(⟨e.id,b⟩:Hf)∉halvesE es:=fun b hm=>by
  obtain⟨f,hf,e1⟩:=mem_halves.1 hm
  exact h f hf e1
 funext x
 unfold updT frM
 rw[halves_snoc]
 by_cases e1:x=⟨e.id,true⟩
 ·subst e1
  rw[if_pos (by simp),if_pos rfl,from_new h];simp
 ·rw[if_neg e1]
  by_cases e2:x=⟨e.id,false⟩
  ·subst e2
   rw[if_pos (by simp),if_pos rfl,from_new h];simp
  ·rw[if_neg e2]
   by_cases hx:x∈halvesE es
   ·rw[if_pos (by simp[hx]),if_pos hx,from_snoc hx]
   ·rw[if_neg (by simp[hx,e1,e2]),if_neg hx]
theorem updT_over {α β:Type} [DecidableEq α] (g:α→Option β) (x:α) (u v:β):updT (updT g x u) x v=updT g x v:=by
 funext y
 unfold updT
 split<;>rfl
theorem leav_upd {es:List Ed} {e:Ed} (h: ∀u∈es,u.id≠e.id):updL (updL (leavP es) e.a ⟨e.id,false⟩) e.b ⟨e.id,true⟩=leavP (es++[e]):=by
 funext id
 rw[leav_snoc h id]
 unfold updL
 by_cases h1:e.a=id<;>by_cases h2:e.b=id
 ·simp[h1,h2]
 ·simp[h1,h2,Ne.symm h2]
 ·simp[h1,h2,Ne.symm h1]
 ·simp[h1,h2,Ne.symm h1,Ne.symm h2]
theorem RightP.es_new (r:RightP p) {j:Nat} {e:Ed} (he:p.es[j]? =some e): ∀u∈p.es.take j,u.id≠e.id:=by
 have h:=r.es_apart
 intro u hu
 obtain⟨i,hi⟩:=List.mem_iff_getElem?.1 hu
 have hij:i<j:=by
  have:=(List.getElem?_eq_some_iff.1 hi).1
  rw[List.length_take] at this;omega
 rw[List.getElem?_take_of_lt hij] at hi
 have h1:=List.pairwise_iff_getElem.1 h i j (List.getElem?_eq_some_iff.1 hi).1 (List.getElem?_eq_some_iff.1 he).1 hij
 rw[(List.getElem?_eq_some_iff.1 hi).2,(List.getElem?_eq_some_iff.1 he).2] at h1
 exact h1
theorem RightP.vs_new (r:RightP p) {j:Nat} {v:Vx} (hv:p.vs[j]? =some v): ∀u∈p.vs.take j,u.id≠v.id:=by
 have h:=ids_apart r.v
 intro u hu
 obtain⟨i,hi⟩:=List.mem_iff_getElem?.1 hu
 have hij:i<j:=by
  have:=(List.getElem?_eq_some_iff.1 hi).1
  rw[List.length_take] at this;omega
 rw[List.getElem?_take_of_lt hij] at hi
 have h1:=List.pairwise_iff_getElem.1 h i j (List.getElem?_eq_some_iff.1 hi).1 (List.getElem?_eq_some_iff.1 hv).1 hij
 rw[(List.getElem?_eq_some_iff.1 hi).2,(List.getElem?_eq_some_iff.1 hv).2] at h1
 exact h1
end
end Go.Proofs.Ythopjhifepijiaa
namespace Go.Proofs.Ythopjhifepijiaa
open Go.RowKit
section
variable {P:Program} {ops:Array Oper} {Q:Exit→Act→World→Prop} {S:World→Prop} {n f:Nat} {listed:Array Bool} {a:Act} {w w1:World}
structure Owp (P:Program) (o:Oper) (a:Act) (w:World) (K:Act→World→Prop) (Q:Exit→Act→World→Prop):Prop where
 out:o.wp P a w K Q
theorem owp_val {o:Oper} {v:Value} {K:Act→World→Prop} (h2:(execOp a.eval o).run P w= .ok (.value v) w1) (h:K (a.put o.dst v) w1):Owp P o a w K Q:=by
 refine⟨?_⟩
 unfold Oper.wp
 simp only[h2,Oper.upon]
 exact h
theorem owp_skip {o:Oper} {K:Act→World→Prop} (h2:(execOp a.eval o).run P w= .ok .skip w1) (h:K (a.put o.dst undef) w1):Owp P o a w K Q:=by
 refine⟨?_⟩
 unfold Oper.wp
 simp only[h2,Oper.upon]
 exact h
theorem owp_call {o:Oper} {g:FuncId} {args:Array Value} {K:Act→World→Prop} (h2:(execOp a.eval o).run P w= .ok (.enter g args) w) (h3:Calls P g args w fun e w'=> ∃v,e= .returned v∧K (a.put o.dst v) w'):Owp P o a w K Q:=by
 refine⟨?_⟩
 unfold Oper.wp
 simp only[h2,Oper.upon]
 exact h3.mono fun e w' ⟨v,he,h4⟩=>by subst he;exact h4
end
end Go.Proofs.Ythopjhifepijiaa
namespace Go.Proofs.Ythopjhifepijiaa
open Go.RowKit
section
variable {P:Program} {md:Region.Mode} {ops:Array Oper} {Q:Exit→Act→World→Prop} {S:World→Prop} {B:Nat→Bool}
def wpAny3 (P:Program) (md:Region.Mode) (ops:Array Oper) (Q:Exit→Act→World→Prop) (S:World→Prop) (B:Nat→Bool):Nat→Array Bool→Act→World→Prop
 |0,listed,a,w=>Region.ready md ops listed=[]∧Q .normal a w
 |f+1,listed,a,w=>(Region.ready md ops listed=[]→Q .normal a w)∧
  ∀i∈Region.ready md ops listed,wpOp P ops Q i (fun a' w'=>(S w→B i=true→S w')∧wpAny3 P md ops Q S B f (listed.setIfInBounds i true) a' w') a w
theorem wpAny_of_3: ∀(f:Nat) (listed:Array Bool) (a:Act) (w:World),wpAny3 P md ops Q S B f listed a w→wpAny P md ops Q f listed a w
 |0,_,_,_,h=>h
 |f+1,_,_,_,h=>⟨h.1,fun i hi=>wpOp_mono (fun a' w' h'=>wpAny_of_3 f _ a' w' h'.2) (h.2 i hi)⟩
def reachB (md:Region.Mode) (ops:Array Oper) (i:Nat):Nat→Nat→Bool
 |0,_=>false
 |f+1,j=>((ops[j]?).map fun o=>o.after.any fun e=>Region.binds md e&&(e.on==i||reachB md ops i f e.on)).getD false
theorem reachB_listed {n i:Nat} {listed:Array Bool} (inv:HeadInv md ops n listed): ∀(f j:Nat) {oj:Oper},reachB md ops i f j=true→ops[j]? =some oj→(∀e∈oj.after,Region.binds md e=true→listed.getD e.on false=true)→listed.getD i false=true
 |0,j,oj,h,_,_=>by cases h
 |f+1,j,oj,h,hj,hl=>by
  unfold reachB at h
  rw[hj] at h
  simp only[Option.map_some,Option.getD_some] at h
  obtain⟨e,he,hb⟩:=Array.any_eq_true'.1 h
  simp only[Bool.and_eq_true,Bool.or_eq_true,beq_iff_eq] at hb
  have h1:=hl e he hb.1
  rcases hb.2 with h2|h2
  ·rw[←h2];exact h1
  ·cases hk:ops[e.on]? with
   |none=>
    have h3:f=0∨ ∃g,f=g+1:=by cases f<;>simp
    rcases h3 with rfl|⟨g,rfl⟩
    ·cases h2
    ·unfold reachB at h2
     rw[hk] at h2
     cases h2
   |some ok=>exact reachB_listed inv f e.on h2 hk (fun e' he' hb'=>inv.closed _ _ hk h1 e' he' hb')
def allWait (md:Region.Mode) (ops:Array Oper) (B:Nat→Bool) (i:Nat):Bool:=
 (List.range ops.size).all fun j=>B j||reachB md ops i 4 j
theorem allWait_spec {n i j:Nat} {oj:Oper} {listed:Array Bool} (inv:HeadInv md ops n listed) (h:allWait md ops B i=true) (hj:ops[j]? =some oj) (hl: ∀e∈oj.after,Region.binds md e=true→listed.getD e.on false=true) (hi:listed.getD i false=false):B j=true:=by
 have hlt:j<ops.size:=(Array.getElem?_eq_some_iff.1 hj).1
 have h:=List.all_eq_true.1 h j (List.mem_range.2 hlt)
 simp only[Bool.or_eq_true] at h
 rcases h with h|h
 ·exact h
 ·rw[reachB_listed inv 4 j h hj hl] at hi
  cases hi
theorem wpAny3_first {m i:Nat} {oi:Oper} {v:Value} (c:Bool) (T:TailOk md ops m) (hi:ops[i]? =some oi) (him:i<m) (hc:c=true→allWait md ops B i=true) (hQ: ∀c a w,Q (.panic c) (a.put oi.dst v) w→Q (.panic c) a w) (f:Nat):
  ∀(listed:Array Bool) (a:Act) (w:World),HeadInv md ops m listed→Apart md ops i oi listed→i∈Region.ready md ops listed→YieldsIf P ops (fun w=>c=true→S w) oi v a→(c=true→S w)→
   wpAny3 P md ops Q S B f (listed.setIfInBounds i true) (a.put oi.dst v) w→wpAny3 P md ops Q S B (f+1) listed a w:=by
 induction f with
 |zero=>
  intro listed a w inv hap hr hy hS H
  refine⟨fun h=>absurd hr (by rw[h];simp),fun j hj=> ?_⟩
  rcases Decidable.em (j=i) with rfl|hne
  ·exact hy.wpOp hi hS ⟨fun h _=>h,H⟩
  ·have:=ready_mono hj hne
   rw[H.1] at this
   cases this
 |succ f ih=>
  intro listed a w inv hap hr hy hS H
  refine⟨fun h=>absurd hr (by rw[h];simp),fun j hj=> ?_⟩
  have hjm:=T.head inv him hr hj
  rcases Decidable.em (j=i) with rfl|hne
  ·exact hy.wpOp hi hS ⟨fun h _=>h,H⟩
  ·have h1:=H.2 j (ready_mono hj hne)
   obtain⟨hjun,oj,hoj,hall⟩:=mem_ready.1 hj
   have hw: ∀e∈oj.after,Region.binds md e=true→e.on≠i:=by
    intro e he hb h
    have:=hall e he hb
    rw[h,getD_both (mem_ready.1 hr).1] at this
    cases this
   have h2:=wpOp_putIf hoj (hap j oj hoj hne hjun hw) (fun cs b=>T.sel i oi cs b hi) (fun cs b=>T.sel j oj cs b hoj) hQ hy h1
   refine wpOp_mono (fun a' w' h3=>⟨h3.2.1,ih _ a' w' (inv.set hj hjm) (hap.set hjun) (ready_mono hr (Ne.symm hne)) h3.1 (fun e=>h3.2.1 (hS e) (allWait_spec inv (hc e) hoj hall (getD_both (mem_ready.1 hr).1))) ?_⟩) h2
   rw[Array.setIfInBounds_comm _ _ hne]
   exact h3.2.2
theorem wpAny3_of_seq: ∀(l:List Oper) (k:Nat) (listed:Array Bool) (a:Act) (w:World),(∀j,k≤j→B j=false)→(∀j,l[j]? =ops[k+j]?)→Region.seqB md ops l.length k listed=true→wpList P ops Q l a w→wpAny3 P md ops Q S B l.length listed a w
 | [],_,_,_,_,_,_,hB,h=>⟨by simpa[Region.seqB] using hB,h⟩
 |o::l,k,listed,a,w,hm,hl,hB,h=>by
  have h0:ops[k]? =some o:=by simpa using (hl 0).symm
  simp only[List.length_cons,Region.seqB,Bool.and_eq_true,decide_eq_true_eq] at hB
  refine⟨fun h1=>(by rw[hB.1] at h1;cases h1),fun i hi=> ?_⟩
  rw[hB.1] at hi
  have hik:i=k:=by simpa using hi
  subst hik
  have hw:wpOp P ops Q i (wpList P ops Q l) a w:=by unfold wpOp;simp only[h0];exact h
  exact wpOp_mono (fun a' w' h'=>⟨fun _ hlt=>absurd hlt (by rw[hm i (Nat.le_refl _)];decide),wpAny3_of_seq l (i+1) _ a' w' (fun j hj=>hm j (by omega)) (fun j=>by have:=hl (j+1);simpa[Nat.add_assoc,Nat.add_comm 1 j] using this) hB.2 h'⟩) hw
end
section
variable {P:Program} {ops:Array Oper} {Q:Exit→Act→World→Prop} {S:World→Prop} {n b f:Nat} {listed:Array Bool} {a:Act} {w w1:World}
def wpPar3 (P:Program) (ops:Array Oper) (Q:Exit→Act→World→Prop) (S:World→Prop) (n b f:Nat) (listed:Array Bool) (a:Act) (w:World):Prop:=
 TailOk .any ops n→HeadInv .any ops n listed→b≤n→wpAny3 P .any ops Q S (fun j=>decide (j<b)) f listed a w
theorem par3_read {o:Oper} {v:Value} (i:Nat) (hi:ops[i]? =some o) (hB:(decide (i<n)&&(Region.ready .any ops listed).contains i&&Region.free .any ops listed i&&allWait .any ops (fun j=>decide (j<b)) i)=true)
  (hw:Region.wanted o (yielded ops a.tmps)=true) (hS:S w) (hy: ∀w,S w→(execOp a.eval o).run P w= .ok (.value v) w) (hQ: ∀c a w,Q (.panic c) (a.put o.dst v) w→Q (.panic c) a w)
  (h:wpPar3 P ops Q S n b f (listed.setIfInBounds i true) (a.put o.dst v) w):wpPar3 P ops Q S n b (f+1) listed a w:=fun T inv hb=>by
 simp only[Bool.and_eq_true,decide_eq_true_eq] at hB
 have hr:i∈Region.ready .any ops listed:=by simpa using hB.1.1.2
 exact wpAny3_first true T hi hB.1.1.1 (fun _=>hB.2) hQ f listed a w inv (Region.free_spec hi hB.1.2) hr (.inl ⟨hw,fun w h=>hy w (h rfl)⟩) (fun _=>hS) (h T (inv.set hr hB.1.1.1) hb)
theorem par3_move {o:Oper} {v:Value} (i:Nat) (hi:ops[i]? =some o) (hB:(decide (i<n)&&(Region.ready .any ops listed).contains i&&Region.free .any ops listed i)=true)
  (hw:Region.wanted o (yielded ops a.tmps)=true) (hy: ∀w,(execOp a.eval o).run P w= .ok (.value v) w) (hQ: ∀c a w,Q (.panic c) (a.put o.dst v) w→Q (.panic c) a w)
  (h:wpPar3 P ops Q S n b f (listed.setIfInBounds i true) (a.put o.dst v) w):wpPar3 P ops Q S n b (f+1) listed a w:=fun T inv hb=>by
 simp only[Bool.and_eq_true,decide_eq_true_eq] at hB
 have hr:i∈Region.ready .any ops listed:=by simpa using hB.1.2
 exact wpAny3_first false T hi hB.1.1 (fun e=>by cases e) hQ f listed a w inv (Region.free_spec hi hB.2) hr (.inl ⟨hw,fun w h=>hy w⟩) (fun e=>by cases e) (h T (inv.set hr hB.1.1) hb)
theorem par3_one {o:Oper} (i:Nat) (hi:ops[i]? =some o) (hB:(decide (i<n)&&decide (Region.ready .any ops listed=[i]))=true) (hw:Region.wanted o (yielded ops a.tmps)=true)
  (h:Owp P o a w (fun a' w'=>(S w→i<b→S w')∧wpPar3 P ops Q S n b f (listed.setIfInBounds i true) a' w') Q):wpPar3 P ops Q S n b (f+1) listed a w:=fun T inv hb=>by
 simp only[Bool.and_eq_true,decide_eq_true_eq] at hB
 refine⟨fun h1=>(by rw[hB.2] at h1;cases h1),fun k hk=> ?_⟩
 have hk0:=hk
 rw[hB.2] at hk
 obtain rfl:k=i:=by simpa using hk
 have hh:wpOp P ops Q k (fun a' w'=>(S w→k<b→S w')∧wpPar3 P ops Q S n b f (listed.setIfInBounds k true) a' w') a w:=by
  unfold wpOp
  simp only[hi,hw,if_true]
  exact .inl h.out
 exact wpOp_mono (fun a' w' h'=>⟨fun s e=>h'.1 s (by simpa using e),h'.2 T (inv.set hk0 hB.1) hb⟩) hh
theorem par3_two {o u:Oper} (i j:Nat) (hi:ops[i]? =some o) (hj:ops[j]? =some u) (hB:(decide (i<n)&&(decide (j<n)&&decide (Region.ready .any ops listed=[i,j])))=true) (hw:Region.wanted o (yielded ops a.tmps)=true) (hv:Region.wanted u (yielded ops a.tmps)=true)
  (h:Owp P o a w (fun a' w'=>(S w→i<b→S w')∧wpPar3 P ops Q S n b f (listed.setIfInBounds i true) a' w') Q) (k:Owp P u a w (fun a' w'=>(S w→j<b→S w')∧wpPar3 P ops Q S n b f (listed.setIfInBounds j true) a' w') Q):wpPar3 P ops Q S n b (f+1) listed a w:=fun T inv hb=>by
 simp only[Bool.and_eq_true,decide_eq_true_eq] at hB
 refine⟨fun h1=>(by rw[hB.2.2] at h1;cases h1),fun x hx=> ?_⟩
 have hx0:=hx
 rw[hB.2.2] at hx
 have hx:x=i∨x=j:=by simpa using hx
 rcases hx with rfl|rfl
 ·have hh:wpOp P ops Q x (fun a' w'=>(S w→x<b→S w')∧wpPar3 P ops Q S n b f (listed.setIfInBounds x true) a' w') a w:=by
   unfold wpOp
   simp only[hi,hw,if_true]
   exact .inl h.out
  exact wpOp_mono (fun a' w' h'=>⟨fun s e=>h'.1 s (by simpa using e),h'.2 T (inv.set hx0 hB.1) hb⟩) hh
 ·have hh:wpOp P ops Q x (fun a' w'=>(S w→x<b→S w')∧wpPar3 P ops Q S n b f (listed.setIfInBounds x true) a' w') a w:=by
   unfold wpOp
   simp only[hj,hv,if_true]
   exact .inl k.out
  exact wpOp_mono (fun a' w' h'=>⟨fun s e=>h'.1 s (by simpa using e),h'.2 T (inv.set hx0 hB.2.1) hb⟩) hh
theorem par3_tail (tl:List Oper) (htl:tl=ops.toList.drop n) (hB:(decide (f=tl.length)&&Region.seqB .any ops f n listed)=true) (h:wpList P ops Q tl a w):wpPar3 P ops Q S n b f listed a w:=fun T inv hb=>by
 simp only[Bool.and_eq_true,decide_eq_true_eq] at hB
 obtain⟨hf,hB⟩:=hB
 subst hf
 exact wpAny3_of_seq tl n listed a w (fun j hj=>by simp;omega) (fun j=>by rw[htl,List.getElem?_drop,Array.getElem?_toList]) hB h
theorem wp_region_par3 {id:Nat} {l:List Oper} (n b:Nat) (hm:P.follows .mixedOrders=true) (hsel:Region.noSelect l.toArray=true) (hn:n<l.length) (hb:b≤n) (hs:Region.sinkB .any l.toArray n=true) (hc:Region.chainB .any l.toArray n=true)
  (S:World→Prop) (h:wpPar3 P l.toArray Q S n b l.length (Array.replicate l.length false) a w.drew):(Code.region id l.toArray true).wp P Q a w:=by
 have T:TailOk .any l.toArray n:=⟨Region.noSelect_spec hsel,hs,hc,by simpa using hn⟩
 have inv0:HeadInv .any l.toArray n (Array.replicate l.length false):=
  ⟨by simp,fun j oj _ hj=>(by rw[getD_replicate_false] at hj;cases hj),fun t _ ht=>getD_in (by simpa using ht) (getD_replicate_false _ _)⟩
 refine wp_region_any hm (wpAny_of_3 (S:=S) (B:=fun j=>decide (j<b)) _ _ _ _ ?_)
 have K:=h T inv0 hb
 simpa using K
end
end Go.Proofs.Ythopjhifepijiaa
namespace Go.Proofs.Ythopjhifepijiaa
open Go.RowKit
theorem owp_append_near {P:Program} {o:Oper} {a:Act} {w:World} {K:Act→World→Prop} {Q:Exit→Act→World→Prop}
  (hg:o.guard=none) (s x:Operand) (t:TypeId) (hop:o.op=Op.call { callee:=Callee.builtin Builtin.append,args:= #[s,x],argTypes:= #[t,t] })
  (base:Nat) (e:TypeId) (i:TypeInfo) (z:Value) (size bytes:Nat) (h1:P.underlying t=some (.slice e)) (h2:P.info? e=some i) (h3:i.zero=some z) (h4:i.size=size) (h5:i.bytes=bytes) (h6:z.cells.size=size) (h7:0<size)
  (v:Value) (n:Nat) (xs:List Value) (hs:a.eval s=v) (hown:w.ownsRow base e size v n xs)
  (ad:Addr) (m c:Nat) (news:List Value) (hx:a.eval x= .slice (some ad) m c) (hm:0<m) (hn:news.length=m*size) (hc: ∀j u,news[j]? =some u→w.cell? (ad.add j)=some u) (h1c: ∀u∈news,u.oneCell'=true)
  (b1:n+m≤maxLen) (b2:(n+m)*bytes≤140737488355328) (hbase:base≤w.heap.size)
  (hK: ∀g cap w',w'.ownsRow base e size (.slice (some ⟨g,0,none⟩) (n+m) cap) (n+m) (xs++news)→w.grownBy w' v.ownBlock→(v.ownBlock=some g∨w.heap.size≤g)→K (a.put o.dst (.slice (some ⟨g,0,none⟩) (n+m) cap)) w'):Owp P o a w K Q:=by
 have wide: ∀ {w':World} {row:Option Nat},w.grownBy w' none→w.grownBy w' row:=fun h=>⟨h.os,h.tape,h.output,h.size,fun b hb _=>h.block b hb (by simp)⟩
 have hw:Region.wanted o (yielded (#[]:Array Oper) a.tmps)=true:=by simp[Region.wanted,hg]
 have up: ∀ {E:Prop},(if Region.wanted o (yielded (#[]:Array Oper) a.tmps)=true then Oper.wp P o a w K Q else E)→Owp P o a w K Q:=fun h=>⟨by rw[if_pos hw] at h;exact h⟩
 rcases Go.Joins.ownsRow_forms hown with ⟨rfl,rfl⟩|⟨g,cap,rfl⟩
 ·have hx0:xs=[]:=List.eq_nil_of_length_eq_zero (by simpa using hown.1)
  subst hx0
  refine up (E:=True) (step_append_grows hg s x t hop e i z size bytes h1 h2 h3 h4 h5 h6 h7 none 0 0 [] hs (fun _=>⟨rfl,rfl⟩) (by simp) (fun b h=>by cases h) ad m c news hx hn hc h1c (by omega) b1 b2 ?_)
  intro v' w' ho hgr
  obtain⟨g',cap',rfl⟩:=Go.Joins.ownsRow_form ho (by omega)
  exact hK g' cap' w' (Go.Joins.ownsRow_le ho hbase) hgr (.inr (ho.lt g' rfl).1)
 ·by_cases hcap:n+m≤cap
  ·obtain⟨w',hrun,r1,r2⟩:=run_append_fits (P:=P) w base t o.type e i size h1 h2 h4 g n cap xs hown ad m c news hn hc h1c hcap
   exact⟨Lib.wp_append_run w s x t t hop _ _ hs hx _ _ hrun (hK g cap w' r1 r2 (.inl rfl))⟩
  ·refine up (E:=True) (step_append_grows hg s x t hop e i z size bytes h1 h2 h3 h4 h5 h6 h7 (some ⟨g,0,none⟩) n cap xs hs (fun h=>by cases h) hown.1 (fun b hb=>by cases hb;exact hown.cells rfl) ad m c news hx hn hc h1c (by omega) b1 b2 ?_)
   intro v' w' ho hgr
   obtain⟨g',cap',rfl⟩:=Go.Joins.ownsRow_form ho (by omega)
   exact hK g' cap' w' (Go.Joins.ownsRow_le ho hbase) (wide hgr) (.inr (ho.lt g' rfl).1)
end Go.Proofs.Ythopjhifepijiaa
namespace Go.Proofs
open Go.Shelf
def Try.sortHf_ren:Go.Shelf.Ren:=⟨fun|6=>74|15=>94|14=>93|28=>106|29=>107|20=>98|21=>99|22=>100|23=>101|24=>102|25=>103|26=>104|27=>105|46=>108|47=>109|48=>110|49=>111|50=>112|57=>113|n=>n,fun|22=>33|24=>45|25=>159|3=>3|39=>76|0=>0|53=>182|55=>34|4=>4|46=>176|45=>175|50=>139|5=>5|9=>9|66=>184|70=>188|76=>190|77=>191|n=>n,fun|n=>n⟩
theorem Try.sortHf:Go.Proofs.SlLaysF0.n6 Try.prog Try.sortHf_ren:= {
 mixed:=by kernel_rfl
 f6:=⟨Try.f74.name,by decide,Try.func74.trans (congrArg some (by kernel_rfl))⟩
 f14:=⟨Try.f93.name,by decide,Try.func93.trans (congrArg some (by kernel_rfl))⟩
 f15:=Try.func94.trans (congrArg some (by kernel_rfl))
 f20:=⟨Try.f98.name,by decide,Try.func98.trans (congrArg some (by kernel_rfl))⟩
 f21:=⟨Try.f99.name,by decide,Try.func99.trans (congrArg some (by kernel_rfl))⟩
 f22:=⟨Try.f100.name,by decide,Try.func100.trans (congrArg some (by kernel_rfl))⟩
 f23:=⟨Try.f101.name,by decide,Try.func101.trans (congrArg some (by kernel_rfl))⟩
 f24:=⟨Try.f102.name,by decide,Try.func102.trans (congrArg some (by kernel_rfl))⟩
 f25:=⟨Try.f103.name,by decide,Try.func103.trans (congrArg some (by kernel_rfl))⟩
 f26:=⟨Try.f104.name,by decide,Try.func104.trans (congrArg some (by kernel_rfl))⟩
 f27:=⟨Try.f105.name,by decide,Try.func105.trans (congrArg some (by kernel_rfl))⟩
 f28:=Try.func106.trans (congrArg some (by kernel_rfl))
 f29:=Try.func107.trans (congrArg some (by kernel_rfl))
 f46:=⟨Try.f108.name,by decide,Try.func108.trans (congrArg some (by kernel_rfl))⟩
 f47:=Try.func109.trans (congrArg some (by kernel_rfl))
 f48:=Try.func110.trans (congrArg some (by kernel_rfl))
 f49:=⟨Try.f111.name,by decide,Try.func111.trans (congrArg some (by kernel_rfl))⟩
 f50:=⟨Try.f112.name,by decide,Try.func112.trans (congrArg some (by kernel_rfl))⟩
 f57:=⟨Try.f113.name,by decide,Try.func113.trans (congrArg some (by kernel_rfl))⟩
 t0:=Try.underlying0
 a0:=Try.isAgg0
 z0:=Try.sizeOf0
 v0:=Try.zeroValue0
 t3:=Try.underlying3
 a3:=Try.isAgg3
 z3:=Try.sizeOf3
 v3:=Try.zeroValue3
 t4:=Try.underlying4
 a4:=Try.isAgg4
 z4:=Try.sizeOf4
 v4:=Try.zeroValue4
 t5:=Try.underlying5
 a5:=Try.isAgg5
 z5:=Try.sizeOf5
 v5:=Try.zeroValue5
 t9:=Try.underlying9
 a9:=Try.isAgg9
 z9:=Try.sizeOf9
 v9:=Try.zeroValue9
 t22:=Try.underlying33
 a22:=Try.isAgg33
 z22:=Try.sizeOf33
 v22:=Try.zeroValue33
 t25:=Try.underlying159
 a25:=Try.isAgg159
 z25:=Try.sizeOf159
 v25:=Try.zeroValue159
 t39:=Try.underlying76
 a39:=Try.isAgg76
 z39:=Try.sizeOf76
 v39:=Try.zeroValue76
 t45:=Try.underlying175
 a45:=Try.isAgg175
 z45:=Try.sizeOf175
 v45:=Try.zeroValue175
 t46:=Try.underlying176
 a46:=Try.isAgg176
 z46:=Try.sizeOf176
 v46:=Try.zeroValue176
 t50:=Try.underlying139
 a50:=Try.isAgg139
 z50:=Try.sizeOf139
 v50:=Try.zeroValue139
 t53:=Try.underlying182
 a53:=Try.isAgg182
 z53:=Try.sizeOf182
 v53:=Try.zeroValue182
 t55:=Try.underlying34
 a55:=Try.isAgg34
 z55:=Try.sizeOf34
 v55:=Try.zeroValue34
 t66:=Try.underlying184
 a66:=Try.isAgg184
 z66:=Try.sizeOf184
 v66:=Try.zeroValue184
 t70:=Try.underlying188
 a70:=Try.isAgg188
 z70:=Try.sizeOf188
 v70:=Try.zeroValue188
 t76:=Try.underlying190
 a76:=Try.isAgg190
 z76:=Try.sizeOf190
 v76:=Try.zeroValue190
 t77:=Try.underlying191
 a77:=Try.isAgg191
 z77:=Try.sizeOf191
 v77:=Try.zeroValue191 }
def Try.contPp_ren:Go.Shelf.Ren:=⟨fun|8=>78|6=>96|n=>n,fun|22=>106|23=>156|25=>161|4=>4|3=>3|0=>0|n=>n,fun|n=>n⟩
theorem Try.contPp:Go.Proofs.SlLaysH0.n8 Try.prog Try.contPp_ren:= {
 mixed:=by kernel_rfl
 f6:=⟨Try.f96.name,by decide,Try.func96.trans (congrArg some (by kernel_rfl))⟩
 f8:=⟨Try.f78.name,by decide,Try.func78.trans (congrArg some (by kernel_rfl))⟩
 t0:=Try.underlying0
 a0:=Try.isAgg0
 z0:=Try.sizeOf0
 v0:=Try.zeroValue0
 t3:=Try.underlying3
 a3:=Try.isAgg3
 z3:=Try.sizeOf3
 v3:=Try.zeroValue3
 t4:=Try.underlying4
 a4:=Try.isAgg4
 z4:=Try.sizeOf4
 v4:=Try.zeroValue4
 t22:=Try.underlying106
 a22:=Try.isAgg106
 z22:=Try.sizeOf106
 v22:=Try.zeroValue106
 t25:=Try.underlying161
 a25:=Try.isAgg161
 z25:=Try.sizeOf161
 v25:=Try.zeroValue161 }
end Go.Proofs
