/- Lemmas on the way to the statement: Rel, Rel2, Rel3, Rel4, Rel5, Play, BtMem, BtSnd, BtRound, BtList. -/
import Derived.Test.YtjgkegkinnlcoaaGreatDoorJ6
set_option linter.unusedSimpArgs false
set_option linter.unusedVariables false
namespace Go.Proofs.YtjgkegkinnlcoaaGreatDoor
open Go.RowKit
structure PreOk (s:SM) (most:Nat):Prop where
 lr:s.rooms.length=s.kinds.length
 one:1≤s.kinds.length
 le:s.kinds.length≤most
 r8:s.roots.length=8
 rb: ∀x∈s.roots,0≤x∧x≤18446744073709551615
 kind0:s.kinds[0]? =some 1
 kinds: ∀(i:Nat) k,s.kinds[i]? =some k→1≤k∧k≤255
 rooms: ∀(i:Nat) r,i≠0→s.rooms[i]? =some r→r.size=496
 fr: ∀f∈s.free,1≤f∧f<s.kinds.length∧s.kinds[f.toNat]? =some 255
 nd:s.free.Nodup
 link: ∀(j:Nat) f,s.free[j]? =some f→s.rooms[f.toNat]? =some (fillR (S (leB (((s.free.take j).getLast?).getD 0) 4)) 496)
 conv: ∀i:Nat,s.kinds[i]? =some 255→(i:Int)∈s.free
structure StOk (s:SM) (most:Nat):Prop extends PreOk s most where
 room0:s.rooms[0]? =some (headS s)
theorem set_get {α:Type} {l:List α} {i j:Nat} {x y:α} (h:(l.set i x)[j]? =some y):(j=i∧i<l.length∧y=x)∨(j≠i∧l[j]? =some y):=by
 rw[List.getElem?_set] at h
 split at h
 ·rename_i e
  split at h
  ·injection h with h;exact .inl ⟨e.symm,by assumption,h.symm⟩
  ·cases h
 ·rename_i e;exact .inr ⟨fun e'=>e e'.symm,h⟩
theorem set_other {α:Type} {l:List α} {i j:Nat} {x:α} (h:j≠i):(l.set i x)[j]? =l[j]? :=by
 rw[List.getElem?_set,if_neg (fun e=>h e.symm)]
theorem set_same {α:Type} {l:List α} {i:Nat} {x:α} (h:i<l.length):(l.set i x)[i]? =some x:=by
 rw[List.getElem?_set,if_pos rfl,if_pos h]
theorem PreOk.fix {s:SM} {most:Nat} (h:PreOk s most):StOk (fixS s) most:=by
 have hl:=h.lr
 have h1:=h.one
 refine⟨⟨?_,h.one,h.le,h.r8,h.rb,h.kind0,h.kinds, ?_,h.fr,h.nd, ?_,h.conv⟩, ?_⟩
 ·show(s.rooms.set 0 _).length=_
  rw[List.length_set];exact hl
 ·intro i r hi hr
  have hr:(s.rooms.set 0 (headS s))[i]? =some r:=hr
  rw[set_other hi] at hr
  exact h.rooms i r hi hr
 ·intro j f hf
  have hfr:=(h.fr f (List.mem_of_getElem? hf)).1
  show(s.rooms.set 0 (headS s))[f.toNat]? =_
  rw[set_other (by omega)]
  exact h.link j f hf
 ·show(s.rooms.set 0 (headS s))[0]? =some (headS s)
  exact set_same (by omega)
theorem firstF_bd {s:SM} {most:Nat} (h:PreOk s most):0≤firstF s∧firstF s<s.kinds.length:=by
 unfold firstF
 cases e:s.free.getLast? with
 |none=>have:=h.one;show(0:Int)≤0∧(0:Int)<_;omega
 |some f=>
  have:=h.fr f (List.mem_of_getLast? e)
  show 0≤f∧f<_
  omega
theorem StOk.roomsz {s:SM} {most:Nat} (h:StOk s most) {i:Nat} {r:ByteArray} (hr:s.rooms[i]? =some r):r.size=496:=by
 by_cases e:i=0
 ·subst e
  rw[h.room0] at hr
  injection hr with hr
  subst hr
  exact headS_size h.r8
 ·exact h.rooms i r e hr
section
variable {s:SM} {most:Nat}
theorem StOk.write (h:StOk s most) {no:Nat} {kind:Int} {r:ByteArray} (n1:1≤no) (n2:no<s.kinds.length) (hf:s.kinds[no]? ≠some 255) (k1:2≤kind) (k2:kind≤254) (hr:r.size=496):
  StOk { s with kinds:=s.kinds.set no kind,rooms:=s.rooms.set no r } most:=by
 have hh:headS { s with kinds:=s.kinds.set no kind,rooms:=s.rooms.set no r }=headS s:=by
  unfold headS firstF
  simp only[List.length_set]
 have hnf: ∀f∈s.free,f.toNat≠no:=fun f hm e=>hf (e▸(h.fr f hm).2.2)
 refine⟨⟨?_, ?_, ?_,h.r8,h.rb, ?_, ?_, ?_, ?_,h.nd, ?_, ?_⟩, ?_⟩
 ·simp only[List.length_set];exact h.lr
 ·simp only[List.length_set];exact h.one
 ·simp only[List.length_set];exact h.le
 ·show(s.kinds.set no kind)[0]? =_
  rw[set_other (by omega)];exact h.kind0
 ·intro i k hk
  rcases set_get hk with ⟨-, -,e⟩|⟨-,hk⟩
  ·omega
  ·exact h.kinds i k hk
 ·intro i q hi hq
  rcases set_get hq with ⟨-, -,e⟩|⟨-,hq⟩
  ·rw[e];exact hr
  ·exact h.rooms i q hi hq
 ·intro f hm
  have:=h.fr f hm
  simp only[List.length_set]
  refine⟨this.1,this.2.1, ?_⟩
  rw[set_other (hnf f hm)];exact this.2.2
 ·intro j f hj
  show(s.rooms.set no r)[f.toNat]? =_
  rw[set_other (hnf f (List.mem_of_getElem? hj))]
  exact h.link j f hj
 ·intro i hi
  rcases set_get hi with ⟨-, -,e⟩|⟨-,hi⟩
  ·omega
  ·exact h.conv i hi
 ·rw[hh]
  show(s.rooms.set no r)[0]? =_
  rw[set_other (by omega)];exact h.room0
theorem StOk.take (h:StOk s most) {f kind:Int} (hl:s.free.getLast? =some f) (k1:2≤kind) (k2:kind≤254):StOk (takeS s f kind) most:=by
 obtain⟨l,hfree⟩:=List.getLast?_eq_some_iff.1 hl
 have hd:s.free.dropLast=l:=by rw[hfree];simp
 have hfm:f∈s.free:=by rw[hfree];simp
 obtain⟨f1,f2,f3⟩:=h.fr f hfm
 have hnd:=h.nd
 rw[hfree,List.nodup_append] at hnd
 have hne: ∀g∈l,g.toNat≠f.toNat:=fun g hg e=>by
  have h1:=(h.fr g (by rw[hfree];simp[hg])).1
  exact hnd.2.2 g hg f (by simp) (by omega)
 refine PreOk.fix ⟨?_, ?_, ?_,h.r8,h.rb, ?_, ?_, ?_, ?_, ?_, ?_, ?_⟩
 ·simp only[List.length_set];exact h.lr
 ·simp only[List.length_set];exact h.one
 ·simp only[List.length_set];exact h.le
 ·show(s.kinds.set f.toNat kind)[0]? =_
  rw[set_other (by omega)];exact h.kind0
 ·intro i k hk
  rcases set_get hk with ⟨-, -,e⟩|⟨-,hk⟩
  ·omega
  ·exact h.kinds i k hk
 ·intro i q hi hq
  rcases set_get hq with ⟨-, -,e⟩|⟨-,hq⟩
  ·rw[e];exact fillR_size (by decide)
  ·exact h.rooms i q hi hq
 ·intro g hm
  have hm:g∈s.free.dropLast:=hm
  rw[hd] at hm
  have:=h.fr g (by rw[hfree];simp[hm])
  simp only[List.length_set]
  refine⟨this.1,this.2.1, ?_⟩
  rw[set_other (hne g hm)];exact this.2.2
 ·show s.free.dropLast.Nodup
  rw[hd];exact hnd.1
 ·intro j g hj
  have hj:s.free.dropLast[j]? =some g:=hj
  show(s.rooms.set f.toNat _)[g.toNat]? =some (fillR (S (leB (((s.free.dropLast.take j).getLast?).getD 0) 4)) 496)
  rw[hd] at hj ⊢
  have hjl:=(List.getElem?_eq_some_iff.1 hj).1
  rw[set_other (hne g (List.mem_of_getElem? hj))]
  have:=h.link j g (by rw[hfree,List.getElem?_append_left hjl];exact hj)
  rw[hfree,List.take_append_of_le_length (by omega)] at this
  exact this
 ·intro i hi
  show(i:Int)∈s.free.dropLast
  rcases set_get hi with ⟨-, -,e⟩|⟨hn,hi⟩
  ·omega
  ·have:=h.conv i hi
   rw[hfree] at this
   rw[hd]
   simp at this
   rcases this with h|h
   ·exact h
   ·omega
theorem StOk.grow (h:StOk s most) {kind:Int} (hm:s.kinds.length<most) (k1:2≤kind) (k2:kind≤254):StOk (growS s kind) most:=by
 have h1:=h.one
 have hl:=h.lr
 refine PreOk.fix ⟨?_, ?_, ?_,h.r8,h.rb, ?_, ?_, ?_, ?_,h.nd, ?_, ?_⟩
 ·simp only[List.length_append,List.length_singleton];omega
 ·simp only[List.length_append,List.length_singleton];omega
 ·simp only[List.length_append,List.length_singleton];omega
 ·show(s.kinds++[kind])[0]? =_
  rw[List.getElem?_append_left (by omega)];exact h.kind0
 ·intro i k hk
  have hk:(s.kinds++[kind])[i]? =some k:=hk
  rw[List.getElem?_append] at hk
  split at hk
  ·exact h.kinds i k hk
  ·have:=List.mem_of_getElem? hk
   simp at this
   omega
 ·intro i q hi hq
  have hq:(s.rooms++[fillR ⟨#[]⟩ 496])[i]? =some q:=hq
  rw[List.getElem?_append] at hq
  split at hq
  ·exact h.rooms i q hi hq
  ·have:=List.mem_of_getElem? hq
   simp at this
   rw[this];exact fillR_size (by decide)
 ·intro f hf
  have:=h.fr f hf
  simp only[List.length_append,List.length_singleton]
  refine⟨this.1,by omega, ?_⟩
  rw[List.getElem?_append_left (by omega)];exact this.2.2
 ·intro j f hf
  have:=h.fr f (List.mem_of_getElem? hf)
  show(s.rooms++[_])[f.toNat]? =_
  rw[List.getElem?_append_left (by omega)]
  exact h.link j f hf
 ·intro i hi
  have hi:(s.kinds++[kind])[i]? =some 255:=hi
  rw[List.getElem?_append] at hi
  split at hi
  ·exact h.conv i hi
  ·have:=List.mem_of_getElem? hi
   simp at this
   omega
theorem StOk.back (h:StOk s most) {no:Nat} (n1:1≤no) (n2:no<s.kinds.length) (hf:s.kinds[no]? ≠some 255):StOk (backS s no) most:=by
 have hnf: ∀f∈s.free,f.toNat≠no:=fun f hm e=>hf (e▸(h.fr f hm).2.2)
 have hl:=h.lr
 have hb:=firstF_bd h.toPreOk
 refine PreOk.fix ⟨?_, ?_, ?_,h.r8,h.rb, ?_, ?_, ?_, ?_, ?_, ?_, ?_⟩
 ·simp only[List.length_set];exact h.lr
 ·simp only[List.length_set];exact h.one
 ·simp only[List.length_set];exact h.le
 ·show(s.kinds.set no 255)[0]? =_
  rw[set_other (by omega)];exact h.kind0
 ·intro i k hk
  rcases set_get hk with ⟨-, -,e⟩|⟨-,hk⟩
  ·omega
  ·exact h.kinds i k hk
 ·intro i q hi hq
  rcases set_get hq with ⟨-, -,e⟩|⟨-,hq⟩
  ·rw[e];exact fillR_size (by rw[S_size,leB_length];omega)
  ·exact h.rooms i q hi hq
 ·intro f hm
  have hm:f∈s.free++[(no:Int)]:=hm
  rw[List.mem_append] at hm
  simp only[List.length_set]
  rcases hm with hm|hm
  ·have:=h.fr f hm
   refine⟨this.1,this.2.1, ?_⟩
   show(s.kinds.set no 255)[f.toNat]? =_
   rw[set_other (hnf f hm)];exact this.2.2
  ·simp at hm
   subst hm
   refine⟨by omega,by omega, ?_⟩
   show(s.kinds.set no 255)[no]? =_
   exact set_same n2
 ·show(s.free++[(no:Int)]).Nodup
  rw[List.nodup_append]
  refine⟨h.nd,by simp,fun a ha b hb e=> ?_⟩
  simp at hb
  exact hnf a ha (by omega)
 ·intro j f hj
  have hj:(s.free++[(no:Int)])[j]? =some f:=hj
  show(s.rooms.set no (fillR (S (leB (firstF s) 4)) 496))[f.toNat]? =some (fillR (S (leB ((((s.free++[(no:Int)]).take j).getLast?).getD 0) 4)) 496)
  rw[List.getElem?_append] at hj
  split at hj
  ·rename_i hlt
   rw[set_other (hnf f (List.mem_of_getElem? hj)),List.take_append_of_le_length (by omega)]
   exact h.link j f hj
  ·rename_i hge
   have hj1:=(List.getElem?_eq_some_iff.1 hj).1
   have hf':=List.mem_of_getElem? hj
   simp at hf' hj1
   have e:j=s.free.length:=by omega
   subst e hf'
   rw[List.take_left' rfl]
   show(s.rooms.set no _)[no]? =_
   exact set_same (by omega)
 ·intro i hi
  show(i:Int)∈s.free++[(no:Int)]
  rcases set_get hi with ⟨e, -, -⟩|⟨-,hi⟩
  ·simp[e]
  ·simp[h.conv i hi]
theorem StOk.root (h:StOk s most) {i:Nat} {n:Int} (hi:i<8) (n0:0≤n) (n1:n≤18446744073709551615):StOk (rootS s i n) most:=by
 refine PreOk.fix ⟨h.lr,h.one,h.le, ?_, ?_,h.kind0,h.kinds,h.rooms,h.fr,h.nd,h.link,h.conv⟩
 ·show(s.roots.set i n).length=8
  rw[List.length_set];exact h.r8
 ·intro x hx
  rcases List.mem_or_eq_of_mem_set hx with hx|hx
  ·exact h.rb x hx
  ·subst hx;exact⟨n0,n1⟩
end
theorem newS_pre (most:Nat) (h:1≤most):PreOk ⟨[1],[⟨#[]⟩],[],List.replicate 8 0⟩ most:=by
 refine⟨rfl,Nat.le_refl _,h,rfl,fun x hx=> ?_,rfl,fun i k hk=> ?_,fun i r hi hr=> ?_,fun f hf=>(by cases hf),List.nodup_nil,fun j f hf=>(by simp at hf),fun i hi=> ?_⟩
 ·have:=List.eq_of_mem_replicate hx;omega
 ·have:=List.mem_of_getElem? hk;simp at this;omega
 ·have:=(List.getElem?_eq_some_iff.1 hr).1;simp at this;omega
 ·have:=List.mem_of_getElem? hi;simp at this
theorem newS_ok (most:Nat) (h:1≤most):StOk newS most:=(newS_pre most h).fix
end Go.Proofs.YtjgkegkinnlcoaaGreatDoor
namespace Go.Proofs.YtjgkegkinnlcoaaGreatDoor
open Go.RowKit
def PgM (V:Int→ByteArray) (s:SM):Prop:= ∀(i:Nat) k r,s.kinds[i]? =some k→s.rooms[i]? =some r→V i=pgStr k i r
def isD (d:List Bool) (i:Int):Bool:=decide (0≤i)&&d.getD i.toNat false
structure Rel (M:PM) (R:RM) (N:Nat) (G:Int):Prop where
 log: ∃first ts,LogIs M N G first ts
 most:M.most=R.most
 room:M.room=R.room
 big:R.most≤65536
 way:StOk R.way R.most
 sure:StOk R.sure R.most
 vw:PgM (viewP M) R.way
 vs:PgM (baseP M) R.sure
 dl:R.dirty.length=R.most
 dirty: ∀i:Int,(M.dirty i).isSome=isD R.dirty i
 dway: ∀i:Nat,isD R.dirty i=true→i<R.way.kinds.length
 cnt:cntR R≤R.room
theorem pgStr_fill {k no:Int} {r:ByteArray} (h:r.size≤496):pgStr k no (fillR r 496)=pgStr k no r:=by
 have:pgBody k no (fillR r 496)=pgBody k no r:=by
  unfold pgBody
  rw[fillR_size h]
  unfold fillR
  rw[data_S]
  show S (_++_++_++_++[])=_
  rw[List.append_nil]
  simp only[List.append_assoc]
 unfold pgStr
 rw[this]
theorem cntI_list (d:List Bool): ∀N,cntI (isD d) N=((d.take N).filter id).length
 |0=>by simp[cntI]
 |N+1=>by
  rw[cntI_succ,cntI_list d N,List.take_add_one,List.filter_append,List.length_append]
  congr 1
  unfold isD
  rw[List.getD_eq_getElem?_getD,Int.toNat_natCast]
  cases d[N]? with
  |none=>simp
  |some b=>cases b<;>simp
theorem cnt_set: ∀(d:List Bool) (n:Nat),n<d.length→((d.set n true).filter id).length=(d.filter id).length+(if d.getD n false=true then 0 else 1)
 | [],n,h=>by simp at h
 |b::d,0,h=>by cases b<;>simp
 |b::d,n+1,h=>by
  have:=cnt_set d n (by simpa using h)
  rw[List.set_cons_succ,List.filter_cons,List.filter_cons]
  simp only[List.getD_cons_succ]
  split
  ·simp only[List.length_cons,this];omega
  ·exact this
theorem isD_set {d:List Bool} {n:Nat} (h:n<d.length) (i:Int):isD (d.set n true) i=if i=n then true else isD d i:=by
 unfold isD
 by_cases e:i=n
 ·subst e
  rw[if_pos rfl,List.getD_eq_getElem?_getD,Int.toNat_natCast,set_same h]
  simp
 ·rw[if_neg e]
  by_cases e0:0≤i
  ·rw[List.getD_eq_getElem?_getD,List.getD_eq_getElem?_getD,set_other (by omega)]
  ·simp[e0]
theorem viewP_upd (M:PM) (D:Int→Option ByteArray) (no i:Int) (P:ByteArray):viewP { M with dirty:=updI D no (some P) } i=if i=no then P else viewP { M with dirty:=D } i:=by
 unfold viewP
 show((updI D no (some P)) i).getD (baseP M i)=_
 by_cases e:i=no
 ·rw[e,updI_same,if_pos rfl];rfl
 ·rw[updI_other _ _ e,if_neg e];rfl
section
variable {M:PM} {R:RM} {N k:Nat} {G:Int}
theorem LogIs.dirty' {first:Int} {ts:List TxD} (h:LogIs M N G first ts) (D:Int→Option ByteArray):LogIs { M with dirty:=D } N G first ts:=
 ⟨h.up,h.wait,h.geo,h.most1,h.frm,h.lsize,h.dead,h.ldead,h.chain,h.lat,h.calm,h.hot,h.first0,h.first1,h.next0,h.next1,h.mark,h.other,h.gen1,h.gen2,h.small⟩
theorem Rel.up (h:Rel M R N G):UpM M.m N:=h.log.elim fun _ h=>h.elim fun _ h=>h.up
theorem Rel.cntDR (h:Rel M R N G):cntD M=cntR R:=by
 unfold cntD cntR
 rw[cntI_congr (q:=isD R.dirty) 100000 (fun i _=>h.dirty i),cntI_list,List.take_of_length_le (by rw[h.dl];have:=h.big;omega)]
theorem Rel.arg (h:Rel M R N G) {i:Nat} {kd:Int} (hk:R.way.kinds[i]? =some kd):pgArg kd i=true:=by
 have h1:=h.way.kinds i kd hk
 have h2:=(List.getElem?_eq_some_iff.1 hk).1
 have h3:=h.way.le
 have h4:=h.big
 unfold pgArg
 rw[decide_eq_true_iff]
 omega
theorem Rel.rd (h:Rel M R N G) {i:Nat} {kd:Int} {r:ByteArray} (hk:R.way.kinds[i]? =some kd) (hr:R.way.rooms[i]? =some r):rdP M i=(kd,r,0):=by
 have hs:=h.way.roomsz hr
 obtain⟨u1,u2,u3⟩:=un_pg kd i r (h.arg hk) (by omega)
 rw[rdP_up h.up.down,h.vw i kd r hk hr,u1,u2,u3,fillR_full hs]
theorem Rel.rd0 (h:Rel M R N G):rdP M 0=(1,headS R.way,0):=h.rd (i:=0) h.way.kind0 h.way.room0
theorem Rel.used (h:Rel M R N G):usedR (headS R.way)=lenR R:=headS_used h.way.r8 (by have:=h.way.le;have:=h.big;omega)
theorem Rel.fre (h:Rel M R N G):freeR (headS R.way)=firstF R.way:=by
 have hb:=firstF_bd h.way.toPreOk
 have:=h.way.le
 have:=h.big
 exact headS_free h.way.r8 hb.1 (by omega)
theorem headS_text {s:SM} (h:s.roots.length=8):headS s=fillR ((headS s).extract 0 72) 496:=by
 have e:(headS s).extract 0 72=S (leB s.kinds.length 4++(leB (firstF s) 4++rootsL s.roots)):=by
  rw[headS_eq h,extract_cut,cut_S,List.drop_zero,Nat.sub_zero, ←List.append_assoc, ←List.append_assoc,List.take_left' (by rw[List.length_append,List.length_append,leB_length,leB_length,rootsL_length,h]),List.append_assoc]
 rw[e]
 rfl
theorem Rel.snd (h:Rel M R N G):soundP M=0:=by
 unfold soundP soundR
 have h1:=h.way.one
 have h2:=h.way.le
 have h3:=firstF_bd h.way.toPreOk
 have h4:=h.used
 have h5:=h.fre
 have h6:=h.most
 rw[h.rd0]
 simp only
 rw[if_neg (by decide),if_neg (by rintro (e|e|e);exact e rfl;exact e rfl;exact e (headS_text h.way.r8)),h4,h5,if_neg (by unfold lenR;omega)]
theorem Rel.pages (h:Rel M R N G):pagesP M=lenR R:=by
 unfold pagesP
 rw[h.rd0,if_pos rfl,h.used]
theorem bigR_one (no:Nat):bigR R [(no:Int)]=decide (R.room<cntR R+(if R.dirty.getD no false=true then 0 else 1)):=by
 unfold bigR
 rw[List.filter_cons,Int.toNat_natCast]
 cases R.dirty.getD no false<;>simp
theorem bigR_two (no:Nat):bigR R [(no:Int),0]=decide (R.room<cntR R+((if R.dirty.getD no false=true then 0 else 1)+(if R.dirty.getD 0 false=true then 0 else 1))):=by
 unfold bigR
 rw[List.filter_cons,List.filter_cons,Int.toNat_natCast,show(0:Int).toNat=0 from rfl]
 cases R.dirty.getD no false<;>cases R.dirty.getD 0 false<;>simp
theorem isD_nat (d:List Bool) (n:Nat):isD d n=d.getD n false:=by unfold isD;simp
theorem Rel.one (h:Rel M R N G) {no:Nat} {kd:Int} {room:ByteArray} {way':SM} (hok:StOk way' R.most) (hk:way'.kinds[no]? =some kd) (hr:way'.rooms[no]? =some (fillR room 496)) (hrs:room.size≤496)
  (hoth: ∀(i:Nat) k r,i≠no→way'.kinds[i]? =some k→way'.rooms[i]? =some r→R.way.kinds[i]? =some k∧R.way.rooms[i]? =some r) (hlen:R.way.kinds.length≤way'.kinds.length) (hbig:bigR R [(no:Int)]=false):
  Rel { M with dirty:=updI M.dirty no (some (pgStr kd no room)) } { R with way:=way',dirty:=markR R.dirty [(no:Int)] } N G:=by
 have hnl:=(List.getElem?_eq_some_iff.1 hk).1
 have hnd:no<R.dirty.length:=by rw[h.dl];have:=hok.le;omega
 have hmk:markR R.dirty [(no:Int)]=R.dirty.set no true:=rfl
 rw[hmk]
 obtain⟨first,ts,hl⟩:=h.log
 refine⟨⟨first,ts,hl.dirty' _⟩,h.most,h.room,h.big,hok,h.sure,fun i k r hi hr'=> ?_,h.vs,by show(R.dirty.set no true).length=_;rw[List.length_set];exact h.dl,fun i=> ?_,fun i hi=> ?_, ?_⟩
 ·rw[viewP_upd]
  by_cases e:i=no
  ·subst e
   have hi:way'.kinds[i]? =some k:=hi
   have hr':way'.rooms[i]? =some r:=hr'
   rw[if_pos rfl]
   rw[hk] at hi
   rw[hr] at hr'
   injection hi with hi
   injection hr' with hr'
   subst hi hr'
   rw[pgStr_fill hrs]
  ·rw[if_neg (by omega)]
   obtain⟨a,b⟩:=hoth i k r e hi hr'
   exact h.vw i k r a b
 ·show(updI M.dirty (no:Int) _ i).isSome=isD (R.dirty.set no true) i
  rw[isD_set hnd]
  by_cases e:i=no
  ·rw[e,updI_same,if_pos rfl];rfl
  ·rw[updI_other _ _ e,if_neg e];exact h.dirty i
 ·have hi:isD (R.dirty.set no true) i=true:=hi
  rw[isD_set hnd] at hi
  show i<way'.kinds.length
  by_cases e:(i:Int)=no
  ·omega
  ·rw[if_neg e] at hi
   have:=h.dway i hi
   omega
 ·show((R.dirty.set no true).filter id).length≤R.room
  rw[cnt_set _ _ hnd]
  rw[bigR_one] at hbig
  simp only[decide_eq_false_iff_not] at hbig
  unfold cntR at hbig
  omega
theorem Rel.two (h:Rel M R N G) {no:Nat} {kd:Int} {room:ByteArray} {way':SM} (hno:no≠0) (hok:StOk way' R.most) (hk:way'.kinds[no]? =some kd) (hr:way'.rooms[no]? =some (fillR room 496)) (hrs:room.size≤496)
  (hoth: ∀(i:Nat) k r,i≠no→i≠0→way'.kinds[i]? =some k→way'.rooms[i]? =some r→R.way.kinds[i]? =some k∧R.way.rooms[i]? =some r) (hlen:R.way.kinds.length≤way'.kinds.length) (hbig:bigR R [(no:Int),0]=false):
  Rel { M with dirty:=updI (updI M.dirty no (some (pgStr kd no room))) 0 (some (pgStr 1 0 (headS way'))) } { R with way:=way',dirty:=markR R.dirty [(no:Int),0] } N G:=by
 have hnl:=(List.getElem?_eq_some_iff.1 hk).1
 have hnd:no<R.dirty.length:=by rw[h.dl];have:=hok.le;omega
 have hzd:0<(R.dirty.set no true).length:=by rw[List.length_set];omega
 have hmk:markR R.dirty [(no:Int),0]=(R.dirty.set no true).set 0 true:=rfl
 rw[hmk]
 obtain⟨first,ts,hl⟩:=h.log
 refine⟨⟨first,ts,hl.dirty' _⟩,h.most,h.room,h.big,hok,h.sure,fun i k r hi hr'=> ?_,h.vs,by show((R.dirty.set no true).set 0 true).length=_;rw[List.length_set,List.length_set];exact h.dl,fun i=> ?_,fun i hi=> ?_, ?_⟩
 ·have hi:way'.kinds[i]? =some k:=hi
  have hr':way'.rooms[i]? =some r:=hr'
  rw[viewP_upd]
  by_cases e0:i=0
  ·subst e0
   rw[if_pos (by rfl)]
   rw[hok.kind0] at hi
   rw[hok.room0] at hr'
   injection hi with hi
   injection hr' with hr'
   subst hi hr'
   rfl
  ·rw[if_neg (by omega),viewP_upd]
   by_cases e:i=no
   ·subst e
    rw[if_pos rfl]
    rw[hk] at hi
    rw[hr] at hr'
    injection hi with hi
    injection hr' with hr'
    subst hi hr'
    rw[pgStr_fill hrs]
   ·rw[if_neg (by omega)]
    obtain⟨a,b⟩:=hoth i k r e e0 hi hr'
    exact h.vw i k r a b
 ·show(updI (updI M.dirty (no:Int) _) 0 _ i).isSome=isD ((R.dirty.set no true).set 0 true) i
  rw[isD_set hzd,isD_set hnd]
  by_cases e0:i=0
  ·rw[e0,updI_same,if_pos (by rfl)];rfl
  ·rw[updI_other _ _ e0,if_neg (by omega)]
   by_cases e:i=no
   ·rw[e,updI_same,if_pos rfl];rfl
   ·rw[updI_other _ _ e,if_neg e];exact h.dirty i
 ·have hi:isD ((R.dirty.set no true).set 0 true) i=true:=hi
  rw[isD_set hzd,isD_set hnd] at hi
  show i<way'.kinds.length
  by_cases e0:i=0
  ·omega
  ·rw[if_neg (by omega)] at hi
   by_cases e:(i:Int)=no
   ·omega
   ·rw[if_neg e] at hi
    have:=h.dway i hi
    omega
 ·show(((R.dirty.set no true).set 0 true).filter id).length≤R.room
  rw[cnt_set _ _ hzd,cnt_set _ _ hnd,List.getD_eq_getElem?_getD (i:=0),set_other (fun e=>hno e.symm), ←List.getD_eq_getElem?_getD]
  rw[bigR_two] at hbig
  simp only[decide_eq_false_iff_not] at hbig
  unfold cntR at hbig
  omega
theorem isD_none (n:Nat) (i:Int):isD (List.replicate n false) i=false:=by
 unfold isD
 rw[List.getD_eq_getElem?_getD,List.getElem?_replicate]
 split<;>simp
theorem cnt_none (n:Nat):((List.replicate n false).filter id).length=0:=by simp
theorem Rel.abort (h:Rel M R N G):Rel (abortP M) (abortR R) N G:=by
 obtain⟨first,ts,hl⟩:=h.log
 refine⟨⟨first,ts,hl.dirty' _⟩,h.most,h.room,h.big,h.sure,h.sure,h.vs,h.vs,by show(List.replicate R.most false).length=_;simp[abortR],fun i=> ?_,fun i hi=> ?_, ?_⟩
 ·show false=isD (List.replicate R.most false) i
  rw[isD_none]
 ·have hi:isD (List.replicate R.most false) i=true:=hi
  rw[isD_none] at hi;cases hi
 ·show((List.replicate R.most false).filter id).length≤_
  rw[cnt_none];exact Nat.zero_le _
end
end Go.Proofs.YtjgkegkinnlcoaaGreatDoor
namespace Go.Proofs.YtjgkegkinnlcoaaGreatDoor
open Go.RowKit
section
variable {M:PM} {R:RM} {N k:Nat} {G:Int}
theorem oursK_yes {kind:Int} (h1:2≤kind) (h2:kind≤254):oursK kind=true:=by unfold oursK;rw[decide_eq_true_iff];exact⟨h1,h2⟩
theorem oursK_no {kind:Int} (h:kind<2∨254<kind):oursK kind=false:=by unfold oursK;rw[decide_eq_false_iff_not];omega
theorem arg_yes {kd:Int} {i:Nat} (h1:1≤kd) (h2:kd≤255) (h3:i≤65536):pgArg kd i=true:=by unfold pgArg;rw[decide_eq_true_iff];omega
theorem arg_zero:pgArg 1 0=true:=by decide
theorem Rel.fits (h:Rel M R N G) (no:Nat):((M.dirty no).isSome=true∨cntD M<M.room)↔bigR R [(no:Int)]=false:=by
 rw[bigR_one,h.dirty,isD_nat,h.cntDR,h.room]
 have:=h.cnt
 simp only[decide_eq_false_iff_not]
 cases R.dirty.getD no false<;>simp<;>omega
theorem Rel.write (h:Rel M R N G) (no:Nat) (kind:Int) (room:ByteArray) (hf:R.way.kinds[no]? ≠some 255):(writeP M no kind room).1=(writeR R no kind room).1∧Rel (writeP M no kind room).2 (writeR R no kind room).2 N G:=by
 have hb:=h.big
 have hle:=h.way.le
 unfold writeP writeR
 by_cases hin:(no:Int)<1∨lenR R≤no∨kind<2∨254<kind
 ·rw[if_pos hin,if_neg]
  ·exact⟨rfl,h⟩
  ·unfold withinP oursK
   rw[h.pages,decide_eq_true_iff,decide_eq_true_iff]
   omega
 rw[if_neg hin,if_pos (by unfold withinP oursK;rw[h.pages,decide_eq_true_iff,decide_eq_true_iff];omega)]
 unfold lenR at hin
 have ha:=arg_yes (kd:=kind) (i:=no) (by omega) (by omega) (by omega)
 by_cases hr:496<room.size
 ·rw[if_pos hr,setP_large _ _ _ ha hr]
  exact⟨rfl,h⟩
 rw[if_neg hr]
 cases hbig:bigR R [(no:Int)]
 ·rw[if_neg (by decide),setP_yes _ _ _ ha hr ((h.fits no).2 hbig)]
  refine⟨rfl, ?_⟩
  rw[Int.toNat_natCast]
  exact h.one (h.way.write (by omega) (by omega) hf (by omega) (by omega) (fillR_size (by omega))) (set_same (by omega)) (set_same (by rw[h.way.lr];omega)) (by omega) (fun i k r e hk hr=>by
   have hk:(R.way.kinds.set no kind)[i]? =some k:=hk
   have hr:(R.way.rooms.set no (fillR room 496))[i]? =some r:=hr
   rw[set_other e] at hk hr
   exact⟨hk,hr⟩) (by show _≤(R.way.kinds.set no kind).length;rw[List.length_set];exact Nat.le_refl _) hbig
 ·rw[if_pos rfl,setP_big _ _ _ ha hr (fun hh=>by have:=(h.fits no).1 hh;rw[hbig] at this;cases this)]
  exact⟨rfl,h⟩
theorem Rel.sets (h:Rel M R N G) {no:Nat} (hno:no≠0) {kd:Int} {room:ByteArray} {way':SM} {u f:Int} (hu:u=way'.kinds.length) (hf:f=firstF way') (hrt:way'.roots=R.way.roots) (hok:StOk way' R.most) (hk:way'.kinds[no]? =some kd) (hr:way'.rooms[no]? =some (fillR room 496)) (hrs:room.size≤496)
  (hoth: ∀(i:Nat) k r,i≠no→i≠0→way'.kinds[i]? =some k→way'.rooms[i]? =some r→R.way.kinds[i]? =some k∧R.way.rooms[i]? =some r) (hlen:R.way.kinds.length≤way'.kinds.length):
  (bigR R [(no:Int),0]=false→setP M no kd room=(0, { M with dirty:=updI M.dirty no (some (pgStr kd no room)) })∧ ∃M2,setHeadP { M with dirty:=updI M.dirty no (some (pgStr kd no room)) } u f (headS R.way)=(0,M2)∧Rel M2 { R with way:=way',dirty:=markR R.dirty [(no:Int),0] } N G)∧
  (bigR R [(no:Int),0]=true→setP M no kd room=(10,M)∨ ∃D,setP M no kd room=(0, { M with dirty:=D })∧setHeadP { M with dirty:=D } u f (headS R.way)=(10, { M with dirty:=D })):=by
 have hnl:=(List.getElem?_eq_some_iff.1 hk).1
 have hkk:=hok.kinds no kd hk
 have hle:=hok.le
 have hb:=h.big
 have ha:=arg_yes (kd:=kd) (i:=no) hkk.1 hkk.2 (by omega)
 have hhead:headR u f (headS R.way)=headS way':=by rw[hu,hf];exact headS_rest h.way.r8 hrt
 have hhs:=headS_size hok.r8
 have hcn:=h.cnt
 have hfd:=h.dirty no
 have hfz:=h.dirty 0
 rw[isD_nat] at hfd
 have hfz:(M.dirty 0).isSome=R.dirty.getD 0 false:=by rw[hfz];exact isD_nat _ 0
 have hcnt:=h.cntDR
 have hroom:=h.room
 have hcs:cntD { M with dirty:=updI M.dirty no (some (pgStr kd no room)) }+(if (M.dirty no).isSome=true then 1 else 0)=cntD M+1:=by
  have:=cntI_set (p:=fun i=>(updI M.dirty (no:Int) (some (pgStr kd no room)) i).isSome) (q:=fun i=>(M.dirty i).isSome) (x:=no) (fun i hi=>by rw[updI_other _ _ hi]) 100000 (by omega)
  rw[updI_same] at this
  exact this
 generalize hC:cntD { M with dirty:=updI M.dirty no (some (pgStr kd no room)) }=C at hcs
 have hz0: ∀D:ByteArray,(updI M.dirty (no:Int) (some D) 0).isSome=(M.dirty 0).isSome:=fun D=>by rw[updI_other _ _ (by omega)]
 rw[bigR_two]
 constructor
 ·intro hbig
  have hbig':=hbig
  simp only[decide_eq_false_iff_not] at hbig'
  have hfit:(M.dirty no).isSome=true∨cntD M<M.room:=by
   rw[hfd,hcnt,hroom]
   cases hd:R.dirty.getD no false
   ·rw[hd] at hbig';right;simp at hbig';omega
   ·left;rfl
  refine⟨setP_yes _ _ _ ha (by omega) hfit, { M with dirty:=updI (updI M.dirty no (some (pgStr kd no room))) 0 (some (pgStr 1 0 (headS way'))) }, ?_, ?_⟩
  ·unfold setHeadP
   rw[hhead]
   refine setP_yes (M:= { M with dirty:=updI M.dirty no (some (pgStr kd no room)) }) _ _ _ arg_zero (by omega) ?_
   show(updI M.dirty (no:Int) _ 0).isSome=true∨cntD { M with dirty:=updI M.dirty no (some (pgStr kd no room)) }<M.room
   rw[hC,hz0,hfz,hroom]
   cases hd:R.dirty.getD 0 false
   ·right
    rw[hd] at hbig'
    rw[hfd] at hcs
    cases hd2:R.dirty.getD no false
    ·rw[hd2] at hbig' hcs
     simp at hbig' hcs
     omega
    ·rw[hd2] at hbig' hcs
     simp at hbig' hcs
     omega
   ·left;rfl
  ·exact h.two hno hok hk hr hrs hoth hlen (by rw[bigR_two];exact hbig)
 ·intro hbig
  simp only[decide_eq_true_iff] at hbig
  by_cases hfit:(M.dirty no).isSome=true∨cntD M<M.room
  ·right
   refine⟨_,setP_yes _ _ _ ha (by omega) hfit, ?_⟩
   unfold setHeadP
   rw[hhead]
   refine setP_big (M:= { M with dirty:=updI M.dirty no (some (pgStr kd no room)) }) _ _ _ arg_zero (by omega) ?_
   show¬((updI M.dirty (no:Int) _ 0).isSome=true∨cntD { M with dirty:=updI M.dirty no (some (pgStr kd no room)) }<M.room)
   rw[hC,hz0,hfz,hroom]
   rw[hfd] at hcs
   cases hd:R.dirty.getD 0 false
   ·rw[hd] at hbig
    cases hd2:R.dirty.getD no false
    ·rw[hd2] at hbig hcs
     simp at hbig hcs ⊢
     omega
    ·rw[hd2] at hbig hcs
     simp at hbig hcs ⊢
     omega
   ·rw[hd] at hbig
    rw[hfd,hcnt,hroom] at hfit
    cases hd2:R.dirty.getD no false
    ·rw[hd2] at hbig hfit
     simp at hbig hfit
     omega
    ·rw[hd2] at hbig
     simp at hbig
     omega
  ·left
   exact setP_big _ _ _ ha (by omega) hfit
end
end Go.Proofs.YtjgkegkinnlcoaaGreatDoor
namespace Go.Proofs.YtjgkegkinnlcoaaGreatDoor
open Go.RowKit
theorem fill4_text (x:Int):(fillR (S (leB x 4)) 496).extract 0 4=S (leB x 4):=by
 unfold fillR
 rw[data_S,extract_cut,cut_S,List.drop_zero,List.take_left' (leB_length _ _)]
theorem fill4_num {x:Int} (h0:0≤x) (h1:x≤4294967295):leN (cut (fillR (S (leB x 4)) 496) 0 4)=x:=by
 unfold fillR
 rw[data_S,cut_S,List.drop_zero,List.take_left' (leB_length _ _),leN_four _ h0 h1]
section
variable {M:PM} {R:RM} {N k:Nat} {G:Int}
theorem fixS_rooms (s:SM) {i:Nat} (h:i≠0):(fixS s).rooms[i]? =s.rooms[i]? :=set_other h
def AllocOk (x:Int × Int × PM) (y:Int × Int × RM) (N:Nat) (G:Int):Prop:=
 x.1=y.1∧x.2.1=y.2.1∧(y.2.1≠10→Rel x.2.2 y.2.2 N G)∧(y.2.1=10→Rel (abortP x.2.2) (abortR y.2.2) N G)
theorem Rel.alloc1 (h:Rel M R N G) {no:Nat} (hno:no≠0) {kind:Int} (k1:2≤kind) (k2:kind≤254) {way':SM} {u f:Int} (hp:pickP M=((no:Int),u,f,0)) (hu:u=way'.kinds.length) (hf:f=firstF way') (hrt:way'.roots=R.way.roots) (hok:StOk way' R.most) (hk:way'.kinds[no]? =some kind) (hr:way'.rooms[no]? =some (fillR ⟨#[]⟩ 496))
  (hoth: ∀(i:Nat) k r,i≠no→i≠0→way'.kinds[i]? =some k→way'.rooms[i]? =some r→R.way.kinds[i]? =some k∧R.way.rooms[i]? =some r) (hlen:R.way.kinds.length≤way'.kinds.length):
  AllocOk (allocP M kind) (if bigR R [(no:Int),0]=true then(0,10,R) else(no,0, { R with way:=way',dirty:=markR R.dirty [(no:Int),0] })) N G:=by
 have ho:=oursK_yes k1 k2
 obtain⟨s1,s2⟩:=h.sets hno hu hf hrt hok hk hr (by decide) hoth hlen
 have h0:(rdP M 0).2.1=headS R.way:=by rw[h.rd0]
 cases hbig:bigR R [(no:Int),0]
 ·obtain⟨e1,M2,e2,e3⟩:=s1 hbig
  rw[if_neg (by decide),alloc_head (t:=(0,M2)) ho hp e1 rfl (by rw[h0];exact e2),if_neg (by simp)]
  exact⟨rfl,rfl,fun _=>e3,fun e=>by cases e⟩
 ·rw[if_pos rfl]
  rcases s2 hbig with e|⟨D,e1,e2⟩
  ·rw[alloc_set ho hp e (by simp)]
   exact⟨rfl,rfl,fun e=>absurd rfl e,fun _=>h.abort⟩
  ·rw[alloc_head (t:=(10, { M with dirty:=D })) ho hp e1 rfl (by rw[h0];exact e2),if_pos (by simp)]
   exact⟨rfl,rfl,fun e=>absurd rfl e,fun _=>h.abort⟩
theorem Rel.alloc (h:Rel M R N G) (kind:Int):AllocOk (allocP M kind) (allocR R kind) N G:=by
 have hle:=h.way.le
 have hb:=h.big
 have hone:=h.way.one
 unfold allocR
 by_cases hk:kind<2∨254<kind
 ·rw[if_pos hk,alloc_not (oursK_no hk)]
  exact⟨rfl,rfl,fun _=>h,fun e=>by cases e⟩
 rw[if_neg hk]
 have hr0:=h.rd0
 have hus:=h.used
 have hfr:=h.fre
 cases hl:R.way.free.getLast? with
 |some f=>
  simp only
  obtain⟨l,hfree⟩:=List.getLast?_eq_some_iff.1 hl
  have hd:R.way.free.dropLast=l:=by rw[hfree];simp
  obtain⟨f1,f2,f3⟩:=h.way.fr f (by rw[hfree];simp)
  obtain⟨no,rfl⟩: ∃no:Nat,f=no:=⟨f.toNat,by omega⟩
  rw[Int.toNat_natCast] at f3
  have hfirst:firstF R.way=no:=by unfold firstF;rw[hl];rfl
  have hlink:=h.way.link l.length no (by rw[hfree];simp)
  rw[hfree,List.take_left' rfl,Int.toNat_natCast] at hlink
  obtain⟨prev,hprev⟩: ∃prev,prev=l.getLast?.getD 0:=⟨_,rfl⟩
  rw[←hprev] at hlink
  have hpb:0≤prev∧prev<lenR R:=by
   unfold lenR
   rw[hprev]
   cases e:l.getLast? with
   |none=>show(0:Int)≤0∧(0:Int)<_;omega
   |some g=>
    have:=h.way.fr g (by rw[hfree];simp[List.mem_of_getLast? e])
    show 0≤g∧g<_
    omega
  have hlb:lenR R≤65536:=by unfold lenR;omega
  have hrd:=h.rd f3 hlink
  have hp:pickP M=((no:Int),lenR R,prev,0):=by
   unfold pickP
   rw[hr0]
   simp only
   rw[if_neg (by simp),hfr,hfirst,if_pos (by omega),hrd]
   simp only
   rw[if_neg (by simp),fill4_text,fill4_num hpb.1 (by omega),hus,if_neg (by rintro (e|e|e);exact e rfl;exact e rfl;omega)]
  refine h.alloc1 (by omega) (by omega) (by omega) hp ?_ ?_ rfl (h.way.take hl (by omega) (by omega)) ?_ ?_ ?_ ?_
  ·show lenR R=((R.way.kinds.set no kind).length:Nat)
   rw[List.length_set];rfl
  ·show prev=(R.way.free.dropLast.getLast?).getD 0
   rw[hd,hprev]
  ·show(R.way.kinds.set no kind)[no]? =_
   exact set_same (by omega)
  ·show(fixS _).rooms[no]? =_
   rw[fixS_rooms _ (by omega)]
   show(R.way.rooms.set no _)[no]? =_
   exact set_same (by rw[h.way.lr];omega)
  ·intro i k r e e0 hk hr
   have hk:(R.way.kinds.set no kind)[i]? =some k:=hk
   have hr:(fixS { R.way with free:=R.way.free.dropLast,kinds:=R.way.kinds.set no kind,rooms:=R.way.rooms.set no (fillR ⟨#[]⟩ 496) }).rooms[i]? =some r:=hr
   rw[fixS_rooms _ e0] at hr
   have hr:(R.way.rooms.set no (fillR ⟨#[]⟩ 496))[i]? =some r:=hr
   rw[set_other e] at hk hr
   exact⟨hk,hr⟩
  ·show _≤(R.way.kinds.set no kind).length
   rw[List.length_set];exact Nat.le_refl _
 |none=>
  simp only
  have hfirst:firstF R.way=0:=by unfold firstF;rw[hl];rfl
  have hfree:R.way.free=[]:=List.getLast?_eq_none_iff.1 hl
  by_cases hfull:(R.most:Int)≤lenR R
  ·rw[if_pos hfull]
   have hp:pickP M=(0,0,0,8):=by
    unfold pickP
    rw[hr0]
    simp only
    rw[if_neg (by simp),hfr,hfirst,if_neg (by omega),hus,h.most,if_pos hfull]
   rw[alloc_err (oursK_yes (by omega) (by omega)) hp (by decide)]
   exact⟨rfl,rfl,fun _=>h,fun e=>by cases e⟩
  ·rw[if_neg hfull]
   have hp:pickP M=(lenR R,lenR R+1,0,0):=by
    unfold pickP
    rw[hr0]
    simp only
    rw[if_neg (by simp),hfr,hfirst,if_neg (by omega),hus,h.most,if_neg hfull]
   unfold lenR at hfull
   obtain⟨no,hn⟩: ∃no:Nat,no=R.way.kinds.length:=⟨_,rfl⟩
   have hln:lenR R=no:=by unfold lenR;rw[hn]
   rw[hln] at hp ⊢
   refine h.alloc1 (by omega) (by omega) (by omega) hp ?_ ?_ rfl (h.way.grow (by omega) (by omega) (by omega)) ?_ ?_ ?_ ?_
   ·show(no:Int)+1=((R.way.kinds++[kind]).length:Nat)
    rw[List.length_append,List.length_singleton];omega
   ·show 0=(R.way.free.getLast?).getD 0
    rw[hl];rfl
   ·show(R.way.kinds++[kind])[no]? =_
    rw[hn];simp
   ·show(fixS _).rooms[no]? =_
    rw[fixS_rooms _ (by omega)]
    show(R.way.rooms++[fillR ⟨#[]⟩ 496])[no]? =_
    rw[hn, ←h.way.lr];simp
   ·intro i k r e e0 hk hr
    have hk:(R.way.kinds++[kind])[i]? =some k:=hk
    have hr:(fixS { R.way with kinds:=R.way.kinds++[kind],rooms:=R.way.rooms++[fillR ⟨#[]⟩ 496] }).rooms[i]? =some r:=hr
    rw[fixS_rooms _ e0] at hr
    have hr:(R.way.rooms++[fillR ⟨#[]⟩ 496])[i]? =some r:=hr
    have hi:i<R.way.kinds.length:=by
     have:=(List.getElem?_eq_some_iff.1 hk).1
     rw[List.length_append,List.length_singleton] at this
     omega
    rw[List.getElem?_append_left hi] at hk
    rw[List.getElem?_append_left (by rw[h.way.lr];exact hi)] at hr
    exact⟨hk,hr⟩
   ·show _≤(R.way.kinds++[kind]).length
    rw[List.length_append];omega
theorem Rel.give (h:Rel M R N G) (no:Int):(freeP M no).1=(giveR R no).1∧((giveR R no).1≠10→Rel (freeP M no).2 (giveR R no).2 N G)∧((giveR R no).1=10→Rel (abortP (freeP M no).2) (abortR (giveR R no).2) N G):=by
 have hle:=h.way.le
 have hb:=h.big
 unfold freeP giveR
 by_cases hin:no<1∨lenR R≤no
 ·rw[if_pos hin,if_pos (by unfold withinP;rw[h.pages,decide_eq_false_iff_not];omega)]
  exact⟨rfl,fun _=>h,fun e=>by cases e⟩
 rw[if_neg hin,if_neg (by unfold withinP;rw[h.pages,Bool.not_eq_false,decide_eq_true_iff];omega)]
 obtain⟨n,rfl⟩: ∃n:Nat,no=n:=⟨no.toNat,by omega⟩
 rw[Int.toNat_natCast]
 unfold lenR at hin
 have hn1:n<R.way.kinds.length:=by omega
 obtain⟨kd,hkd⟩: ∃kd,R.way.kinds[n]? =some kd:=⟨R.way.kinds[n],List.getElem?_eq_getElem hn1⟩
 obtain⟨r,hr⟩: ∃r,R.way.rooms[n]? =some r:=⟨R.way.rooms[n]'(by rw[h.way.lr];exact hn1),List.getElem?_eq_getElem _⟩
 have hrd:=h.rd hkd hr
 have hgd:R.way.kinds.getD n 0=kd:=by rw[List.getD_eq_getElem?_getD,hkd];rfl
 rw[hgd,hrd,h.rd0]
 simp only[h.fre,h.used]
 rw[if_neg (by simp)]
 by_cases hk:kd=255
 ·rw[if_pos hk,if_pos hk]
  exact⟨rfl,fun _=>h,fun e=>by cases e⟩
 rw[if_neg hk,if_neg hk]
 obtain⟨s1,s2⟩:=h.sets (no:=n) (kd:=255) (room:=S (leB (firstF R.way) 4)) (way':=backS R.way n) (u:=lenR R) (f:=(n:Int)) (by omega) (by show lenR R=((R.way.kinds.set n 255).length:Nat);rw[List.length_set];rfl) (by show(n:Int)=((R.way.free++[(n:Int)]).getLast?).getD 0;simp) rfl (h.way.back (by omega) hn1 (by rw[hkd];intro e;injection e with e;exact hk e)) (by show(R.way.kinds.set n 255)[n]? =_;exact set_same hn1)
  (by
   show(fixS _).rooms[n]? =_
   rw[fixS_rooms _ (by omega)]
   show(R.way.rooms.set n _)[n]? =_
   exact set_same (by rw[h.way.lr];omega)) (by rw[S_size,leB_length];omega) (fun i k r e e0 hk hr=>by
   have hk:(R.way.kinds.set n 255)[i]? =some k:=hk
   have hr:(fixS { R.way with kinds:=R.way.kinds.set n 255,rooms:=R.way.rooms.set n (fillR (S (leB (firstF R.way) 4)) 496),free:=R.way.free++[(n:Int)] }).rooms[i]? =some r:=hr
   rw[fixS_rooms _ e0] at hr
   have hr:(R.way.rooms.set n (fillR (S (leB (firstF R.way) 4)) 496))[i]? =some r:=hr
   rw[set_other e] at hk hr
   exact⟨hk,hr⟩) (by show _≤(R.way.kinds.set n 255).length;rw[List.length_set];exact Nat.le_refl _)
 cases hbig:bigR R [(n:Int),0]
 ·obtain⟨e1,M2,e2,e3⟩:=s1 hbig
  rw[e1,if_neg (by simp),e2,if_neg (by decide)]
  exact⟨rfl,fun _=>e3,fun e=>by cases e⟩
 ·rw[if_pos rfl]
  rcases s2 hbig with e|⟨D,e1,e2⟩
  ·rw[e,if_pos (by simp)]
   exact⟨rfl,fun e=>absurd rfl e,fun _=>h.abort⟩
  ·rw[e1,if_neg (by simp),e2]
   exact⟨rfl,fun e=>absurd rfl e,fun _=>h.abort⟩
theorem Rel.setRoot (h:Rel M R N G) (i n:Int) (n0:0≤n) (n1:n≤18446744073709551615):(setRootP M i n).1=(setRootR R i n).1∧Rel (setRootP M i n).2 (setRootR R i n).2 N G:=by
 unfold setRootP setRootR
 by_cases hi:i<0∨7<i
 ·rw[if_pos hi,if_pos (by omega)]
  exact⟨rfl,h⟩
 rw[if_neg hi,if_neg (by omega),h.rd0]
 simp only
 rw[if_neg (by simp),headS_rootR h.way.r8 (by omega)]
 have hok:=h.way.root (i:=i.toNat) (n:=n) (by omega) n0 n1
 have hz:=headS_size hok.r8
 have hz:(headS { R.way with roots:=R.way.roots.set i.toNat n }).size=496:=hz
 cases hbig:bigR R [0]
 ·rw[if_neg (by decide),setP_yes _ _ _ arg_zero (by rw[hz];omega) ((h.fits 0).2 hbig)]
  refine⟨rfl, ?_⟩
  exact h.one (no:=0) (kd:=1) (room:=headS { R.way with roots:=R.way.roots.set i.toNat n }) hok h.way.kind0 (by rw[hok.room0,fillR_full hz];rfl) (by omega) (fun j k r e hk hr=>by
   have hr:(fixS { R.way with roots:=R.way.roots.set i.toNat n }).rooms[j]? =some r:=hr
   rw[fixS_rooms _ e] at hr
   exact⟨hk,hr⟩) (Nat.le_refl _) hbig
 ·rw[if_pos rfl,setP_big _ _ _ arg_zero (by rw[hz];omega) (fun hh=>by have:=(h.fits 0).1 hh;rw[show((0:Nat):Int)=0 from rfl,hbig] at this;cases this)]
  exact⟨rfl,h⟩
end
end Go.Proofs.YtjgkegkinnlcoaaGreatDoor
namespace Go.Proofs.YtjgkegkinnlcoaaGreatDoor
open Go.RowKit
section
variable {M:PM} {R:RM} {N k:Nat} {G:Int}
theorem LogIs.later {first H:Int} {ts:List TxD} (h:LogIs M N G first ts) (hG:G≤H) (hH:H≤4611686018427387904):LogIs M N H first ts:=
 ⟨h.up,h.wait,h.geo,h.most1,h.frm,h.lsize,h.dead,h.ldead,h.chain,h.lat,h.calm,h.hot,h.first0,Int.le_trans h.first1 hG,h.next0,Int.le_trans h.next1 hG,h.mark,h.other,h.gen1,Int.le_trans h.gen2 hG,hH⟩
theorem Rel.later {H:Int} (h:Rel M R N G) (hG:G≤H) (hH:H≤4611686018427387904):Rel M R N H:=by
 obtain⟨first,ts,hl⟩:=h.log
 exact⟨⟨first,ts,hl.later hG hH⟩,h.most,h.room,h.big,h.way,h.sure,h.vw,h.vs,h.dl,h.dirty,h.dway,h.cnt⟩
theorem Rel.opens (h:Rel M R N G) (hN:N≤65536) (room:Nat):openP M.m room=(0,some { abortP M with room:=room }):=by
 obtain⟨first,ts,hl⟩:=h.log
 exact hl.opens hN room h.abort.snd
end
theorem head_new:headS newS=fillR (S (leB 1 4)) 496:=by
 have e:headS newS=headS ⟨[1],[⟨#[]⟩],[],List.replicate 8 0⟩:=rfl
 rw[e,headS_eq rfl]
 unfold fillR
 rw[data_S,S_size,leB_length]
 congr 1
theorem format_rel {m:DM} {N k log:Nat} (h:UpM m N) (hk:DOk m k) (hN:N≤65536) (room:Nat) (hm:1≤mostI N log):
  (formatX m log).1=0∧openP (formatX m log).2 room=(0,some (newP (formatX m log).2 log (mostI N log) room))∧Rel (newP (formatX m log).2 log (mostI N log) room) (newR (mostI N log) room) N 1:=by
 obtain⟨a,b,c,d⟩:=format_up h hk room hm
 obtain⟨hs10,hgeo⟩:=mostI_geo hm
 have hst:=newS_ok (mostI N log) hm
 have hv:PgM (baseP (newP (formatX m log).2 log (mostI N log) room)) newS:=fun i kd r h1 h2=>by
  have hi:i=0:=by have:=(List.getElem?_eq_some_iff.1 h1).1;simp[newS,fixS] at this;exact this
  subst hi
  rw[hst.kind0] at h1
  rw[hst.room0] at h2
  have h1:=Option.some.inj h1
  have h2:=Option.some.inj h2
  rw[←h1, ←h2]
  rw[head_new,pgStr_fill (by rw[S_size,leB_length];omega)]
  show pgOf (formatX m log).2 (2+log+(0:Int).toNat*8)=_
  rw[show 2+log+(0:Int).toNat*8=2+log by simp,c]
  rfl
 have hr:Rel (newP (formatX m log).2 log (mostI N log) room) (newR (mostI N log) room) N 1:=by
  refine⟨⟨_,_,b⟩,rfl,rfl,by show mostI N log≤65536;omega,hst,hst,hv,hv,by simp[newR],fun i=> ?_,fun i hi=> ?_, ?_⟩
  ·show false=isD (List.replicate (mostI N log) false) i
   rw[isD_none]
  ·have hi:isD (List.replicate (mostI N log) false) i=true:=hi
   rw[isD_none] at hi;cases hi
  ·show((List.replicate (mostI N log) false).filter id).length≤_
   rw[cnt_none];exact Nat.zero_le _
 exact⟨a,hr.opens hN room,hr⟩
end Go.Proofs.YtjgkegkinnlcoaaGreatDoor
namespace Go.Proofs.YtjgkegkinnlcoaaGreatDoor
open Go.RowKit Go.Maps Go.Joins
structure PlayAt (w0 W:World) (b d lb pb hb:Nat) (FD FP:List Nat) (K:Nat) (M:PM):Prop where
 pin:PgIn W b d lb pb hb FD FP K 0 M
 fb:w0.heap.size≤b
 fl:w0.heap.size≤lb
 fh:w0.heap.size≤hb
 fd: ∀x∈FD,w0.heap.size≤x
 fp: ∀x∈FP,w0.heap.size≤x
 below:Below w0.heap.size w0 W
section
variable {w0 W W':World} {b d lb pb hb K J k:Nat} {FD FP:List Nat} {M M':PM}
theorem PlayAt.move (h:PlayAt w0 W b d lb pb hb FD FP K M) (hb':Below W.heap.size W W'):PlayAt w0 W' b d lb pb hb FD FP K M:=
 ⟨h.pin.below hb',h.fb,h.fl,h.fh,h.fd,h.fp,below_step hb' h.below⟩
theorem PlayAt.step (h:PlayAt w0 W b d lb pb hb FD FP K M) (s:PgStep W W' b d lb pb hb FD FP J 0 M'): ∃FP',PlayAt w0 W' b d lb pb hb FD FP' J M':=by
 obtain⟨FP',h1,t1,f1⟩:=s
 have hs:=h.below.size
 exact⟨FP',h1,h.fb,h.fl,h.fh,h.fd,fun x hx=>(f1 x hx).elim (h.fp x) (fun h=>by omega),h.below.trans (t1.below hs h.fp)⟩
theorem PlayAt.go (h:PlayAt w0 W b d lb pb hb FD FP K M) (s:PgGo W W' b d lb pb hb FD FP J k M') (hw:M'.m.wait=[]): ∃FD' FP',PlayAt w0 W' b d lb pb hb FD' FP' J M':=by
 obtain⟨FD',FP',h1,t1,f1,f2⟩:=s
 have hs:=h.below.size
 refine⟨FD',FP',h1.rek (h1.ok.disk.calm hw),h.fb,h.fl,h.fh,fun x hx=>(f1 x hx).elim (h.fd x) (fun h=>by omega),fun x hx=>(f2 x hx).elim (h.fp x) (fun h=>by omega),h.below.trans (t1.below hs (fun x hx=> ?_))⟩
 simp only[List.mem_cons,List.mem_append] at hx
 rcases hx with rfl|rfl|rfl|hx|hx
 ·exact h.fb
 ·exact h.fl
 ·exact h.fh
 ·exact h.fd x hx
 ·exact h.fp x hx
theorem play_new {v:Value} (hn:NewPg W W' d FD K 0 v M) (hfd: ∀x∈FD,w0.heap.size≤x) (hb1:Below w0.heap.size w0 W) (hb2:Below W.heap.size W W'): ∃b lb pb hb FP,v= .pointer (some ⟨b,0,none⟩)∧PlayAt w0 W' b d lb pb hb FD FP K M:=by
 obtain⟨b,lb,pb,hb,FP,rfl,h1,h2,h3,h4,h5⟩:=hn
 have hs:=hb1.size
 exact⟨b,lb,pb,hb,FP,rfl,h1,by omega,by omega,by omega,hfd,fun x hx=>Nat.le_trans hs (h5 x hx),below_step hb2 hb1⟩
end
theorem formatX_ok {m:DM} {N k log:Nat} (h:UpM m N) (hk:DOk m k) (hm:1≤mostI N log):DOk (formatX m log).2 0:=by
 obtain⟨a,b,c,d⟩:=format_up h hk 2 hm
 have o1:=fmtN_ok (x:=(0,m)) hk (2+log)
 have o2:DOk (putX (fmtN (0,m) (2+log)) (2+log) page0).2 (k+(2+log)+8):=putN_ok o1 (2+log) page0 8
 exact((o2.stepF.stepW (1:Int) (mkStr 1 (superT 1 log))).stepF).calm d
theorem formatP_yes {m:DM} {N log:Nat} (h:UpM m N) (hm:1≤mostI N log):formatP m log=formatX m log:=by
 unfold formatP
 rw[h.len,if_neg (by omega),Int.toNat_natCast]
end Go.Proofs.YtjgkegkinnlcoaaGreatDoor
namespace Go.Proofs.YtjgkegkinnlcoaaGreatDoor
open Go.RowKit Go.Maps Go.Joins
def pgBk (p lb hb:Nat) (FD FP:List Nat):List Nat:=p::lb::hb::(FD++FP)
def PgF (w0 w:World) (p K:Nat) (M:PM) (X:List Nat):Prop:= ∃d lb pb hb FD FP,PlayAt w0 w p d lb pb hb FD FP K M∧d=w0.drawn∧ ∀x∈X,x<w.heap.size∧x∉pgBk p lb hb FD FP
structure SameX (X:List Nat) (w w':World):Prop where
 size:w.heap.size≤w'.heap.size
 blk: ∀x∈X,w'.heap[x]? =w.heap[x]?
section
variable {w0 w w1 w':World} {p K J k:Nat} {M M':PM} {X Y:List Nat}
theorem SameX.refl (X:List Nat) (w:World):SameX X w w:=⟨Nat.le_refl _,fun _ _=>rfl⟩
theorem SameX.trans (h:SameX X w w1) (g:SameX X w1 w'):SameX X w w':=⟨Nat.le_trans h.size g.size,fun x hx=>(g.blk x hx).trans (h.blk x hx)⟩
theorem SameX.sub (h:SameX X w w') (hs: ∀y∈Y,y∈X):SameX Y w w':=⟨h.size,fun y hy=>h.blk y (hs y hy)⟩
theorem SameX.of_below (hb:Below w.heap.size w w') (hX: ∀x∈X,x<w.heap.size):SameX X w w':=⟨hb.size,fun x hx=>hb.block x (hX x hx)⟩
theorem SameX.cell (h:SameX X w w') {g o:Nat} (hg:g∈X):w'.cell? ⟨g,o,none⟩=w.cell? ⟨g,o,none⟩:=World.cell?_of_block (h.blk g hg)
theorem SameX.frozen (h:SameX X w w') {g o:Nat} (hg:g∈X):w'.frozen? ⟨g,o,none⟩=w.frozen? ⟨g,o,none⟩:=World.frozen?_of_block (h.blk g hg)
theorem PgF.below (h:PgF w0 w p K M X):Below w0.heap.size w0 w:=by
 obtain⟨d,lb,pb,hb,FD,FP,h,_⟩:=h
 exact h.below
theorem PgF.lt (h:PgF w0 w p K M X): ∀x∈X,x<w.heap.size:=by
 obtain⟨d,lb,pb,hb,FD,FP,_,_,h⟩:=h
 exact fun x hx=>(h x hx).1
theorem PgF.sub (h:PgF w0 w p K M X) (hs: ∀y∈Y,y∈X):PgF w0 w p K M Y:=by
 obtain⟨d,lb,pb,hb,FD,FP,h,hd,hx⟩:=h
 exact⟨d,lb,pb,hb,FD,FP,h,hd,fun y hy=>hx y (hs y hy)⟩
theorem PgF.mono (h:PgF w0 w p K M X) (hJ:K≤J):PgF w0 w p J M X:=by
 obtain⟨d,lb,pb,hb,FD,FP,h,hd,hx⟩:=h
 exact⟨d,lb,pb,hb,FD,FP, { h with pin:=h.pin.mono hJ },hd,hx⟩
theorem pgBk_lt {d lb pb hb:Nat} {FD FP:List Nat} (h:PgIn w p d lb pb hb FD FP K k M): ∀y∈pgBk p lb hb FD FP,y<w.heap.size:=fun y hy=>by
 obtain⟨a,b,c,e,f⟩:=h.lt
 simp only[pgBk,List.mem_cons,List.mem_append] at hy
 rcases hy with rfl|rfl|rfl|hy|hy
 ·exact a
 ·exact b
 ·exact c
 ·exact e y hy
 ·exact f y hy
theorem PgF.move (h:PgF w0 w p K M X) (hb':Below w.heap.size w w') (hY: ∀y∈Y,y∈X∨(w.heap.size≤y∧y<w'.heap.size)):PgF w0 w' p K M Y:=by
 obtain⟨d,lb,pb,hb,FD,FP,h,hd,hx⟩:=h
 have hs:=hb'.size
 refine⟨d,lb,pb,hb,FD,FP,h.move hb',hd,fun y hy=> ?_⟩
 rcases hY y hy with h1|⟨h1,h2⟩
 ·exact⟨Nat.lt_of_lt_of_le (hx y h1).1 hs,(hx y h1).2⟩
 ·exact⟨h2,fun hm=>by have:=pgBk_lt h.pin y hm;omega⟩
theorem PgF.touch {F:List Nat} (h:PgF w0 w p K M X) (t:Touch F w w') (hF: ∀x∈F,x∈X∧w0.heap.size≤x):PgF w0 w' p K M X:=by
 obtain⟨d,lb,pb,hb,FD,FP,h,hd,hx⟩:=h
 have hs:=h.below.size
 have hoff: ∀y∈pgBk p lb hb FD FP,y∉F:=fun y hy hm=>(hx y (hF y hm).1).2 hy
 refine⟨d,lb,pb,hb,FD,FP,⟨h.pin.touch t (hoff _ (by simp[pgBk])) (hoff _ (by simp[pgBk])) (hoff _ (by simp[pgBk])) (fun y hy=>hoff y (by simp[pgBk,hy])) (fun y hy=>hoff y (by simp[pgBk,hy])),h.fb,h.fl,h.fh,h.fd,h.fp,h.below.trans (t.below hs (fun x hx=>(hF x hx).2))⟩,hd,fun y hy=>⟨Nat.lt_of_lt_of_le (hx y hy).1 t.size,(hx y hy).2⟩⟩
theorem PgF.go {d lb pb hb:Nat} {FD FP:List Nat} (h:PlayAt w0 w p d lb pb hb FD FP K M) (hd:d=w0.drawn) (hx: ∀x∈X,x<w.heap.size∧x∉pgBk p lb hb FD FP) (s:PgGo w w' p d lb pb hb FD FP J k M') (hw:k=0∨M'.m.wait=[]):PgF w0 w' p J M' X∧SameX X w w':=by
 obtain⟨FD',FP',h1,t1,f1,f2⟩:=s
 have hs:=h.below.size
 have h1:PgIn w' p d lb pb hb FD' FP' J 0 M':=by
  rcases hw with rfl|hw
  ·exact h1
  ·exact h1.rek (h1.ok.disk.calm hw)
 have hge: ∀y∈pgBk p lb hb FD FP,w0.heap.size≤y:=fun y hy=>by
  simp only[pgBk,List.mem_cons,List.mem_append] at hy
  rcases hy with rfl|rfl|rfl|hy|hy
  ·exact h.fb
  ·exact h.fl
  ·exact h.fh
  ·exact h.fd y hy
  ·exact h.fp y hy
 refine⟨⟨d,lb,pb,hb,FD',FP',⟨h1,h.fb,h.fl,h.fh,fun y hy=>(f1 y hy).elim (h.fd y) (fun h=>Nat.le_trans hs h),fun y hy=>(f2 y hy).elim (h.fp y) (fun h=>Nat.le_trans hs h),h.below.trans (t1.below hs hge)⟩,hd,fun y hy=>⟨Nat.lt_of_lt_of_le (hx y hy).1 t1.size,fun hm=> ?_⟩⟩,⟨t1.size,fun y hy=>t1.block (hx y hy).1 (hx y hy).2⟩⟩
 obtain⟨h2,h3⟩:=hx y hy
 simp only[pgBk,List.mem_cons,List.mem_append,not_or] at hm h3
 rcases hm with hm|hm|hm|hm|hm
 ·exact h3.1 hm
 ·exact h3.2.1 hm
 ·exact h3.2.2.1 hm
 ·rcases f1 y hm with h|h
  ·exact h3.2.2.2.1 h
  ·omega
 ·rcases f2 y hm with h|h
  ·exact h3.2.2.2.2 h
  ·omega
theorem pf_read (h:PgF w0 w p K M X) (hs:Snd M) (hK:K≤1000000000000) (no:Int):
  Calls Tryz.prog 33 #[.pointer (some ⟨p,0,none⟩), .int .i64 no] w fun e w'=>e= .returned (.tuple #[.int .i64 (readP M no).1, .string (readP M no).2.1, .int .i64 (readP M no).2.2])∧PgF w0 w' p (K+4) M X∧SameX X w w':=by
 obtain⟨d,lb,pb,hb,FD,FP,h,hd,hx⟩:=h
 exact(Read_any h.pin hs (by omega) no).mono fun e w' ⟨he,s⟩=>⟨he,PgF.go h hd hx (PgGo.of_step s) (.inl rfl)⟩
theorem pf_root (h:PgF w0 w p K M X) (hK:K≤1000000000000) (i:Int):
  Calls Tryz.prog 34 #[.pointer (some ⟨p,0,none⟩), .int .i64 i] w fun e w'=>e= .returned (.tuple #[.int .u64 (rootP M i).1, .int .i64 (rootP M i).2])∧PgF w0 w' p (K+2) M X∧SameX X w w':=by
 obtain⟨d,lb,pb,hb,FD,FP,h,hd,hx⟩:=h
 exact(Root_any h.pin (by omega) i).mono fun e w' ⟨he,s⟩=>⟨he,PgF.go h hd hx (PgGo.of_step s) (.inl rfl)⟩
theorem pf_write (h:PgF w0 w p K M X) (hs:Snd M) (hK:K≤1000000000000) (no kind:Int) (r:ByteArray):
  Calls Tryz.prog 24 #[.pointer (some ⟨p,0,none⟩), .int .i64 no, .int .i64 kind, .string r] w fun e w'=>e= .returned (.int .i64 (writeP M no kind r).1)∧PgF w0 w' p (K+4) (writeP M no kind r).2 X∧SameX X w w':=by
 obtain⟨d,lb,pb,hb,FD,FP,h,hd,hx⟩:=h
 exact(Write_any h.pin hs (by omega) no kind r).mono fun e w' ⟨he,s⟩=>⟨he,PgF.go h hd hx (PgGo.of_step s) (.inl rfl)⟩
theorem pf_alloc (h:PgF w0 w p K M X) (hs:Snd M) (hK:K≤1000000000000) (kind:Int):
  Calls Tryz.prog 23 #[.pointer (some ⟨p,0,none⟩), .int .i64 kind] w fun e w'=>e= .returned (.tuple #[.int .i64 (allocP M kind).1, .int .i64 (allocP M kind).2.1])∧PgF w0 w' p (K+8) (allocP M kind).2.2 X∧SameX X w w':=by
 obtain⟨d,lb,pb,hb,FD,FP,h,hd,hx⟩:=h
 exact(Alloc_any h.pin hs (by omega) kind).mono fun e w' ⟨he,s⟩=>⟨he,PgF.go h hd hx (PgGo.of_step s) (.inl rfl)⟩
theorem pf_setRoot (h:PgF w0 w p K M X) (hK:K≤1000000000000) (i n:Int) (n0:0≤n):
  Calls Tryz.prog 25 #[.pointer (some ⟨p,0,none⟩), .int .i64 i, .int .u64 n] w fun e w'=>e= .returned (.int .i64 (setRootP M i n).1)∧PgF w0 w' p (K+4) (setRootP M i n).2 X∧SameX X w w':=by
 obtain⟨d,lb,pb,hb,FD,FP,h,hd,hx⟩:=h
 exact(SetRoot_any h.pin (by omega) i n n0).mono fun e w' ⟨he,s⟩=>⟨he,PgF.go h hd hx (PgGo.of_step s) (.inl rfl)⟩
end
end Go.Proofs.YtjgkegkinnlcoaaGreatDoor
namespace Go.Proofs.YtjgkegkinnlcoaaGreatDoor
open Go.RowKit
section
variable {M:PM}
theorem rdP_dn (h:M.m.down=true) (no:Int):(rdP M no).2.2=11:=by unfold rdP;rw[if_pos h]
theorem setP_m (no kind:Int) (r:ByteArray):(setP M no kind r).2.m=M.m:=by
 unfold setP
 split
 ·rfl
 ·split
  ·rfl
  ·split<;>rfl
theorem setP_rd (no kind:Int) (r:ByteArray) {i:Int} (hi:i≠no):rdP (setP M no kind r).2 i=rdP M i:=by
 have hv:viewP (setP M no kind r).2 i=viewP M i:=by
  unfold setP
  split
  ·rfl
  ·split
   ·rfl
   ·split
    ·simp only
     rw[viewP_upd,if_neg hi]
    ·rfl
 unfold rdP
 rw[setP_m,hv]
theorem setP_most' (no kind:Int) (r:ByteArray):(setP M no kind r).2.most=M.most:=by
 unfold setP
 split
 ·rfl
 ·split
  ·rfl
  ·split<;>rfl
theorem setP_zero (r:ByteArray) (hd:M.m.down=false):rdP (setP M 0 1 r).2 0=rdP M 0∨rdP (setP M 0 1 r).2 0=(1,fillR r 496,0):=by
 unfold setP
 rw[if_neg (by decide)]
 split
 ·exact .inl rfl
 ·rename_i hr
  split
  ·right
   obtain⟨u1,u2,u3⟩:=un_pg 1 0 r (by decide) (by omega)
   unfold rdP
   rw[if_neg (by simp[hd])]
   simp only
   rw[viewP_upd,if_pos rfl,u1,u2,u3]
  ·exact .inl rfl
theorem Snd.of_rd {M':PM} (h:Snd M) (e:rdP M' 0=rdP M 0) (hm:M'.most=M.most):Snd M':=by
 unfold Snd at h ⊢
 rw[e,hm]
 exact h
theorem Snd.set (h:Snd M) {no kind:Int} {r:ByteArray} (hno:no≠0):Snd (setP M no kind r).2:=h.of_rd (setP_rd no kind r (fun e=>hno e.symm)) (setP_most' no kind r)
theorem used_fill {u f:Int} {rest:List UInt8} (u0:0≤u) (u1:u≤4294967295) (f0:0≤f) (f1:f≤4294967295):usedR (fillR (S (leB u 4++(leB f 4++rest))) 496)=u∧freeR (fillR (S (leB u 4++(leB f 4++rest))) 496)=f:=by
 unfold usedR freeR fillR
 rw[data_S,List.append_assoc,List.append_assoc,cut_S,cut_S,List.drop_zero,List.take_left' (leB_length _ _),List.drop_left' (leB_length _ _),List.take_left' (leB_length _ _)]
 exact⟨leN_four u u0 u1,leN_four f f0 f1⟩
theorem Snd.head (h:Snd M) {u f:Int} {r:ByteArray} (hm:M.most≤65536) (u0:1≤u) (u1:u≤M.most) (f0:0≤f) (f1:f<u):Snd (setHeadP M u f r).2:=by
 unfold setHeadP
 cases hd:M.m.down
 ·rcases setP_zero (M:=M) (headR u f r) hd with e|e
  ·exact h.of_rd e (setP_most' _ _ _)
  ·unfold Snd
   rw[e,setP_most']
   intro _
   simp only
   unfold headR
   obtain⟨a,b⟩:=used_fill (u:=u) (f:=f) (rest:=(r.extract 8 r.size).data.toList) (by omega) (by omega) f0 (by omega)
   rw[a,b]
   exact⟨u0,u1,f1⟩
 ·intro e
  rw[rdP_dn (by rw[setP_m];exact hd)] at e
  cases e
theorem Snd.write (h:Snd M) (no kind:Int) (r:ByteArray):Snd (writeP M no kind r).2:=by
 unfold writeP
 split
 ·rename_i hw
  have:=hw.1
  unfold withinP at this
  rw[decide_eq_true_iff] at this
  exact h.set (by omega)
 ·exact h
theorem freeR_bds (r:ByteArray):0≤freeR r∧freeR r<4294967296:=cut_bd4 r 4
theorem Snd.alloc (h:Snd M) (hm:M.most≤65536) (kind:Int):Snd (allocP M kind).2.2:=by
 unfold allocP
 split
 ·exact h
 ·simp only
  have hp:(pickP M).2.2.2=0→(pickP M).1≠0∧1≤(pickP M).2.1∧(pickP M).2.1≤M.most∧0≤(pickP M).2.2.1∧(pickP M).2.2.1<(pickP M).2.1:=by
   unfold pickP
   split
   ·intro e;rename_i he;exact absurd e he
   ·rename_i he
    have he:(rdP M 0).2.2=0:=by simpa using he
    obtain⟨a,b,c⟩:=h he
    simp only
    split
    ·rename_i hf
     split
     ·intro e;rename_i he2;exact absurd e he2
     ·split
      ·intro e;cases e
      ·rename_i hn
       intro _
       have hb:=cut_bd4 (rdP M (freeR (rdP M 0).2.1)).2.1 0
       simp only[not_or,Int.not_le] at hn
       exact⟨by omega,a,b,hb.1,hn.2.2⟩
    ·rename_i hf
     split
     ·intro e;cases e
     ·rename_i hu
      intro _
      exact⟨by simp only;omega,by simp only;omega,by simp only;omega,by simp,by simp only;omega⟩
  split
  ·exact h
  ·rename_i hq
   obtain⟨q1,q2,q3,q4,q5⟩:=hp (by simpa using hq)
   have h1:Snd (setP M (pickP M).1 kind ⟨#[]⟩).2:=h.set q1
   split
   ·exact h1
   ·have h2:Snd (setHeadP (setP M (pickP M).1 kind ⟨#[]⟩).2 (pickP M).2.1 (pickP M).2.2.1 (rdP M 0).2.1).2:=h1.head (by rw[setP_most'];exact hm) q2 (by rw[setP_most'];exact q3) q4 q5
    split
    ·exact h2
    ·exact h2
theorem Snd.free (h:Snd M) (hm:M.most≤65536) (no:Int):Snd (freeP M no).2:=by
 unfold freeP
 split
 ·exact h
 ·rename_i hw
  have hw:withinP M no=true:=by simpa using hw
  obtain⟨a,b,c,d⟩:=within_facts h hw
  obtain⟨e,f,g⟩:=h c
  split
  ·exact h
  ·split
   ·exact h
   ·simp only
    have h1:Snd (setP M no 255 (S (leB (freeR (rdP M 0).2.1) 4))).2:=h.set (by omega)
    split
    ·exact h1
    ·exact h1.head (by rw[setP_most'];exact hm) e (by rw[setP_most'];exact f) (by omega) d
theorem Snd.setRoot (h:Snd M) (i n:Int) (hv:(rdP M 0).2.2=0→(rdP M 0).2.1.size=496):Snd (setRootP M i n).2:=by
 unfold setRootP
 split
 ·exact h
 ·rename_i hi
  split
  ·exact h
  ·rename_i he
   have he:(rdP M 0).2.2=0:=by simpa using he
   have hz:=hv he
   cases hd:M.m.down
   ·rcases setP_zero (M:=M) (rootR (rdP M 0).2.1 i.toNat n) hd with e|e
    ·exact h.of_rd e (setP_most' _ _ _)
    ·unfold Snd
     rw[e,setP_most']
     intro _
     simp only
     have hc: ∀a,a+4≤8→cut (fillR (rootR (rdP M 0).2.1 i.toNat n) 496) a 4=cut (rdP M 0).2.1 a 4:=fun a ha=>by
      unfold fillR rootR
      rw[data_S,extract_cut,data_S,cut_S]
      have hl:(cut (rdP M 0).2.1 0 (8+8*i.toNat - 0)).length=8+8*i.toNat:=by rw[Nat.sub_zero,cut_length _ _ _ (by omega)]
      rw[List.append_assoc,List.drop_append_of_le_length (by omega),List.take_append_of_le_length (by rw[List.length_drop];omega)]
      unfold cut
      rw[List.drop_zero,List.drop_take,List.take_take,Nat.min_eq_left (by omega)]
     unfold usedR freeR
     rw[hc 0 (by omega),hc 4 (by omega)]
     exact h he
   ·intro e
    rw[rdP_dn (by rw[setP_m];exact hd)] at e
    cases e
end
end Go.Proofs.YtjgkegkinnlcoaaGreatDoor
namespace Go.Proofs.YtjgkegkinnlcoaaGreatDoor
open Go.RowKit
structure NdOk (n:ND):Prop where
 k1:1≤n.keys.length
 ris:risL n.keys=true
 kb: ∀k∈n.keys,0≤k∧k≤18446744073709551615
 leafs:n.leaf=true→n.kids=[]∧n.vals.length=n.keys.length∧n.keys.length≤30∧ ∀v∈n.vals,0≤v∧v≤18446744073709551615
 forks:n.leaf=false→n.vals=[]∧n.kids.length=n.keys.length+1∧n.keys.length≤40∧ ∀v∈n.kids,0<v∧v≤4294967295
theorem flatw_get {w:Nat}: ∀ {bs:List (List UInt8)} (h: ∀b∈bs,b.length=w) {i:Nat} {b:List UInt8} (hi:bs[i]? =some b) (rest:List UInt8),((bs.flatten++rest).drop (w*i)).take w=b
 | [],_,i,b,hi,_=>by simp at hi
 |c::bs,h,0,b,hi,rest=>by
  simp at hi;subst hi
  have hc:=h c (by simp)
  rw[List.flatten_cons,Nat.mul_zero,List.drop_zero,List.append_assoc,List.take_left' hc]
 |c::bs,h,i+1,b,hi,rest=>by
  have hc:=h c (by simp)
  rw[List.flatten_cons,List.append_assoc,show w*(i+1)=c.length+w*i by rw[hc,Nat.mul_succ];omega, ←List.drop_drop,List.drop_left' rfl]
  exact flatw_get (fun b hb=>h b (by simp[hb])) (by simpa using hi) rest
theorem flat_len {w:Nat}: ∀ {bs:List (List UInt8)} (h: ∀b∈bs,b.length=w),bs.flatten.length=w*bs.length
 | [],_=>by simp
 |c::bs,h=>by
  rw[List.flatten_cons,List.length_append,h c (by simp),flat_len (fun b hb=>h b (by simp[hb])),List.length_cons,Nat.mul_succ];omega
theorem pairB_len (k v:Int) (n:Nat):(prB k v n).length=8+n:=by unfold prB;rw[List.length_append,leB_length,leB_length]
theorem pairs_len {ks vs:List Int} {n:Nat}: ∀b∈List.zipWith (fun k v=>prB k v n) ks vs,b.length=8+n:=fun b hb=>by
 rw[List.mem_iff_getElem?] at hb
 obtain⟨i,hi⟩:=hb
 rw[List.getElem?_zipWith] at hi
 split at hi
 ·injection hi with hi;rw[←hi];exact pairB_len _ _ _
 ·cases hi
theorem pairs_get {ks vs:List Int} {n i:Nat} {k v:Int} (hk:ks[i]? =some k) (hv:vs[i]? =some v):(List.zipWith (fun k v=>prB k v n) ks vs)[i]? =some (prB k v n):=by
 rw[List.getElem?_zipWith,hk,hv]
theorem ndB_len_leaf {n:ND} (h:NdOk n) (hl:n.leaf=true):(ndB n).length=2+16*n.keys.length:=by
 obtain⟨-,h2, -, -⟩:=h.leafs hl
 unfold ndB
 rw[if_pos hl,List.length_append,leB_length,flat_len pairs_len,List.length_zipWith,h2,Nat.min_self]
theorem ndB_len_fork {n:ND} (h:NdOk n) (hl:n.leaf=false):(ndB n).length=6+12*n.keys.length:=by
 obtain⟨-,h2, -, -⟩:=h.forks hl
 unfold ndB
 rw[if_neg (by rw[hl];decide),List.length_append,leB_length,List.length_append,leB_length,flat_len pairs_len,List.length_zipWith,List.length_tail,h2,Nat.add_sub_cancel,Nat.min_self]
 omega
theorem ndB_size {n:ND} (h:NdOk n):(ndB n).length≤496:=by
 cases hl:n.leaf
 ·rw[ndB_len_fork h hl];have:=(h.forks hl).2.2.1;omega
 ·rw[ndB_len_leaf h hl];have:=(h.leafs hl).2.2.1;omega
theorem ndB_data (n:ND): ∃rest,(fillR (S (ndB n)) 496).data.toList=ndB n++rest:=⟨_,by unfold fillR;rw[data_S,data_S]⟩
theorem leN_leB2 (x:Int) (h0:0≤x) (h1:x≤65535):leN (leB x 2)=x:=by rw[leN_leB 2 x h0];omega
theorem map_range_get {l:List Int} {f:Nat→Int} (h: ∀(i:Nat) x,l[i]? =some x→f i=x):(List.range l.length).map f=l:=by
 apply List.ext_getElem?
 intro i
 rw[List.getElem?_map]
 by_cases hi:i<l.length
 ·rw[List.getElem?_range hi,List.getElem?_eq_getElem hi]
  show some (f i)=_
  rw[h i _ (List.getElem?_eq_getElem hi)]
 ·rw[List.getElem?_eq_none (by simpa using hi),List.getElem?_eq_none (by simpa using hi)];rfl
theorem cut_at {r:ByteArray} {A B:List UInt8} (h:r.data.toList=A++B) {a k m:Nat} (hm:A.length=m):cut r (m+a) k=(B.drop a).take k:=by
 unfold cut
 rw[h, ←hm, ←List.drop_drop,List.drop_left' rfl]
theorem nd_round {n:ND} (h:NdOk n):ndOf (ndK n) (fillR (S (ndB n)) 496)=n∧ndC (ndK n) (fillR (S (ndB n)) 496)=true:=by
 obtain⟨rest,hr⟩:=ndB_data n
 generalize fillR (S (ndB n)) 496=r at hr
 have hk0:=h.k1
 have hkl:n.keys.length≤40:=by
  cases hl:n.leaf
  ·exact(h.forks hl).2.2.1
  ·exact Nat.le_trans (h.leafs hl).2.2.1 (by decide)
 cases hl:n.leaf
 ·obtain⟨h1,h2,h3,h4⟩:=h.forks hl
  obtain⟨k0,tl,hkd⟩: ∃k0 tl,n.kids=k0::tl:=by
   cases hk:n.kids with
   |nil=>rw[hk] at h2;simp at h2
   |cons a b=>exact⟨a,b,rfl⟩
  have htl:tl.length=n.keys.length:=by rw[hkd] at h2;simpa using h2
  have hnb:ndB n=leB n.keys.length 2++(leB k0 4++(List.zipWith (fun k v=>prB k v 4) n.keys tl).flatten):=by
   unfold ndB
   rw[if_neg (by rw[hl];decide),hkd];rfl
  have hd1:r.data.toList=leB n.keys.length 2++(leB k0 4++((List.zipWith (fun k v=>prB k v 4) n.keys tl).flatten++rest)):=by rw[hr,hnb];simp only[List.append_assoc]
  have hd2:r.data.toList=(leB n.keys.length 2++leB k0 4)++((List.zipWith (fun k v=>prB k v 4) n.keys tl).flatten++rest):=by rw[hd1];simp only[List.append_assoc]
  have hc:leN (cut r 0 2)=(n.keys.length:Int):=by
   unfold cut
   rw[hd1,List.drop_zero,List.take_left' (leB_length _ _),leN_leB2 _ (by omega) (by omega)]
  have hk0':leN (cut r 2 4)=k0:=by
   have:=h4 k0 (by rw[hkd];simp)
   rw[show 2=2+0 from rfl,cut_at hd1 (leB_length _ _),List.drop_zero,List.take_left' (leB_length _ _),leN_four _ (by omega) this.2]
  have hpair: ∀(i:Nat) k v,n.keys[i]? =some k→tl[i]? =some v→cut r (6+12*i) 12=prB k v 4:=fun i k v e1 e2=>by
   rw[cut_at hd2 (by rw[List.length_append,leB_length,leB_length])]
   exact flatw_get (w:=12) (pairs_len (n:=4)) (pairs_get (n:=4) e1 e2) rest
  have hsub: ∀(a j k m:Nat),j+k≤m→cut r (a+j) k=((cut r a m).drop j).take k:=fun a j k m hm=>by
   unfold cut
   rw[List.drop_take,List.drop_drop,List.take_take,Nat.min_eq_left (by omega)]
  have hkeys: ∀(i:Nat) k,n.keys[i]? =some k→leN (cut r (6+12*i) 8)=k:=fun i k e=>by
   have hi:=(List.getElem?_eq_some_iff.1 e).1
   have e2:tl[i]? =some (tl[i]'(by omega)):=List.getElem?_eq_getElem _
   have hb:=h.kb k (List.mem_of_getElem? e)
   rw[show 6+12*i=(6+12*i)+0 from rfl,hsub _ 0 8 12 (by omega),hpair i _ _ e e2,List.drop_zero]
   unfold prB
   rw[List.take_left' (leB_length _ _),leN_leB8 _ hb.1 hb.2]
  have hkids: ∀(i:Nat) v,tl[i]? =some v→leN (cut r (14+12*i) 4)=v:=fun i v e=>by
   have hi:=(List.getElem?_eq_some_iff.1 e).1
   have e2:n.keys[i]? =some (n.keys[i]'(by omega)):=List.getElem?_eq_getElem _
   have hb:=h4 v (by rw[hkd];exact List.mem_cons_of_mem _ (List.mem_of_getElem? e))
   rw[show 14+12*i=(6+12*i)+8 by omega,hsub _ 8 4 12 (by omega),hpair i _ _ e2 e]
   unfold prB
   rw[List.drop_left' (leB_length _ _),List.take_of_length_le (by rw[leB_length];omega),leN_four _ (by omega) hb.2]
  have hK:ndK n=3:=by unfold ndK;rw[if_neg (by rw[hl];decide)]
  refine⟨?_, ?_⟩
  ·unfold ndOf
   rw[hK,if_neg (by decide),hc,Int.toNat_natCast,map_range_get hkeys,hk0', ←htl,map_range_get hkids, ←hkd, ←hl, ←h1]
  ·unfold ndC
   rw[hK,hc]
   simp
   omega
 ·obtain⟨h1,h2,h3,h4⟩:=h.leafs hl
  have hnb:ndB n=leB n.keys.length 2++(List.zipWith (fun k v=>prB k v 8) n.keys n.vals).flatten:=by
   unfold ndB
   rw[if_pos hl]
  have hd2:r.data.toList=leB n.keys.length 2++((List.zipWith (fun k v=>prB k v 8) n.keys n.vals).flatten++rest):=by rw[hr,hnb];simp only[List.append_assoc]
  have hc:leN (cut r 0 2)=(n.keys.length:Int):=by
   unfold cut
   rw[hd2,List.drop_zero,List.take_left' (leB_length _ _),leN_leB2 _ (by omega) (by omega)]
  have hpair: ∀(i:Nat) k v,n.keys[i]? =some k→n.vals[i]? =some v→cut r (2+16*i) 16=prB k v 8:=fun i k v e1 e2=>by
   rw[cut_at hd2 (leB_length _ _)]
   exact flatw_get (w:=16) (pairs_len (n:=8)) (pairs_get (n:=8) e1 e2) rest
  have hsub: ∀(a j k m:Nat),j+k≤m→cut r (a+j) k=((cut r a m).drop j).take k:=fun a j k m hm=>by
   unfold cut
   rw[List.drop_take,List.drop_drop,List.take_take,Nat.min_eq_left (by omega)]
  have hkeys: ∀(i:Nat) k,n.keys[i]? =some k→leN (cut r (2+16*i) 8)=k:=fun i k e=>by
   have hi:=(List.getElem?_eq_some_iff.1 e).1
   have e2:n.vals[i]? =some (n.vals[i]'(by omega)):=List.getElem?_eq_getElem _
   have hb:=h.kb k (List.mem_of_getElem? e)
   rw[show 2+16*i=(2+16*i)+0 from rfl,hsub _ 0 8 16 (by omega),hpair i _ _ e e2,List.drop_zero]
   unfold prB
   rw[List.take_left' (leB_length _ _),leN_leB8 _ hb.1 hb.2]
  have hvals: ∀(i:Nat) v,n.vals[i]? =some v→leN (cut r (10+16*i) 8)=v:=fun i v e=>by
   have hi:=(List.getElem?_eq_some_iff.1 e).1
   have e2:n.keys[i]? =some (n.keys[i]'(by omega)):=List.getElem?_eq_getElem _
   have hb:=h4 v (List.mem_of_getElem? e)
   rw[show 10+16*i=(2+16*i)+8 by omega,hsub _ 8 8 16 (by omega),hpair i _ _ e2 e]
   unfold prB
   rw[List.drop_left' (leB_length _ _),List.take_of_length_le (by rw[leB_length];omega),leN_leB8 _ hb.1 hb.2]
  have hK:ndK n=2:=by unfold ndK;rw[if_pos hl]
  refine⟨?_, ?_⟩
  ·unfold ndOf
   rw[hK,if_pos rfl,hc,Int.toNat_natCast,map_range_get hkeys, ←h2,map_range_get hvals, ←hl, ←h1]
  ·unfold ndC
   rw[hK,hc]
   simp
   omega
theorem ndRead_of {M:PM} {no:Int} {n:ND} (h:NdOk n) (hr:readP M no=(ndK n,fillR (S (ndB n)) 496,0)):ndRead M no=(0,n):=by
 obtain⟨e1,e2⟩:=nd_round h
 unfold ndRead
 rw[hr]
 simp only
 rw[if_neg (by simp),e2,if_neg (by decide),e1,if_pos]
 unfold ndOkB
 rw[h.ris]
 have h0:n.kids.contains 0=false:=by
  cases hl:n.leaf
  ·rw[List.contains_eq_mem,decide_eq_false_iff_not]
   intro hm
   have:=(h.forks hl).2.2.2 0 hm
   omega
  ·rw[(h.leafs hl).1];rfl
 rw[h0]
 simp
end Go.Proofs.YtjgkegkinnlcoaaGreatDoor
namespace Go.Proofs.YtjgkegkinnlcoaaGreatDoor
open Go.RowKit
def insP (key val:Int) (l:List (Int × Int)):List (Int × Int):=l.filter (fun p=>decide (p.1<key))++(key,val)::l.filter (fun p=>decide (key<p.1))
def delP (key:Int) (l:List (Int × Int)):List (Int × Int):=l.filter (fun p=>decide (p.1≠key))
def RisP (l:List (Int × Int)):Prop:=l.Pairwise (fun a b=>a.1<b.1)
theorem risL_iff: ∀ {l:List Int},risL l=true↔l.Pairwise (· < ·)
 | []=>by simp[risL]
 | [x]=>by simp[risL]
 |x::y::l=>by
  have ih:= @risL_iff (y::l)
  rw[List.pairwise_cons]
  unfold risL
  rw[Bool.and_eq_true,ih]
  simp only[decide_eq_true_eq]
  refine⟨fun⟨a,b⟩=>⟨fun z hz=> ?_,b⟩,fun⟨a,b⟩=>⟨a y (by simp),b⟩⟩
  rcases List.mem_cons.1 hz with rfl|hz
  ·exact a
  ·exact Int.lt_trans a ((List.pairwise_cons.1 b).1 z hz)
theorem filter_all {α:Type} {l:List α} {p:α→Bool} (h: ∀x∈l,p x=true):l.filter p=l:=List.filter_eq_self.2 h
theorem filter_no {α:Type} {l:List α} {p:α→Bool} (h: ∀x∈l,p x=false):l.filter p=[]:=List.filter_eq_nil_iff.2 (fun x hx=>by rw[h x hx];decide)
theorem ris_split (key:Int): ∀ {l:List Int},l.Pairwise (· < ·)→ ∃A B,l=A++B∧A.length=posL l key∧(∀a∈A,a<key)∧(∀b∈B,key≤b)
 | [],_=>⟨[],[],rfl,rfl,by simp,by simp⟩
 |x::l,h=>by
  obtain⟨h1,h2⟩:=List.pairwise_cons.1 h
  by_cases hx:x<key
  ·obtain⟨A,B,rfl,e,a,b⟩:=ris_split key h2
   refine⟨x::A,B,rfl, ?_, ?_,b⟩
   ·unfold posL at e ⊢
    rw[List.filter_cons,if_pos (by simpa using hx),List.length_cons,List.length_cons,e]
   ·intro y hy
    rcases List.mem_cons.1 hy with rfl|hy
    ·exact hx
    ·exact a y hy
  ·refine⟨[],x::l,rfl, ?_,by simp, ?_⟩
   ·unfold posL
    rw[filter_no (l:=x::l) (fun y hy=>by
     rcases List.mem_cons.1 hy with rfl|hy
     ·simpa using hx
     ·have:=h1 y hy;simp;omega)]
   ·intro y hy
    rcases List.mem_cons.1 hy with rfl|hy
    ·omega
    ·have:=h1 y hy;omega
theorem ris_has {key:Int} {l:List Int} (h:l.Pairwise (· < ·)) (hh:hasL l key=true): ∃A B,l=A++key::B∧A.length=posL l key∧(∀a∈A,a<key)∧ ∀b∈B,key<b:=by
 obtain⟨A,B,rfl,e,a,b⟩:=ris_split key h
 have hm:key∈A++B:=by unfold hasL at hh;rwa [List.contains_eq_mem,decide_eq_true_iff] at hh
 have hB:key∈B:=by
  rcases List.mem_append.1 hm with hm|hm
  ·have:=a key hm;omega
  ·exact hm
 obtain⟨-,h2,h3⟩:=List.pairwise_append.1 h
 cases B with
 |nil=>cases hB
 |cons x B=>
  obtain⟨h4,h5⟩:=List.pairwise_cons.1 h2
  have hx:x=key:=by
   rcases List.mem_cons.1 hB with hB|hB
   ·exact hB.symm
   ·have:=h4 key hB;have:=b x (by simp);omega
  subst hx
  exact⟨A,B,rfl,e,a,h4⟩
theorem ris_hasnt {key:Int} {l:List Int} (h:l.Pairwise (· < ·)) (hh:hasL l key=false): ∃A B,l=A++B∧A.length=posL l key∧(∀a∈A,a<key)∧ ∀b∈B,key<b:=by
 obtain⟨A,B,rfl,e,a,b⟩:=ris_split key h
 refine⟨A,B,rfl,e,a,fun x hx=> ?_⟩
 have hm:key∉A++B:=by unfold hasL at hh;rwa [List.contains_eq_mem,decide_eq_false_iff_not] at hh
 have:=b x hx
 have:x≠key:=fun e=>hm (by rw[←e];simp[hx])
 omega
theorem ris_place {key:Int} {n:ND} (h:n.keys.Pairwise (· < ·)): ∃A B,n.keys=A++B∧A.length=placeN n key∧(∀a∈A,a≤key)∧ ∀b∈B,key<b:=by
 unfold placeN
 cases hh:hasL n.keys key
 ·obtain⟨A,B,e1,e2,a,b⟩:=ris_hasnt h hh
  exact⟨A,B,e1,by rw[e2];simp,fun x hx=>Int.le_of_lt (a x hx),b⟩
 ·obtain⟨A,B,e1,e2,a,b⟩:=ris_has h hh
  refine⟨A++[key],B,by rw[e1];simp,by rw[List.length_append,e2];simp,fun x hx=> ?_,b⟩
  rcases List.mem_append.1 hx with hx|hx
  ·exact Int.le_of_lt (a x hx)
  ·simp at hx;omega
theorem insP_app {key val:Int} {A B s:List (Int × Int)} (ha: ∀p∈A,p.1<key) (hb: ∀p∈B,key<p.1):insP key val (A++(s++B))=A++(insP key val s++B):=by
 unfold insP
 rw[List.filter_append,List.filter_append,List.filter_append,List.filter_append,filter_all (l:=A) (fun p hp=>by simpa using ha p hp),filter_no (l:=A) (fun p hp=>by have:=ha p hp;simp;omega),
  filter_no (l:=B) (fun p hp=>by have:=hb p hp;simp;omega),filter_all (l:=B) (fun p hp=>by simpa using hb p hp)]
 simp
theorem insP_has {key val v:Int} {A B:List (Int × Int)} (ha: ∀p∈A,p.1<key) (hb: ∀p∈B,key<p.1):insP key val (A++(key,v)::B)=A++(key,val)::B:=by
 have:=insP_app (key:=key) (val:=val) (s:=[(key,v)]) ha hb
 rw[show A++(key,v)::B=A++([(key,v)]++B) from rfl,this]
 unfold insP
 simp
theorem insP_hasnt {key val:Int} {A B:List (Int × Int)} (ha: ∀p∈A,p.1<key) (hb: ∀p∈B,key<p.1):insP key val (A++B)=A++(key,val)::B:=by
 have:=insP_app (key:=key) (val:=val) (s:=[]) ha hb
 rw[show A++B=A++([]++B) from rfl,this]
 unfold insP
 simp
theorem delP_app {key:Int} {A B s:List (Int × Int)} (ha: ∀p∈A,p.1≠key) (hb: ∀p∈B,p.1≠key):delP key (A++(s++B))=A++(delP key s++B):=by
 unfold delP
 rw[List.filter_append,List.filter_append,filter_all (l:=A) (fun p hp=>by simpa using ha p hp),filter_all (l:=B) (fun p hp=>by simpa using hb p hp)]
theorem zip_fst {ks vs:List Int} (h:ks.length=vs.length):(ks.zip vs).map (·.1)=ks:=by
 rw[List.map_fst_zip];omega
theorem zip_mem {ks vs:List Int} {p:Int × Int} (h:p∈ks.zip vs):p.1∈ks:=by
 obtain⟨a,b⟩:=p;exact(List.of_mem_zip h).1
theorem zip_ris {ks vs:List Int} (h:ks.Pairwise (· < ·)):RisP (ks.zip vs):=by
 unfold RisP
 induction ks generalizing vs with
 |nil=>simp
 |cons k ks ih=>
  cases vs with
  |nil=>simp
  |cons v vs=>
   rw[List.zip_cons_cons,List.pairwise_cons]
   obtain⟨h1,h2⟩:=List.pairwise_cons.1 h
   exact⟨fun p hp=>h1 _ (zip_mem hp),ih h2⟩
theorem insertIdx_app {α:Type} {A B:List α} {x:α} {i:Nat} (h:A.length=i):(A++B).insertIdx i x=A++x::B:=by
 subst h
 induction A with
 |nil=>rfl
 |cons a A ih=>rw[List.cons_append,List.length_cons,List.insertIdx_succ_cons,ih];rfl
theorem set_app {α:Type} {A B:List α} {x y:α} {i:Nat} (h:A.length=i):(A++x::B).set i y=A++y::B:=by
 subst h
 rw[List.set_append_right _ _ (Nat.le_refl _),Nat.sub_self];rfl
theorem eraseIdx_app {α:Type} {A B:List α} {x:α} {i:Nat} (h:A.length=i):(A++x::B).eraseIdx i=A++B:=by
 subst h
 rw[List.eraseIdx_append_of_length_le (Nat.le_refl _),Nat.sub_self];rfl
theorem getD_app {α:Type} {A B:List α} {x d:α} {i:Nat} (h:A.length=i):(A++x::B).getD i d=x:=by
 subst h
 rw[List.getD_eq_getElem?_getD,List.getElem?_append_right (Nat.le_refl _)];simp
theorem part_as {α β:Type} {l:List α} {A B:List β} (h:l.length=(A++B).length): ∃C D,l=C++D∧C.length=A.length∧D.length=B.length:=by
 rw[List.length_append] at h
 refine⟨l.take A.length,l.drop A.length,(List.take_append_drop _ _).symm, ?_, ?_⟩
 ·rw[List.length_take];omega
 ·rw[List.length_drop];omega
theorem ndPut_zip {n:ND} {key val:Int} (hr:n.keys.Pairwise (· < ·)) (hl:n.vals.length=n.keys.length):(ndPut n key val).keys.zip (ndPut n key val).vals=insP key val (n.keys.zip n.vals)∧(ndPut n key val).keys.Pairwise (· < ·)∧(ndPut n key val).vals.length=(ndPut n key val).keys.length∧
  (n.keys.length≤(ndPut n key val).keys.length∧(ndPut n key val).keys.length≤n.keys.length+1)∧(∀k∈(ndPut n key val).keys,k=key∨k∈n.keys)∧(∀v∈(ndPut n key val).vals,v=val∨v∈n.vals)∧(ndPut n key val).leaf=n.leaf∧(ndPut n key val).kids=n.kids:=by
 unfold ndPut
 cases hh:hasL n.keys key
 ·obtain⟨A,B,e1,e2,a,b⟩:=ris_hasnt hr hh
  obtain⟨C,D,e3,e4,e5⟩:=part_as (l:=n.vals) (A:=A) (B:=B) (by rw[hl,e1])
  rw[if_neg (by decide)]
  simp only
  rw[←e2,e1,e3,insertIdx_app rfl,insertIdx_app e4]
  rw[e1] at hr
  have hza: ∀p∈A.zip C,p.1<key:=fun p hp=>a _ (zip_mem hp)
  have hzb: ∀p∈B.zip D,key<p.1:=fun p hp=>b _ (zip_mem hp)
  obtain⟨p1,p2,p3⟩:=List.pairwise_append.1 hr
  refine⟨?_, ?_, ?_, ?_, ?_, ?_,by trivial,by trivial⟩
  ·rw[List.zip_append e4.symm,List.zip_append e4.symm,List.zip_cons_cons,insP_hasnt hza hzb]
  ·rw[List.pairwise_append,List.pairwise_cons]
   refine⟨p1,⟨b,p2⟩,fun x hx y hy=> ?_⟩
   rcases List.mem_cons.1 hy with rfl|hy
   ·exact a x hx
   ·exact p3 x hx y hy
  ·simp[e4,e5]
  ·simp;omega
  ·intro k hk
   simp at hk ⊢
   rcases hk with h|h|h<;>simp[h]
  ·intro k hk
   simp at hk ⊢
   rcases hk with h|h|h<;>simp[h]
 ·obtain⟨A,B,e1,e2,a,b⟩:=ris_has hr hh
  obtain⟨C,D,e3,e4,e5⟩:=part_as (l:=n.vals) (A:=A) (B:=key::B) (by rw[hl,e1])
  rw[if_pos rfl]
  simp only
  cases D with
  |nil=>simp at e5
  |cons v D=>
   rw[←e2,e1,e3,set_app e4]
   have hza: ∀p∈A.zip C,p.1<key:=fun p hp=>a _ (zip_mem hp)
   have hzb: ∀p∈B.zip D,key<p.1:=fun p hp=>b _ (zip_mem hp)
   refine⟨?_,by rw[←e1];exact hr, ?_,⟨Nat.le_refl _,Nat.le_succ _⟩,fun k hk=> .inr hk, ?_,by trivial,by trivial⟩
   ·rw[List.zip_append e4.symm,List.zip_append e4.symm,List.zip_cons_cons,List.zip_cons_cons,insP_has hza hzb]
   ·simp at e5 ⊢;omega
   ·intro k hk
    simp at hk ⊢
    rcases hk with h|h|h<;>simp[h]
theorem ndOut_zip {n:ND} {key:Int} (hr:n.keys.Pairwise (· < ·)) (hl:n.vals.length=n.keys.length) (hh:hasL n.keys key=true):(ndOut n key).keys.zip (ndOut n key).vals=delP key (n.keys.zip n.vals)∧(ndOut n key).keys.Pairwise (· < ·)∧(ndOut n key).vals.length=(ndOut n key).keys.length∧
  (ndOut n key).keys.length+1=n.keys.length∧(∀k∈(ndOut n key).keys,k∈n.keys)∧(∀v∈(ndOut n key).vals,v∈n.vals)∧(ndOut n key).leaf=n.leaf∧(ndOut n key).kids=n.kids:=by
 unfold ndOut
 obtain⟨A,B,e1,e2,a,b⟩:=ris_has hr hh
 obtain⟨C,D,e3,e4,e5⟩:=part_as (l:=n.vals) (A:=A) (B:=key::B) (by rw[hl,e1])
 simp only
 cases D with
 |nil=>simp at e5
 |cons v D=>
  rw[←e2,e1,e3,eraseIdx_app rfl,eraseIdx_app e4]
  rw[e1] at hr
  obtain⟨p1,p2,p3⟩:=List.pairwise_append.1 hr
  have hza: ∀p∈A.zip C,p.1≠key:=fun p hp=>by have:=a _ (zip_mem hp);omega
  have hzb: ∀p∈B.zip D,p.1≠key:=fun p hp=>by have:=b _ (zip_mem hp);omega
  refine⟨?_, ?_, ?_, ?_, ?_, ?_,by trivial,by trivial⟩
  ·rw[List.zip_append e4.symm,List.zip_append e4.symm,List.zip_cons_cons]
   have:=delP_app (key:=key) (s:=[(key,v)]) hza hzb
   rw[show A.zip C++(key,v)::B.zip D=A.zip C++([(key,v)]++B.zip D) from rfl,this]
   unfold delP
   simp
  ·rw[List.pairwise_append]
   exact⟨p1,(List.pairwise_cons.1 p2).2,fun x hx y hy=>p3 x hx y (by simp[hy])⟩
  ·simp at e5 ⊢;omega
  ·simp;omega
  ·intro k hk
   simp at hk ⊢
   rcases hk with h|h<;>simp[h]
  ·intro k hk
   simp at hk ⊢
   rcases hk with h|h<;>simp[h]
end Go.Proofs.YtjgkegkinnlcoaaGreatDoor
