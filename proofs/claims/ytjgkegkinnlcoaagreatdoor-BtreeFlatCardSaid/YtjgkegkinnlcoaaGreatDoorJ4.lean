/- Lemmas on the way to the statement: Pool2, Pool3, Pool4, Pool5, Pool6, Pool7, Pool8, PagerPlain, BtPlain, Best, Cut, Pager1, Pager2, Pager3. -/
import Derived.Test.YtjgkegkinnlcoaaGreatDoorJ3
import Derived.Deep.DeepCutAuto
import Derived.Sort.OwnSortedInts
set_option linter.unusedSimpArgs false
set_option linter.unusedVariables false
namespace Go.Proofs.YtjgkegkinnlcoaaGreatDoor
open Go.RowKit Go.Maps Go.Joins
theorem updI_self {β:Type} (f:Int→β) {x:Int} {v:β} (h:f x=v):updI f x v=f:=by
 funext y
 unfold updI
 split
 ·rename_i e;rw[e,h]
 ·rfl
section
variable {w w':World} {pb mb room n b K:Nat} {clock c' u' no:Int} {at_:Int→Option Nat} {us:Int→Int} {fr fr':Hand} {s:ByteArray} {d:Bool} {u:Int} {F:List Nat}
theorem touch_raw (hp:w.rowIs pb 234 3 (poolF room clock mb)) (hf:w.rowIs b 243 4 (frF s d u)) (hne:b≠pb) (h0:0≤clock) (h1:clock≤4611686018427387904):
  Calls Tryz.prog 161 #[.pointer (some ⟨pb,0,none⟩), .pointer (some ⟨b,0,none⟩)] w fun e w'=>e= .returned (.tuple #[])∧w'=(w.setCell ⟨pb,1,none⟩ (.int .i64 (clock+1))).setCell ⟨b,3,none⟩ (.int .i64 (clock+1)):=by
 have c1:w.cell? ⟨pb,1,none⟩=some (.int .i64 clock):=World.rowIs.cell hp (i:=1) (by decide)
 have f1:=World.rowIs.frozen hp 1
 have f3:=World.rowIs.frozen hf 3
 have c3:w.cell? ⟨b,3,none⟩=some (.int .i64 u):=World.rowIs.cell hf (i:=3) (by decide)
 have hw:IntKind.i64.wrap (clock+1)=clock+1:=by rw[IntKind.wrap_i64];omega
 have l1:=World.rowIs.lt hp
 have l2:=World.rowIs.lt hf
 clear hp hf
 go_enter Tryz.func161,Tryz.ntmps161
 go_wp2_with fail
 go_end0
 exact⟨rfl,rfl⟩
theorem touch_rows (hp:w.rowIs pb 234 3 (poolF room clock mb)) (hf:w.rowIs b 243 4 (frF s d u)) (hne:b≠pb) (v:Int):
  ((w.setCell ⟨pb,1,none⟩ (.int .i64 v)).setCell ⟨b,3,none⟩ (.int .i64 v)).rowIs pb 234 3 (poolF room v mb)∧((w.setCell ⟨pb,1,none⟩ (.int .i64 v)).setCell ⟨b,3,none⟩ (.int .i64 v)).rowIs b 243 4 (frF s d v)∧
   Touch [pb,b] w ((w.setCell ⟨pb,1,none⟩ (.int .i64 v)).setCell ⟨b,3,none⟩ (.int .i64 v)):=by
 have t1:Touch [pb] w (w.setCell ⟨pb,1,none⟩ (.int .i64 v)):=(Touch.refl _ _).setCell (.inl (by simp)) _
 have t2:Touch [b] (w.setCell ⟨pb,1,none⟩ (.int .i64 v)) ((w.setCell ⟨pb,1,none⟩ (.int .i64 v)).setCell ⟨b,3,none⟩ (.int .i64 v)):=(Touch.refl _ _).setCell (.inl (by simp)) _
 have r1:=World.rowIs.congr (g:=poolF room v mb) (World.rowIs.set hp 1 (.int .i64 v)) (fun i hi=>by rcases i with _|_|_|i<;>first|rfl|omega)
 have r2:=rowIs_touch hf t1 (by simpa using hne)
 refine⟨rowIs_touch r1 t2 (by simpa using hne.symm),World.rowIs.congr (World.rowIs.set r2 3 (.int .i64 v)) (fun i hi=>by rcases i with _|_|_|_|i<;>first|rfl|omega), ?_⟩
 exact((Touch.refl _ _).setCell (.inl (by simp)) _).setCell (.inl (by simp)) _
theorem touch_at (h:PoolAt w pb mb room n clock at_ us fr) (hb:at_ no=some b) (h1:clock≤4611686018427387904):
  Calls Tryz.prog 161 #[.pointer (some ⟨pb,0,none⟩), .pointer (some ⟨b,0,none⟩)] w fun e w'=>e= .returned (.tuple #[])∧PoolAt w' pb mb room n (clock+1) at_ (updI us no (clock+1)) fr∧Touch [pb,b] w w':=by
 obtain⟨s0,d0,e0,r0,u0,u1,n1,n2⟩:=h.row no b hb
 refine(touch_raw h.cells r0 n1 h.c0 h1).mono ?_
 rintro e w1 ⟨rfl,rfl⟩
 obtain⟨q1,q2,q3⟩:=touch_rows h.cells r0 n1 (clock+1)
 have hc0:=h.c0
 have:=h.change hb q3 q1 q2 (by omega) (Int.le_refl _) (by omega)
 rw[updI_self fr e0] at this
 exact⟨rfl,this,q3⟩
theorem PoolGo.of_at {n':Nat} {at':Int→Option Nat} {us':Int→Int} (h:PoolAt w' pb mb room n' c' at' us' fr') (hk:c'≤K) (t:Touch F w w') (hp:pb∈F) (hm:mb∈F) (ha: ∀i b,at' i=some b→b∈F) (hl: ∀b∈F,b<w.heap.size):PoolGo w w' pb F room K fr':=
 ⟨F,⟨mb,n',c',at',us',h,hk,hp,hm,ha,fun b hb=>Nat.lt_of_lt_of_le (hl b hb) t.size⟩,t,fun b hb=> .inl hb⟩
set_option maxRecDepth 100000 in
set_option maxHeartbeats 1000000 in
theorem get_no (h:PoolAt w pb mb room n clock at_ us fr) (h0: -9223372036854775808≤no) (h1:no≤9223372036854775807) (hn:at_ no=none):
  Calls Tryz.prog 92 #[.pointer (some ⟨pb,0,none⟩), .int .i64 no] w fun e w'=>e= .returned (.tuple #[.string ⟨#[]⟩, .bool false])∧w=w':=by
 have hf:=find_any h no h0 h1
 rw[hn] at hf
 clear h
 go_enter Tryz.func92,Tryz.ntmps92
 go_wp2_with fail
 refine hf.mono ?_
 rintro e w1 ⟨rfl,rfl⟩
 go_wp2_with fail
 go_ret2
 exact⟨rfl,rfl⟩
set_option maxRecDepth 100000 in
set_option maxHeartbeats 1000000 in
theorem get_yes (h:PoolAt w pb mb room n clock at_ us fr) (h0: -9223372036854775808≤no) (h1:no≤9223372036854775807) (hb:at_ no=some b) (hs:fr no=some (s,d)) (hk:clock≤4611686018427387904):
  Calls Tryz.prog 92 #[.pointer (some ⟨pb,0,none⟩), .int .i64 no] w fun e w'=>e= .returned (.tuple #[.string s, .bool true])∧PoolAt w' pb mb room n (clock+1) at_ (updI us no (clock+1)) fr∧Touch [pb,b] w w':=by
 have hf:=find_any h no h0 h1
 rw[hb] at hf
 have ht:=touch_at h hb hk
 clear h
 go_enter Tryz.func92,Tryz.ntmps92
 go_wp2_with fail
 refine hf.mono ?_
 rintro e w1 ⟨rfl,rfl⟩
 simp only[Option.map_some,Option.getD_some,ptrV]
 go_wp2_with fail
 refine ht.mono ?_
 rintro e w1 ⟨rfl,hp,ht⟩
 obtain⟨s0,d0,e0,r0, -⟩:=hp.row no b hb
 rw[hs] at e0
 injection e0 with e0
 injection e0 with e1 e2
 subst e1 e2
 have c0:=(frame_cell r0).1
 have HP:=Lib.hid hp
 have HT:=Lib.hid ht
 clear hp ht r0
 go_wp2_with fail
 go_ret2
 exact⟨rfl,HP.out,HT.out⟩
theorem pget_any (h:IsPool w pb F room K fr) (hk:K≤4000000000000000000) (h0: -9223372036854775808≤no) (h1:no≤9223372036854775807):
  Calls Tryz.prog 92 #[.pointer (some ⟨pb,0,none⟩), .int .i64 no] w fun e w'=>e= .returned (.tuple #[.string (((fr no).map Prod.fst).getD ⟨#[]⟩), .bool (fr no).isSome])∧PoolGo w w' pb F room (K+1) fr:=by
 obtain⟨mb,n,clock,at_,us,h,hc,m1,m2,m3,m4⟩:=h
 cases hb:at_ no with
 |none=>
  refine(get_no h h0 h1 hb).mono ?_
  rintro e w' ⟨rfl,rfl⟩
  rw[h.out no hb]
  exact⟨rfl,PoolGo.refl ⟨mb,n,clock,at_,us,h,by omega,m1,m2,m3,m4⟩⟩
 |some b=>
  obtain⟨s,d,e0, -⟩:=h.row no b hb
  refine(get_yes h h0 h1 hb e0 (by omega)).mono ?_
  rintro e w' ⟨rfl,hp,ht⟩
  rw[e0]
  exact⟨rfl,PoolGo.of_at hp (by omega) (ht.mono (by simp;exact⟨.inl m1, .inl (m3 no b hb)⟩)) m1 m2 m3 m4⟩
set_option maxRecDepth 100000 in
set_option maxHeartbeats 1000000 in
theorem free_fn (hf:w.rowIs b 243 4 (frF s d u)):Calls Tryz.prog 224 #[.pointer (some ⟨b,0,none⟩)] w fun e w'=>e= .returned (.bool (!d))∧w=w':=by
 obtain⟨c0,c1,c2,c3⟩:=frame_cell hf
 clear hf
 cases d
 ·go_enter Tryz.func224,Tryz.ntmps224
  go_wp2_with fail
  go_ret
  exact⟨rfl,rfl⟩
 ·go_enter Tryz.func224,Tryz.ntmps224
  go_wp2_with fail
  go_ret
  exact⟨rfl,rfl⟩
def SpRel (fr:Hand) (left:Int→Bool) (o u:Int):Prop:=(u= -1∧ ∀i s,left i=false→fr i≠some (s,false))∨(0≤u∧ ∃s,fr o=some (s,false))
end
end Go.Proofs.YtjgkegkinnlcoaaGreatDoor
namespace Go.Proofs.YtjgkegkinnlcoaaGreatDoor
open Go.RowKit Go.Maps Go.Joins
def SpPost (w:World) (pb mb room n:Nat) (clock:Int) (at_:Int→Option Nat) (us:Int→Int) (fr:Hand) (e:Ending) (w':World):Prop:=
 (e= .returned (.bool true)∧((n<room∧Below w.heap.size w w')∨ ∃no b s n',at_ no=some b∧fr no=some (s,false)∧n'+1=n∧PoolAt w' pb mb room n' clock (updI at_ no none) us (updI fr no none)∧Touch [mb] w w'))∨
  (e= .returned (.bool false)∧n=room∧(∀i s,fr i≠some (s,false))∧Below w.heap.size w w')
theorem below_of_grown {w w1 w2:World} {B r:Nat} (h:Below B w w1) (g:w1.grownBy w2 (some r)) (hr:B≤r) (hB:B≤w1.heap.size):Below B w w2:=h.trans ((Touch.of_grown g).below hB (by simpa using hr))
theorem RngT.drewN {α β:Type} {w:World} {P:Program} {k:TypeId} {b r n cnt:Nat} {ek:α→Value} {ev:β→Value} {g:α→Option β} {left:α→Bool} (h:RngT w P k b r n ek ev g left cnt) (q:Nat):RngT (w.drewN q) P k b r n ek ev g left cnt:=
 h.touch (F:=[]) ((Touch.refl _ _).drewN q) (by simp) (by simp)
section
variable {w w':World} {pb mb room n b K:Nat} {clock c' u' no:Int} {at_:Int→Option Nat} {us:Int→Int} {fr fr':Hand} {s:ByteArray} {d:Bool} {u:Int} {F:List Nat}
theorem PoolAt.lt (h:PoolAt w pb mb room n clock at_ us fr):pb<w.heap.size∧mb<w.heap.size∧ ∀i b,at_ i=some b→b<w.heap.size:=
 ⟨World.rowIs.lt h.cells,h.map.toT.lt,fun i b hb=>(h.row i b hb).elim fun s x=>x.elim fun d x=>World.rowIs.lt x.2.1⟩
theorem PoolAt.later (h:PoolAt w pb mb room n clock at_ us fr) (hb:Below w.heap.size w w'):PoolAt w' pb mb room n clock at_ us fr:=h.touch (G:=[]) (Touch.of_below hb) (by simp) (by simp) (by simp)
theorem SpRel.skip {left left':Int→Bool} {o u x:Int} {s:ByteArray} (h:SpRel fr left o u) (hl: ∀z,left' z=(left z&& !decide (z=x))) (hx:fr x=some (s,true)):SpRel fr left' o u:=by
 rcases h with ⟨h1,h2⟩|h
 ·refine .inl ⟨h1,fun i t hi=> ?_⟩
  rw[hl] at hi
  by_cases e:i=x
  ·subst e;rw[hx];intro e;cases e
  ·simp[e] at hi;exact h2 i t hi
 ·exact .inr h
theorem SpRel.stay {left left':Int→Bool} {o u:Int} (h:SpRel fr left o u) (hu: ¬u<0):SpRel fr left' o u:=by
 rcases h with ⟨h1,h2⟩|h
 ·omega
 ·exact .inr h
theorem inv_keyI: ∀(key:Value) (kl:Lit),keyOf Tryz.prog 3 key=some kl→ ∃x,key=Value.int .i64 x:=fun key kl hk=>by
 obtain⟨x,rfl,_⟩:=Maps.keyOf_int_inv Tryz.underlying3 hk
 exact⟨x,rfl⟩
theorem inj_I: ∀y z:Int,Value.int .i64 z=Value.int .i64 y→z=y:=fun y z h=>by injection h
structure SpLoop (w:World) (mb n:Nat) (at_:Int→Option Nat) (fr:Hand) (v3 v4:Value) (wr:World):Prop where
 ex: ∃(o u:Int) (left:Int→Bool) (cnt:Nat),v3= .int .i64 o∧v4= .int .i64 u∧SpRel fr left o u∧RngT wr Tryz.prog 3 mb w.heap.size n (Value.int .i64) ptrV at_ left cnt∧Below w.heap.size w wr
set_option maxRecDepth 100000 in
set_option maxHeartbeats 2000000 in
theorem space_at (h:PoolAt w pb mb room n clock at_ us fr):
  Calls Tryz.prog 192 #[.pointer (some ⟨pb,0,none⟩)] w (SpPost w pb mb room n clock at_ us fr):=by
 have hle:=h.le
 have hl:=fun(W:World) (hb:Below w.heap.size w W) ty=>MapN.len (h.later hb).map Tryz.underlying232 ty
 have HPA:=fun(W:World) (hb:Below w.heap.size w W)=>Lib.hid (h.later hb)
 have hl0:=fun q ty=>hl (w.drewN q) (below_drewN (Below.refl _ _) q) ty
 have HDOM:=Lib.hid h.dom
 have HOUT:=Lib.hid h.out
 have HROW:=Lib.hid h.row
 obtain⟨c0,c1,c2⟩:=h.cell
 by_cases hn:n<room
 ·have q1:(n:Int)<room:=by omega
  clear h hl
  go_enter Tryz.func192,Tryz.ntmps192
  go_wp2_with fail
  go_quiet (fail)
  go_wp2_with fail
  go_ret
  exact .inl ⟨rfl, .inl ⟨hn,below_drewN (Below.refl _ _) _⟩⟩
 have q1: ¬(n:Int)<room:=by omega
 have hlt:=h.lt
 have HLT:=Lib.hid hlt
 clear h hl hlt
 go_enter Tryz.func192,Tryz.ntmps192
 go_wp2_with fail
 go_quiet (fail)
 go_wp2_with (at_range;refine wpList_range_T _ rfl _ 232 rfl 3 241 Tryz.keyIntP Tryz.underlying232 mb n (Value.int .i64) ptrV at_ rfl (HPA _ (below_drewN (Below.refl _ _) _)).out.map.toT ?_;intro w5 cnt hrg hg5 hs5)
 have hb5:Below w.heap.size w w5:=(below_drewN (Below.refl w.heap.size w) _).trans ((Touch.of_grown hg5).below (Nat.le_refl _) (by simp))
 have HR:Hid (RngT w5 Tryz.prog 3 mb w.heap.size n (Value.int .i64) ptrV at_ (fun x=>(at_ x).isSome) cnt):=Lib.hid hrg
 have HB:=Lib.hid hb5
 clear hrg hg5 hs5 hb5 c0 c1 c2 hl0
 simp only[show∀q,(w.drewN q).heap.size=w.heap.size from fun _=>rfl]
 go_frame
 go_loopw [3,4,6,7] (fun v3 v4 v6 v7 wr=>SpLoop w mb n at_ fr v3 v4 wr) (fun _ _ _ _ wr=>wr.rangeLeft mb w.heap.size)
 case atStart=>
  refine⟨⟨0, -1,_,_,rfl,rfl, .inl ⟨rfl,fun i s hl=> ?_⟩,HR.out,HB.out⟩⟩
  rw[HOUT.out i (by simpa using hl)]
  intro e;cases e
 case round=>
  obtain⟨⟨o,u,left,cnt,rfl,rfl,hsp,hrg,hb⟩⟩:=hrel
  have HRG:=Lib.hid hrg
  have HBW:=Lib.hid hb
  have HSP:=Lib.hid hsp
  clear hrg hb hsp HR HB
  go_wp2_with (at_next;refine wpList_next_T _ rfl _ rfl 3 Tryz.keyIntP mb w.heap.size n (Value.int .i64) ptrV at_ left cnt inv_keyI inj_I rfl HRG.out ?done ?more)
  case done=>
   intro hall
   have HNO:Hid (∀i s,left i=false∨fr i≠some (s,false)):=Lib.hid (fun i s=>by
    cases ha:at_ i with
    |none=>exact .inr (by rw[HOUT.out i ha];intro e;cases e)
    |some b=>exact .inl (hall i _ (keyP (by have:=HDOM.out i b ha;omega) (by have:=HDOM.out i b ha;omega))))
   rcases HSP.out with ⟨rfl,h2⟩|⟨h1,s,hs⟩
   ·go_wp2_with fail
    go_ret
    refine .inr ⟨rfl,by omega,fun i s=> ?_,HBW.out⟩
    rcases HNO.out i s with h3|h3
    ·exact h2 i s h3
    ·exact h3
   ·have q2: ¬u<0:=by omega
    obtain⟨b,hb⟩: ∃b,at_ o=some b:=by
     cases ha:at_ o with
     |none=>rw[HOUT.out o ha] at hs;cases hs
     |some b=>exact⟨b,rfl⟩
    have hd:=HDOM.out o b hb
    obtain⟨c0,c1,c2⟩:=(HPA _ HBW.out).out.cell
    have HK:=Lib.hid (keyP (no:=o) (by omega) (by omega))
    go_wp2_with (at_delete;refine wpList_delete_N _ rfl _ _ 232 3 241 rfl Tryz.keyIntP Tryz.underlying232 mb n (Value.int .i64) ptrV at_ (HPA _ HBW.out).out.map rfl o _ rfl HK.out (inj_I o) ?_;intro w7 n7 hm7 hn7 ht7)
    rw[hb] at hn7
    have HD:=Lib.hid ((HPA _ HBW.out).out.del hb ht7 hm7 (by simpa using hn7))
    have HT:=Lib.hid ((Touch.of_below (F:=[mb]) HBW.out).trans ht7 (fun b hb=> .inl hb))
    clear hm7 ht7 c0 c1 c2
    go_wp2_with fail
    go_ret
    exact .inl ⟨rfl, .inr ⟨o,b,s,n7,hb,hs,by simpa using hn7,HD.out,HT.out⟩⟩
  case more=>
   intro x b l w' cnt' hkey hlx hgx hrg' hlt' hgr hsz hen
   have hb':=below_of_grown HBW.out hgr (Nat.le_refl _) HBW.out.size
   obtain⟨s,d,e0,r0,u0,u1, -⟩:=(HPA _ hb').out.row x b hgx
   have hff:=free_fn r0
   obtain⟨f0,f1,f2,f3⟩:=frame_cell r0
   have HRG':=Lib.hid hrg'
   have HB':=Lib.hid hb'
   have HME:=Lib.hid (show cnt'<wr.rangeLeft mb w.heap.size by rw[HRG.out.left_eq];exact hlt')
   clear hrg' hb' hgr hkey hlt' r0
   simp only[ptrV] at hen
   go_wp2_with fail
   refine hff.mono ?_
   rintro e w9 ⟨rfl,rfl⟩
   cases d
   ·simp only[Bool.not_false]
    by_cases hu:u<0
    ·go_wp2_with fail
     go_quiet (fail)
     go_wp2_with fail
     go_roundw
     case rel=>exact⟨⟨x,us x,_,cnt',rfl,rfl, .inr ⟨u0,s,e0⟩,HRG'.out.drewN _,below_drewN HB'.out _⟩⟩
     case measure=>exact((HRG'.out.drewN _).left_eq).symm▸HME.out
    ·have hu0:=hu
     by_cases hu2:us x<u
     ·go_wp2_with fail
      go_quiet (fail)
      go_wp2_with fail
      go_roundw
      case rel=>exact⟨⟨x,us x,_,cnt',rfl,rfl, .inr ⟨u0,s,e0⟩,HRG'.out.drewN _,below_drewN HB'.out _⟩⟩
      case measure=>exact((HRG'.out.drewN _).left_eq).symm▸HME.out
     ·go_wp2_with fail
      go_roundw
      case rel=>exact⟨⟨o,u,_,cnt',rfl,rfl,HSP.out.stay (by omega),HRG'.out,HB'.out⟩⟩
      case measure=>exact HRG'.out.left_eq.symm▸HME.out
   ·simp only[Bool.not_true]
    go_wp2_with fail
    go_roundw
    case rel=>exact⟨⟨o,u,_,cnt',rfl,rfl,HSP.out.skip (fun z=>rfl) e0,HRG'.out,HB'.out⟩⟩
    case measure=>exact HRG'.out.left_eq.symm▸HME.out
end
end Go.Proofs.YtjgkegkinnlcoaaGreatDoor
namespace Go.Proofs.YtjgkegkinnlcoaaGreatDoor
open Go.RowKit Go.Maps Go.Joins
def isDirty (fr:Hand) (i:Int):Bool:=match fr i with
 |some (_,d)=>d
 |none=>false
def cntDirty (fr:Hand):Nat:=cntI (isDirty fr) 100000
def Fewer (fr fr':Hand):Prop:= ∀i,fr' i=fr i∨(fr' i=none∧ ∃s,fr i=some (s,false))
theorem Fewer.refl (fr:Hand):Fewer fr fr:=fun i=> .inl rfl
section
variable {w w':World} {pb mb room n b K:Nat} {clock c' u' no:Int} {at_ at':Int→Option Nat} {us us':Int→Int} {fr fr':Hand} {s:ByteArray} {d:Bool} {u:Int} {F:List Nat}
theorem PoolAt.dirty_le (h:PoolAt w pb mb room n clock at_ us fr):cntDirty fr≤n:=by
 rw[h.cnt]
 exact cntI_le (fun i hi=>by unfold isDirty at hi;cases hf:fr i<;>rw[hf] at hi<;>simp at hi ⊢) _
theorem PoolAt.dirty_eq (h:PoolAt w pb mb room n clock at_ us fr) (hno: ∀i s,fr i≠some (s,false)):cntDirty fr=n:=by
 rw[h.cnt]
 refine cntI_congr _ (fun i _=> ?_)
 unfold isDirty
 cases hf:fr i with
 |none=>rfl
 |some x=>
  obtain⟨s,d⟩:=x
  cases d
  ·exact absurd hf (hno i s)
  ·rfl
theorem PoolAt.dirty_lt (h:PoolAt w pb mb room n clock at_ us fr) (hb:at_ no=some b) (hs:fr no=some (s,false)):cntDirty fr<n:=by
 have hd:=h.dom no b hb
 rw[h.cnt]
 refine cntI_lt (x:=no.toNat) (fun i hi=>by unfold isDirty at hi;cases hf:fr i<;>rw[hf] at hi<;>simp at hi ⊢) ?_ ?_ _ (by omega)
 ·rw[show((no.toNat:Nat):Int)=no by omega];unfold isDirty;rw[hs]
 ·rw[show((no.toNat:Nat):Int)=no by omega,hs];rfl
theorem space_any (h:PoolAt w pb mb room n clock at_ us fr):
  Calls Tryz.prog 192 #[.pointer (some ⟨pb,0,none⟩)] w fun e w'=>e= .returned (.bool (decide (cntDirty fr<room)))∧
   ∃n' at' fr',PoolAt w' pb mb room n' clock at' us fr'∧(cntDirty fr<room→n'<room)∧Fewer fr fr'∧(∀i b,at' i=some b→at_ i=some b)∧(∀i,at_ i=none→at' i=none)∧(¬cntDirty fr<room→fr'=fr)∧Touch [mb] w w':=by
 refine(space_at h).mono ?_
 rintro e w' (⟨rfl,⟨hn,hb⟩|⟨no,b,s,n',hb,hs,hn,hp,ht⟩⟩|⟨rfl,hn,hno,hb⟩)
 ·have:=h.dirty_le
  exact⟨by rw[decide_eq_true (by omega)],n,at_,fr,h.later hb,fun _=>hn,Fewer.refl _,fun i b h=>h,fun i h=>h,fun _=>rfl,Touch.of_below hb⟩
 ·have h1:=h.dirty_lt hb hs
  have h2:=h.le
  refine⟨by rw[decide_eq_true (by omega)],n',_,_,hp,fun _=>by omega,fun i=> ?_,fun i b' hb'=> ?_,fun i hi=> ?_,fun h=>absurd (show cntDirty fr<room by omega) h,ht⟩
  ·by_cases e:i=no
   ·subst e;rw[updI_same];exact .inr ⟨rfl,s,hs⟩
   ·rw[updI_other _ _ e];exact .inl rfl
  ·by_cases e:i=no
   ·subst e;rw[updI_same] at hb';cases hb'
   ·rwa [updI_other _ _ e] at hb'
  ·by_cases e:i=no
   ·subst e;rw[updI_same]
   ·rw[updI_other _ _ e];exact hi
 ·have h1:=h.dirty_eq hno
  exact⟨by rw[decide_eq_false (by omega)],n,at_,fr,h.later hb,fun hlt=>by omega,Fewer.refl _,fun i b h=>h,fun i h=>h,fun _=>rfl,Touch.of_below hb⟩
def PutPost (w:World) (pb mb room:Nat) (clock:Int) (at_:Int→Option Nat) (fr:Hand) (no:Int) (s:ByteArray) (e:Ending) (w':World):Prop:=
 e= .returned (.int .i64 (if cntDirty fr<room then 0 else 8))∧ ∃n' c' at' us' fr',PoolAt w' pb mb room n' c' at' us' fr'∧c'≤clock+1∧Touch [pb,mb] w w'∧(∀i b,at' i=some b→at_ i=some b∨w.heap.size≤b)∧
  ((cntDirty fr<room∧ ∃fr1,Fewer fr fr1∧fr'=updI fr1 no (some (s,false)))∨(¬cntDirty fr<room∧fr'=fr))
set_option maxRecDepth 100000 in
set_option maxHeartbeats 2000000 in
theorem put_new (h:PoolAt w pb mb room n clock at_ us fr) (hk:clock≤4611686018427387904) (h0:0≤no) (h1:no<100000) (hno:at_ no=none):
  Calls Tryz.prog 143 #[.pointer (some ⟨pb,0,none⟩), .int .i64 no, .string s] w (PutPost w pb mb room clock at_ fr no s):=by
 have hf:=find_any h no (by omega) (by omega)
 rw[hno] at hf
 have hsp:=space_any h
 have HN:=Lib.hid h.out
 have hc0:=h.c0
 have hdl:=h.dirty_le
 have hd2:=h.le
 clear h
 go_enter Tryz.func143,Tryz.ntmps143
 go_wp2_with fail
 refine hf.mono ?_
 rintro e w1 ⟨rfl,rfl⟩
 simp only[Option.map_none,Option.getD_none]
 go_wp2_with fail
 refine hsp.mono ?_
 rintro e w1 ⟨rfl,n',at',fr',hp,hn',hfw,hat,hat2,hsame,ht⟩
 have HP:=Lib.hid hp
 have HT:=Lib.hid ht
 clear hp ht
 by_cases hlt:cntDirty fr<room
 ·rw[decide_eq_true hlt]
  have hlt':=HP.out.lt
  have hp2:=HP.out.later (below_alloc (o:= .cells #[.string s, .bool false, .int .i64 0, .int .i64 0] 243) (Below.refl _ _))
  have hf2:(w1.alloc (.cells #[.string s, .bool false, .int .i64 0, .int .i64 0] 243)).rowIs w1.heap.size 243 4 (frF s false 0):=World.rowIs_alloc w1 _ _ _ (fun i hi=>by rcases i with _|_|_|_|i<;>first|rfl|(simp at hi;omega))
  have hne:w1.heap.size≠pb:=by omega
  have HTR:=Lib.hid (touch_raw hp2.cells hf2 hne hc0 hk)
  have HT2:=Lib.hid (touch_rows hp2.cells hf2 hne (clock+1))
  have HM2:=Lib.hid hp2.map
  have HK:=Lib.hid (keyP (no:=no) (by omega) (by omega))
  have hno':=hat2 no hno
  have hcap:n'<maxLen:=by have:=hn' hlt;have:=HP.out.room2;unfold maxLen;omega
  clear hp2 hf2
  go_wp2_with fail
  refine HTR.out.mono ?_
  rintro e w5 ⟨rfl,hw5⟩
  obtain⟨q1,q2,q3⟩:=HT2.out
  rw[←hw5] at q1 q2 q3
  have HQ1:=Lib.hid q1
  have HQ2:=Lib.hid q2
  have HM3:=Lib.hid (HM2.out.touch q3 (by simp;exact⟨fun e=>HP.out.ne e.symm,by omega⟩))
  have HQ3:=Lib.hid (((Touch.refl [pb,mb] w1).alloc (.cells #[.string s, .bool false, .int .i64 0, .int .i64 0] 243)).trans q3 (fun x hx=>by simp at hx;rcases hx with rfl|rfl<;>simp))
  have hc2:w5.cell? ⟨pb,2,none⟩=some (.map (some mb)):=World.rowIs.cell q1 (i:=2) (by decide)
  clear hw5 q1 q2 q3
  go_wp2_with (at_mapUpdate;refine wpList_update_M _ rfl _ _ _ 232 rfl 3 241 Tryz.keyIntP Tryz.underlying232 mb n' (Value.int .i64) ptrV at' HM3.out rfl hcap no _ rfl HK.out (inj_I no) w1.heap.size (by rfl) ?_;intro w7 n7 hm7 hn7 ht7)
  rw[hno'] at hn7
  have hn8:n7=n'+1:=by simpa using hn7
  subst hn8
  have HD:=Lib.hid (HP.out.add (no:=no) (s':=s) (d':=false) (u':=clock+1) (c':=clock+1) hno' (HQ3.out.trans ht7 (fun x hx=>by simp at hx;subst hx;simp)) (Nat.le_refl _) hm7 (rowIs_touch HQ1.out ht7 (by simp;exact HP.out.ne)) (rowIs_touch HQ2.out ht7 (by simp;omega)) (by omega) (Int.le_refl _) (by omega) (by have:=hn' hlt;omega) h0 h1)
  have HTT:=Lib.hid (((HT.out.mono (G:=[pb,mb]) (by simp)).trans HQ3.out (fun x hx=> .inl hx)).trans ht7 (fun x hx=>by simp at hx;subst hx;simp))
  clear hm7 ht7 hc2
  go_wp2_with fail
  go_ret
  refine⟨by rw[if_pos hlt];rfl,n'+1,clock+1,_,_,_,HD.out,by omega,HTT.out,fun i b hb=> ?_, .inl ⟨hlt,fr',hfw,rfl⟩⟩
  by_cases e:i=no
  ·subst e
   rw[updI_same] at hb
   injection hb with hb
   exact .inr (by have:=HT.out.size;omega)
  ·rw[updI_other _ _ e] at hb
   exact .inl (hat i b hb)
 ·rw[decide_eq_false hlt]
  go_wp2_with fail
  go_ret
  refine⟨by rw[if_neg hlt];rfl,n',clock,at',us,fr',HP.out,by omega,HT.out.mono (by simp),fun i b h=> .inl (hat i b h), .inr ⟨hlt,hsame hlt⟩⟩
end
end Go.Proofs.YtjgkegkinnlcoaaGreatDoor
namespace Go.Proofs.YtjgkegkinnlcoaaGreatDoor
open Go.RowKit Go.Maps Go.Joins
theorem updI_updI {β:Type} (f:Int→β) (x:Int) (u v:β):updI (updI f x u) x v=updI f x v:=by
 funext y
 unfold updI
 split<;>rfl
section
variable {w w':World} {pb mb room n b K:Nat} {clock c' u' no:Int} {at_ at':Int→Option Nat} {us us':Int→Int} {fr fr':Hand} {s:ByteArray} {d:Bool} {u:Int} {F:List Nat}
set_option maxRecDepth 100000 in
set_option maxHeartbeats 2000000 in
theorem put_there (h:PoolAt w pb mb room n clock at_ us fr) (h0:0≤no) (h1:no<100000) (hb:at_ no=some b):
  Calls Tryz.prog 143 #[.pointer (some ⟨pb,0,none⟩), .int .i64 no, .string s] w fun e w'=>e= .returned (.int .i64 7)∧w=w':=by
 have hf:=find_any h no (by omega) (by omega)
 rw[hb] at hf
 clear h
 go_enter Tryz.func143,Tryz.ntmps143
 go_wp2_with fail
 refine hf.mono ?_
 rintro e w1 ⟨rfl,rfl⟩
 simp only[Option.map_some,Option.getD_some,ptrV]
 go_wp2_with fail
 go_ret
 exact⟨rfl,rfl⟩
theorem pput_any (h:IsPool w pb F room K fr) (hk:K≤4000000000000000000) (h0:0≤no) (h1:no<100000) (s:ByteArray):
  Calls Tryz.prog 143 #[.pointer (some ⟨pb,0,none⟩), .int .i64 no, .string s] w fun e w'=> ∃(r:Int) (fr':Hand),e= .returned (.int .i64 r)∧PoolGo w w' pb F room (K+1) fr'∧
   (fr'=fr∨(fr no=none∧ ∃fr1,Fewer fr fr1∧fr'=updI fr1 no (some (s,false)))):=by
 obtain⟨mb,n,clock,at_,us,h,hc,m1,m2,m3,m4⟩:=h
 cases hb:at_ no with
 |some b=>
  refine(put_there h h0 h1 hb).mono ?_
  rintro e w' ⟨rfl,rfl⟩
  exact⟨7,fr,rfl,PoolGo.refl ⟨mb,n,clock,at_,us,h,by omega,m1,m2,m3,m4⟩, .inl rfl⟩
 |none=>
  refine(put_new h (by omega) h0 h1 hb).mono ?_
  rintro e w' ⟨rfl,n',c',at',us',fr',hp,hc',ht,hat,hr⟩
  have hlt:=hp.lt
  refine⟨_,fr',rfl,⟨F++(List.range w'.heap.size).filter (fun b=>decide (w.heap.size≤b)),⟨mb,n',c',at',us',hp,by omega,by simp[m1],by simp[m2],fun i b hb=> ?_,fun b hb=> ?_⟩,ht.mono (by simp;exact⟨.inl m1, .inl m2⟩),fun b hb=> ?_⟩, ?_⟩
  ·rcases hat i b hb with h'|h'
   ·simp[m3 i b h']
   ·simp[h',hlt.2.2 i b hb]
  ·rcases List.mem_append.1 hb with h'|h'
   ·exact Nat.lt_of_lt_of_le (m4 b h') ht.size
   ·simp at h';exact h'.1
  ·rcases List.mem_append.1 hb with h'|h'
   ·exact .inl h'
   ·simp at h';exact .inr h'.2
  ·rcases hr with ⟨_,fr1,h1,h2⟩|⟨_,h2⟩
   ·exact .inr ⟨h.out no hb,fr1,h1,h2⟩
   ·exact .inl h2
def SetPost (w:World) (pb mb room:Nat) (F:List Nat) (clock:Int) (at_:Int→Option Nat) (fr:Hand) (no:Int) (s:ByteArray) (e:Ending) (w':World):Prop:=
 ∃n' c' at' us' fr',PoolAt w' pb mb room n' c' at' us' fr'∧c'≤clock+2∧Touch F w w'∧(∀i b,at' i=some b→at_ i=some b∨w.heap.size≤b)∧
  ((e= .returned (.int .i64 0)∧((fr no).isSome=true∨cntDirty fr<room)∧ ∃fr1,Fewer fr fr1∧fr'=updI fr1 no (some (s,true)))∨(e= .returned (.int .i64 8)∧fr no=none∧ ¬cntDirty fr<room∧fr'=fr))
theorem set_rows {w:World} {pb mb room b:Nat} {clock:Int} {s s':ByteArray} {d:Bool} {u:Int} (hp:w.rowIs pb 234 3 (poolF room clock mb)) (hf:w.rowIs b 243 4 (frF s d u)) (hne:b≠pb):
  ((w.setCell ⟨b,0,none⟩ (.string s')).setCell ⟨b,1,none⟩ (.bool true)).rowIs pb 234 3 (poolF room clock mb)∧((w.setCell ⟨b,0,none⟩ (.string s')).setCell ⟨b,1,none⟩ (.bool true)).rowIs b 243 4 (frF s' true u)∧
   Touch [b] w ((w.setCell ⟨b,0,none⟩ (.string s')).setCell ⟨b,1,none⟩ (.bool true)):=by
 have t:Touch [b] w ((w.setCell ⟨b,0,none⟩ (.string s')).setCell ⟨b,1,none⟩ (.bool true)):=((Touch.refl _ _).setCell (.inl (by simp)) _).setCell (.inl (by simp)) _
 refine⟨rowIs_touch hp t (by simpa using hne.symm),World.rowIs.congr (World.rowIs.set (World.rowIs.set hf 0 (.string s')) 1 (.bool true)) (fun i hi=>by rcases i with _|_|_|_|i<;>first|rfl|omega),t⟩
set_option maxRecDepth 100000 in
set_option maxHeartbeats 2000000 in
theorem set_at (h:PoolAt w pb mb room n clock at_ us fr) (hk:clock≤4400000000000000000) (h0:0≤no) (h1:no<100000) (m1:pb∈F) (m2:mb∈F) (m3: ∀i b,at_ i=some b→b∈F) (s:ByteArray):
  Calls Tryz.prog 144 #[.pointer (some ⟨pb,0,none⟩), .int .i64 no, .string s] w (SetPost w pb mb room F clock at_ fr no s):=by
 have hf:=find_any h no (by omega) (by omega)
 cases hb:at_ no with
 |some b=>
  rw[hb] at hf
  have H:=Lib.hid h
  clear h
  go_enter Tryz.func144,Tryz.ntmps144
  go_wp2_with fail
  refine hf.mono ?_
  rintro e w1 ⟨rfl,rfl⟩
  simp only[Option.map_some,Option.getD_some,ptrV]
  obtain⟨s0,d0,e0,r0,u0,u1,n1,n2⟩:=H.out.row no b hb
  have hs2:=set_rows (s':=s) H.out.cells r0 n1
  have HT1:=Lib.hid (touch_raw hs2.1 hs2.2.1 n1 H.out.c0 (by omega))
  have HT2:=Lib.hid (touch_rows hs2.1 hs2.2.1 n1 (clock+1))
  have HS2:=Lib.hid hs2.2.2
  have l1:=World.rowIs.lt r0
  have f0:=World.rowIs.frozen r0 0
  have f1:=World.rowIs.frozen r0 1
  obtain⟨c0,c1,c2,c3⟩:=frame_cell r0
  clear hs2 r0
  go_wp2_with fail
  refine HT1.out.mono ?_
  rintro e w5 ⟨rfl,hw5⟩
  obtain⟨q1,q2,q3⟩:=HT2.out
  rw[←hw5] at q1 q2 q3
  have ht5:=(HS2.out.mono (G:=[pb,b]) (by simp)).trans q3 (fun x hx=> .inl hx)
  have hc0:=H.out.c0
  have HC:=Lib.hid (H.out.change (no:=no) hb ht5 q1 q2 (by omega) (Int.le_refl _) (by omega))
  have HT5:=Lib.hid ht5
  clear hw5 q1 q2 q3 ht5 l1 f0 f1 c0 c1 c2 c3
  go_wp2_with fail
  go_ret
  exact⟨n,clock+1,at_,_,_,HC.out,by omega,HT5.out.mono (by simp;exact⟨.inl m1, .inl (m3 no b hb)⟩),fun i b h=> .inl h, .inl ⟨rfl, .inl (by rw[e0];rfl),fr,Fewer.refl _,rfl⟩⟩
 |none=>
  rw[hb] at hf
  have hfr:=h.out no hb
  have HPN:=Lib.hid (put_new (s:=s) h (by omega) h0 h1 hb)
  have hl0:=h.lt
  clear h
  go_enter Tryz.func144,Tryz.ntmps144
  go_wp2_with fail
  refine hf.mono ?_
  rintro e w1 ⟨rfl,rfl⟩
  simp only[Option.map_none,Option.getD_none]
  go_wp2_with fail
  refine HPN.out.mono ?_
  rintro e w1 ⟨rfl,n',c1',at',us',fr',hp,hc',ht,hat,hr⟩
  have HP:=Lib.hid hp
  have HT:=Lib.hid ht
  clear hp ht hf hb HPN
  rcases hr with ⟨hlt,fr1,hfw,rfl⟩|⟨hlt,rfl⟩
  ·rw[if_pos hlt]
   obtain⟨b,hb⟩: ∃b,at' no=some b:=by
    cases ha:at' no with
    |none=>have:=HP.out.out no ha;rw[updI_same] at this;cases this
    |some b=>exact⟨b,rfl⟩
   have HF2:=Lib.hid (find_any HP.out no (by omega) (by omega))
   rw[hb] at HF2
   have hbF:=hat no b hb
   go_wp2_with fail
   refine HF2.out.mono ?_
   rintro e w1 ⟨rfl,rfl⟩
   simp only[Option.map_some,Option.getD_some,ptrV]
   obtain⟨s0,d0,e0,r0,u0,u1,n1,n2⟩:=HP.out.row no b hb
   have hs2:=set_rows (s':=s) HP.out.cells r0 n1
   have HT1:=Lib.hid (touch_raw hs2.1 hs2.2.1 n1 HP.out.c0 (by omega))
   have HT2:=Lib.hid (touch_rows hs2.1 hs2.2.1 n1 (c1'+1))
   have HS2:=Lib.hid hs2.2.2
   have l1:=World.rowIs.lt r0
   have f0:=World.rowIs.frozen r0 0
   have f1:=World.rowIs.frozen r0 1
   obtain⟨c0,c1,c2,c3⟩:=frame_cell r0
   clear hs2 r0
   go_wp2_with fail
   refine HT1.out.mono ?_
   rintro e w5 ⟨rfl,hw5⟩
   obtain⟨q1,q2,q3⟩:=HT2.out
   rw[←hw5] at q1 q2 q3
   have ht5:=(HS2.out.mono (G:=[pb,b]) (by simp)).trans q3 (fun x hx=> .inl hx)
   have hc0:=HP.out.c0
   have HC:=Lib.hid (HP.out.change (no:=no) hb ht5 q1 q2 (by omega) (Int.le_refl _) (by omega))
   have HT5:=Lib.hid ht5
   clear hw5 q1 q2 q3 ht5 l1 f0 f1 c0 c1 c2 c3
   go_wp2_with fail
   go_ret
   rw[updI_updI] at HC
   refine⟨n',c1'+1,at',_,_,HC.out,by omega,(HT.out.mono (G:=F) (by simp;exact⟨.inl m1, .inl m2⟩)).trans HT5.out (fun x hx=> ?_),hat, .inl ⟨rfl, .inr hlt,fr1,hfw,rfl⟩⟩
   simp at hx
   rcases hx with rfl|rfl
   ·exact .inl m1
   ·exact hbF.elim (fun h=> .inl (m3 no x h)) .inr
  ·rw[if_neg hlt]
   go_wp2_with fail
   go_ret
   exact⟨n',c1',at',us',_,HP.out,by omega,HT.out.mono (by simp;exact⟨.inl m1, .inl m2⟩),hat, .inr ⟨rfl,hfr,hlt,rfl⟩⟩
theorem pset_any (h:IsPool w pb F room K fr) (hk:K≤4000000000000000000) (h0:0≤no) (h1:no<100000) (s:ByteArray):
  Calls Tryz.prog 144 #[.pointer (some ⟨pb,0,none⟩), .int .i64 no, .string s] w fun e w'=> ∃fr',PoolGo w w' pb F room (K+2) fr'∧
   ((e= .returned (.int .i64 0)∧((fr no).isSome=true∨cntDirty fr<room)∧ ∃fr1,Fewer fr fr1∧fr'=updI fr1 no (some (s,true)))∨(e= .returned (.int .i64 8)∧fr no=none∧ ¬cntDirty fr<room∧fr'=fr)):=by
 obtain⟨mb,n,clock,at_,us,h,hc,m1,m2,m3,m4⟩:=h
 refine(set_at h (by omega) h0 h1 m1 m2 m3 s).mono ?_
 rintro e w' ⟨n',c',at',us',fr',hp,hc',ht,hat,hr⟩
 have hlt:=hp.lt
 refine⟨fr',⟨F++(List.range w'.heap.size).filter (fun b=>decide (w.heap.size≤b)),⟨mb,n',c',at',us',hp,by omega,by simp[m1],by simp[m2],fun i b hb=> ?_,fun b hb=> ?_⟩,ht,fun b hb=> ?_⟩,hr⟩
 ·rcases hat i b hb with h'|h'
  ·simp[m3 i b h']
  ·simp[h',hlt.2.2 i b hb]
 ·rcases List.mem_append.1 hb with h'|h'
  ·exact Nat.lt_of_lt_of_le (m4 b h') ht.size
  ·simp at h';exact h'.1
 ·rcases List.mem_append.1 hb with h'|h'
  ·exact .inl h'
  ·simp at h';exact .inr h'.2
end
end Go.Proofs.YtjgkegkinnlcoaaGreatDoor
namespace Go.Proofs.YtjgkegkinnlcoaaGreatDoor
open Go.RowKit Go.Maps Go.Joins
def keysI (p:Int→Bool) (N:Nat):List Int:=((List.range N).filter fun i:Nat=>p i).map Int.ofNat
end Go.Proofs.YtjgkegkinnlcoaaGreatDoor
namespace Go.Proofs.YtjgkegkinnlcoaaGreatDoor
open Go.RowKit Go.Maps Go.Joins
def dropAll (fr:Hand):Hand:=fun i=>if isDirty fr i then none else fr i
end Go.Proofs.YtjgkegkinnlcoaaGreatDoor
namespace Go.Proofs.YtjgkegkinnlcoaaGreatDoor
open Go.RowKit Go.Maps Go.Joins
theorem addr_at0 (g j:Nat):(⟨g,0,none⟩:Addr).add j=⟨g,j,none⟩:=by unfold Addr.add;split<;>simp_all
section
variable {w w':World} {pb mb room n b K:Nat} {clock c' u' no:Int} {at_ at':Int→Option Nat} {us us':Int→Int} {fr fr':Hand} {s:ByteArray} {d:Bool} {u:Int} {F:List Nat}
set_option maxRecDepth 100000 in
set_option maxHeartbeats 1000000 in
theorem new_pool (room:Nat) (w:World) (h1:1≤room) (h2:room≤65536):
  Calls Tryz.prog 87 #[.int .i64 room] w fun e w'=>e= .returned (.tuple #[.pointer (some ⟨w.heap.size+1,0,none⟩), .int .i64 0])∧IsPool w' (w.heap.size+1) [w.heap.size,w.heap.size+1] room 0 (fun _=>none)∧Below w.heap.size w w':=by
 have hmm:= @run_makeMap Tryz.prog
 have q1: ¬(room:Int)<1:=by omega
 have q2: ¬(65536:Int)<room:=by omega
 go_enter Tryz.func87,Tryz.ntmps87
 go_wp2_with fail
 go_ret2
 have s1:(w.alloc (.map #[] 0)).heap.size=w.heap.size+1:=by simp
 refine⟨rfl,⟨w.heap.size,0,0,fun _=>none,fun _=>0,⟨?_, ?_,fun no b hb=>(by cases hb),fun _ _=>rfl,fun i j b hb=>(by cases hb),by omega,by omega,fun no b hb=>(by cases hb), ?_,by omega,h1,h2⟩,by simp,by simp,by simp,fun no b hb=>(by cases hb),fun b hb=> ?_⟩,below_alloc (below_alloc (Below.refl _ _))⟩
 ·have:=World.rowIs_alloc (w.alloc (.map #[] 0)) #[.int .i64 room, .int .i64 0, .map (some w.heap.size)] 234 (poolF room 0 w.heap.size) (fun i hi=>by rcases i with _|_|_|i<;>first|rfl|(simp at hi;omega))
  rw[s1] at this
  exact this
 ·exact(MapN.made w Tryz.prog 3 (Value.int .i64) ptrV).alloc _
 ·have: ∀N,cntI (fun i=>((fun _=>none:Hand) i).isSome) N=0:=fun N=>by
   induction N with
   |zero=>rfl
   |succ N ih=>rw[cntI_succ,ih];rfl
  exact(this _).symm
 ·simp at hb
  simp
  omega
end
end Go.Proofs.YtjgkegkinnlcoaaGreatDoor
namespace Go.Proofs.YtjgkegkinnlcoaaGreatDoor
open Go.RowKit
structure PM where
 m:DM
 l:LM
 size:Nat
 gen:Int
 most:Nat
 room:Nat
 dirty:Int→Option ByteArray
 hot:Int→Option ByteArray
 dead:Bool
def pgOf (m:DM) (a:Nat):ByteArray:=imgM ((List.range 8).map fun k=>secM m (a+k))
def baseP (M:PM) (no:Int):ByteArray:=(M.hot no).getD (pgOf M.m (2+M.size+no.toNat*8))
def viewP (M:PM) (no:Int):ByteArray:=(M.dirty no).getD (baseP M no)
def rdP (M:PM) (no:Int):Int × ByteArray × Int:=if M.m.down then(0,⟨#[]⟩,11) else(unK (viewP M no) no,unR (viewP M no) no,unE (viewP M no) no)
def usedR (r:ByteArray):Int:=leN (cut r 0 4)
def freeR (r:ByteArray):Int:=leN (cut r 4 4)
def pagesP (M:PM):Int:=if (rdP M 0).2.2=0 then usedR (rdP M 0).2.1 else 0
def readP (M:PM) (no:Int):Int × ByteArray × Int:=
 if no<0 then(0,⟨#[]⟩,1) else if (rdP M 0).2.2≠0 then(0,⟨#[]⟩,(rdP M 0).2.2) else if usedR (rdP M 0).2.1≤no then(0,⟨#[]⟩,1) else rdP M no
def cntD (M:PM):Nat:=cntI (fun i=>(M.dirty i).isSome) 100000
def setP (M:PM) (no kind:Int) (room:ByteArray):Int × PM:=
 if pgArg kind no=false then(1,M) else if 496<room.size then(3,M) else
 if (M.dirty no).isSome=true∨cntD M<M.room then(0, { M with dirty:=updI M.dirty no (some (pgStr kind no room)) }) else(10,M)
def headR (used free:Int) (r:ByteArray):ByteArray:=S (leB used 4++(leB free 4++(r.extract 8 r.size).data.toList))
def setHeadP (M:PM) (used free:Int) (r:ByteArray):Int × PM:=setP M 0 1 (headR used free r)
def oursK (kind:Int):Bool:=decide (2≤kind∧kind≤254)
def withinP (M:PM) (no:Int):Bool:=decide (1≤no∧no<pagesP M)
def writeP (M:PM) (no kind:Int) (room:ByteArray):Int × PM:=if withinP M no=true∧oursK kind=true then setP M no kind room else(1,M)
def fillR (r:ByteArray) (n:Nat):ByteArray:=S (r.data.toList++nul (n - r.size))
def pickP (M:PM):Int × Int × Int × Int:=
 if (rdP M 0).2.2≠0 then(0,0,0,(rdP M 0).2.2) else
 let r:=(rdP M 0).2.1
 if 0<freeR r then
  let x:=rdP M (freeR r)
  if x.2.2≠0 then(0,0,0,x.2.2) else
  if x.1≠255∨x.2.1≠fillR (x.2.1.extract 0 4) 496∨usedR r≤leN (cut x.2.1 0 4) then(0,0,0,19) else(freeR r,usedR r,leN (cut x.2.1 0 4),0)
 else if (M.most:Int)≤usedR r then(0,0,0,8) else(usedR r,usedR r+1,0,0)
def allocP (M:PM) (kind:Int):Int × Int × PM:=
 if oursK kind=false then(0,1,M) else
 let q:=pickP M
 if q.2.2.2≠0 then(0,q.2.2.2,M) else
 let s:=setP M q.1 kind ⟨#[]⟩
 if s.1≠0 then(0,s.1,s.2) else
 let t:=setHeadP s.2 q.2.1 q.2.2.1 (rdP M 0).2.1
 if t.1≠0 then(0,t.1,t.2) else(q.1,0,t.2)
def freeP (M:PM) (no:Int):Int × PM:=
 if withinP M no=false then(1,M) else
 if (rdP M no).2.2≠0 then((rdP M no).2.2,M) else
 if (rdP M no).1=255 then(6,M) else
 let r:=(rdP M 0).2.1
 let s:=setP M no 255 (S (leB (freeR r) 4))
 if s.1≠0 then s else setHeadP s.2 (usedR r) no r
def rootP (M:PM) (i:Int):Int × Int:=
 if i<0∨8≤i then(0,1) else if (rdP M 0).2.2≠0 then(0,(rdP M 0).2.2) else(leN (cut (rdP M 0).2.1 (8+8*i.toNat) 8),0)
def rootR (r:ByteArray) (i:Nat) (n:Int):ByteArray:=S ((r.extract 0 (8+8*i)).data.toList++(leB n 8++(r.extract (8+8*i+8) r.size).data.toList))
def setRootP (M:PM) (i n:Int):Int × PM:=
 if i<0∨8≤i then(1,M) else if (rdP M 0).2.2≠0 then((rdP M 0).2.2,M) else setP M 0 1 (rootR (rdP M 0).2.1 i.toNat n)
def putX (x:Int × DM) (a:Nat) (s:ByteArray):Int × DM:=(List.range 8).foldl (fun x k=>stepW x ((a+k:Nat):Int) (s.extract (k*64) ((k+1)*64))) x
def superT (first:Int) (size:Nat):ByteArray:=S (leB first 8++(leB size 4++nul 36))
def abortP (M:PM):PM:= { M with dirty:=fun _=>none }
end Go.Proofs.YtjgkegkinnlcoaaGreatDoor
namespace Go.Proofs.YtjgkegkinnlcoaaGreatDoor
open Go.RowKit
structure ND where
 leaf:Bool
 keys:List Int
 vals:List Int
 kids:List Int
def nd0:ND:=⟨false,[],[],[]⟩
def prB (k v:Int) (n:Nat):List UInt8:=leB k 8++leB v n
def ndB (n:ND):List UInt8:=
 leB n.keys.length 2++(if n.leaf=true then(List.zipWith (fun k v=>prB k v 8) n.keys n.vals).flatten
  else leB (n.kids.getD 0 0) 4++(List.zipWith (fun k v=>prB k v 4) n.keys n.kids.tail).flatten)
def ndK (n:ND):Int:=if n.leaf=true then 2 else 3
def risL:List Int→Bool
 | []=>true
 |x::l=>(match l with| []=>true|y::_=>decide (x<y))&&risL l
def ndOf (kind:Int) (r:ByteArray):ND:=
 let c:=(leN (cut r 0 2)).toNat
 if kind=2 then⟨true,(List.range c).map (fun i=>leN (cut r (2+16*i) 8)),(List.range c).map (fun i=>leN (cut r (10+16*i) 8)),[]⟩
 else⟨false,(List.range c).map (fun i=>leN (cut r (6+12*i) 8)),[],leN (cut r 2 4)::(List.range c).map (fun i=>leN (cut r (14+12*i) 4))⟩
def ndC (kind:Int) (r:ByteArray):Bool:=let c:=leN (cut r 0 2);decide (1≤c)&&(decide (kind=2∧c≤30)||decide (kind=3∧c≤40))
def ndOkB (n:ND) (r:ByteArray):Bool:=decide (fillR (S (ndB n)) 496=r)&& !n.kids.contains 0&&risL n.keys
def ndRead (M:PM) (no:Int):Int × ND:=
 let x:=readP M no
 if x.2.2≠0 then(x.2.2,nd0) else if ndC x.1 x.2.1=false then(19,nd0) else if ndOkB (ndOf x.1 x.2.1) x.2.1=true then(0,ndOf x.1 x.2.1) else(19,nd0)
def topB (M:PM) (root:Int):Int × Int:=let x:=rootP M root;if x.2=0∧2147483648≤x.1 then(0,19) else(x.1,x.2)
def writeB (M:PM) (no:Int) (n:ND):Int × PM:=writeP M no (ndK n) (S (ndB n))
def posL (l:List Int) (key:Int):Nat:=(l.filter fun k=>decide (k<key)).length
def hasL (l:List Int) (key:Int):Bool:=l.contains key
def placeN (n:ND) (key:Int):Nat:=posL n.keys key+(if hasL n.keys key=true then 1 else 0)
def bgetL (M:PM) (key:Int):Nat→Int→Int × Int
 |0,no=>(0,19)
 |f+1,no=>if no=0 then(0,6) else
  let x:=ndRead M no
  if x.1≠0 then(0,x.1) else
  if x.2.leaf=true then(if hasL x.2.keys key=true then(x.2.vals.getD (posL x.2.keys key) 0,0) else(0,6)) else bgetL M key f (x.2.kids.getD (placeN x.2 key) 0)
def getB (M:PM) (root key:Int):Int × Int:=let t:=topB M root;if t.2≠0 then(0,t.2) else bgetL M key 16 t.1
def deepL (M:PM):Nat→Int→Int × Int
 |0,no=>(0,19)
 |f+1,no=>if no=0 then(0,0) else
  let x:=ndRead M no
  if x.1≠0 then(0,x.1) else if x.2.leaf=true then((16 - f:Nat),0) else deepL M f (x.2.kids.getD 0 0)
def deepB (M:PM) (root:Int):Int × Int:=let t:=topB M root;if t.2≠0 then(0,t.2) else deepL M 16 t.1
def fullN (n:ND):Bool:=decide (40<n.keys.length)||(n.leaf&&decide (30<n.keys.length))
def thinN (n:ND):Bool:=decide (n.keys.length<15)||(!n.leaf&&decide (n.keys.length<20))
def halfA (n:ND):ND:=let h:=n.keys.length / 2;if n.leaf=true then⟨true,n.keys.take h,n.vals.take h,[]⟩ else⟨false,n.keys.take h,[],n.kids.take (h+1)⟩
def halfK (n:ND):Int:=n.keys.getD (n.keys.length / 2) 0
def halfB (n:ND):ND:=let h:=n.keys.length / 2;if n.leaf=true then⟨true,n.keys.drop h,n.vals.drop h,[]⟩ else⟨false,n.keys.drop (h+1),[],n.kids.drop (h+1)⟩
def joinN (a:ND) (key:Int) (b:ND):ND:=if a.leaf=true then⟨true,a.keys++b.keys,a.vals++b.vals,[]⟩ else⟨false,a.keys++(key::b.keys),[],a.kids++b.kids⟩
def freshB (M:PM) (n:ND):Int × Int × PM:=
 let a:=allocP M (ndK n)
 if a.2.1≠0 then(0,a.2.1,a.2.2) else let w:=writeB a.2.2 a.1 n;(a.1,w.1,w.2)
def splitB (M:PM) (no:Int) (n:ND):Int × Int × Int × PM:=
 if fullN n=false then(let w:=writeB M no n;(0,0,w.1,w.2)) else
 let a:=freshB M (halfB n)
 if a.2.1≠0 then(0,0,a.2.1,a.2.2) else let w:=writeB a.2.2 no (halfA n);(halfK n,a.1,w.1,w.2)
def ndPut (n:ND) (key val:Int):ND:=
 if hasL n.keys key=true then { n with vals:=n.vals.set (posL n.keys key) val } else { n with keys:=n.keys.insertIdx (posL n.keys key) key,vals:=n.vals.insertIdx (posL n.keys key) val }
def moreN (n:ND) (i:Nat) (key no:Int):ND:= { n with keys:=n.keys.insertIdx i key,kids:=n.kids.insertIdx (i+1) no }
def putL (key val:Int):Nat→PM→Int→Int × Int × Int × PM
 |0,M,no=>(0,0,19,M)
 |f+1,M,no=>
  let x:=ndRead M no
  if x.1≠0 then(0,0,x.1,M) else
  if x.2.leaf=true then splitB M no (ndPut x.2 key val) else
  let r:=putL key val f M (x.2.kids.getD (placeN x.2 key) 0)
  if r.2.2.1≠0∨r.2.1=0 then(0,0,r.2.2.1,r.2.2.2) else splitB r.2.2.2 no (moreN x.2 (placeN x.2 key) r.1 r.2.1)
def putB (M:PM) (root key val:Int):Int × PM:=
 let t:=topB M root
 if t.2≠0 then(t.2,M) else
 if t.1=0 then(let a:=freshB M ⟨true,[key],[val],[]⟩;if a.2.1≠0 then(a.2.1,a.2.2) else setRootP a.2.2 root a.1) else
 let r:=putL key val 16 M t.1
 if r.2.2.1≠0∨r.2.1=0 then(r.2.2.1,r.2.2.2) else
 let a:=freshB r.2.2.2 ⟨false,[r.1],[],[t.1,r.2.1]⟩
 if a.2.1≠0 then(a.2.1,a.2.2) else setRootP a.2.2 root a.1
def feedB (M:PM) (n:ND) (i:Nat):Int × ND × PM:=
 let a:=ndRead M (n.kids.getD i 0)
 if a.1≠0 then(a.1,n,M) else
 let b:=ndRead M (n.kids.getD (i+1) 0)
 if b.1≠0 then(b.1,n,M) else
 if a.2.leaf≠b.2.leaf then(19,n,M) else
 let j:=joinN a.2 (n.keys.getD i 0) b.2
 if fullN j=false then
  let e:=freeP M (n.kids.getD (i+1) 0)
  if e.1≠0 then(e.1,n,e.2) else
  let n':ND:= { n with keys:=n.keys.eraseIdx i,kids:=n.kids.eraseIdx (i+1) }
  let w:=writeB e.2 (n.kids.getD i 0) j
  (w.1,n',w.2)
 else
  let n':ND:= { n with keys:=n.keys.set i (halfK j) }
  let v:=writeB M (n.kids.getD i 0) (halfA j)
  if v.1≠0 then(v.1,n',v.2) else
  let w:=writeB v.2 (n.kids.getD (i+1) 0) (halfB j)
  (w.1,n',w.2)
def ndOut (n:ND) (key:Int):ND:= { n with keys:=n.keys.eraseIdx (posL n.keys key),vals:=n.vals.eraseIdx (posL n.keys key) }
def endD (M:PM) (no:Int) (n:ND):ND × Int × PM:=if n.keys.length=0∧n.leaf=true then(n,0,M) else let w:=writeB M no n;(n,w.1,w.2)
def delL (key:Int):Nat→PM→Int→ND × Int × PM
 |0,M,no=>(nd0,19,M)
 |f+1,M,no=>
  let x:=ndRead M no
  if x.1≠0 then(nd0,x.1,M) else
  if x.2.leaf=true then(if hasL x.2.keys key=false then(nd0,19,M) else endD M no (ndOut x.2 key)) else
  let i:=placeN x.2 key
  let r:=delL key f M (x.2.kids.getD i 0)
  if r.2.1≠0 then(nd0,r.2.1,r.2.2) else
  if thinN r.1=true∧1<x.2.kids.length then
   let q:=feedB r.2.2 x.2 (i - 1)
   if q.1≠0 then(nd0,q.1,q.2.2) else endD q.2.2 no q.2.1
  else endD r.2.2 no x.2
def nextD (n:ND) (no:Int):Int:=if n.leaf=true∧n.keys.length=0 then 0 else if n.leaf=false∧n.kids.length=1 then n.kids.getD 0 0 else no
def delB (M:PM) (root key:Int):Int × PM:=
 let g:=getB M root key
 if g.2≠0 then(g.2,M) else
 let t:=topB M root
 let r:=delL key 16 M t.1
 if r.2.1≠0 then(r.2.1,r.2.2) else
 if nextD r.1 t.1=t.1 then(0,r.2.2) else
 let s:=setRootP r.2.2 root (nextD r.1 t.1)
 if s.1≠0 then s else freeP s.2 t.1
structure WS where
 pages:List Int
 out:List (Int × Int)
 depth:Nat
def keysIn (low high:Int) (op:Bool) (l:List Int):Bool:=l.all fun k=>decide (low≤k)&&(op||decide (k<high))
def spanN (n:ND) (low high:Int) (op:Bool):List (Int × Int × Int × Bool):=
 (List.range n.kids.length).map fun i=>(n.kids.getD i 0,(if 0<i then n.keys.getD (i - 1) 0 else low),(if i<n.keys.length then n.keys.getD i 0 else high),(if i<n.keys.length then false else op))
def wlkL (M:PM):Nat→Int→Int→Int→Bool→WS→Int × WS
 |0,no,low,high,op,s=>(19,s)
 |f+1,no,low,high,op,s=>
  if s.pages.contains no=true then(19,s) else
  let s1:WS:= { s with pages:=s.pages++[no] }
  let x:=ndRead M no
  if x.1≠0 then(x.1,s1) else
  if keysIn low high op x.2.keys=false then(19,s1) else
  if f<15∧thinN x.2=true then(19,s1) else
  if x.2.leaf=true then
   let s2:WS:= { s1 with depth:=if s1.depth=0 then 16 - f else s1.depth }
   if s2.depth≠16 - f then(19,s2) else(0, { s2 with out:=s2.out++x.2.keys.zip x.2.vals })
  else(spanN x.2 low high op).foldl (fun a q=>if a.1≠0 then a else wlkL M f q.1 q.2.1 q.2.2.1 q.2.2.2 a.2) (0,s1)
def wholeB (M:PM) (root:Int):List (Int × Int) × List Int × Int:=
 let t:=topB M root
 if t.2≠0∨t.1=0 then([],[],t.2) else
 let r:=wlkL M 16 t.1 0 0 true ⟨[],[],0⟩
 if r.1≠0 then([],[],r.1) else(r.2.out,r.2.pages,0)
end Go.Proofs.YtjgkegkinnlcoaaGreatDoor
namespace Go.Proofs.YtjgkegkinnlcoaaGreatDoor
open Go.RowKit
def bestV (a b:ByteArray):Value:=
 if mOk a&&(!mOk b||decide (mN b≤mN a)) then .tuple #[.int .u64 (mN a), .string (mT a), .int .i64 0]
 else if mOk b then .tuple #[.int .u64 (mN b), .string (mT b), .int .i64 1] else .tuple #[.int .u64 0, .string ⟨#[]⟩, .int .i64 (-1)]
set_option maxHeartbeats 1000000 in
theorem best_any (a b:ByteArray) (w:World) (ha:a.size≤9223372036854775807) (hb:b.size≤9223372036854775807):
  Calls Tryz.prog 86 #[.string a, .string b] w fun e w'=>e= .returned (bestV a b)∧Drawn w w':=by
 cases h1:mOk a<;>cases h2:mOk b<;>by_cases h3:mN b≤mN a
 all_goals
  have fin:bestV a b=bestV a b:=rfl
  conv at fin=>rhs;simp[bestV,h1,h2,h3]
  have F:=Lib.hid fin
  clear fin
  have d3:decide (mN b≤mN a)=decide (mN b≤mN a):=rfl
  conv at d3=>rhs;simp[h3]
  go_enter Tryz.func86,Tryz.ntmps86
  go_wp2_with fail
  refine(markGet_any a _ ha).mono ?_
  rintro e w1 ⟨rfl,q1,rfl⟩
  go_wp2_with fail
  refine(markGet_any b _ hb).mono ?_
  rintro e w1 ⟨rfl,q2,rfl⟩
  go_wp2_with fail
  go_ret3
  rw[F.out]
  exact⟨rfl,_,rfl⟩
end Go.Proofs.YtjgkegkinnlcoaaGreatDoor
namespace Go.Proofs.YtjgkegkinnlcoaaGreatDoor
open Go.RowKit Go.Joins
theorem Tryz.infoStrC:(Tryz.prog.info? 9).map (fun i=>(i.zero,i.size,i.bytes))=some (some (.string ⟨#[]⟩),1,16):=by kernel_rfl
def cutCells (s:ByteArray) (j:Nat):List Value:=(List.range j).map fun i=> .string (s.extract (i*64) ((i+1)*64))
theorem cutCells_snoc (s:ByteArray) (j:Nat):cutCells s j++[.string (s.extract (j*64) ((j+1)*64))]=cutCells s (j+1):=by
 simp[cutCells,List.range_succ]
set_option maxRecDepth 100000 in
set_option maxHeartbeats 1000000 in
theorem cut_any (s:ByteArray) (w:World) (hz:s.size=512):
  Calls Tryz.prog 153 #[.string s] w fun e w'=> ∃g cap,e= .returned (.slice (some ⟨g,0,none⟩) 8 cap)∧w'.ownsRow w.heap.size 9 1 (.slice (some ⟨g,0,none⟩) 8 cap) 8 (cutCells s 8)∧Below w.heap.size w w':=by
 obtain⟨i0,hi,hz0,hz1,hz2⟩:=info_parts Tryz.infoStrC
 have z1:s.size≤512:=by omega
 have z2:512≤s.size:=by omega
 have z3:((s.size:Int) != 512)=false:=by simp[hz]
 clear hz
 go_enter Tryz.func153,Tryz.ntmps153
 go_wp2
 go_loopw [3,8] (fun v c wr=> ∃j:Nat,j≤8∧c= .int .i64 j∧wr.ownsRow w.heap.size 9 1 v j (cutCells s j)∧Below w.heap.size w wr) (fun _ c _=>8 - (intOf c).toNat)
 case atStart=>exact⟨0,Nat.zero_le _,rfl,World.ownsRow_nil _ _ _ _,Below.refl _ _⟩
 case round=>
  obtain⟨j,hj,rfl,hown,hb⟩:=hrel
  have hsz:=hb.size
  by_cases hlt:j<8
  ·have HC:=Lib.hid (cutCells_snoc s j)
   go_wp2_with (at_builtin;refine wpList_append_own _ rfl (.tmp 11) (.tmp 19) 47 rfl w.heap.size 9 i0 (.string ⟨#[]⟩) 1 16 Tryz.underlying47 hi hz0 hz1 hz2 rfl (by decide) _ _ _ rfl (hown.alloc _) ⟨wr.heap.size,0,none⟩ 1 1 [.string (s.extract (j*64) ((j+1)*64))] rfl rfl ?c1 ?c2 ?c3 ?c4 ?c5 ?_)
   case c1=>exact cell_one_new _ _ _
   case c2=>intro u hu;simp at hu;subst hu;rfl
   case c3=>unfold maxLen;omega
   case c4=>omega
   case c5=>simp;omega
   ·intro v' w1 hown' hgrow _
    rw[HC.out] at hown'
    have hb':=(hb.alloc hsz (.cells #[.string (s.extract (j*64) ((j+1)*64))] 9)).grown hgrow (by simp;omega) (fun k hk=>(hown.lt k hk).1)
    clear hgrow hown
    go_wp2
    go_roundw
    case rel=>exact⟨j+1,by omega,by go_num,hown',hb'⟩
    case measure=>simp[intOf];omega
  ·obtain rfl:j=8:=by omega
   obtain⟨g,cap,hv⟩:=ownsRow_form hown (by omega)
   rw[hv] at hown
   have HO:=Lib.hid hown
   clear hown
   rw[hv]
   go_wp2
   go_ret
   exact⟨g,cap,rfl,HO.out,hb⟩
end Go.Proofs.YtjgkegkinnlcoaaGreatDoor
namespace Go.Proofs.YtjgkegkinnlcoaaGreatDoor
open Go.RowKit Go.Maps Go.Joins
def Coh (fr:Hand) (D:Int→Option ByteArray) (B:Int→ByteArray):Prop:=(∀i s,fr i=some (s,true)↔D i=some s)∧ ∀i s,fr i=some (s,false)→B i=s
theorem Coh.dirty {fr:Hand} {D:Int→Option ByteArray} {B:Int→ByteArray} (h:Coh fr D B) (i:Int):isDirty fr i=(D i).isSome:=by
 unfold isDirty
 cases hf:fr i with
 |none=>
  cases hd:D i with
  |none=>rfl
  |some s=>have:=(h.1 i s).2 hd;rw[hf] at this;cases this
 |some x=>
  obtain⟨s,d⟩:=x
  cases d
  ·cases hd:D i with
   |none=>rfl
   |some t=>have:=(h.1 i t).2 hd;rw[hf] at this;cases this
  ·rw[(h.1 i s).1 hf];rfl
theorem Coh.cnt {fr:Hand} {D:Int→Option ByteArray} {B:Int→ByteArray} (h:Coh fr D B):cntDirty fr=cntI (fun i=>(D i).isSome) 100000:=cntI_congr _ (fun i _=>h.dirty i)
theorem Coh.keys {fr:Hand} {D:Int→Option ByteArray} {B:Int→ByteArray} (h:Coh fr D B):keysI (isDirty fr) 100000=keysI (fun i=>(D i).isSome) 100000:=by
 rw[show isDirty fr=fun i=>(D i).isSome from funext h.dirty]
theorem Coh.text {fr:Hand} {D:Int→Option ByteArray} {B:Int→ByteArray} (h:Coh fr D B) {i:Int} {s:ByteArray} {d:Bool} (hf:fr i=some (s,d)):s=(D i).getD (B i):=by
 cases d
 ·cases hd:D i with
  |none=>exact(h.2 i s hf).symm
  |some t=>have:=(h.1 i t).2 hd;rw[hf] at this;cases this
 ·rw[(h.1 i s).1 hf];rfl
theorem Coh.fewer {fr fr':Hand} {D:Int→Option ByteArray} {B:Int→ByteArray} (h:Coh fr D B) (hf:Fewer fr fr'):Coh fr' D B:=by
 refine⟨fun i s=> ?_,fun i s hs=> ?_⟩
 ·rcases hf i with e|⟨e,t,ht⟩
  ·rw[e];exact h.1 i s
  ·rw[e]
   refine⟨fun h=>(by cases h),fun hd=> ?_⟩
   have:=(h.1 i s).2 hd
   rw[ht] at this;cases this
 ·rcases hf i with e|⟨e,t,ht⟩
  ·rw[e] at hs;exact h.2 i s hs
  ·rw[e] at hs;cases hs
theorem Coh.put {fr:Hand} {D:Int→Option ByteArray} {B:Int→ByteArray} (h:Coh fr D B) {no:Int} {s:ByteArray} (hd:D no=none) (hs:B no=s):Coh (updI fr no (some (s,false))) D B:=by
 refine⟨fun i t=> ?_,fun i t ht=> ?_⟩
 ·by_cases e:i=no
  ·subst e
   rw[updI_same,hd]
   exact⟨fun h=>(by cases h),fun h=>(by cases h)⟩
  ·rw[updI_other _ _ e];exact h.1 i t
 ·by_cases e:i=no
  ·subst e
   rw[updI_same] at ht
   injection ht with ht
   injection ht with ht
   rw[hs,ht]
  ·rw[updI_other _ _ e] at ht;exact h.2 i t ht
theorem Coh.set {fr:Hand} {D:Int→Option ByteArray} {B:Int→ByteArray} (h:Coh fr D B) (no:Int) (s:ByteArray):Coh (updI fr no (some (s,true))) (updI D no (some s)) B:=by
 refine⟨fun i t=> ?_,fun i t ht=> ?_⟩
 ·by_cases e:i=no
  ·subst e
   rw[updI_same,updI_same]
   exact⟨fun h=>(by injection h with h;injection h with h;rw[h]),fun h=>(by injection h with h;rw[h])⟩
  ·rw[updI_other _ _ e,updI_other _ _ e];exact h.1 i t
 ·by_cases e:i=no
  ·subst e
   rw[updI_same] at ht
   injection ht with ht
   injection ht with _ ht
   cases ht
  ·rw[updI_other _ _ e] at ht;exact h.2 i t ht
theorem Coh.drop {fr:Hand} {D:Int→Option ByteArray} {B:Int→ByteArray} (h:Coh fr D B):Coh (dropAll fr) (fun _=>none) B:=by
 refine⟨fun i t=>⟨fun ht=> ?_,fun ht=>by cases ht⟩,fun i t ht=> ?_⟩
 ·unfold dropAll at ht
  split at ht
  ·cases ht
  ·rename_i hd
   exact absurd (show isDirty fr i=true by unfold isDirty;rw[ht]) hd
 ·unfold dropAll at ht
  split at ht
  ·cases ht
  ·exact h.2 i t ht
def pgF (d lb pb hb:Nat) (M:PM):Nat→Value
 |0=> .pointer (some ⟨d,0,none⟩)
 |1=> .pointer (some ⟨lb,0,none⟩)
 |2=> .int .i64 M.size
 |3=> .int .u64 M.gen
 |4=> .int .i64 M.most
 |5=> .pointer (some ⟨pb,0,none⟩)
 |6=> .map (some hb)
 |_=> .bool M.dead
structure PgOk (M:PM) (k:Nat):Prop where
 disk:DOk M.m k
 geo:2+M.size+M.most*8≤M.m.sure.length
 size1:1≤M.size
 most1:1≤M.most
 room1:2≤M.room
 room2:M.room≤65536
 frm:M.l.frm=2
 lsize:M.l.size=M.size
 lat:M.l.at_≤M.size
 next0:0≤M.l.next
 next1:M.l.next≤18446744073709551615
 gen0:0≤M.gen
 gen1:M.gen≤18446744073709551615
 dom: ∀i s,M.dirty i=some s→0≤i∧i<M.most∧s.size=512
 hdom: ∀i s,M.hot i=some s→0≤i∧i<M.most∧s.size=512
structure PgIn (w:World) (b d lb pb hb:Nat) (FD FP:List Nat) (K k:Nat) (M:PM):Prop where
 cells:w.rowIs b 132 8 (pgF d lb pb hb M)
 disk:IsDisk w d FD M.m
 log:LogAt w lb d M.l
 pool: ∃fr,IsPool w pb FP M.room K fr∧Coh fr M.dirty (baseP M)
 hot: ∃n,n=cntI (fun i=>(M.hot i).isSome) 100000∧MapN w Tryz.prog 3 hb n (Value.int .i64) Value.string M.hot
 ok:PgOk M k
 nb:b∉FD∧b∉FP∧b≠lb∧b≠hb
 nl:lb∉FD∧lb∉FP∧lb≠hb
 nh:hb∉FD∧hb∉FP
 nd: ∀x∈FD,x∉FP
def PgStep (w w':World) (b d lb pb hb:Nat) (FD FP:List Nat) (K k:Nat) (M:PM):Prop:= ∃FP',PgIn w' b d lb pb hb FD FP' K k M∧Touch FP w w'∧ ∀x∈FP',x∈FP∨w.heap.size≤x
section
variable {w w' w1 w2:World} {b d lb pb hb K J k:Nat} {FD FP F1:List Nat} {M M':PM}
theorem PgIn.cell (h:PgIn w b d lb pb hb FD FP K k M):w.cell? ⟨b,0,none⟩=some (.pointer (some ⟨d,0,none⟩))∧w.cell? ⟨b,1,none⟩=some (.pointer (some ⟨lb,0,none⟩))∧w.cell? ⟨b,2,none⟩=some (.int .i64 M.size)∧w.cell? ⟨b,3,none⟩=some (.int .u64 M.gen)∧
  w.cell? ⟨b,4,none⟩=some (.int .i64 M.most)∧w.cell? ⟨b,5,none⟩=some (.pointer (some ⟨pb,0,none⟩))∧w.cell? ⟨b,6,none⟩=some (.map (some hb))∧w.cell? ⟨b,7,none⟩=some (.bool M.dead):=
 ⟨World.rowIs.cell h.cells (i:=0) (by decide),World.rowIs.cell h.cells (i:=1) (by decide),World.rowIs.cell h.cells (i:=2) (by decide),World.rowIs.cell h.cells (i:=3) (by decide),World.rowIs.cell h.cells (i:=4) (by decide),World.rowIs.cell h.cells (i:=5) (by decide),World.rowIs.cell h.cells (i:=6) (by decide),World.rowIs.cell h.cells (i:=7) (by decide)⟩
theorem PgIn.lt (h:PgIn w b d lb pb hb FD FP K k M):b<w.heap.size∧lb<w.heap.size∧hb<w.heap.size∧(∀x∈FD,x<w.heap.size)∧ ∀x∈FP,x<w.heap.size:=by
 obtain⟨fr,hp, -⟩:=h.pool
 obtain⟨n, -,hm⟩:=h.hot
 exact⟨World.rowIs.lt h.cells,h.log.lt,hm.toT.lt,h.disk.lt,hp.lt⟩
theorem PgIn.touch {G:List Nat} (h:PgIn w b d lb pb hb FD FP K k M) (t:Touch G w w') (g1:b∉G) (g2:lb∉G) (g3:hb∉G) (g4: ∀x∈FD,x∉G) (g5: ∀x∈FP,x∉G):PgIn w' b d lb pb hb FD FP K k M:=by
 obtain⟨fr,hp,hc⟩:=h.pool
 obtain⟨n,hn,hm⟩:=h.hot
 exact⟨rowIs_touch h.cells t g1,h.disk.touch t g4,h.log.touch t g2,⟨fr,hp.touch t g5,hc⟩,⟨n,hn,hm.touch t g3⟩,h.ok,h.nb,h.nl,h.nh,h.nd⟩
theorem PgIn.below (h:PgIn w b d lb pb hb FD FP K k M) (hb':Below w.heap.size w w'):PgIn w' b d lb pb hb FD FP K k M:=
 h.touch (G:=[]) (Touch.of_below hb') (by simp) (by simp) (by simp) (by simp) (by simp)
theorem PgIn.mono (h:PgIn w b d lb pb hb FD FP K k M) (hJ:K≤J):PgIn w b d lb pb hb FD FP J k M:=by
 obtain⟨fr,hp,hc⟩:=h.pool
 exact { h with pool:=⟨fr,hp.mono hJ,hc⟩ }
theorem PgIn.step {fr':Hand} {D':Int→Option ByteArray} (h:PgIn w b d lb pb hb FD FP K k M) (g:PoolGo w w' pb FP M.room J fr') (hc:Coh fr' D' (baseP M)) (hD: ∀i s,D' i=some s→0≤i∧i<M.most∧s.size=512):
  PgStep w w' b d lb pb hb FD FP J k { M with dirty:=D' }:=by
 obtain⟨FP',hp,ht,hF⟩:=g
 obtain⟨n,hn,hm⟩:=h.hot
 have hl:=h.lt
 refine⟨FP',⟨rowIs_touch h.cells ht h.nb.2.1,h.disk.touch ht (fun x hx=>h.nd x hx),h.log.touch ht h.nl.2.1,⟨fr',hp,hc⟩,⟨n,hn,hm.touch ht h.nh.2⟩, { h.ok with dom:=hD }, ?_, ?_, ?_, ?_⟩,ht,hF⟩
 ·exact⟨h.nb.1,fun hx=>(hF _ hx).elim h.nb.2.1 (by omega),h.nb.2.2⟩
 ·exact⟨h.nl.1,fun hx=>(hF _ hx).elim h.nl.2.1 (by omega),h.nl.2.2⟩
 ·exact⟨h.nh.1,fun hx=>(hF _ hx).elim h.nh.2 (by omega)⟩
 ·intro x hx hx'
  have:=hl.2.2.2.1 x hx
  exact(hF _ hx').elim (h.nd x hx) (by omega)
theorem PgIn.step_same {fr':Hand} (h:PgIn w b d lb pb hb FD FP K k M) (g:PoolGo w w' pb FP M.room J fr') (hc:Coh fr' M.dirty (baseP M)):PgStep w w' b d lb pb hb FD FP J k M:=h.step g hc h.ok.dom
theorem PgStep.refl (h:PgIn w b d lb pb hb FD FP K k M):PgStep w w b d lb pb hb FD FP K k M:=⟨FP,h,Touch.refl _ _,fun x hx=> .inl hx⟩
theorem PgStep.trans (t:Touch FP w w1) (hF: ∀x∈F1,x∈FP∨w.heap.size≤x) (h:PgStep w1 w2 b d lb pb hb FD F1 K k M):PgStep w w2 b d lb pb hb FD FP K k M:=by
 obtain⟨F2,h1,h2,h3⟩:=h
 exact⟨F2,h1,t.trans h2 hF,fun x hx=>(h3 x hx).elim (hF x) (fun h=> .inr (Nat.le_trans t.size h))⟩
theorem PgStep.below {w0:World} (hb':Below w0.heap.size w0 w) (h:PgStep w w1 b d lb pb hb FD FP K k M):PgStep w0 w1 b d lb pb hb FD FP K k M:=by
 obtain⟨F2,h1,h2,h3⟩:=h
 exact⟨F2,h1,(Touch.of_below hb').trans h2 (fun x h=> .inl h),fun x hx=>(h3 x hx).imp id (fun h=>Nat.le_trans hb'.size h)⟩
theorem PgStep.after (h:PgStep w w1 b d lb pb hb FD FP K k M) (hb':Below w1.heap.size w1 w2):PgStep w w2 b d lb pb hb FD FP K k M:=by
 obtain⟨F2,h1,h2,h3⟩:=h
 exact⟨F2,h1.below hb',h2.trans (Touch.of_below (F:=FP) hb') (fun x h=> .inl h),h3⟩
theorem PgStep.mono (h:PgStep w w1 b d lb pb hb FD FP K k M) (hJ:K≤J):PgStep w w1 b d lb pb hb FD FP J k M:=by
 obtain⟨F2,h1,h2,h3⟩:=h
 exact⟨F2,h1.mono hJ,h2,h3⟩
end
end Go.Proofs.YtjgkegkinnlcoaaGreatDoor
namespace Go.Proofs.YtjgkegkinnlcoaaGreatDoor
open Go.RowKit Go.Maps Go.Joins
theorem secs_length (m:DM) (a n:Nat):((List.range n).map fun k=>secM m (a+k)).length=n:=by simp
theorem secs_snoc (m:DM) (a k:Nat):(((List.range k).map fun j=>secM m (a+j)).map Value.string)++[.string (secM m (a+k))]=((List.range (k+1)).map fun j=>secM m (a+j)).map Value.string:=by simp[List.range_succ]
theorem secs_flat {m:DM} {k:Nat} (h:DOk m k) (a n:Nat) (ha:a+n≤m.sure.length):((((List.range n).map fun j=>secM m (a+j))).map (·.data.toList)).flatten.length=n*64:=by
 have:=flatten_length ((List.range n).map fun j=>secM m (a+j)) (fun t ht=>by
  obtain⟨j,hj,rfl⟩:=List.mem_map.1 ht
  have:=List.mem_range.1 hj
  exact secM_size h (a+j) (by omega))
 rw[this,secs_length]
structure RdLoop (w1:World) (m:DM) (A:Nat) (v9 v43:Value) (wr:World):Prop where
 ex: ∃j:Nat,j≤8∧v43= .int .i64 j∧wr.ownsRow w1.heap.size 9 1 v9 j (((List.range j).map fun i=>secM m (A+i)).map Value.string)∧Below w1.heap.size w1 wr
section
variable {w w' w1 w2:World} {b d lb pb hb K J k:Nat} {FD FP F1:List Nat} {M M':PM}
theorem rdP_up (h:M.m.down=false) (no:Int):rdP M no=(unK (viewP M no) no,unR (viewP M no) no,unE (viewP M no) no):=by unfold rdP;rw[h];rfl
theorem rdP_down (h:M.m.down=true) (no:Int):rdP M no=(0,⟨#[]⟩,11):=by unfold rdP;rw[h];rfl
theorem zeroStrP (w:World):(zeroValue 9).run Tryz.prog w= .ok (.string ⟨#[]⟩) w:=by kernel_rfl
set_option maxRecDepth 100000 in
set_option maxHeartbeats 4000000 in
theorem pread_any (h:PgIn w b d lb pb hb FD FP K k M) (hK:K≤3000000000000000000) (N:Nat) (hN:N<M.most):
  Calls Tryz.prog 64 #[.pointer (some ⟨b,0,none⟩), .int .i64 N] w fun e w'=>e= .returned (.tuple #[.int .i64 (rdP M N).1, .string (rdP M N).2.1, .int .i64 (rdP M N).2.2])∧PgStep w w' b d lb pb hb FD FP (K+2) k M:=by
 have hDN:=is_down h.disk
 have H:=Lib.hid h
 have hgeo:=h.ok.geo
 have hfew:=h.ok.disk.few
 obtain⟨c0,c1,c2,c3,c4,c5,c6,c7⟩:=h.cell
 have hlt:=h.lt.1
 cases hd:M.m.down
 rotate_left
 ·rw[rdP_down hd]
  rw[hd] at hDN
  clear h
  go_enter Tryz.func64,Tryz.ntmps64
  go_wp2_with fail
  refine hDN.mono ?_
  rintro e w1 ⟨rfl,rfl⟩
  go_wp2_with fail
  go_ret3
  exact⟨rfl,(PgStep.refl H.out).mono (by omega)⟩
 rw[rdP_up hd]
 rw[hd] at hDN
 obtain⟨fr,hp,hc⟩:=h.pool
 have hn63:(N:Int)≤9223372036854775807:=by omega
 have HG:=Lib.hid (pget_any (no:=(N:Int)) hp (by omega) (by omega) hn63)
 have HV:=Lib.hid hc
 clear h hp hc
 go_enter Tryz.func64,Tryz.ntmps64
 go_wp2_with fail
 refine hDN.mono ?_
 rintro e w1 ⟨rfl,rfl⟩
 go_wp2_with fail
 refine HG.out.mono ?_
 rintro e w1 ⟨rfl,hgo⟩
 obtain⟨F1,h1,t1,f1⟩:=H.out.step_same hgo HV.out
 have HP1:=Lib.hid h1
 have HT1:=Lib.hid t1
 have HF1:=Lib.hid f1
 clear hgo h1 t1 f1 hDN HG
 cases hf:fr (N:Int) with
 |some x=>
  obtain⟨s,dd⟩:=x
  have HVS:=Lib.hid (show viewP M (N:Int)=s from(HV.out.text hf).symm)
  simp only[Option.map_some,Option.getD_some,Option.isSome_some]
  clear c0 c1 c2 c3 c4 c5 c6 c7
  have HU:=Lib.hid (unpack_any s (N:Int) w1)
  go_wp2_with fail
  refine HU.out.mono ?_
  rintro e w8 ⟨rfl,hb8⟩
  have HP8:=Lib.hid (HP1.out.below hb8)
  have HT8:=Lib.hid (HT1.out.trans (Touch.of_below (F:=FP) hb8) (fun x hx=> .inl hx))
  clear hb8
  by_cases he:unE s (N:Int)=0
  ·obtain⟨c0,c1,c2,c3,c4,c5,c6,c7⟩:=HP8.out.cell
   obtain⟨fr8,hp8,hc8⟩:=HP8.out.pool
   have HPU:=Lib.hid (pput_any (no:=(N:Int)) hp8 (by omega) (by omega) (by have:=H.out.ok.geo;have:=H.out.ok.disk.few;omega) s)
   have HC8:=Lib.hid hc8
   have e1:(unE s (N:Int)==0)=true:=by simp[he]
   clear hp8 hc8
   go_wp2_with fail
   refine HPU.out.mono ?_
   rintro e w9 ⟨r,fr9,rfl,hgo,hor⟩
   have hst:=HP8.out.step_same hgo (by
    rcases hor with rfl|⟨hn,fr1,hf1,rfl⟩
    ·exact HC8.out
    ·have hdn:M.dirty (N:Int)=none:=by
      cases hdd:M.dirty (N:Int) with
      |none=>rfl
      |some t=>have:=(HC8.out.1 _ t).2 hdd;rw[hn] at this;cases this
     refine(HC8.out.fewer hf1).put hdn ?_
     rw[←HVS.out]
     unfold viewP
     rw[hdn];rfl)
   have HST:=Lib.hid hst
   clear hgo hor hst c0 c1 c2 c3 c4 c5 c6 c7
   go_wp2_with fail
   go_ret3
   exact⟨by rw[HVS.out,he];rfl,(PgStep.trans HT8.out HF1.out HST.out)⟩
  ·have e1:(unE s (N:Int)==0)=false:=by simp[he]
   go_wp2_with fail
   go_ret3
   exact⟨by rw[HVS.out];rfl,(PgStep.mono ⟨_,HP8.out,HT8.out,HF1.out⟩ (by omega))⟩
 |none=>
  have hdn:M.dirty (N:Int)=none:=by
   cases hdd:M.dirty (N:Int) with
   |none=>rfl
   |some t=>have:=(HV.out.1 _ t).2 hdd;rw[hf] at this;cases this
  simp only[Option.map_none,Option.getD_none,Option.isSome_none]
  obtain⟨c0,c1,c2,c3,c4,c5,c6,c7⟩:=HP1.out.cell
  obtain⟨nh,hnh,hm⟩:=HP1.out.hot
  have hlk:=hm.toT.look_ok Tryz.keyIntP Tryz.underlying130 (zeroStrP w1) (x:=(N:Int)) (keyP (by omega) hn63)
  have hlt1:=HP1.out.lt.1
  cases hh:M.hot (N:Int) with
  |some s=>
   rw[hh] at hlk
   simp only[Option.map_some,Option.getD_some,Option.isSome_some] at hlk
   have HVS:=Lib.hid (show viewP M (N:Int)=s by unfold viewP baseP;rw[hdn,hh];rfl)
   go_wp2_with fail
   clear c0 c1 c2 c3 c4 c5 c6 c7 hlk hm
   have HU:=Lib.hid (unpack_any s (N:Int) w1)
   go_wp2_with fail
   refine HU.out.mono ?_
   rintro e w8 ⟨rfl,hb8⟩
   have HP8:=Lib.hid (HP1.out.below hb8)
   have HT8:=Lib.hid (HT1.out.trans (Touch.of_below (F:=FP) hb8) (fun x hx=> .inl hx))
   clear hb8
   by_cases he:unE s (N:Int)=0
   ·obtain⟨c0,c1,c2,c3,c4,c5,c6,c7⟩:=HP8.out.cell
    obtain⟨fr8,hp8,hc8⟩:=HP8.out.pool
    have HPU:=Lib.hid (pput_any (no:=(N:Int)) hp8 (by omega) (by omega) (by have:=H.out.ok.geo;have:=H.out.ok.disk.few;omega) s)
    have HC8:=Lib.hid hc8
    have e1:(unE s (N:Int)==0)=true:=by simp[he]
    clear hp8 hc8
    go_wp2_with fail
    refine HPU.out.mono ?_
    rintro e w9 ⟨r,fr9,rfl,hgo,hor⟩
    have hst:=HP8.out.step_same hgo (by
     rcases hor with rfl|⟨hn,fr1,hf1,rfl⟩
     ·exact HC8.out
     ·have hdn:M.dirty (N:Int)=none:=by
       cases hdd:M.dirty (N:Int) with
       |none=>rfl
       |some t=>have:=(HC8.out.1 _ t).2 hdd;rw[hn] at this;cases this
      refine(HC8.out.fewer hf1).put hdn ?_
      rw[←HVS.out]
      unfold viewP
      rw[hdn];rfl)
    have HST:=Lib.hid hst
    clear hgo hor hst c0 c1 c2 c3 c4 c5 c6 c7
    go_wp2_with fail
    go_ret3
    exact⟨by rw[HVS.out,he];rfl,(PgStep.trans HT8.out HF1.out HST.out)⟩
   ·have e1:(unE s (N:Int)==0)=false:=by simp[he]
    go_wp2_with fail
    go_ret3
    exact⟨by rw[HVS.out];rfl,(PgStep.mono ⟨_,HP8.out,HT8.out,HF1.out⟩ (by omega))⟩
  |none=>
   rw[hh] at hlk
   simp only[Option.map_none,Option.getD_none,Option.isSome_none] at hlk
   have HVS:=Lib.hid (show viewP M (N:Int)=pgOf M.m (2+M.size+N*8) by unfold viewP baseP;rw[hdn,hh];rfl)
   obtain⟨A,hA⟩: ∃A:Nat,A=2+M.size+N*8:=⟨_,rfl⟩
   rw[←hA] at HVS
   obtain⟨P,hP⟩: ∃P,P=pgOf M.m A:=⟨_,rfl⟩
   rw[←hP] at HVS
   have HPP:=Lib.hid hP
   have HA:=Lib.hid hA
   obtain⟨i0,hi,hz0,hz1,hz2⟩:=info_parts Tryz.infoStr
   go_wp2_with fail
   clear c0 c1 c2 c3 c4 c5 c6 c7 hlk hm hA hP
   go_loopw [9,10,11,12,43] (fun v9 v10 v11 v12 v43 wr=>RdLoop w1 M.m A v9 v43 wr) (fun _ _ _ _ v43 _=>8 - (intOf v43).toNat)
   case atStart=>exact⟨⟨0,by omega,rfl,World.ownsRow_nil _ _ _ _,Below.refl _ _⟩⟩
   case round=>
    obtain⟨⟨j,hj,rfl,hrow,hbw⟩⟩:=hrel
    have HROW:=Lib.hid hrow
    have HBW:=Lib.hid hbw
    have HPW:=Lib.hid (HP1.out.below hbw)
    clear hrow hbw
    by_cases hlt8:j<8
    ·obtain⟨c0,c1,c2,c3,c4,c5,c6,c7⟩:=HPW.out.cell
     have hltw:=HPW.out.lt.1
     have q1:IntKind.i64.wrap (2+(M.size:Int))=2+(M.size:Int):=IntWalk.i64_in _ (by omega)
     have q2:IntKind.i64.wrap ((N:Int)*8)=(N:Int)*8:=IntWalk.i64_in _ (by omega)
     have q3:IntKind.i64.wrap (2+(M.size:Int)+(N:Int)*8)=2+(M.size:Int)+(N:Int)*8:=IntWalk.i64_in _ (by omega)
     have q4:IntKind.i64.wrap (2+(M.size:Int)+(N:Int)*8+(j:Int))=((A+j:Nat):Int):=by rw[IntWalk.i64_in _ (by omega)];have:=HA.out;omega
     have HRD:=fun q=>Lib.hid (read_up (w:=wr.drewN q) (HPW.out.disk.touch (F:=[]) ((Touch.refl _ _).drewN q) (fun _ _ h=>by cases h)) hd (A+j) (by have:=HA.out;omega) (by have:=HA.out;omega))
     have HSN:=Lib.hid (secs_snoc M.m A j)
     go_wp2_with fail
     go_quiet ((go_at_call 84;exact quiet_left (HRD _).out))
     generalize hq:wr.drewN _=w7
     have HRW7:=Lib.hid (hq▸ownsRow_touch HROW.out (F:=[]) ((Touch.refl _ _).drewN _) (fun _ _=>by simp))
     have HB7:=Lib.hid (hq▸below_drewN HBW.out _)
     clear hq HRD c0 c1 c2 c3 c4 c5 c6 c7 q1 q2 q3 q4
     have hcap:j+1≤maxLen:=by unfold maxLen;omega
     go_wp2_with (at_builtin;refine wpList_append_near _ rfl (.tmp 67) (.tmp 69) 47 rfl w1.heap.size 9 i0 (.string ⟨#[]⟩) 1 16 Tryz.underlying47 hi hz0 hz1 hz2 rfl (by decide) _ j (((List.range j).map fun i=>secM M.m (A+i)).map Value.string) rfl (HRW7.out.alloc _) ⟨w7.heap.size,0,none⟩ 1 1 [.string (secM M.m (A+j))] rfl (by decide) rfl (cell_one_new _ _ _) (by intro u hu;simp at hu;subst hu;rfl) hcap (by omega) (by have:=HB7.out.size;simp;omega) ?_;intro g cap w5 hown hgr hat)
     rw[HSN.out] at hown
     have HO5:=Lib.hid hown
     have HB5:=Lib.hid ((HB7.out.alloc HB7.out.size _).trans ((Touch.of_grown hgr).below (by have:=HB7.out.size;simp;omega) (fun q hq=>(HRW7.out.lt q (Option.mem_toList.1 hq)).1)))
     clear hown hgr hat
     go_wp2_with fail
     go_roundw
     case rel=>exact⟨⟨j+1,by omega,by go_num,HO5.out,HB5.out⟩⟩
     case measure=>simp[intOf];omega
    ·obtain rfl:j=8:=by omega
     obtain⟨g,cap,hv⟩:=ownsRow_form HROW.out (by omega)
     subst hv
     have hfl:=secs_flat H.out.ok.disk A 8 (by have:=HA.out;omega)
     have J:=Tryz.strings_Join g 0 cap ((List.range 8).map fun i=>secM M.m (A+i)) ⟨#[]⟩ wr (fun i x hx=>by
       rw[Nat.zero_add,HROW.out.cellAt i (by have:=(List.getElem?_eq_some_iff.1 hx).1;simp at this;omega)]
       rw[List.getElem?_map,hx];rfl) (HROW.out.lt g rfl).2 (by simp) (by rw[secs_length];exact ownsRow_cap (a:=none) HROW.out) (by
       rw[show(ByteArray.mk #[]).data.toList=[] from rfl,join_nil_sep,hfl];omega)
     rw[show(ByteArray.mk #[]).data.toList=[] from rfl,join_nil_sep,secs_length] at J
     have HJ:=Lib.hid J
     clear J hfl
     go_wp2_with fail
     refine HJ.out.mono ?_
     rintro e w4 ⟨rfl,hb4⟩
     have HP1:=Lib.hid (HPW.out.below hb4)
     have HT1:=Lib.hid (((HT1.out.trans (Touch.of_below (F:=FP) HBW.out) (fun x hx=> .inl hx))).trans (Touch.of_below (F:=FP) hb4) (fun x hx=> .inl hx))
     rw[show(⟨((((List.range 8).map fun i=>secM M.m (A+i))).map (·.data.toList)).flatten.toArray⟩:ByteArray)=P from by rw[HPP.out];rfl]
     clear hb4 HJ HROW
     have HU:=Lib.hid (unpack_any P (N:Int) w4)
     go_wp2_with fail
     refine HU.out.mono ?_
     rintro e w8 ⟨rfl,hb8⟩
     have HP8:=Lib.hid (HP1.out.below hb8)
     have HT8:=Lib.hid (HT1.out.trans (Touch.of_below (F:=FP) hb8) (fun x hx=> .inl hx))
     clear hb8
     by_cases he:unE P (N:Int)=0
     ·obtain⟨c0,c1,c2,c3,c4,c5,c6,c7⟩:=HP8.out.cell
      obtain⟨fr8,hp8,hc8⟩:=HP8.out.pool
      have HPU:=Lib.hid (pput_any (no:=(N:Int)) hp8 (by omega) (by omega) (by have:=H.out.ok.geo;have:=H.out.ok.disk.few;omega) P)
      have HC8:=Lib.hid hc8
      have e1:(unE P (N:Int)==0)=true:=by simp[he]
      clear hp8 hc8
      go_wp2_with fail
      refine HPU.out.mono ?_
      rintro e w9 ⟨r,fr9,rfl,hgo,hor⟩
      have hst:=HP8.out.step_same hgo (by
       rcases hor with rfl|⟨hn,fr1,hf1,rfl⟩
       ·exact HC8.out
       ·have hdn:M.dirty (N:Int)=none:=by
         cases hdd:M.dirty (N:Int) with
         |none=>rfl
         |some t=>have:=(HC8.out.1 _ t).2 hdd;rw[hn] at this;cases this
        refine(HC8.out.fewer hf1).put hdn ?_
        rw[←HVS.out]
        unfold viewP
        rw[hdn];rfl)
      have HST:=Lib.hid hst
      clear hgo hor hst c0 c1 c2 c3 c4 c5 c6 c7
      go_wp2_with fail
      go_ret3
      exact⟨by rw[HVS.out,he];rfl,(PgStep.trans HT8.out HF1.out HST.out)⟩
     ·have e1:(unE P (N:Int)==0)=false:=by simp[he]
      go_wp2_with fail
      go_ret3
      exact⟨by rw[HVS.out];rfl,(PgStep.mono ⟨_,HP8.out,HT8.out,HF1.out⟩ (by omega))⟩
end
end Go.Proofs.YtjgkegkinnlcoaaGreatDoor
namespace Go.Proofs.YtjgkegkinnlcoaaGreatDoor
open Go.RowKit Go.Maps Go.Joins
def Snd (M:PM):Prop:=(rdP M 0).2.2=0→1≤usedR (rdP M 0).2.1∧usedR (rdP M 0).2.1≤M.most∧freeR (rdP M 0).2.1<usedR (rdP M 0).2.1
theorem unE_inv {s:ByteArray} {no:Int} (h:unE s no=0):pgE s=0∧pgN s=no:=by
 unfold unE at h
 by_cases e:pgE s=0
 ·rw[if_pos e] at h
  by_cases e2:pgN s=no
  ·exact⟨e,e2⟩
  ·rw[if_neg e2] at h;cases h
 ·rw[if_neg e] at h;exact absurd h e
theorem unR_size {s:ByteArray} {no:Int} (h:unE s no=0):(unR s no).size=496:=by
 unfold unR
 rw[if_pos h,ByteArray.size_extract,(pgE_inv (unE_inv h).1).1]
 rfl
theorem rdP_size {M:PM} {no:Int} (h:(rdP M no).2.2=0):(rdP M no).2.1.size=496:=by
 unfold rdP at h ⊢
 cases hd:M.m.down
 ·rw[hd] at h;exact unR_size h
 ·rw[hd] at h;cases h
theorem usedR_bd (r:ByteArray):0≤usedR r∧usedR r<4294967296:=cut_bd4 r 0
theorem freeR_bd (r:ByteArray):0≤freeR r∧freeR r<4294967296:=cut_bd4 r 4
section
variable {w w' w1 w2:World} {b d lb pb hb K J k:Nat} {FD FP F1:List Nat} {M M':PM}
theorem pread_int (h:PgIn w b d lb pb hb FD FP K k M) (hK:K≤3000000000000000000) (no:Int) (h0:0≤no) (h1:no<M.most):
  Calls Tryz.prog 64 #[.pointer (some ⟨b,0,none⟩), .int .i64 no] w fun e w'=>e= .returned (.tuple #[.int .i64 (rdP M no).1, .string (rdP M no).2.1, .int .i64 (rdP M no).2.2])∧PgStep w w' b d lb pb hb FD FP (K+2) k M:=by
 have:=pread_any h hK no.toNat (by omega)
 rwa [show((no.toNat:Nat):Int)=no by omega] at this
set_option maxRecDepth 100000 in
set_option maxHeartbeats 1000000 in
theorem head_any (w:World) (p:Value) (r:ByteArray) (hr:8≤r.size) (hr2:r.size≤1000000):
  Calls Tryz.prog 65 #[p, .string r] w fun e w'=>e= .returned (.tuple #[.int .i64 (usedR r), .int .i64 (freeR r)])∧w=w':=by
 have h1:=fun W=>get_any r 0 4 W (by omega) (by omega) (by omega)
 have h2:=fun W=>get_any r 4 4 W (by omega) (by omega) (by omega)
 have b1:=usedR_bd r
 have b2:=freeR_bd r
 have e1:IntKind.i64.wrap (leN (cut r 0 4))=leN (cut r 0 4):=IntWalk.i64_in _ (by unfold usedR at b1;omega)
 have e2:IntKind.i64.wrap (leN (cut r 4 4))=leN (cut r 4 4):=IntWalk.i64_in _ (by unfold freeR at b2;omega)
 clear b1 b2
 go_enter Tryz.func65,Tryz.ntmps65
 go_wp2_with fail
 refine(h1 _).mono ?_
 rintro e w1 ⟨rfl,rfl⟩
 go_wp2_with fail
 refine(h2 _).mono ?_
 rintro e w1 ⟨rfl,rfl⟩
 go_wp2_with fail
 go_ret2
 exact⟨rfl,rfl⟩
set_option maxRecDepth 100000 in
set_option maxHeartbeats 2000000 in
theorem pages_any (h:PgIn w b d lb pb hb FD FP K k M) (hK:K≤3000000000000000000):
  Calls Tryz.prog 31 #[.pointer (some ⟨b,0,none⟩)] w fun e w'=>e= .returned (.int .i64 (pagesP M))∧PgStep w w' b d lb pb hb FD FP (K+2) k M:=by
 have hm:=h.ok.most1
 have HR:=Lib.hid (pread_int h hK 0 (by omega) (by omega))
 have hsz:=rdP_size (M:=M) (no:=0)
 unfold pagesP
 clear h
 generalize rdP M 0=x at HR hsz ⊢
 obtain⟨kd,r,er⟩:=x
 by_cases he:er=0
 ·subst he
  have HD:=Lib.hid (fun W p=>head_any W p r (by have:=hsz rfl;simp at this;omega) (by have:=hsz rfl;simp at this;omega))
  clear hsz
  go_enter Tryz.func31,Tryz.ntmps31
  go_wp2_with fail
  refine HR.out.mono ?_
  rintro e w1 ⟨rfl,hst⟩
  have HST:=Lib.hid hst
  clear hst
  go_wp2_with fail
  refine(HD.out _ _).mono ?_
  rintro e w2 ⟨rfl,rfl⟩
  go_wp2_with fail
  go_ret
  exact⟨rfl,HST.out⟩
 ·have e1:(er != 0)=true:=by simpa using he
  clear hsz
  go_enter Tryz.func31,Tryz.ntmps31
  go_wp2_with fail
  refine HR.out.mono ?_
  rintro e w1 ⟨rfl,hst⟩
  have HST:=Lib.hid hst
  clear hst
  go_wp2_with fail
  go_ret
  exact⟨rfl,HST.out⟩
set_option maxRecDepth 100000 in
set_option maxHeartbeats 2000000 in
theorem Read_any (h:PgIn w b d lb pb hb FD FP K k M) (hs:Snd M) (hK:K≤2000000000000000000) (no:Int):
  Calls Tryz.prog 33 #[.pointer (some ⟨b,0,none⟩), .int .i64 no] w fun e w'=>e= .returned (.tuple #[.int .i64 (readP M no).1, .string (readP M no).2.1, .int .i64 (readP M no).2.2])∧PgStep w w' b d lb pb hb FD FP (K+4) k M:=by
 have hm:=h.ok.most1
 have HR:=Lib.hid (pread_int h (by omega) 0 (by omega) (by omega))
 have hsz:=rdP_size (M:=M) (no:=0)
 unfold Snd at hs
 unfold readP
 by_cases hn:no<0
 ·have H:=Lib.hid h
  clear h hsz hs
  go_enter Tryz.func33,Tryz.ntmps33
  go_wp2_with fail
  go_ret3
  exact⟨rfl,(PgStep.refl H.out).mono (by omega)⟩
 rw[if_neg hn]
 clear h
 generalize rdP M 0=x at HR hsz hs ⊢
 obtain⟨kd,r,er⟩:=x
 by_cases he:er=0
 ·subst he
  have hs1:=hs rfl
  rw[if_neg (by simp)]
  simp only at hs1 ⊢
  have HD:=Lib.hid (fun W p=>head_any W p r (by have:=hsz rfl;simp at this;omega) (by have:=hsz rfl;simp at this;omega))
  clear hsz hs
  by_cases hu:usedR r≤no
  ·rw[if_pos hu]
   go_enter Tryz.func33,Tryz.ntmps33
   go_wp2_with fail
   refine HR.out.mono ?_
   rintro e w1 ⟨rfl,hst⟩
   have HST:=Lib.hid hst
   clear hst
   go_wp2_with fail
   refine(HD.out _ _).mono ?_
   rintro e w2 ⟨rfl,rfl⟩
   go_wp2_with fail
   go_ret3
   exact⟨rfl,HST.out.mono (by omega)⟩
  ·rw[if_neg hu]
   go_enter Tryz.func33,Tryz.ntmps33
   go_wp2_with fail
   refine HR.out.mono ?_
   rintro e w1 ⟨rfl,F1,h1,t1,f1⟩
   have HR2:=Lib.hid (pread_int h1 (by omega) no (by omega) (by omega))
   have HT:=Lib.hid t1
   have HF:=Lib.hid f1
   clear h1 t1 f1
   go_wp2_with fail
   refine(HD.out _ _).mono ?_
   rintro e w2 ⟨rfl,rfl⟩
   go_wp2_with fail
   refine HR2.out.mono ?_
   rintro e w2 ⟨rfl,hst⟩
   have HST:=Lib.hid hst
   clear hst
   go_wp2_with fail
   go_ret3
   exact⟨rfl,PgStep.trans HT.out HF.out HST.out⟩
 ·have e1:(er != 0)=true:=by simpa using he
  rw[if_pos he]
  clear hsz hs
  go_enter Tryz.func33,Tryz.ntmps33
  go_wp2_with fail
  refine HR.out.mono ?_
  rintro e w1 ⟨rfl,hst⟩
  have HST:=Lib.hid hst
  clear hst
  go_wp2_with fail
  go_ret3
  exact⟨rfl,HST.out.mono (by omega)⟩
set_option maxRecDepth 100000 in
set_option maxHeartbeats 2000000 in
theorem Root_any (h:PgIn w b d lb pb hb FD FP K k M) (hK:K≤2000000000000000000) (i:Int):
  Calls Tryz.prog 34 #[.pointer (some ⟨b,0,none⟩), .int .i64 i] w fun e w'=>e= .returned (.tuple #[.int .u64 (rootP M i).1, .int .i64 (rootP M i).2])∧PgStep w w' b d lb pb hb FD FP (K+2) k M:=by
 have hm:=h.ok.most1
 have HR:=Lib.hid (pread_int h (by omega) 0 (by omega) (by omega))
 have hsz:=rdP_size (M:=M) (no:=0)
 unfold rootP
 by_cases hn:i<0∨8≤i
 ·have H:=Lib.hid h
  rw[if_pos hn]
  clear h hsz
  rcases hn with hn|hn
  ·go_enter Tryz.func34,Tryz.ntmps34
   go_wp2_with fail
   go_ret2
   exact⟨rfl,(PgStep.refl H.out).mono (by omega)⟩
  ·have hn2: ¬i<0:=by omega
   go_enter Tryz.func34,Tryz.ntmps34
   go_wp2_with fail
   go_ret2
   exact⟨rfl,(PgStep.refl H.out).mono (by omega)⟩
 rw[if_neg hn]
 clear h
 obtain⟨N,rfl⟩: ∃N:Nat,i=N:=⟨i.toNat,by omega⟩
 have hn1: ¬(N:Int)<0:=by omega
 have hn2: ¬(8:Int)≤N:=by omega
 rw[Int.toNat_natCast]
 clear hn
 generalize rdP M 0=x at HR hsz ⊢
 obtain⟨kd,r,er⟩:=x
 by_cases he:er=0
 ·subst he
  rw[if_neg (by simp)]
  have hz:r.size=496:=hsz rfl
  have HG:=Lib.hid (fun W=>get_any r (8+8*N) 8 W (by omega) (by omega) (by omega))
  have q1:IntKind.i64.wrap (8*(N:Int))=8*(N:Int):=IntWalk.i64_in _ (by omega)
  have q2:IntKind.i64.wrap (8+8*(N:Int))=((8+8*N:Nat):Int):=by rw[IntWalk.i64_in _ (by omega)];omega
  clear hsz hz
  go_enter Tryz.func34,Tryz.ntmps34
  go_wp2_with fail
  refine HR.out.mono ?_
  rintro e w1 ⟨rfl,hst⟩
  have HST:=Lib.hid hst
  clear hst
  go_wp2_with fail
  refine(HG.out _).mono ?_
  rintro e w2 ⟨rfl,rfl⟩
  go_wp2_with fail
  go_ret2
  exact⟨rfl,HST.out⟩
 ·have e1:(er != 0)=true:=by simpa using he
  rw[if_pos he]
  clear hsz
  go_enter Tryz.func34,Tryz.ntmps34
  go_wp2_with fail
  refine HR.out.mono ?_
  rintro e w1 ⟨rfl,hst⟩
  have HST:=Lib.hid hst
  clear hst
  go_wp2_with fail
  go_ret2
  exact⟨rfl,HST.out⟩
end
end Go.Proofs.YtjgkegkinnlcoaaGreatDoor
