/- Lemmas on the way to the statement: Tail, Redo2, Disk, Disk2, Disk3, Disk4, Disk6, DiskIs. -/
import Derived.Test.YtjgkegkinnlcoaaGreatDoorJ1
import Derived.Deep.Quiet
import Derived.StillTail
set_option linter.unusedSimpArgs false
set_option linter.unusedVariables false
namespace Go.Proofs.YtjgkegkinnlcoaaGreatDoor
open Go.RowKit
section
variable {P:Program} {md:Region.Mode} {ops:Array Oper} {C:World→Prop}
def wpHead (P:Program) (md:Region.Mode) (ops:Array Oper) (C:World→Prop) (n:Nat) (L:Array Bool→Act→Prop):Nat→Array Bool→Act→Prop
 |0,listed,a=>L listed a
 |f+1,listed,a=>Region.ready md ops listed≠ []∧ ∀i∈Region.ready md ops listed,i<n∧qOp P ops C i (wpHead P md ops C n L f (listed.setIfInBounds i true)) a
theorem wpHead_any {n g:Nat} {L:Array Bool→Act→Prop} {Q':Exit→Act→World→Prop} (hL: ∀listed a w,C w→L listed a→wpAny P md ops Q' g listed a w) (f:Nat):
  ∀(listed:Array Bool) (a:Act) (w:World),C w→wpHead P md ops C n L f listed a→wpAny P md ops Q' (g+f) listed a w:=by
 induction f with
 |zero=>exact fun listed a w hw h=>hL listed a w hw h
 |succ f ih=>exact fun listed a w hw h=>⟨fun h0=>absurd h0 h.1,fun i hi=>wpOp_of_qOp hw (fun a' w' hw' h'=>ih _ a' w' hw' h') (h.2 i hi).2⟩
structure TailOk (md:Region.Mode) (ops:Array Oper) (n:Nat):Prop where
 sel: ∀(j:Nat) (o:Oper) cs b,ops[j]? =some o→o.op≠ .select cs b
 sink:Region.sinkB md ops n=true
 chain:Region.chainB md ops n=true
 lt:n<ops.size
theorem TailOk.head {n i:Nat} {listed:Array Bool} (T:TailOk md ops n) (inv:HeadInv md ops n listed) (hi:i<n) (hr:i∈Region.ready md ops listed) {j:Nat} (hj:j∈Region.ready md ops listed):j<n:=
 Nat.lt_of_not_le fun h=>tail_waits T.sink T.chain T.lt inv _ i rfl hi (mem_ready.1 hr).1 j h hj
def Apart (md:Region.Mode) (ops:Array Oper) (i:Nat) (oi:Oper) (listed:Array Bool):Prop:=
 ∀j oj,ops[j]? =some oj→j≠i→listed.getD j true=false→(∀e∈oj.after,Region.binds md e=true→e.on≠i)→oi.apart ops oj=true
theorem Apart.set {i j:Nat} {oi:Oper} {listed:Array Bool} (h:Apart md ops i oi listed) (hj:listed.getD j true=false):Apart md ops i oi (listed.setIfInBounds j true):=by
 intro k ok hk hki hun hno
 refine h k ok hk hki ?_ hno
 by_cases e:k=j
 ·rw[e];exact hj
 ·rwa [getD_set_ne true (Ne.symm e)] at hun
theorem wpHead_first {n i:Nat} {oi:Oper} {v:Value} {L:Array Bool→Act→Prop} (T:TailOk md ops n) (hi:ops[i]? =some oi) (hin:i<n)
  (hL: ∀listed a,L listed a→ ∀j∈Region.ready md ops listed,n≤j) (f:Nat):
  ∀(listed:Array Bool) (a:Act),HeadInv md ops n listed→Apart md ops i oi listed→i∈Region.ready md ops listed→YieldsIn P ops C oi v a→
   wpHead P md ops C n L f (listed.setIfInBounds i true) (a.put oi.dst v)→wpHead P md ops C n L (f+1) listed a:=by
 induction f with
 |zero=>
  intro listed a inv hap hr hy H
  refine⟨List.ne_nil_of_mem hr,fun j hj=> ?_⟩
  have hjn:=T.head inv hin hr hj
  refine⟨hjn, ?_⟩
  rcases Decidable.em (j=i) with rfl|hne
  ·exact hy.qOp hi H
  ·exact absurd (hL _ _ H j (ready_mono hj hne)) (by omega)
 |succ f ih=>
  intro listed a inv hap hr hy H
  refine⟨List.ne_nil_of_mem hr,fun j hj=> ?_⟩
  have hjn:=T.head inv hin hr hj
  refine⟨hjn, ?_⟩
  rcases Decidable.em (j=i) with rfl|hne
  ·exact hy.qOp hi H
  ·obtain⟨hjun,oj,hoj,hall⟩:=mem_ready.1 hj
   have hw: ∀e∈oj.after,Region.binds md e=true→e.on≠i:=by
    intro e he hb h
    have:=hall e he hb
    rw[h,getD_both (mem_ready.1 hr).1] at this
    cases this
   have step:=qOp_put hoj (hap j oj hoj hne hjun hw) (fun cs b=>T.sel i oi cs b hi) (fun cs b=>T.sel j oj cs b hoj) hy (H.2 j (ready_mono hj hne)).2
   refine qOp_mono (fun a' ha'=>ih _ a' (inv.set hj hjn) (hap.set hjun) (ready_mono hr (Ne.symm hne)) ha'.1 ?_) step
   rw[Array.setIfInBounds_comm _ _ hne]
   exact ha'.2
theorem wpHead_lex {n g:Nat} {Lq:Act→Prop} (T:TailOk md ops n) (l:List Oper):
  ∀(k:Nat) (listed:Array Bool) (a:Act),(∀j,j<l.length→l[j]? =ops[k+j]?)→k+l.length=n→HeadInv md ops n listed→
   Region.lexHead md ops g l.length k listed=true→wpQuiet P ops C Lq l a→wpHead P md ops C n (fun listed' a'=>Region.seqB md ops g n listed'=true∧Lq a') l.length listed a:=by
 induction l with
 |nil=>
  intro k listed a _ hk _ hB h
  obtain rfl:k=n:=by simpa using hk
  exact⟨by simpa[Region.lexHead] using hB,h⟩
 |cons o l ih=>
  intro k listed a hl hk inv hB h
  have h0:ops[k]? =some o:=by simpa using (hl 0 (by simp)).symm
  rw[List.length_cons] at hk
  simp only[List.length_cons,Region.lexHead,Bool.and_eq_true] at hB
  have hr:k∈Region.ready md ops listed:=by simpa using hB.1.1
  have hkn:k<n:=by omega
  have hq:qOp P ops C k (wpQuiet P ops C Lq l) a:=by unfold qOp;rw[h0];exact h
  obtain⟨v,hy,hK⟩:=yieldsIn_of_qOp h0 hq
  refine wpHead_first T h0 hkn (fun _ _ hh=>seqB_ready hh.1) l.length listed a inv (Region.free_spec h0 hB.1.2) hr hy (ih (k+1) _ _ ?_ (by omega) (inv.set hr hkn) hB.2 hK)
  intro j hj
  have:=hl (j+1) (by simp;omega)
  rw[List.getElem?_cons_succ] at this
  rw[this];congr 1;omega
theorem wp_region_tail {id:Nat} {Q:Exit→Act→World→Prop} {a:Act} {w:World} {l:List Oper} (n:Nat) (hm:P.follows .mixedOrders=true) (hB:Region.lexTailB .any l.toArray n=true) (hC:C { w with drawn:=w.drawn+1 })
  (h:wpQuiet P l.toArray C (fun a'=> ∀w',C w'→wpList P l.toArray Q (l.drop n) a' w') (l.take n) a):(Code.region id l.toArray true).wp P Q a w:=by
 simp only[Region.lexTailB,Bool.and_eq_true,decide_eq_true_eq] at hB
 obtain⟨⟨⟨⟨hsel,hn⟩,hs⟩,hc⟩,hlex⟩:=hB
 have T:TailOk .any l.toArray n:=⟨Region.noSelect_spec hsel,hs,hc,hn⟩
 have hnl:n<l.length:=by simpa using hn
 have htk:(l.take n).length=n:=by simp;omega
 have inv0:HeadInv .any l.toArray n (Array.replicate l.toArray.size false):=
  ⟨by simp,fun j oj _ hj=>(by rw[getD_replicate_false] at hj;cases hj),fun t _ ht=>getD_in (by simpa using ht) (getD_replicate_false _ _)⟩
 have H:=wpHead_lex (C:=C) (md:= .any) (g:=l.toArray.size - n) T (l.take n) 0 _ a (fun j hj=>by
  rw[htk] at hj
  simp[hj]) (by simpa using htk) inv0 (by rw[htk];exact hlex) h
 refine wp_region_any hm ?_
 have hg:(l.drop n).length=l.toArray.size - n:=by simp
 have K:=wpHead_any (Q':=Q) (g:=l.toArray.size - n) (fun listed a' w' hw' hL=>by
  have:=wpAny_of_seq (md:= .any) (Q':=Q) (ops:=l.toArray) (l.drop n) n listed a' w' (fun j=>by simp[List.getElem?_drop]) (by rw[hg];exact hL.1) (hL.2 w' hw')
  rwa [hg] at this) _ _ _ _ hC H
 rw[htk,show l.toArray.size - n+n=l.toArray.size by omega] at K
 exact K
def Later (w:World):= { w':World // Below w.heap.size w w' }
instance laterSome (w:World):Nonempty (Later w):=⟨⟨w,Below.refl _ _⟩⟩
theorem Later.cell {w:World} (x:Later w) {b o:Nat} (h:b<w.heap.size):x.1.cell? ⟨b,o,none⟩=w.cell? ⟨b,o,none⟩:=x.2.cell (p:=⟨b,o,none⟩) h
theorem Later.frozen {w:World} (x:Later w) {b o:Nat} (h:b<w.heap.size):x.1.frozen? ⟨b,o,none⟩=w.frozen? ⟨b,o,none⟩:=x.2.frozen (p:=⟨b,o,none⟩) h
theorem Later.self (w:World): ∃x:Later w, { w with drawn:=w.drawn+1 }=x.1:=⟨⟨w.drew,(Below.refl _ _).drew⟩,rfl⟩
theorem Later.call {f:FuncId} {args:Array Value} {w:World} {x:Later w} {v:Value} (h:Calls P f args x.1 fun e w'=>e= .returned v∧Below x.1.heap.size x.1 w'):
  Calls P f args x.1 fun e w'=>e= .returned v∧ ∃y:Later w,w'=y.1:=h.mono fun e w' ⟨he,hb⟩=>⟨he,⟨w',x.2.trans (hb.mono x.2.size)⟩,rfl⟩
theorem wp_region_later {id:Nat} {Q:Exit→Act→World→Prop} {a:Act} {w:World} {l:List Oper} (hm:P.follows .mixedOrders=true) (hB:Region.lexB .any l.toArray=true)
  (h:wpQuiet P l.toArray (fun w'=> ∃x:Later w,w'=x.1) (fun a'=> ∀w',(∃x:Later w,w'=x.1)→Q .normal a' w') l a):(Code.region id l.toArray true).wp P Q a w:=
 wp_region_quiet (C:=fun w'=> ∃x:Later w,w'=x.1) hm hB (Later.self w) (by simpa using h)
theorem wp_region_later_tail {id:Nat} {Q:Exit→Act→World→Prop} {a:Act} {w:World} {l:List Oper} (n:Nat) (hm:P.follows .mixedOrders=true) (hB:Region.lexTailB .any l.toArray n=true)
  (h:wpQuiet P l.toArray (fun w'=> ∃x:Later w,w'=x.1) (fun a'=> ∀w',(∃x:Later w,w'=x.1)→wpList P l.toArray Q (l.drop n) a' w') (l.take n) a):(Code.region id l.toArray true).wp P Q a w:=
 wp_region_tail n hm hB (Later.self w) h
end
end Go.Proofs.YtjgkegkinnlcoaaGreatDoor
namespace Go.Proofs.YtjgkegkinnlcoaaGreatDoor
open Go.RowKit Go.Joins
def JoinPost (l:List ByteArray) (w:World) (e:Ending) (w':World):Prop:= ∃r,e= .returned (.tuple #[.string r, .bool (joinOk l)])∧(joinOk l=true→r=joinP l)∧Below w.heap.size w w'
theorem joinL_size (l:List ByteArray) (h: ∀s∈l,s.size=64):(joinL l).size=l.length*63:=by
 unfold joinL
 rw[S_size]
 induction l with
 |nil=>rfl
 |cons s l ih=>
  simp only[List.map_cons,List.flatten_cons,List.length_append,List.length_cons]
  rw[ih (fun x hx=>h x (by simp[hx])),data_length,untell_size s (h s (by simp))]
  omega
theorem joinOk_tell {l:List ByteArray} {j:Nat} {s:ByteArray} (hs:l[j]? =some s) (h:s.data.toList.getD 10 0≠0):joinOk l=false:=by
 unfold joinOk
 rw[Bool.and_eq_false_iff]
 left
 rw[List.all_eq_false]
 exact⟨s,List.mem_of_getElem? hs,by simpa using h⟩
theorem joinOk_end {l:List ByteArray} (h: ∀s∈l,s.data.toList.getD 10 0=0):joinOk l=decide ((joinL l).extract 512 567=S (nul 55)):=by
 unfold joinOk
 have:l.all (fun s=>s.data.toList.getD 10 0==0)=true:=by
  rw[List.all_eq_true];intro s hs;simpa using h s hs
 rw[this,Bool.true_and]
theorem byte10 (s:ByteArray) (h:10<s.size):s.data.toList.getD 10 0=s[10]:=by
 have:s.data.toList[10]? =some s[10]:=by rw[List.getElem?_eq_getElem (by simpa using h)];rfl
 simp[List.getD,this]
theorem takeL_snoc {α:Type} (l:List α) (j:Nat) {s:α} (h:l[j]? =some s):l.take j++[s]=l.take (j+1):=by
 rw[List.take_add_one,h];rfl
set_option maxRecDepth 100000 in
set_option maxHeartbeats 4000000 in
theorem joined_any {w:World} {a:Option Addr} {c:Nat} {l:List ByteArray} (hl:l.length=9) (hat:StrsAt w a l) (hz: ∀s∈l,s.size=64):
  Calls Tryz.prog 198 #[.slice a 9 c] w (JoinPost l w):=by
 obtain⟨b,off,rfl,hc⟩: ∃b off,a=some ⟨b,off,none⟩∧ ∀(j:Nat) x,l[j]? =some x→w.cell? ⟨b,off+j,none⟩=some (.string x):=by
  rcases hat with h|h
  ·rw[h] at hl;cases hl
  ·exact h
 have HC:=Lib.hid hc
 have HL:=Lib.hid hl
 clear hat hc hl
 go_enter Tryz.func198,Tryz.ntmps198
 go_wp2_with fail
 go_loopw [4,6,9] (fun v _ c wr=> ∃j:Nat,j≤9∧c= .int .i64 j∧v= .string (joinL (l.take j))∧(∀s∈l.take j,s.data.toList.getD 10 0=0)∧Drawn w wr) (fun _ _ c _=>9 - (intOf c).toNat)
 case atStart=>exact⟨0,Nat.zero_le _,rfl,rfl,(by intro s hs;simp at hs),Drawn.refl _⟩
 case round=>
  obtain⟨j,hj,rfl,rfl,htell,q,rfl⟩:=hrel
  have HT:=Lib.hid htell
  clear htell
  by_cases hlt:j<9
  ·obtain⟨s,hs⟩: ∃s,l[j]? =some s:=⟨l[j]'(by rw[HL.out];exact hlt),List.getElem?_eq_getElem _⟩
   have hsz:=hz s (List.mem_of_getElem? hs)
   have hcell:(w.drewN q).cell? ⟨b,off+j,none⟩=some (.string s):=HC.out j s hs
   have s1:64≤s.size:=by omega
   have s2:s.size≤64:=by omega
   have s3:10<s.size:=by omega
   have SZ:=Lib.hid hsz
   have HS:=Lib.hid hs
   have jz:=joinL_size (l.take j) (fun x hx=>hz x (List.mem_of_mem_take hx))
   have jz2:(joinL (l.take j)).size≤567:=by rw[jz,List.length_take];omega
   clear hsz hs jz
   by_cases h0:s.data.toList.getD 10 0=0
   ·have t0:((s[10].toNat:Int) != 0)=false:=by rw[←byte10 s s3,h0];rfl
    have H0:=Lib.hid h0
    clear h0
    have i1:(10:Int)≤(s.size:Int):=by omega
    have i2:(11:Int)≤(s.size:Int):=by omega
    have i3:(0:Int)≤10:=by decide
    have k1: ¬(9223372036854775807<min 10 s.size+(s.size - 11)):=by omega
    have k2: ¬(9223372036854775807<(joinL (l.take j)).size+(min 10 s.size+(s.size - 11))):=by omega
    have hJ:joinL (l.take j)++(s.extract 0 10++s.extract 11 s.size)=joinL (l.take (j+1)):=by
     rw[←takeL_snoc l j HS.out, ←joinL_snoc,SZ.out];rfl
    have HJ:=Lib.hid hJ
    clear hJ
    go_wp2_with fail
    go_quiet (fail)
    go_wp2_with fail
    go_roundw
    case rel=>
     refine⟨j+1,by omega,by go_num,by rw[HJ.out],fun x hx=> ?_,⟨_,rfl⟩⟩
     rw[←takeL_snoc l j HS.out] at hx
     rcases List.mem_append.1 hx with hx|hx
     ·exact HT.out x hx
     ·simp at hx;subst hx;exact H0.out
    case measure=>simp[intOf];omega
   ·have t0:((s[10].toNat:Int) != 0)=true:=by
     rw[byte10 s s3] at h0
     simp only[bne_iff_ne,ne_eq]
     intro e
     apply h0
     apply UInt8.toNat_inj.1
     simpa using e
    have HF:=Lib.hid (joinOk_tell HS.out h0)
    clear h0
    go_wp2_with fail
    go_ret2
    exact⟨⟨#[]⟩,by rw[HF.out];rfl,(by rw[HF.out];intro h;cases h),below_drewN (Below.refl _ _) _⟩
  ·obtain rfl:j=9:=by omega
   have ht:l.take 9=l:=List.take_of_length_le (by rw[HL.out];omega)
   rw[ht] at HT
   have jz:=joinL_size l hz
   rw[HL.out] at jz
   have j1:(joinL l).size≤567:=by omega
   have j2:567≤(joinL l).size:=by omega
   have j3:(0:Int)≤512:=by decide
   have j4:(512:Int)≤((joinL l).size:Int):=by omega
   have hE:=joinOk_end HT.out
   have HE:=Lib.hid hE
   have JZ:=Lib.hid jz
   have HTK:=Lib.hid ht
   clear jz hE ht
   go_wp2_with fail
   rw[HTK.out]
   have hw1:IntKind.i64.wrap (((joinL l).size:Int) - 512)=((joinL l).size:Int) - 512:=IntWalk.i64_in _ (by omega)
   have hr: ∀W,Calls Tryz.prog 72 #[.string ⟨#[0]⟩, .int .i64 (((joinL l).size:Int) - 512)] W fun e w'=>e= .returned (.string (S (nul 55)))∧Below W.heap.size W w':=fun W=>by
    have e55:(((joinL l).size:Int) - 512).toNat=55:=by omega
    have:=repeat_nul (((joinL l).size:Int) - 512) W (by omega) (by omega)
    rwa [e55] at this
   have HR:=Lib.hid hr
   have hjx:(joinL l).extract 512 (joinL l).size=(joinL l).extract 512 567:=by rw[JZ.out]
   have JX:=Lib.hid hjx
   clear hr hjx
   by_cases heq:(joinL l).extract 512 567=S (nul 55)
   ·have st:=str_eq heq
    rw[←JX.out] at st
    have HQ:=Lib.hid heq
    clear heq
    refine wp_region_later (by kernel_rfl) (by kernel_rfl) ?_
    repeat (quiet_step ((go_at_call 72;refine Later.call (HR.out _))))
    refine wpQuiet_nil ?_
    intro _ hw'
    obtain⟨⟨w6,hb6⟩,hw''⟩:=hw'
    subst hw''
    go_wp2_with fail
    go_ret2
    exact⟨joinP l,by rw[HE.out,decide_eq_true HQ.out];rfl,fun _=>rfl,below_step hb6 (below_drewN (Below.refl _ _) _)⟩
   ·have st:=str_ne heq
    rw[←JX.out] at st
    have HQ:=Lib.hid heq
    clear heq
    refine wp_region_later (by kernel_rfl) (by kernel_rfl) ?_
    repeat (quiet_step ((go_at_call 72;refine Later.call (HR.out _))))
    refine wpQuiet_nil ?_
    intro _ hw'
    obtain⟨⟨w6,hb6⟩,hw''⟩:=hw'
    subst hw''
    go_wp2_with fail
    go_ret2
    exact⟨joinP l,by rw[HE.out,decide_eq_false HQ.out];rfl,fun _=>rfl,below_step hb6 (below_drewN (Below.refl _ _) _)⟩
end Go.Proofs.YtjgkegkinnlcoaaGreatDoor
namespace Go.Proofs.YtjgkegkinnlcoaaGreatDoor
open Go.RowKit Go.Maps Go.Joins
set_option maxRecDepth 100000 in
set_option maxHeartbeats 400000 in
theorem down_at (w:World) (d:Nat) (b:Bool) (hc:w.cell? ⟨d,4,none⟩=some (.bool b)):
  Calls Tryz.prog 140 #[.pointer (some ⟨d,0,none⟩)] w fun e w'=>e= .returned (.bool b)∧w=w':=by
 go_enter Tryz.func140,Tryz.ntmps140
 go_wp2_with fail
 go_ret
 exact⟨rfl,rfl⟩
set_option maxRecDepth 100000 in
set_option maxHeartbeats 400000 in
theorem len_at (w:World) (d sb n sc:Nat) (hc:w.cell? ⟨d,0,none⟩=some (.slice (some ⟨sb,0,none⟩) n sc)):
  Calls Tryz.prog 85 #[.pointer (some ⟨d,0,none⟩)] w fun e w'=>e= .returned (.int .i64 n)∧w=w':=by
 go_enter Tryz.func85,Tryz.ntmps85
 go_wp2_with fail
 go_ret
 exact⟨rfl,rfl⟩
def burnM (m:DM):Bool × DM:=
 if m.fuse=0 then(false, { m with down:=true,fuse:= -1 }) else if 0<m.fuse then(true, { m with fuse:=m.fuse - 1 }) else(true,m)
set_option maxRecDepth 100000 in
set_option maxHeartbeats 1000000 in
theorem burn_any {w:World} {d sb sc M:Nat} {wv:Value} {D:DataW Unit} {m:DM} (h:DiskAt w d sb sc M wv D m) (hf:m.fuse≤9223372036854775807):
  Calls Tryz.prog 151 #[.pointer (some ⟨d,0,none⟩)] w fun e w'=>e= .returned (.bool (burnM m).1)∧DiskAt w' d sb sc M wv D (burnM m).2∧Touch [d] w w':=by
 obtain⟨_,_,_,c3,c4⟩:=h.cell
 have f3:=h.frozen 3
 have f4:=h.frozen 4
 by_cases h0:m.fuse=0
 ·have hm:burnM m=(false, { m with down:=true,fuse:= -1 }):=by simp[burnM,h0]
  have R:=(h.setDown true).setFuse (-1)
  have F:=Lib.hid hm
  have e0:(m.fuse==0)=true:=by simp[h0]
  clear hm h0
  generalize m.fuse=n at*
  go_enter Tryz.func151,Tryz.ntmps151
  go_wp2_with fail
  go_ret
  rw[F.out]
  exact⟨rfl,R,((Touch.refl _ _).setCell (.inl (by simp)) _).setCell (.inl (by simp)) _⟩
 ·by_cases h1:0<m.fuse
  ·have hm:burnM m=(true, { m with fuse:=m.fuse - 1 }):=by simp[burnM,h0,h1]
   have R:=h.setFuse (m.fuse - 1)
   have F:=Lib.hid hm
   have e0:(m.fuse==0)=false:=by simp[h0]
   clear hm h0
   generalize m.fuse=n at*
   go_enter Tryz.func151,Tryz.ntmps151
   go_wp2_with fail
   go_ret
   rw[F.out]
   exact⟨rfl,R,(Touch.refl _ _).setCell (.inl (by simp)) _⟩
  ·have hm:burnM m=(true,m):=by simp[burnM,h0,h1]
   have F:=Lib.hid hm
   have e0:(m.fuse==0)=false:=by simp[h0]
   clear hm h0
   generalize hn:m.fuse=n at*
   clear hn
   go_enter Tryz.func151,Tryz.ntmps151
   go_wp2_with fail
   go_ret
   rw[F.out]
   exact⟨rfl,h,Touch.refl _ _⟩
theorem zeroStr (w:World):(zeroValue 9).run Tryz.prog w= .ok (.string ⟨#[]⟩) w:=by kernel_rfl
theorem look_disk {w:World} {M n:Nat} {D:DataW Unit} {f:Int→Option ByteArray} (h:w.ownsMap Tryz.prog 3 (plainElem Tryz.prog 9) M n D) (hm:MapIs D f) (i:Int) (hwf:(Lit.int .i64 i).wf=true):
  (Instr.lookup 130 (.map (some M)) (.int .i64 i) true).run Tryz.prog w= .ok (.tuple #[.string ((f i).getD ⟨#[]⟩), .bool (f i).isSome]) w:=by
 obtain⟨v,ps,hrun,hv⟩:=h.look_ok Tryz.keyInt Tryz.underlying130 (zeroStr w) (plainElem_string Tryz.underlying9 (s:=⟨#[]⟩) (by decide)) (keyOf_int_mk Tryz.underlying3 hwf)
 obtain⟨s,rfl,he,_⟩:=plainElem_string_inv Tryz.underlying9 hv
 obtain⟨h1,h2⟩:=hm.2 i
 rw[hrun,h1]
 rw[h2] at he
 cases hf:f i with
 |none=>
  rw[hf] at he
  simp at he
  have:s=⟨#[]⟩:=by rw[←S_data s,he.1];rfl
  rw[this];rfl
 |some t=>
  rw[hf] at he
  simp at he
  have:s=t:=by rw[←S_data s, ←S_data t,he.1]
  rw[this];rfl
def rdM (m:DM) (i:Int):ByteArray × Int:=
 if m.down then(⟨#[]⟩,11) else if i<0∨(m.sure.length:Int)≤i then(⟨#[]⟩,1) else((lastW m.wait i).getD (m.sure.getD i.toNat ⟨#[]⟩),0)
set_option maxRecDepth 100000 in
set_option maxHeartbeats 1000000 in
theorem read_any {w:World} {d sb sc M:Nat} {wv:Value} {D:DataW Unit} {m:DM} (h:DiskAt w d sb sc M wv D m) (i:Int) (h1: -9223372036854775808≤i) (h2:i≤9223372036854775807):
  Calls Tryz.prog 84 #[.pointer (some ⟨d,0,none⟩), .int .i64 i] w fun e w'=>e= .returned (.tuple #[.string (rdM m i).1, .int .i64 (rdM m i).2])∧w=w':=by
 obtain⟨c0,_,c2,c3,c4⟩:=h.cell
 by_cases hd:m.down=true
 ·have F:=Lib.hid (show rdM m i=(⟨#[]⟩,11) by simp[rdM,hd])
  rw[hd] at c4
  clear hd
  go_enter Tryz.func84,Tryz.ntmps84
  go_wp2_with fail
  refine(down_at _ _ _ c4).mono ?_
  rintro e w1 ⟨rfl,rfl⟩
  go_wp2_with fail
  go_ret2
  rw[F.out]
  exact⟨rfl,rfl⟩
 ·have hd:m.down=false:=by simpa using hd
  rw[hd] at c4
  by_cases hneg:i<0
  ·have F:=Lib.hid (show rdM m i=(⟨#[]⟩,1) by simp[rdM,hd,hneg])
   clear hd
   go_enter Tryz.func84,Tryz.ntmps84
   go_wp2_with fail
   refine(down_at _ _ _ c4).mono ?_
   rintro e w1 ⟨rfl,rfl⟩
   go_wp2_with fail
   go_ret2
   rw[F.out]
   exact⟨rfl,rfl⟩
  ·obtain⟨i,rfl⟩:=Int.eq_ofNat_of_zero_le (show 0≤i by omega)
   by_cases hbig:m.sure.length≤i
   ·have F:=Lib.hid (show rdM m i=(⟨#[]⟩,1) by simp[rdM,hd,hbig])
    clear hd hneg
    go_enter Tryz.func84,Tryz.ntmps84
    go_wp2_with fail
    refine(down_at _ _ _ c4).mono ?_
    rintro e w1 ⟨rfl,rfl⟩
    go_wp2_with fail
    go_ret2
    rw[F.out]
    exact⟨rfl,rfl⟩
   ·have hlt:i<m.sure.length:=by omega
    have hl:=look_disk h.map h.mapIs i (WalkArith.wf_i64 (by omega))
    have F:=Lib.hid (show rdM m i=((lastW m.wait i).getD (m.sure.getD i ⟨#[]⟩),0) by simp[rdM,hd];omega)
    have c5:=h.sure.cellAt i (by omega)
    have c5':(m.sure.map Value.string)[i]? =some (.string (m.sure.getD i ⟨#[]⟩)):=by simp[hlt]
    rw[c5'] at c5
    clear hd hbig hneg c5'
    generalize m.sure.getD i ⟨#[]⟩=s0 at*
    cases hw:lastW m.wait i with
    |none=>
     rw[hw] at hl F
     simp only[Option.getD_none,Option.isSome_none] at hl
     clear hw
     go_enter Tryz.func84,Tryz.ntmps84
     go_wp2_with fail
     refine(down_at _ _ _ c4).mono ?_
     rintro e w1 ⟨rfl,rfl⟩
     go_wp2_with fail
     go_ret2
     rw[F.out]
     exact⟨rfl,rfl⟩
    |some t=>
     rw[hw] at hl F
     simp only[Option.getD_some,Option.isSome_some] at hl
     clear hw
     go_enter Tryz.func84,Tryz.ntmps84
     go_wp2_with fail
     refine(down_at _ _ _ c4).mono ?_
     rintro e w1 ⟨rfl,rfl⟩
     go_wp2_with fail
     go_ret2
     rw[F.out]
     exact⟨rfl,rfl⟩
def fuM (m:DM) (n:Int):DM:= { m with fuse:=max n (-1) }
theorem cells_ne {w:World} {b g n:Nat} {t t':TypeId} {f:Nat→Value} {cur:Array Value} (h:w.rowIs b t n f) (hg:w.heap[g]? =some (.cells cur t' (0,0))) (ht:t≠t'):g≠b:=by
 rintro rfl
 obtain⟨c,hc,_⟩:=h
 rw[hc] at hg
 simp at hg
 exact ht hg.2
theorem disk_written {w1 w2 w3:World} {d sb sc M g cap:Nat} {wv:Value} {D:DataW Unit} {m:DM} {o:Obj} {i:Int} {s:ByteArray} (h:DiskAt w1 d sb sc M wv D m)
  (hown:w2.ownsRow 0 224 2 (.slice (some ⟨g,0,none⟩) (m.wait.length+1) cap) (m.wait.length+1) (waitCells m.wait++[.int .i64 i, .string s])) (hgrow:(w1.alloc o).grownBy w2 wv.ownBlock)
  (hmap:w3.ownsMap Tryz.prog 3 (plainElem Tryz.prog 9) M (m.wait.length+1) (D.put (.int .i64 i) (.lit (.string s.data.toList))))
  (hg3:(w2.setCell ⟨d,1,none⟩ (.slice (some ⟨g,0,none⟩) (m.wait.length+1) cap)).grownBy w3 (some M)):
  DiskAt w3 d sb sc M (.slice (some ⟨g,0,none⟩) (m.wait.length+1) cap) (D.put (.int .i64 i) (.lit (.string s.data.toList))) { m with wait:=m.wait++[(i,s)] }∧Touch (diskB d sb M wv) w1 w3:=by
 have t1:Touch wv.ownBlock.toList w1 w2:=((Touch.refl _ _).alloc o).trans (Touch.of_grown hgrow) (fun b hb=> .inl hb)
 have hd2:=rowIs_touch h.cells t1 (by simp;exact fun e=>(h.ne4 d e).1 rfl)
 have hs2:=ownsRow_touch h.sure t1 (by intro g' hg';cases hg';simp;exact fun e=>(h.ne4 sb e).2.1 rfl)
 have hM1:M∉wv.ownBlock.toList:=by simp;exact fun e=>(h.ne4 M e).2.2 rfl
 have hm2:=ownsMap_touch h.map t1 hM1
 obtain⟨gg,hgg⟩: ∃cur,w2.heap[g]? =some (.cells cur 224 (0,0)):=by
  rcases hown.2 with ⟨h0,_⟩|⟨g',cap',cur,hv,_,hg',_⟩
  ·cases h0
  ·cases hv;exact⟨cur,hg'⟩
 have n1:g≠d:=cells_ne hd2 hgg (by decide)
 have n2:g≠sb:=by
  rintro rfl
  rcases hs2.2 with ⟨h0,_⟩|⟨g',cap',cur,hv,_,hg',_⟩
  ·cases h0
  ·cases hv;rw[hg'] at hgg;simp at hgg
 have n3:g≠M:=by
  rintro rfl
  obtain⟨es,clock,hb,_⟩:=hm2
  rw[hb] at hgg;simp at hgg
 have t2:Touch [d] w2 (w2.setCell ⟨d,1,none⟩ (.slice (some ⟨g,0,none⟩) (m.wait.length+1) cap)):=(Touch.refl _ _).setCell (.inl (by simp)) _
 have t3:=Touch.of_grown hg3
 have hd3:=World.rowIs.set hd2 1 (.slice (some ⟨g,0,none⟩) (m.wait.length+1) cap)
 have hd4:=rowIs_touch hd3 t3 (by simp;exact h.ne2)
 have hs4:=ownsRow_touch (ownsRow_touch hs2 t2 (by intro g' hg';cases hg';simp;exact fun e=>h.ne1 e.symm)) t3 (by intro g' hg';cases hg';simp;exact h.ne3)
 have ho4:=ownsRow_touch (ownsRow_touch hown t2 (by intro g' hg';cases hg';simp;exact n1)) t3 (by intro g' hg';cases hg';simp;exact n3)
 rw[waitCells_snoc] at ho4
 refine⟨⟨World.rowIs.congr hd4 (fun j hj=>by rcases j with _|_|_|_|_|j<;>first|rfl|omega),hs4, ?_, ?_, ?_,h.ne1,h.ne2,h.ne3, ?_⟩, ?_⟩
 ·simpa using ho4
 ·simpa using hmap
 ·refine⟨h.mapIs.1.put _ _,fun k=> ?_⟩
  rw[lastW_snoc]
  by_cases hk:i=k
  ·subst hk
   rw[if_pos rfl,has_put_same h.mapIs.1 (by simp[WideAt.IsKeyLit])]
   exact⟨rfl,fun z=>atKey_put_same h.mapIs.1 (by simp[WideAt.IsKeyLit]) _ _⟩
  ·have hne:(Lit.int .i64 k)≠(Lit.int .i64 i):=by intro e;injection e with _ e;exact hk e.symm
   rw[if_neg hk,has_put_other hne]
   exact⟨(h.mapIs.2 k).1,fun z=>by rw[atKey_put_other hne];exact(h.mapIs.2 k).2 z⟩
 ·intro g' hg';cases hg';exact⟨n1,n2,n3⟩
 ·have k1:Touch (diskB d sb M wv) w1 w2:=t1.mono (fun b hb=> .inl (by simp[diskB] at hb ⊢;exact .inr (.inr (.inr hb))))
  have k2:Touch (diskB d sb M wv) w1 (w2.setCell ⟨d,1,none⟩ (.slice (some ⟨g,0,none⟩) (m.wait.length+1) cap)):=k1.setCell (.inl (by simp[diskB])) _
  exact k2.trans t3 (fun b hb=> .inl (by simp at hb;subst hb;simp[diskB]))
theorem Tryz.infoWrite:(Tryz.prog.info? 224).map (fun i=>(i.zero,i.size,i.bytes))=some (some (.agg #[.int .i64 0, .string ⟨#[]⟩]),2,24):=by kernel_rfl
def Goes (w w':World) (d:Nat) (F:List Nat) (m':DM):Prop:= ∃F',IsDisk w' d F' m'∧Touch F w w'∧ ∀b∈F',b∈F∨w.heap.size≤b
theorem Goes.of_at {w w':World} {d sb sc M:Nat} {wv:Value} {D:DataW Unit} {m:DM} {G:List Nat} (h:DiskAt w' d sb sc M wv D m) (t:Touch G w w') (hG: ∀b∈G,b∈diskB d sb M wv):Goes w w' d (diskB d sb M wv) m:=
 ⟨_,⟨sb,sc,M,wv,D,h,rfl⟩,t.mono (fun b hb=> .inl (hG b hb)),fun b hb=> .inl hb⟩
def wrM (m:DM) (i:Int) (s:ByteArray):Int × DM:=
 if m.down then(11,m) else if i<0∨(m.sure.length:Int)≤i∨s.size≠64 then(1,m)
 else if (burnM m).1 then(0, { (burnM m).2 with wait:=(burnM m).2.wait++[(i,s)] }) else(11,(burnM m).2)
theorem burnM_wait (m:DM):(burnM m).2.wait=m.wait∧(burnM m).2.sure=m.sure:=by
 unfold burnM;split
 ·exact⟨rfl,rfl⟩
 ·split<;>exact⟨rfl,rfl⟩
set_option maxRecDepth 100000 in
set_option maxHeartbeats 2000000 in
theorem write_any {w:World} {d sb sc M:Nat} {wv:Value} {D:DataW Unit} {m:DM} (h:DiskAt w d sb sc M wv D m) (i:Int) (s:ByteArray) (h1: -9223372036854775808≤i) (h2:i≤9223372036854775807) (hf:m.fuse≤9223372036854775807)
  (hs:s.size≤9223372036854775807) (hw:m.wait.length≤1000000000):
  Calls Tryz.prog 77 #[.pointer (some ⟨d,0,none⟩), .int .i64 i, .string s] w fun e w'=>e= .returned (.int .i64 (wrM m i s).1)∧Goes w w' d (diskB d sb M wv) (wrM m i s).2:=by
 obtain⟨c0,_,c2,c3,c4⟩:=h.cell
 obtain⟨i0,hi,hz0,hz1,hz2⟩:=info_parts Tryz.infoWrite
 by_cases hd:m.down=true
 ·have F:=Lib.hid (show wrM m i s=(11,m) by simp[wrM,hd])
  rw[hd] at c4
  clear hd
  go_enter Tryz.func77,Tryz.ntmps77
  go_wp2_with fail
  refine(down_at _ _ _ c4).mono ?_
  rintro e w1 ⟨rfl,rfl⟩
  go_wp2_with fail
  go_ret
  rw[F.out]
  exact⟨rfl,Goes.of_at h (Touch.refl [] _) (by simp)⟩
 ·have hd:m.down=false:=by simpa using hd
  rw[hd] at c4
  by_cases hneg:i<0
  ·have F:=Lib.hid (show wrM m i s=(1,m) by simp[wrM,hd,hneg])
   clear hd
   go_enter Tryz.func77,Tryz.ntmps77
   go_wp2_with fail
   refine(down_at _ _ _ c4).mono ?_
   rintro e w1 ⟨rfl,rfl⟩
   go_wp2_with fail
   go_ret
   rw[F.out]
   exact⟨rfl,Goes.of_at h (Touch.refl [] _) (by simp)⟩
  ·obtain⟨i,rfl⟩:=Int.eq_ofNat_of_zero_le (show 0≤i by omega)
   by_cases hbig:m.sure.length≤i
   ·have F:=Lib.hid (show wrM m i s=(1,m) by simp[wrM,hd,hbig])
    clear hd hneg
    go_enter Tryz.func77,Tryz.ntmps77
    go_wp2_with fail
    refine(down_at _ _ _ c4).mono ?_
    rintro e w1 ⟨rfl,rfl⟩
    go_wp2_with fail
    go_ret
    rw[F.out]
    exact⟨rfl,Goes.of_at h (Touch.refl [] _) (by simp)⟩
   ·have hlt:i<m.sure.length:=by omega
    by_cases hz:s.size=64
    ·have hz':((s.size:Int) != 64)=false:=by simp[hz]
     have hsp:wrM m i s=if (burnM m).1 then(0, { (burnM m).2 with wait:=(burnM m).2.wait++[((i:Int),s)] }) else(11,(burnM m).2):=by
      have h1: ¬((i:Int)<0∨(m.sure.length:Int)≤i∨s.size≠64):=by omega
      unfold wrM;rw[hd,if_neg (by decide),if_neg h1]
     have hB:=burnM_wait m
     have hb:=burn_any h hf
     have HB:=Lib.hid hb
     clear hb hd hneg hbig hz
     cases hbb:(burnM m).1
     ·rw[hbb] at hsp HB
      have F:=Lib.hid hsp
      clear hsp hB hbb
      go_enter Tryz.func77,Tryz.ntmps77
      go_wp2_with fail
      refine(down_at _ _ _ c4).mono ?_
      rintro e w1 ⟨rfl,rfl⟩
      go_wp2_with fail
      refine HB.out.mono ?_
      rintro e w1 ⟨rfl,hD1,ht1⟩
      go_wp2_with fail
      go_ret
      rw[F.out]
      exact⟨rfl,Goes.of_at hD1 ht1 (by simp[diskB])⟩
     ·rw[hbb] at hsp HB
      have F:=Lib.hid hsp
      clear hsp hbb
      go_enter Tryz.func77,Tryz.ntmps77
      go_wp2_with fail
      refine(down_at _ _ _ c4).mono ?_
      rintro e w1 ⟨rfl,rfl⟩
      go_wp2_with fail
      refine HB.out.mono ?_
      rintro e w1 ⟨rfl,hD1,ht1⟩
      clear c0 c2 c3 c4
      have hl:(burnM m).2.wait.length≤1000000000:=by rw[hB.1];exact hw
      clear hB hw
      have H1:=Lib.hid hD1
      generalize (burnM m).2=m1 at*
      obtain⟨_,c1,c2,_,_⟩:=hD1.cell
      have f1:=hD1.frozen 1
      have hown:=hD1.wait
      have hwf:(Lit.int .i64 (i:Int)).wf=true:=WalkArith.wf_i64 (by omega)
      have hsz:s.size≤maxLen:=by unfold maxLen;omega
      clear hD1
      go_wp2_with (first
       |(at_builtin;refine wpList_append_near _ rfl (.tmp 35) (.tmp 39) 220 rfl 0 224 i0 _ 2 24 Tryz.underlying220 hi hz0 hz1 hz2 rfl (by decide) _ _ _ rfl (hown.alloc _) ⟨w1.heap.size,0,none⟩ 1 1 [.int .i64 i, .string s] rfl (by decide) rfl ?c1 ?c2 ?c3 ?c4 ?c5 ?_)
       |fail)
      case c1=>exact cell_pair _ _ _ _
      case c2=>intro u hu;simp at hu;rcases hu with rfl|rfl<;>rfl
      case c3=>unfold maxLen;omega
      case c4=>omega
      case c5=>exact Nat.zero_le _
      ·intro g cap w2 hown' hgrow hnear
       have HN:=Lib.hid hnear
       clear hnear
       have t1:Touch wv.ownBlock.toList w1 w2:=((Touch.refl _ _).alloc _).trans (Touch.of_grown hgrow) (fun b hb=> .inl hb)
       have hdF:d∉wv.ownBlock.toList:=by simp;exact fun e=>(H1.out.ne4 d e).1 rfl
       have hdl:d<w1.heap.size:=World.rowIs.lt H1.out.cells
       have k1:w2.cell? ⟨d,1,none⟩=some wv:=(t1.cell (p:=⟨d,1,none⟩) hdl hdF).trans c1
       have k2:w2.cell? ⟨d,2,none⟩=some (.map (some M)):=(t1.cell (p:=⟨d,2,none⟩) hdl hdF).trans c2
       have kf:w2.frozen? ⟨d,1,none⟩=false:=(t1.frozen (p:=⟨d,1,none⟩) hdl hdF).trans f1
       have HM:(w2.setCell ⟨d,1,none⟩ (.slice (some ⟨g,0,none⟩) (m1.wait.length+1) cap)).ownsMap Tryz.prog 3 (plainElem Tryz.prog 9) M m1.wait.length D:=
        ownsMap_touch (ownsMap_touch H1.out.map t1 (by simp;exact fun e=>(H1.out.ne4 M e).2.2 rfl)) ((Touch.refl [d] _).setCell (.inl (by simp)) _) (by simp;exact fun e=>H1.out.ne2 e.symm)
       have HO:=Lib.hid hown'
       have HG:=Lib.hid hgrow
       have HT:=Lib.hid t1
       clear hown' hgrow t1 hdF hdl c1 c2 f1 hown
       go_wp2_with (at_mapUpdate;refine wpList_mapUpdate_own _ rfl (.tmp 46) (.tmp 47) (.tmp 48) 130 rfl 3 9 Tryz.keyInt Tryz.underlying130 _ M m1.wait.length D rfl HM (by unfold maxLen;omega) _ _ (.int .i64 i) rfl rfl (keyOf_int_mk Tryz.underlying3 hwf) _ [] (plainElem_string Tryz.underlying9 hsz) ?_;intro w3 hmap3 hgrow3)
       go_ret
       rw[F.out]
       obtain⟨hA,hT⟩:=disk_written H1.out HO.out HG.out hmap3 hgrow3
       refine⟨rfl,_,⟨_,_,_,_,_,hA,rfl⟩,(ht1.mono (fun b hb=> .inl ?_)).trans hT (fun b hb=> .inl hb), ?_⟩
       ·simp at hb;subst hb;simp[diskB]
       ·intro b hb
        simp only[diskB,List.mem_cons,Option.mem_toList] at hb ⊢
        rcases hb with rfl|rfl|rfl|hb
        ·exact .inl (.inl rfl)
        ·exact .inl (.inr (.inl rfl))
        ·exact .inl (.inr (.inr (.inl rfl)))
        ·cases hb
         rcases HN.out with hn|hn
         ·exact .inl (.inr (.inr (.inr hn)))
         ·exact .inr (Nat.le_trans ht1.size (by first|exact hn|exact Nat.le_trans (by simp) hn))
    ·have hz':((s.size:Int) != 64)=true:=by simp;omega
     have F:=Lib.hid (show wrM m i s=(1,m) by simp[wrM,hd,hz])
     clear hd hneg hbig hz
     go_enter Tryz.func77,Tryz.ntmps77
     go_wp2_with fail
     refine(down_at _ _ _ c4).mono ?_
     rintro e w1 ⟨rfl,rfl⟩
     go_wp2_with fail
     go_ret
     rw[F.out]
     exact⟨rfl,Goes.of_at h (Touch.refl [] _) (by simp)⟩
end Go.Proofs.YtjgkegkinnlcoaaGreatDoor
namespace Go.Proofs.YtjgkegkinnlcoaaGreatDoor
open Go.RowKit Go.Maps Go.Joins
def flTo (su:List ByteArray) (l:List (Int × ByteArray)):List ByteArray:=l.foldl (fun su x=>su.set x.1.toNat x.2) su
theorem flTo_length: ∀(l:List (Int × ByteArray)) (su:List ByteArray),(flTo su l).length=su.length
 | [],su=>rfl
 |x::l,su=>by
  show(flTo (su.set x.1.toNat x.2) l).length=_
  rw[flTo_length l,List.length_set]
theorem flTo_snoc (su:List ByteArray) (l:List (Int × ByteArray)) (x:Int × ByteArray):flTo su (l++[x])=(flTo su l).set x.1.toNat x.2:=by
 simp[flTo,List.foldl_append]
theorem flushFn (i at_:Int) (s:ByteArray) (w:World):
  Calls Tryz.prog 156 #[.int .i64 i, .agg #[.int .i64 at_, .string s]] w fun e w'=>e= .returned (.string s)∧w'=w.alloc (.cells #[.int .i64 at_, .string s] 224):=by
 go_enter Tryz.func156,Tryz.ntmps156
 go_wp2_with fail
 go_ret
 exact⟨rfl,rfl⟩
theorem DiskAt.setSure {w:World} {d sb sc M:Nat} {wv:Value} {D:DataW Unit} {m:DM} (h:DiskAt w d sb sc M wv D m) (j:Nat) (s:ByteArray):DiskAt (w.setCell ⟨sb,j,none⟩ (.string s)) d sb sc M wv D { m with sure:=m.sure.set j s }:=by
 have t:Touch [sb] w (w.setCell ⟨sb,j,none⟩ (.string s)):=(Touch.refl _ _).setCell (.inl (by simp)) _
 refine⟨World.rowIs.congr (rowIs_touch h.cells t (by simp;exact h.ne1)) (fun i hi=> ?_), ?_,ownsRow_touch h.wait t (fun g hg=>by simp;exact(h.ne4 g hg).2.1),ownsMap_touch h.map t (by simp;exact fun e=>h.ne3 e.symm),h.mapIs,h.ne1,h.ne2,h.ne3,h.ne4⟩
 ·rcases i with _|_|_|_|_|i<;>simp[diskF]
 ·have:=(h.sure.stored j (.string s)).1
  simp only[List.length_set]
  rw[List.map_set]
  exact this
theorem disk_settled {w1 w3:World} {d sb sc M:Nat} {wv:Value} {D:DataW Unit} {m:DM} (h:DiskAt w1 d sb sc M wv D m)
  (hmap:w3.ownsMap Tryz.prog 3 (plainElem Tryz.prog 9) M 0 (.map []:DataW Unit)) (hg3:(w1.setCell ⟨d,1,none⟩ (.slice none 0 0)).grownBy w3 (some M)):
  DiskAt w3 d sb sc M (.slice none 0 0) (.map []) { m with wait:=[] }∧Touch [d,M] w1 w3:=by
 have t2:Touch [d] w1 (w1.setCell ⟨d,1,none⟩ (.slice none 0 0)):=(Touch.refl _ _).setCell (.inl (by simp)) _
 have t3:=Touch.of_grown hg3
 have hd3:=World.rowIs.set h.cells 1 (.slice none 0 0)
 have hd4:=rowIs_touch hd3 t3 (by simp;exact h.ne2)
 have hs4:=ownsRow_touch (ownsRow_touch h.sure t2 (by intro g' hg';cases hg';simp;exact fun e=>h.ne1 e.symm)) t3 (by intro g' hg';cases hg';simp;exact h.ne3)
 refine⟨⟨World.rowIs.congr hd4 (fun j hj=>by rcases j with _|_|_|_|_|j<;>first|rfl|omega),hs4,World.ownsRow_nil _ _ _ _,hmap,MapIs.empty,h.ne1,h.ne2,h.ne3,fun g hg=>by cases hg⟩, ?_⟩
 exact(t2.mono (fun b hb=> .inl (by simp at hb;subst hb;simp))).trans t3 (fun b hb=> .inl (by simp at hb;subst hb;simp))
def WaitOk (m:DM):Prop:= ∀x∈m.wait, ∃j:Nat,x.1=j∧j<m.sure.length
set_option maxRecDepth 100000 in
set_option maxHeartbeats 4000000 in
theorem settle_flush {w:World} {d sb sc M:Nat} {wv:Value} {D:DataW Unit} {m:DM} (h:DiskAt w d sb sc M wv D m) (hok:WaitOk m) (hl:m.wait.length≤1000000000):
  Calls Tryz.prog 155 #[.pointer (some ⟨d,0,none⟩), .func (Fn.func 156) #[] #[]] w fun e w'=>e= .returned (.tuple #[])∧Goes w w' d (diskB d sb M wv) { m with sure:=flTo m.sure m.wait,wait:=[] }:=by
 have hform:=ownsRow_forms h.wait
 obtain⟨a,n,cap,hv⟩: ∃a n cap,wv= .slice a n cap:=by rcases hform with ⟨e,_⟩|⟨g,cap,e⟩<;>exact⟨_,_,_,e⟩
 obtain⟨c0,c1,c2,_,_⟩:=h.cell
 have hn:n=m.wait.length:=by
  rcases hform with ⟨e,h0⟩|⟨g,cap,e⟩
  ·rw[hv] at e;cases e;omega
  ·rw[hv] at e;cases e;rfl
 subst hn
 have H0:=Lib.hid h
 have HF:=Lib.hid hform
 rw[hv] at c1
 clear h hform
 have HV:=Lib.hid hv
 clear hv
 go_enter Tryz.func155,Tryz.ntmps155
 go_wp2
 go_loopw [11] (fun c wr=> ∃k:Nat,k≤m.wait.length∧c= .int .i64 k∧DiskAt wr d sb sc M wv D { m with sure:=flTo m.sure (m.wait.take k) }∧Touch (diskB d sb M wv) w wr) (fun c _=>m.wait.length - (intOf c).toNat)
 case atStart=>exact⟨0,Nat.zero_le _,rfl,H0.out,Touch.refl _ _⟩
 case round=>
  clear c0 c1 c2
  obtain⟨k,hk,rfl,hD,ht⟩:=hrel
  by_cases hlt:k<m.wait.length
  ·obtain⟨g,hg⟩: ∃g,a=some ⟨g,0,none⟩:=by
    rcases HF.out with ⟨e,h0⟩|⟨g,cap',e⟩
    ·omega
    ·rw[HV.out] at e;cases e;exact⟨g,rfl⟩
   rw[hg]
   obtain⟨j,hj,hjl⟩:=hok m.wait[k] (List.getElem_mem hlt)
   have hw:=hD.wait
   rw[HV.out,hg] at hw
   obtain⟨e1,e2⟩:=waitCells_get m.wait k m.wait[k] (List.getElem?_eq_getElem hlt)
   have x1:=hw.cellAt (k*2) (by show k*2<m.wait.length*2;omega)
   have x2:=hw.cellAt (k*2+1) (by show k*2+1<m.wait.length*2;omega)
   rw[e1,hj] at x1
   rw[e2] at x2
   have hx:m.wait[k]=((j:Int),m.wait[k].2):=by rw[←hj]
   have S1:flTo m.sure (m.wait.take (k+1))=(flTo m.sure (m.wait.take k)).set j m.wait[k].2:=by
    rw[List.take_succ_eq_append_getElem hlt,flTo_snoc,hx];rfl
   have HS1:=Lib.hid S1
   clear S1 hx
   generalize m.wait[k].2=s at*
   have HD:=Lib.hid hD
   have hds:d<wr.heap.size:=World.rowIs.lt hD.cells
   have hss:sb<wr.heap.size:=(hD.sure.lt sb rfl).2
   have c5:=hD.sure.cellAt j (by simp[flTo_length];omega)
   have f5:=hD.sure.frozenAt j
   obtain⟨old,hold⟩: ∃t,((flTo m.sure (m.wait.take k)).map Value.string)[j]? =some (.string t):=⟨(flTo m.sure (m.wait.take k))[j]'(by rw[flTo_length];exact hjl),by simp[flTo_length,hjl]⟩
   simp only at c5
   rw[hold] at c5
   clear hold
   obtain⟨c0,_,_,_,_⟩:=hD.cell
   simp only at c0
   rw[flTo_length] at c0
   have j1:(0:Int)≤j:=by omega
   have nd: ¬sb=d:=fun e=>H0.out.ne1 e.symm
   have nd': ¬d=sb:=H0.out.ne1
   have j2:(j:Int)<m.sure.length:=by omega
   clear e1 e2 hw hD
   go_wp2
   go_region_held3 (fun w'=>w'.cell? ⟨d,0,none⟩=some (.slice (some ⟨sb,0,none⟩) m.sure.length sc)∧w'.cell? ⟨wr.heap.size,0,none⟩=some (.int .i64 j)∧w'.cell? ⟨wr.heap.size,1,none⟩=some (.string s)) (simp[go_sem,World.cell?_alloc_past, *])
    (first
     |(go_at_call 156;refine(flushFn _ _ _ _).mono ?_;rintro e w' ⟨rfl,rfl⟩))
   go_wp2
   have hD2:=(HD.out.setSure j s).touch (F:=[]) (((Touch.refl [] _).alloc (.cells #[.int .i64 j, .string s] 224)).alloc (.cells #[.int .i64 j, .string s] 224)) (fun _ _ h=>by cases h)
   have ht2:Touch (diskB d sb M wv) w (((wr.setCell ⟨sb,j,none⟩ (.string s)).alloc (.cells #[.int .i64 j, .string s] 224)).alloc (.cells #[.int .i64 j, .string s] 224)):=((ht.setCell (.inl (by simp[diskB])) _).alloc _).alloc _
   go_roundw
   case rel=>exact⟨k+1,by omega,by go_num,by rw[HS1.out];exact hD2.touch (F:=[]) (Touch.refl [] _).drew (fun _ _ h=>by cases h),ht2.drew⟩
   case measure=>simp[intOf];omega
  ·obtain rfl:k=m.wait.length:=by omega
   rw[List.take_of_length_le (Nat.le_refl _)] at hD
   have HD:=Lib.hid hD
   obtain⟨_,c1,c2,_,_⟩:=hD.cell
   have f1:=hD.frozen 1
   rw[HV.out] at c1
   have HM:=ownsMap_touch hD.map ((Touch.refl [d] _).setCell (w':=wr) (p:=⟨d,1,none⟩) (.inl (by simp)) (.slice none 0 0)) (by simp;exact fun e=>hD.ne2 e.symm)
   obtain⟨w3,hrun,hm3,hg3⟩:=clear_run HM Tryz.underlying130
   obtain⟨hA,hT⟩:=disk_settled hD hm3 hg3
   have HA:=Lib.hid hA
   clear hD HM hm3 hg3 hA
   go_wp2
   go_end0
   refine⟨rfl,_,⟨_,_,_,_,_,HA.out,rfl⟩,ht.trans hT (fun b hb=> .inl ?_), ?_⟩
   ·simp at hb;rcases hb with rfl|rfl<;>simp[diskB]
   ·intro b hb
    refine .inl ?_
    simp only[diskB,List.mem_cons,Option.mem_toList] at hb ⊢
    rcases hb with rfl|rfl|rfl|hb
    ·exact .inl rfl
    ·exact .inr (.inl rfl)
    ·exact .inr (.inr (.inl rfl))
    ·cases hb
end Go.Proofs.YtjgkegkinnlcoaaGreatDoor
namespace Go.Proofs.YtjgkegkinnlcoaaGreatDoor
open Go.RowKit Go.Maps Go.Joins
def flM (m:DM):Int × DM:=
 if m.down then(11,m) else if (burnM m).1 then(0, { (burnM m).2 with sure:=flTo m.sure m.wait,wait:=[] }) else(11,(burnM m).2)
theorem WaitOk.of_eq {m m':DM} (h:WaitOk m) (h1:m'.wait=m.wait) (h2:m'.sure=m.sure):WaitOk m':=by
 intro x hx;rw[h1] at hx;rw[h2];exact h x hx
theorem Goes.after {w w1 w2:World} {d:Nat} {F:List Nat} {m:DM} (t:Touch F w w1) (h:Goes w1 w2 d F m):Goes w w2 d F m:=by
 obtain⟨F',hD,hT,hF⟩:=h
 exact⟨F',hD,t.trans hT (fun b hb=> .inl hb),fun b hb=>(hF b hb).elim .inl (fun h'=> .inr (Nat.le_trans t.size h'))⟩
set_option maxRecDepth 100000 in
set_option maxHeartbeats 2000000 in
theorem flush_any {w:World} {d sb sc M:Nat} {wv:Value} {D:DataW Unit} {m:DM} (h:DiskAt w d sb sc M wv D m) (hok:WaitOk m) (hf:m.fuse≤9223372036854775807) (hl:m.wait.length≤1000000000):
  Calls Tryz.prog 80 #[.pointer (some ⟨d,0,none⟩)] w fun e w'=>e= .returned (.int .i64 (flM m).1)∧Goes w w' d (diskB d sb M wv) (flM m).2:=by
 obtain⟨_,_,_,_,c4⟩:=h.cell
 by_cases hd:m.down=true
 ·have F:=Lib.hid (show flM m=(11,m) by simp[flM,hd])
  rw[hd] at c4
  clear hd
  go_enter Tryz.func80,Tryz.ntmps80
  go_wp2_with fail
  refine(down_at _ _ _ c4).mono ?_
  rintro e w1 ⟨rfl,rfl⟩
  go_wp2_with fail
  go_ret
  rw[F.out]
  exact⟨rfl,Goes.of_at h (Touch.refl [] _) (by simp)⟩
 ·have hd:m.down=false:=by simpa using hd
  rw[hd] at c4
  have HB:=Lib.hid (burn_any h hf)
  obtain⟨e1,e2⟩:=burnM_wait m
  cases hb:(burnM m).1
  ·have F:=Lib.hid (show flM m=(11,(burnM m).2) by simp[flM,hd,hb])
   rw[hb] at HB
   clear hd hb e1 e2
   go_enter Tryz.func80,Tryz.ntmps80
   go_wp2_with fail
   refine(down_at _ _ _ c4).mono ?_
   rintro e w1 ⟨rfl,rfl⟩
   go_wp2_with fail
   refine HB.out.mono ?_
   rintro e w1 ⟨rfl,hD1,ht1⟩
   go_wp2_with fail
   go_ret
   rw[F.out]
   exact⟨rfl,Goes.of_at hD1 ht1 (by simp[diskB])⟩
  ·have F:=Lib.hid (show flM m=(0, { (burnM m).2 with sure:=flTo (burnM m).2.sure (burnM m).2.wait,wait:=[] }) by simp[flM,hd,hb,e1,e2])
   rw[hb] at HB
   have hok1:=hok.of_eq e1 e2
   have hl1:(burnM m).2.wait.length≤1000000000:=by rw[e1];exact hl
   clear hd hb e1 e2
   generalize (burnM m).2=m1 at*
   go_enter Tryz.func80,Tryz.ntmps80
   go_wp2_with fail
   refine(down_at _ _ _ c4).mono ?_
   rintro e w1 ⟨rfl,rfl⟩
   go_wp2_with fail
   refine HB.out.mono ?_
   rintro e w1 ⟨rfl,hD1,ht1⟩
   go_wp2_with fail
   refine(settle_flush hD1 hok1 hl1).mono ?_
   rintro e w2 ⟨rfl,hG⟩
   go_wp2_with fail
   go_ret
   rw[F.out]
   exact⟨rfl,Goes.after (ht1.mono (fun b hb=> .inl (by simp at hb;subst hb;simp[diskB]))) hG⟩
end Go.Proofs.YtjgkegkinnlcoaaGreatDoor
namespace Go.Proofs.YtjgkegkinnlcoaaGreatDoor
open Go.RowKit Go.Maps Go.Joins
def SizeOk (m:DM):Prop:=(∀t∈m.sure,t.size=64)∧ ∀x∈m.wait,x.2.size=64
end Go.Proofs.YtjgkegkinnlcoaaGreatDoor
namespace Go.Proofs.YtjgkegkinnlcoaaGreatDoor
open Go.RowKit Go.Maps Go.Joins
def fillF (n j:Nat) (f:Nat→Value) (z:Value):List Value:=(List.range n).map fun t=>if t<j then f t else z
theorem fillF_zero (n:Nat) (f:Nat→Value) (z:Value):fillF n 0 f z=List.replicate n z:=by
 apply List.ext_getElem (by simp[fillF])
 intro i h1 h2
 simp[fillF]
theorem fillF_get (n j:Nat) (f:Nat→Value) (z:Value) (h:j<n):(fillF n j f z)[j]? =some z:=by
 simp[fillF,h]
theorem fillF_set (n j:Nat) (f:Nat→Value) (z:Value):(fillF n j f z).set j (f j)=fillF n (j+1) f z:=by
 apply List.ext_getElem (by simp[fillF])
 intro i h1 h2
 simp only[List.getElem_set,fillF,List.getElem_map,List.getElem_range]
 by_cases hij:j=i
 ·subst hij;simp
 ·by_cases hlt:i<j
  ·simp[hij,hlt,Nat.lt_succ_of_lt hlt]
  ·have: ¬i<j+1:=by omega
   simp[hij,hlt,this]
theorem fillF_all (n:Nat) (f:Nat→Value) (z:Value):fillF n n f z=(List.range n).map f:=by
 unfold fillF
 apply List.map_congr_left
 intro t ht
 rw[if_pos (List.mem_range.1 ht)]
def newM (su:List ByteArray):DM:= { sure:=su,wait:=[],fuse:= -1,down:=false }
theorem disk_made {w:World} {sb sc n:Nat} {su:List ByteArray} (hn:n=su.length) (hown:w.ownsRow 0 9 1 (.slice (some ⟨sb,0,none⟩) n sc) n (su.map Value.string)):
  DiskAt ((w.alloc (.map #[] 0)).alloc (.cells #[.slice (some ⟨sb,0,none⟩) n sc, .slice none 0 0, .map (some w.heap.size), .int .i64 (-1), .bool false] 222)) (w.heap.size+1) sb sc w.heap.size (.slice none 0 0) (.map []) (newM su):=by
 have hs:=(hown.lt sb rfl).2
 subst hn
 have e1:(w.alloc (.map #[] 0)).heap.size=w.heap.size+1:=by simp
 have r:=World.rowIs_alloc (w.alloc (.map #[] 0)) #[.slice (some ⟨sb,0,none⟩) su.length sc, .slice none 0 0, .map (some w.heap.size), .int .i64 (-1), .bool false] 222 (diskF (.slice (some ⟨sb,0,none⟩) su.length sc) (.slice none 0 0) w.heap.size (newM su))
  (fun i hi=>by
   have hi5:i<5:=hi
   rcases i with _|_|_|_|_|i<;>first|rfl|omega)
 rw[e1] at r
 exact⟨r,(hown.alloc _).alloc _,World.ownsRow_nil _ _ _ _,(World.ownsMap_made w _ _ _).alloc _,MapIs.empty,by omega,by omega,by omega,fun g hg=>by cases hg⟩
set_option maxRecDepth 100000 in
set_option maxHeartbeats 1000000 in
theorem made_any {w:World} {sb sc n:Nat} {su:List ByteArray} (hn:n=su.length) (hown:w.ownsRow 0 9 1 (.slice (some ⟨sb,0,none⟩) n sc) n (su.map Value.string)):
  Calls Tryz.prog 73 #[.slice (some ⟨sb,0,none⟩) n sc] w fun e w'=> ∃d M,e= .returned (.pointer (some ⟨d,0,none⟩))∧DiskAt w' d sb sc M (.slice none 0 0) (.map []) (newM su)∧Below w.heap.size w w'∧w.heap.size≤d∧w.heap.size≤M:=by
 have hmm:= @run_makeMap Tryz.prog
 have HO:=Lib.hid (disk_made hn hown)
 clear hown hn
 go_enter Tryz.func73,Tryz.ntmps73
 go_wp2_with fail
 go_ret
 exact⟨_,_,rfl,HO.out,below_alloc (below_alloc (Below.refl _ _)),by omega,Nat.le_refl _⟩
def NewDisk (w w':World) (d:Nat) (m:DM):Prop:= ∃F,IsDisk w' d F m∧Below w.heap.size w w'∧ ∀b∈F,w.heap.size≤b
def newSu (n:Nat):List ByteArray:=List.replicate n (S (nul 64))
theorem repeat_nul_list6 (c:Nat):Lib.repeatL [0] c=nul c:=by
 induction c with
 |zero=>rfl
 |succ c ih=>rw[Lib.repeatL,ih];rfl
theorem repeat_64 (w:World):
  Calls Tryz.prog 72 #[.string ⟨#[0]⟩, .int .i64 64] w fun e w'=>e= .returned (.string (S (nul 64)))∧Below w.heap.size w w':=by
 refine(Tryz.strings_Repeat ⟨#[0]⟩ 64 w (by omega) (by decide)).mono ?_
 rintro e w' ⟨rfl,hb⟩
 refine⟨?_,hb⟩
 have:(ByteArray.mk #[0]).data.toList=[0]:=rfl
 rw[this,repeat_nul_list6];rfl
set_option maxRecDepth 100000 in
set_option maxHeartbeats 1000000 in
theorem new_any (n:Nat) (w:World) (h1:1≤n) (h2:n≤65536):
  Calls Tryz.prog 27 #[.int .i64 n] w fun e w'=> ∃d,e= .returned (.tuple #[.pointer (some ⟨d,0,none⟩), .int .i64 0])∧NewDisk w w' d (newM (newSu n)):=by
 obtain⟨i0,hi,hz0,hz1,hz2⟩:=info_parts Tryz.infoStr
 have d1:decide ((n:Int)<1)=false:=by simp;omega
 have d2:decide ((65536:Int)<n)=false:=by simp;omega
 go_enter Tryz.func27,Tryz.ntmps27
 go_wp2_with fail
 refine(repeat_64 _).mono ?_
 rintro e w0 ⟨rfl,hb0⟩
 go_wp2_with (at_make;refine wpList_make_full _ rfl (.tmp 14) (.tmp 14) 47 rfl w0.heap.size 9 i0 (.string ⟨#[]⟩) 1 Tryz.underlying47 hi hz0 hz1 .i64 .i64 n n n rfl rfl rfl rfl (by rw[hz2];omega) (by unfold maxLen;omega) (Nat.le_refl _) ?_;intro w1 hown hgr)
 have hb:Below w0.heap.size w0 w1:=(Below.refl _ _).grown hgr (Nat.le_refl _) (by intro k h;cases h)
 clear hgr
 go_loopw [6,18] (fun _ c wr=> ∃j:Nat,j≤n∧c= .int .i64 j∧wr.ownsRow w0.heap.size 9 1 (.slice (some ⟨w0.heap.size,0,none⟩) n n) n (fillF n j (fun _=> .string (S (nul 64))) (.string ⟨#[]⟩))∧Below w0.heap.size w0 wr) (fun _ c _=>n - (intOf c).toNat)
 case atStart=>
  refine⟨0,Nat.zero_le _,rfl, ?_,hb⟩
  rw[fillF_zero]
  have e1:=toList_madeCells_one (Value.string ⟨#[]⟩) n
  have e2:(Value.string ⟨#[]⟩).cells= #[Value.string ⟨#[]⟩]:=rfl
  rw[e2,Nat.mul_one,e1] at hown
  exact hown
 case round=>
  clear hown hb d1 d2
  obtain⟨j,hj,rfl,hown,hb⟩:=hrel
  by_cases hlt:j<n
  ·have hf:=hown.frozenAt j
   have hcell:wr.cell? ⟨w0.heap.size,j,none⟩=some (.string ⟨#[]⟩):=by rw[hown.cellAt j (by omega),fillF_get _ _ _ _ hlt]
   have hs:=(hown.stored j (.string (S (nul 64)))).1
   rw[fillF_set n j (fun _=> .string (S (nul 64)))] at hs
   have HS:=Lib.hid hs
   clear hs
   go_wp2
   go_roundw
   case rel=>exact⟨j+1,by omega,by go_num,HS.out,hb.setCell (by simp) _⟩
   case measure=>simp[intOf];omega
  ·obtain rfl:j=n:=by omega
   rw[fillF_all] at hown
   have hown':wr.ownsRow 0 9 1 (.slice (some ⟨w0.heap.size,0,none⟩) j j) j ((newSu j).map Value.string):=by
    have e:(List.range j).map (fun _=>Value.string (S (nul 64)))=(newSu j).map Value.string:=by
     apply List.ext_getElem<;>simp[newSu]
    rw[←e]
    exact ownsRow_le hown (Nat.zero_le _)
   have HO:=Lib.hid hown'
   clear hown hown'
   go_wp2_with fail
   refine(made_any (by simp[newSu]) HO.out).mono ?_
   rintro e w2 ⟨d,M,rfl,hD,hb2,hd,hM⟩
   go_wp2_with fail
   go_ret2
   refine⟨d,rfl,_,⟨_,_,_,_,_,hD,rfl⟩,below_step hb2 (hb0.trans (hb.mono hb0.size)), ?_⟩
   have s0:=hb0.size
   have s1:=hb.size
   intro b hb'
   simp only[diskB,List.mem_cons,Option.mem_toList] at hb'
   rcases hb' with rfl|rfl|rfl|hb'
   ·omega
   ·exact s0
   ·omega
   ·cases hb'
def imgM (su:List ByteArray):ByteArray:=S (su.map (·.data.toList)).flatten
theorem join_nil_sep: ∀l:List (List UInt8),Lib.join l []=l.flatten:=by
 intro l
 unfold Lib.join
 induction l with
 |nil=>rfl
 |cons x l ih=>
  cases l with
  |nil=>simp[List.intercalate]
  |cons y l=>
   simp only[List.intercalate,List.intersperse,List.flatten_cons] at ih ⊢
   rw[ih];simp
theorem flatten_length: ∀(su:List ByteArray),(∀t∈su,t.size=64)→(su.map (·.data.toList)).flatten.length=su.length*64
 | [],_=>rfl
 |t::su,h=>by
  have h1:=h t (by simp)
  have h2:=flatten_length su (fun t ht=>h t (by simp[ht]))
  simp only[List.map_cons,List.flatten_cons,List.length_append,List.length_cons,h2,data_length,h1]
  omega
end Go.Proofs.YtjgkegkinnlcoaaGreatDoor
namespace Go.Proofs.YtjgkegkinnlcoaaGreatDoor
open Go.RowKit Go.Maps Go.Joins
structure DOk (m:DM) (k:Nat):Prop where
 size:SizeOk m
 wait:WaitOk m
 fuse:m.fuse≤9223372036854775807
 fuse1: -1≤m.fuse
 pos:1≤m.sure.length
 few:m.sure.length≤65536
 waits:m.wait.length≤k
theorem DOk.mono {m:DM} {k j:Nat} (h:DOk m k) (hj:k≤j):DOk m j:=⟨h.size,h.wait,h.fuse,h.fuse1,h.pos,h.few,Nat.le_trans h.waits hj⟩
theorem DOk.new {su:List ByteArray} (h: ∀t∈su,t.size=64) (h1:1≤su.length) (h2:su.length≤65536):DOk (newM su) 0:=
 ⟨⟨h,fun x hx=>by cases hx⟩,fun x hx=>by(cases hx),by simp[newM],by simp[newM],h1,h2,Nat.le_refl _⟩
theorem newSu_size (n:Nat): ∀t∈newSu n,t.size=64:=by
 intro t ht
 rw[List.eq_of_mem_replicate ht,S_size,nul_length]
theorem DOk.burn {m:DM} {k:Nat} (h:DOk m k):DOk (burnM m).2 k:=by
 have h1:=h.fuse
 have h2:=h.fuse1
 unfold burnM
 split
 ·exact⟨h.size,h.wait,by show(-1:Int)≤_;decide,by show(-1:Int)≤ -1;decide,h.pos,h.few,h.waits⟩
 ·split
  ·exact⟨h.size,h.wait,by show m.fuse - 1≤_;omega,by show -1≤m.fuse - 1;omega,h.pos,h.few,h.waits⟩
  ·exact h
theorem DOk.write {m:DM} {k:Nat} (h:DOk m k) (i:Int) (s:ByteArray):DOk (wrM m i s).2 (k+1):=by
 unfold wrM
 split
 ·exact h.mono (by omega)
 ·split
  ·exact h.mono (by omega)
  ·rename_i hne
   have hb:=h.burn
   obtain⟨e1,e2⟩:=burnM_wait m
   split
   ·refine⟨⟨hb.size.1,fun x hx=> ?_⟩,fun x hx=> ?_,hb.fuse,hb.fuse1,hb.pos,hb.few, ?_⟩
    ·rcases List.mem_append.1 hx with hx|hx
     ·exact hb.size.2 x hx
     ·simp at hx;subst hx;show s.size=64;omega
    ·rcases List.mem_append.1 hx with hx|hx
     ·exact hb.wait x hx
     ·simp at hx;subst hx;exact⟨i.toNat,by show i=_;omega,by rw[e2];omega⟩
    ·show((burnM m).2.wait++[(i,s)]).length≤k+1
     have:=hb.waits
     simp;omega
   ·exact hb.mono (by omega)
theorem flTo_mem: ∀(l:List (Int × ByteArray)) (su:List ByteArray),(∀t∈su,t.size=64)→(∀x∈l,x.2.size=64)→ ∀t∈flTo su l,t.size=64
 | [],su,h,_=>h
 |x::l,su,h,hl=>flTo_mem l _ (fun t ht=>(List.mem_or_eq_of_mem_set ht).elim (h t) (fun e=>by rw[e];exact hl x (by simp))) (fun y hy=>hl y (by simp[hy]))
theorem DOk.flush {m:DM} {k:Nat} (h:DOk m k):DOk (flM m).2 k:=by
 unfold flM
 obtain⟨e1,e2⟩:=burnM_wait m
 split
 ·exact h
 ·have hb:=h.burn
  split
  ·refine⟨⟨flTo_mem _ _ h.size.1 h.size.2,fun x hx=>by cases hx⟩,fun x hx=>by(cases hx),hb.fuse,hb.fuse1, ?_, ?_,Nat.zero_le _⟩
   ·show 1≤(flTo m.sure m.wait).length;rw[flTo_length];exact h.pos
   ·show(flTo m.sure m.wait).length≤65536;rw[flTo_length];exact h.few
  ·exact hb
theorem DOk.setFuse {m:DM} {k:Nat} (h:DOk m k) (n:Int) (h2:n≤9223372036854775807):DOk (fuM m n) k:=
 ⟨h.size,h.wait,by show max n (-1)≤_;omega,by show -1≤max n (-1);omega,h.pos,h.few,h.waits⟩
theorem ownsRow_cap {w:World} {base n size g c:Nat} {e:TypeId} {a:Option Addr} {xs:List Value} (h:w.ownsRow base e size (.slice (some ⟨g,0,none⟩) n c) n xs):n≤c:=by
 rcases h.2 with ⟨h0,_⟩|⟨g',cap,cur,hv,_,_,hc,_⟩
 ·cases h0
 ·cases hv;exact hc
section
variable {w:World} {d:Nat} {F:List Nat} {m:DM} {k:Nat}
theorem is_down (h:IsDisk w d F m):Calls Tryz.prog 140 #[.pointer (some ⟨d,0,none⟩)] w fun e w'=>e= .returned (.bool m.down)∧w=w':=by
 obtain⟨sb,sc,M,wv,D,h,rfl⟩:=h
 exact down_at _ _ _ h.cell.2.2.2.2
theorem is_len (h:IsDisk w d F m):Calls Tryz.prog 85 #[.pointer (some ⟨d,0,none⟩)] w fun e w'=>e= .returned (.int .i64 m.sure.length)∧w=w':=by
 obtain⟨sb,sc,M,wv,D,h,rfl⟩:=h
 exact len_at _ _ _ _ _ h.cell.1
theorem is_read (h:IsDisk w d F m) (i:Int) (h1: -9223372036854775808≤i) (h2:i≤9223372036854775807):
  Calls Tryz.prog 84 #[.pointer (some ⟨d,0,none⟩), .int .i64 i] w fun e w'=>e= .returned (.tuple #[.string (rdM m i).1, .int .i64 (rdM m i).2])∧w=w':=by
 obtain⟨sb,sc,M,wv,D,h,rfl⟩:=h
 exact read_any h i h1 h2
theorem is_write (h:IsDisk w d F m) (hk:DOk m k) (hkk:k≤1000000000) (i:Int) (s:ByteArray) (h1: -9223372036854775808≤i) (h2:i≤9223372036854775807) (hs:s.size≤9223372036854775807):
  Calls Tryz.prog 77 #[.pointer (some ⟨d,0,none⟩), .int .i64 i, .string s] w fun e w'=>e= .returned (.int .i64 (wrM m i s).1)∧Goes w w' d F (wrM m i s).2:=by
 obtain⟨sb,sc,M,wv,D,h,rfl⟩:=h
 exact write_any h i s h1 h2 hk.fuse hs (Nat.le_trans hk.waits hkk)
theorem is_flush (h:IsDisk w d F m) (hk:DOk m k) (hkk:k≤1000000000):
  Calls Tryz.prog 80 #[.pointer (some ⟨d,0,none⟩)] w fun e w'=>e= .returned (.int .i64 (flM m).1)∧Goes w w' d F (flM m).2:=by
 obtain⟨sb,sc,M,wv,D,h,rfl⟩:=h
 exact flush_any h hk.wait hk.fuse (Nat.le_trans hk.waits hkk)
end
end Go.Proofs.YtjgkegkinnlcoaaGreatDoor
