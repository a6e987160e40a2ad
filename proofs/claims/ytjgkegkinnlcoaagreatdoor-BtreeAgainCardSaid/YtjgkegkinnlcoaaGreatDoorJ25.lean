/- Lemmas on the way to the statement: Redo1, Tail, Redo5, Redo6, Redo7, MapD, Pool6, Pool7, Pool8, PagerPlain, Redo8, Pager1, LayPlain, Pager8, LayPlain2. -/
import Derived.Test.YtjgkegkinnlcoaaGreatDoorJ19
set_option linter.unusedSimpArgs false
set_option linter.unusedVariables false
namespace Go.Proofs.YtjgkegkinnlcoaaGreatDoor
open Go.RowKit Go.Joins
theorem textM_size (n:Int):(textM n).size=48:=by unfold textM;rw[S_size];simp only[List.length_append,leB_length,nul_length];rfl
def padP (p:ByteArray):ByteArray:=p++S (nul (567 - p.size))
theorem padP_size (p:ByteArray) (h:p.size≤567):(padP p).size=567:=by unfold padP;rw[ByteArray.size_append,S_size,nul_length];omega
def tellS (s:ByteArray):ByteArray:=s.extract 0 10++⟨#[0]⟩++s.extract 10 63
def secP (p:ByteArray) (k:Nat):ByteArray:=tellS ((padP p).extract (k*63) ((k+1)*63))
theorem tellS_size (s:ByteArray) (h:s.size=63):(tellS s).size=64:=by
 unfold tellS;rw[ByteArray.size_append,ByteArray.size_append,ByteArray.size_extract,ByteArray.size_extract]
 have:(⟨#[0]⟩:ByteArray).size=1:=rfl
 omega
theorem part_size (p:ByteArray) (h:p.size≤567) (k:Nat) (hk:k<9):((padP p).extract (k*63) ((k+1)*63)).size=63:=by
 rw[ByteArray.size_extract,padP_size p h];omega
theorem secP_size (p:ByteArray) (h:p.size≤567) (k:Nat) (hk:k<9):(secP p k).size=64:=tellS_size _ (part_size p h k hk)
def secCells (p:ByteArray) (j:Nat):List Value:=(List.range j).map fun k=> .string (secP p k)
theorem secCells_snoc (p:ByteArray) (j:Nat):secCells p j++[.string (secP p j)]=secCells p (j+1):=by
 simp[secCells,List.range_succ]
set_option maxRecDepth 100000 in
set_option maxHeartbeats 2000000 in
theorem rcut_any (p:ByteArray) (w:World) (hp:p.size≤567):
  Calls Tryz.prog 163 #[.string p] w fun e w'=> ∃g cap,e= .returned (.slice (some ⟨g,0,none⟩) 9 cap)∧w'.ownsRow w.heap.size 9 1 (.slice (some ⟨g,0,none⟩) 9 cap) 9 (secCells p 9)∧Below w.heap.size w w':=by
 obtain⟨i0,hi,hz0,hz1,hz2⟩:=info_parts Tryz.infoStr
 have z2:(S (nul (567 - p.size))).size≤567:=by rw[S_size,nul_length];omega
 have zq:=padP_size p hp
 have TT0:p++S (nul (567 - p.size))=padP p:=rfl
 have TT:=Lib.hid TT0
 clear TT0
 go_enter Tryz.func163,Tryz.ntmps163
 go_wp2_with fail
 refine(repeat_nul _ _ (by omega) (by omega)).mono ?_
 rintro e w1 ⟨rfl,hb1⟩
 have HB1:=Lib.hid hb1
 have e1:((567:Int) - p.size).toNat=567 - p.size:=by omega
 rw[e1]
 clear e1 hb1
 have zq1:(padP p).size≤567:=by omega
 have zq2:567≤(padP p).size:=by omega
 have PS:=fun k hk=>Lib.hid (part_size p hp k hk)
 clear zq
 go_wp2_with fail
 rw[TT.out]
 go_loopw [3,4,5,12] (fun v _ _ c wr=> ∃j:Nat,j≤9∧c= .int .i64 j∧wr.ownsRow w.heap.size 9 1 v j (secCells p j)∧Below w.heap.size w wr) (fun _ _ _ c _=>9 - (intOf c).toNat)
 case atStart=>exact⟨0,Nat.zero_le _,rfl,World.ownsRow_nil _ _ _ _,HB1.out⟩
 case round=>
  clear HB1
  obtain⟨j,hj,rfl,hown,hb⟩:=hrel
  by_cases hlt:j<9
  ·have HC:=Lib.hid (secCells_snoc p j)
   have HB:=Lib.hid hb
   have HO:=Lib.hid hown
   have hsz:=hb.size
   have hps:=(PS j hlt).out
   generalize hq:(padP p).extract (j*63) ((j+1)*63)=q at hps
   have HQ:=Lib.hid hq
   have q1:q.size≤63:=by omega
   have q2:63≤q.size:=by omega
   clear hb hown hq hps
   go_upto_region 7 with (fail)
   rw[HQ.out]
   have q3:(10:Int)≤(q.size:Int):=by omega
   have q4:(0:Int)≤10:=by decide
   have q5: ¬(9223372036854775807<min 10 q.size+1):=by omega
   have q6: ¬(9223372036854775807<min 10 q.size+1+(q.size - 10)):=by omega
   have TQ:q.extract 0 10++(⟨#[0]⟩:ByteArray)++q.extract 10 q.size=secP p j:=by
    rw[←HQ.out,part_size p hp j hlt];rfl
   have HTQ:=Lib.hid TQ
   have h63:j+1≤maxLen:=by unfold maxLen;omega
   have hrb:w.heap.size≤wr.heap.size+1:=by omega
   clear TQ
   go_region_law ((refine step_append_lies _ (by rfl) _ _ _ (by rfl) w.heap.size 9 i0 _ 1 16 Tryz.underlying47 hi hz0 hz1 hz2 rfl (by omega) u3 j (secCells p j) (by rfl) ((HO.out.alloc _).drew) ⟨wr.heap.size,0,none⟩ 1 1 [.string (secP p j)] (by rfl) (by rfl) (by rw[←HTQ.out];exact cell_one_new _ _ _) (by simp[Value.oneCell']) (by omega) h63 (by omega) (by simp;omega) (wr.heap.size+1) (by simp) ?_;intro gg cap w3 hown1 hgrow hat hlt'))
   all_goals
    rw[HC.out] at hown1
    have hb2:=(HB.out.alloc hsz (.cells #[.string (q.extract 0 10++(⟨#[0]⟩:ByteArray)++q.extract 10 q.size)] 9)).drew.grown hgrow (by simp;omega) (fun k hk=>(HO.out.lt k hk).1)
    have HO2:=Lib.hid hown1
    have HB2:=Lib.hid hb2
    clear hown1 hgrow hat hlt' hb2
    go_wp2_with fail
    go_roundw
    case rel=>exact⟨j+1,by omega,by go_num,HO2.out,HB2.out⟩
    case measure=>simp[intOf];omega
  ·obtain rfl:j=9:=by omega
   obtain⟨g,cap,hv⟩:=ownsRow_form hown (by omega)
   rw[hv] at hown
   have HO:=Lib.hid hown
   clear hown
   rw[hv]
   go_wp2
   go_ret
   exact⟨g,cap,rfl,HO.out,hb⟩
end Go.Proofs.YtjgkegkinnlcoaaGreatDoor
namespace Go.Proofs.YtjgkegkinnlcoaaGreatDoor
open Go.RowKit
section
variable {P:Program} {md:Region.Mode} {ops:Array Oper} {C:World→Prop}
theorem Later.call_same {f:FuncId} {args:Array Value} {w:World} {x:Later w} {v:Value} (h:Calls P f args x.1 fun e w'=>e= .returned v∧x.1=w'):
  Calls P f args x.1 fun e w'=>e= .returned v∧ ∃y:Later w,w'=y.1:=h.mono fun e w' ⟨he,hb⟩=>⟨he,x,hb.symm⟩
end
end Go.Proofs.YtjgkegkinnlcoaaGreatDoor
namespace Go.Proofs.YtjgkegkinnlcoaaGreatDoor
open Go.RowKit Go.Joins
section
variable {W:World} {d lb eb b0 k:Nat} {F:List Nat} {l:LM} {m:DM} {e0:Int}
set_option maxRecDepth 100000 in
set_option maxHeartbeats 1000000 in
theorem write_fn (h:ApOn W d lb eb b0 F l m e0) (hk:DOk m k) (hkk:k≤1000000000) {tb sb:Nat} {tt:Int} {s:ByteArray} (h1: -9223372036854775808≤tt) (h2:tt≤9223372036854775807) (hs:s.size≤9223372036854775807)
  (ct:W.cell? ⟨tb,0,none⟩=some (.int .i64 tt)) (cs:W.cell? ⟨sb,0,none⟩=some (.string s)):
  Calls Tryz.prog 164 #[.pointer (some ⟨b0,0,none⟩), .pointer (some ⟨tb,0,none⟩), .pointer (some ⟨sb,0,none⟩)] W fun e w'=>e= .returned (.int .i64 (wrM m tt s).1)∧Goes W w' d F (wrM m tt s).2:=by
 have c0:=h.log.cell.1
 have cb:=h.box
 have HW:=fun q=>Lib.hid (is_write (w:=W.drewN q) (h.disk.touch (F:=[]) ((Touch.refl _ _).drewN q) (fun _ _ h=>by cases h)) hk hkk tt s h1 h2 hs)
 clear h
 go_enter Tryz.func164,Tryz.ntmps164
 go_wp2_with fail
 refine wp_region_tail (C:=fun w'=> ∃n,w'=W.drewN n) 6 (by kernel_rfl) (by kernel_rfl) ⟨1,rfl⟩ ?_
 simp only[List.take_succ_cons,List.take_zero,List.drop_succ_cons,List.drop_zero]
 repeat (first|go_big_quiet_step (fail)|quiet_step (fail))
 refine wpQuiet_nil ?_
 rintro w6 ⟨nq,rfl⟩
 go_wp2_with fail
 refine(HW nq).out.mono ?_
 rintro e w7 ⟨rfl,hg⟩
 go_wp2_with fail
 go_ret
 exact⟨rfl,hg⟩
theorem ApSt.of_goes {W' W1:World} {x:Int × DM} (h:ApOn W d lb eb b0 F l m e0) (hg:Goes W W1 d F x.2) (hW:W'=W1.setCell ⟨eb,0,none⟩ (.int .i64 x.1)):ApSt W d eb F W' x:=by
 obtain⟨F',h1,h2,h3⟩:=hg
 have hlt:=cell_lt h.err
 have hne:eb∉F':=fun hm=>(h3 eb hm).elim h.ne (fun h'=>by omega)
 have hc:W1.cell? ⟨eb,0,none⟩=some (.int .i64 e0):=(h2.cell (p:=⟨eb,0,none⟩) hlt h.ne).trans h.err
 have hf:W1.frozen? ⟨eb,0,none⟩=false:=(h2.frozen (p:=⟨eb,0,none⟩) hlt h.ne).trans h.errf
 subst hW
 refine⟨F',h1.touch (F:=[eb]) ((Touch.refl _ _).setCell (.inl (by simp)) _) (fun b hb hm=> ?_),World.cell?_setCell_same _ _ _ hc,by rw[World.frozen?_setCell];exact hf, ?_,h3,hne⟩
 ·simp at hm;subst hm;exact hne hb
 ·exact(h2.mono (fun b hb=> .inl (by simp[hb]))).setCell (.inl (by simp)) _
set_option maxRecDepth 100000 in
set_option maxHeartbeats 1000000 in
theorem then_skip (h:ApOn W d lb eb b0 F l m e0) (he:e0≠0) (f:Value):
  Calls Tryz.prog 162 #[f, .pointer (some ⟨eb,0,none⟩)] W fun e w'=>e= .returned (.tuple #[])∧W=w':=by
 have c:=h.err
 have t:(e0==0)=false:=by simpa using he
 clear he h
 go_enter Tryz.func162,Tryz.ntmps162
 go_wp2_with fail
 go_end0
 exact⟨rfl,rfl⟩
set_option maxRecDepth 100000 in
set_option maxHeartbeats 1000000 in
theorem then_write (h:ApOn W d lb eb b0 F l m e0) (hk:DOk m k) (hkk:k≤1000000000) {tb sb:Nat} {tt:Int} {s:ByteArray} (h1: -9223372036854775808≤tt) (h2:tt≤9223372036854775807) (hs:s.size≤9223372036854775807)
  (ct:W.cell? ⟨tb,0,none⟩=some (.int .i64 tt)) (cs:W.cell? ⟨sb,0,none⟩=some (.string s)):
  Calls Tryz.prog 162 #[.func (Fn.func 164) #[] #[.pointer (some ⟨b0,0,none⟩), .pointer (some ⟨tb,0,none⟩), .pointer (some ⟨sb,0,none⟩)], .pointer (some ⟨eb,0,none⟩)] W
   fun e w'=>e= .returned (.tuple #[])∧ApSt W d eb F w' (stepW (e0,m) tt s):=by
 by_cases he:e0=0
 ·have HW:=Lib.hid (write_fn h hk hkk h1 h2 hs ct cs)
  have hst:stepW (e0,m) tt s=wrM m tt s:=by unfold stepW;rw[if_pos he]
  rw[hst]
  subst he
  have c:=h.err
  have cf:=h.errf
  have hlt:=cell_lt h.err
  go_enter Tryz.func162,Tryz.ntmps162
  go_wp2_with fail
  refine HW.out.mono ?_
  rintro e w7 ⟨rfl,hg⟩
  have HG:=Lib.hid hg
  have c7:w7.cell? ⟨eb,0,none⟩=some (.int .i64 0):=by
   obtain⟨F',_,t,_⟩:=hg
   exact(t.cell (p:=⟨eb,0,none⟩) hlt h.ne).trans c
  have f7:w7.frozen? ⟨eb,0,none⟩=false:=by
   obtain⟨F',_,t,_⟩:=hg
   exact(t.frozen (p:=⟨eb,0,none⟩) hlt h.ne).trans cf
  clear hg c cf
  go_wp2_with fail
  go_end0
  exact⟨rfl,ApSt.of_goes h HG.out rfl⟩
 ·have hst:stepW (e0,m) tt s=(e0,m):=by unfold stepW;rw[if_neg he]
  rw[hst]
  exact(then_skip h he _).mono fun e w' ⟨h1,h2⟩=>⟨h1,by rw[←h2];exact ApSt.skip h⟩
set_option maxRecDepth 100000 in
set_option maxHeartbeats 1000000 in
theorem then_flush (h:ApOn W d lb eb b0 F l m e0) (hk:DOk m k) (hkk:k≤1000000000):
  Calls Tryz.prog 162 #[.func (Fn.func 80) #[.pointer (some ⟨d,0,none⟩)] #[], .pointer (some ⟨eb,0,none⟩)] W
   fun e w'=>e= .returned (.tuple #[])∧ApSt W d eb F w' (stepF (e0,m)):=by
 by_cases he:e0=0
 ·have HW:=Lib.hid (is_flush h.disk hk hkk)
  have hst:stepF (e0,m)=flM m:=by unfold stepF;rw[if_pos he]
  rw[hst]
  subst he
  have c:=h.err
  have cf:=h.errf
  have hlt:=cell_lt h.err
  go_enter Tryz.func162,Tryz.ntmps162
  go_wp2_with fail
  refine HW.out.mono ?_
  rintro e w7 ⟨rfl,hg⟩
  have HG:=Lib.hid hg
  have c7:w7.cell? ⟨eb,0,none⟩=some (.int .i64 0):=by
   obtain⟨F',_,t,_⟩:=hg
   exact(t.cell (p:=⟨eb,0,none⟩) hlt h.ne).trans c
  have f7:w7.frozen? ⟨eb,0,none⟩=false:=by
   obtain⟨F',_,t,_⟩:=hg
   exact(t.frozen (p:=⟨eb,0,none⟩) hlt h.ne).trans cf
  clear hg c cf
  go_wp2_with fail
  go_end0
  exact⟨rfl,ApSt.of_goes h HG.out rfl⟩
 ·have hst:stepF (e0,m)=(e0,m):=by unfold stepF;rw[if_neg he]
  rw[hst]
  exact(then_skip h he _).mono fun e w' ⟨h1,h2⟩=>⟨h1,by rw[←h2];exact ApSt.skip h⟩
set_option maxRecDepth 100000 in
set_option maxHeartbeats 2000000 in
theorem mark_fn (h:ApOn W d lb eb b0 F l m e0) (hk:DOk m k) (hkk:k≤1000000000) {b1 n c:Nat} {a:Option Addr} (c1:W.cell? ⟨b1,0,none⟩=some (.slice a n c)) (hn:n≤64) (hfa:l.frm+l.at_≤1000000) (hn0:0≤l.next):
  Calls Tryz.prog 165 #[.pointer (some ⟨b0,0,none⟩), .pointer (some ⟨b1,0,none⟩)] W fun e w'=>e= .returned (.int .i64 (wrM m ((l.frm+l.at_:Nat):Int) (mkStr l.next (textM n))).1)∧Goes W w' d F (wrM m ((l.frm+l.at_:Nat):Int) (mkStr l.next (textM n))).2:=by
 have hlt:=h.log.lt
 have hltb:=cell_lt h.box
 have hlt1:=cell_lt c1
 obtain⟨d0,d1,d2,d3,d4,d5⟩:=h.log.cell
 have x4: ∀x:Later W,x.1.cell? ⟨lb,4,none⟩=some (.int .u64 l.next):=fun x=>(x.cell hlt).trans d4
 have xb: ∀x:Later W,x.1.cell? ⟨b0,0,none⟩=some (.pointer (some ⟨lb,0,none⟩)):=fun x=>(x.cell hltb).trans h.box
 have xc: ∀x:Later W,x.1.cell? ⟨b1,0,none⟩=some (.slice a n c):=fun x=>(x.cell hlt1).trans c1
 have HTX:=Lib.hid (fun W=>text_any (n:Int) W (by omega) (by omega))
 have HMK:=Lib.hid (fun W=>markPut_any l.next (textM n) W hn0 (by rw[textM_size];omega))
 obtain⟨p,hp⟩: ∃p:Nat,p=l.frm+l.at_:=⟨_,rfl⟩
 have hwr:IntKind.i64.wrap ((l.frm:Int)+(l.at_:Int))=(p:Int):=by rw[IntKind.wrap_i64];omega
 rw[←hp]
 have hms:(mkStr l.next (textM n)).size=64:=mkStr_size _ _ (by rw[textM_size];omega)
 have HH:=Lib.hid h
 have hp2:p≤1000000:=by omega
 clear h d0 d1 d2 d3 d4 d5 c1 hp
 go_enter Tryz.func165,Tryz.ntmps165
 go_wp2_with fail
 refine wp_region_later (by kernel_rfl) (by kernel_rfl) ?_
 repeat (first|go_big_quiet_step ((first|(go_at_call 166;refine Later.call (HTX.out _))|(go_at_call 82;refine Later.call (HMK.out _))))|quiet_step ((first|(go_at_call 166;refine Later.call (HTX.out _))|(go_at_call 82;refine Later.call (HMK.out _)))))
 refine wpQuiet_nil ?_
 rintro w3 ⟨y3,hw3⟩
 have hb3:Below W.heap.size W w3:=by rw[hw3];exact y3.2
 clear hw3 x4 xb xc
 have hD3:=HH.out.disk.below hb3
 obtain⟨d0,d1,d2,d3,d4,d5⟩:=(HH.out.log.below hb3).cell
 have cb:=(hb3.cell (p:=⟨b0,0,none⟩) hltb).trans HH.out.box
 have HW:=fun q=>Lib.hid (is_write (w:=w3.drewN q) (hD3.touch (F:=[]) ((Touch.refl _ _).drewN q) (fun _ _ h=>by cases h)) hk hkk (p:Int) (mkStr l.next (textM n)) (by omega) (by omega) (by omega))
 have HB3:=Lib.hid hb3
 clear hb3 hD3 d2 d4 d5
 go_wp2_with fail
 refine wp_region_tail (C:=fun w'=> ∃n,w'=w3.drewN n) 14 (by kernel_rfl) (by kernel_rfl) ⟨1,rfl⟩ ?_
 simp only[List.take_succ_cons,List.take_zero,List.drop_succ_cons,List.drop_zero]
 repeat (first|go_big_quiet_step (fail)|quiet_step (fail))
 refine wpQuiet_nil ?_
 rintro w6 ⟨nq,rfl⟩
 go_wp2_with fail
 refine(HW nq).out.mono ?_
 rintro e w7 ⟨rfl,hg⟩
 go_wp2_with fail
 go_ret
 exact⟨rfl,Goes.after ((Touch.of_below HB3.out).drewN nq) hg⟩
set_option maxRecDepth 100000 in
set_option maxHeartbeats 1000000 in
theorem then_mark (h:ApOn W d lb eb b0 F l m e0) (hk:DOk m k) (hkk:k≤1000000000) {b1 n c:Nat} {a:Option Addr} (c1:W.cell? ⟨b1,0,none⟩=some (.slice a n c)) (hn:n≤64) (hfa:l.frm+l.at_≤1000000) (hn0:0≤l.next):
  Calls Tryz.prog 162 #[.func (Fn.func 165) #[] #[.pointer (some ⟨b0,0,none⟩), .pointer (some ⟨b1,0,none⟩)], .pointer (some ⟨eb,0,none⟩)] W
   fun e w'=>e= .returned (.tuple #[])∧ApSt W d eb F w' (stepW (e0,m) ((l.frm+l.at_:Nat):Int) (mkStr l.next (textM n))):=by
 by_cases he:e0=0
 ·have HW:=Lib.hid (mark_fn h hk hkk c1 hn hfa hn0)
  have hst:stepW (e0,m) ((l.frm+l.at_:Nat):Int) (mkStr l.next (textM n))=wrM m ((l.frm+l.at_:Nat):Int) (mkStr l.next (textM n)):=by unfold stepW;rw[if_pos he]
  rw[hst]
  subst he
  have c:=h.err
  have cf:=h.errf
  have hlt:=cell_lt h.err
  go_enter Tryz.func162,Tryz.ntmps162
  go_wp2_with fail
  refine HW.out.mono ?_
  rintro e w7 ⟨rfl,hg⟩
  have HG:=Lib.hid hg
  have c7:w7.cell? ⟨eb,0,none⟩=some (.int .i64 0):=by
   obtain⟨F',_,t,_⟩:=hg
   exact(t.cell (p:=⟨eb,0,none⟩) hlt h.ne).trans c
  have f7:w7.frozen? ⟨eb,0,none⟩=false:=by
   obtain⟨F',_,t,_⟩:=hg
   exact(t.frozen (p:=⟨eb,0,none⟩) hlt h.ne).trans cf
  clear hg c cf
  go_wp2_with fail
  go_end0
  exact⟨rfl,ApSt.of_goes h HG.out rfl⟩
 ·have hst:stepW (e0,m) ((l.frm+l.at_:Nat):Int) (mkStr l.next (textM n))=(e0,m):=by unfold stepW;rw[if_neg he]
  rw[hst]
  exact(then_skip h he _).mono fun e w' ⟨h1,h2⟩=>⟨h1,by rw[←h2];exact ApSt.skip h⟩
end
end Go.Proofs.YtjgkegkinnlcoaaGreatDoor
namespace Go.Proofs.YtjgkegkinnlcoaaGreatDoor
open Go.RowKit Go.Joins
def wrN (base:Nat) (pages:List ByteArray) (m:DM):Nat→Int × DM
 |0=>(0,m)
 |t+1=>stepW (wrN base pages m t) ((base+t:Nat):Int) (secP (pages.getD (t / 9) ⟨#[]⟩) (t % 9))
theorem wrN_step (base:Nat) (pages:List ByteArray) (m:DM) (i k:Nat) (p:ByteArray) (hp:pages[i]? =some p) (hk:k<9):
  wrN base pages m (9*i+(k+1))=stepW (wrN base pages m (9*i+k)) ((base+(9*i+k):Nat):Int) (secP p k):=by
 rw[show 9*i+(k+1)=(9*i+k)+1 by omega,wrN,show(9*i+k) / 9=i by omega,show(9*i+k) % 9=k by omega]
 simp[List.getD,hp]
theorem DOk.wrN {m:DM} {k:Nat} (h:DOk m k) (base:Nat) (pages:List ByteArray): ∀t,DOk (wrN base pages m t).2 (k+t)
 |0=>h
 |t+1=>(DOk.wrN h base pages t).stepW _ _
def apX (l:LM) (m:DM) (pages:List ByteArray):Int × DM:=
 stepF (stepW (stepF (wrN (l.frm+l.at_+1) pages m (9*pages.length))) ((l.frm+l.at_:Nat):Int) (mkStr l.next (textM pages.length)))
def apM (l:LM) (m:DM) (pages:List ByteArray):Int × LM × DM:=
 if (apX l m pages).1≠0 then((apX l m pages).1, { l with dead:=true },(apX l m pages).2)
 else(0, { l with at_:=l.at_+1+9*pages.length,next:=(l.next+1) % 18446744073709551616 },(apX l m pages).2)
structure ApB (w1:World) (d lb eb b0 b1:Nat) (F:List Nat) (l:LM) (a:Option Addr) (n c:Nat) (pages:List ByteArray):Prop where
 log:LogAt w1 lb d l
 box:w1.cell? ⟨b0,0,none⟩=some (.pointer (some ⟨lb,0,none⟩))
 sl:w1.cell? ⟨b1,0,none⟩=some (.slice a n c)
 pg: ∃b off,a=some ⟨b,off,none⟩∧(∀(j:Nat) x,pages[j]? =some x→w1.cell? ⟨b,off+j,none⟩=some (.string x))∧b∉eb::F
 e1:lb∉eb::F
 e2:b0∉eb::F
 e3:b1∉eb::F
 e4:eb∉F
 lt:eb<w1.heap.size
variable {w1 w2 wr:World} {d lb eb b0 b1 n c k:Nat} {F F2:List Nat} {l:LM} {a:Option Addr} {pages:List ByteArray} {x:Int × DM}
theorem ApB.move (B:ApB w1 d lb eb b0 b1 F l a n c pages) (hpos:0<pages.length) (t:Touch (eb::F) w1 w2) (hF: ∀b∈F2,b∈F∨w1.heap.size≤b) (he:eb∉F2):ApB w2 d lb eb b0 b1 F2 l a n c pages:=by
 obtain⟨b,off,ha,hc,hb⟩:=B.pg
 have l1:=B.log.lt
 have l2:=cell_lt B.box
 have l3:=cell_lt B.sl
 have l4:b<w1.heap.size:=cell_lt (hc 0 _ (List.getElem?_eq_getElem hpos))
 have no: ∀q,q<w1.heap.size→q∉eb::F→q∉eb::F2:=fun q hq h1 h2=>by
  rcases List.mem_cons.1 h2 with rfl|h2
  ·exact h1 (by simp)
  ·rcases hF q h2 with h|h
   ·exact h1 (by simp[h])
   ·omega
 exact⟨B.log.touch t B.e1,(t.cell (p:=⟨b0,0,none⟩) l2 B.e2).trans B.box,(t.cell (p:=⟨b1,0,none⟩) l3 B.e3).trans B.sl,
  ⟨b,off,ha,fun j x hx=>(t.cell (p:=⟨b,off+j,none⟩) l4 hb).trans (hc j x hx),no b l4 hb⟩,no _ l1 B.e1,no _ l2 B.e2,no _ l3 B.e3,he,Nat.lt_of_lt_of_le B.lt t.size⟩
theorem ApB.on (B:ApB w1 d lb eb b0 b1 F l a n c pages) (hpos:0<pages.length) (h:ApSt w1 d eb F wr x): ∃F',ApOn wr d lb eb b0 F' l x.2 x.1∧ApB wr d lb eb b0 b1 F' l a n c pages∧Touch (eb::F) w1 wr∧ ∀b∈F',b∈F∨w1.heap.size≤b:=by
 obtain⟨F',h1,h2,h3,h4,h5,h6⟩:=h
 have B':=B.move hpos h4 h5 h6
 have n1:lb∉F'∧lb≠eb:=⟨fun h=>B'.e1 (by simp[h]),fun h=>B'.e1 (by simp[h])⟩
 have n2:b0∉F'∧b0≠eb:=⟨fun h=>B'.e2 (by simp[h]),fun h=>B'.e2 (by simp[h])⟩
 exact⟨F',⟨h1,h2,h3,B'.log,B'.box,h6,n1.1,n2.1,n1.2,n2.2⟩,B',h4,h5⟩
def PgAt (w:World) (a:Option Addr) (pages:List ByteArray) (B:List Nat):Prop:= ∃b off,a=some ⟨b,off,none⟩∧(∀(j:Nat) x,pages[j]? =some x→w.cell? ⟨b,off+j,none⟩=some (.string x))∧b∉B
end Go.Proofs.YtjgkegkinnlcoaaGreatDoor
namespace Go.Proofs.YtjgkegkinnlcoaaGreatDoor
open Go.RowKit Go.Joins
def ApPost (w:World) (d lb:Nat) (F:List Nat) (r:Int × LM × DM) (e:Ending) (w':World):Prop:=
 e= .returned (.int .i64 r.1)∧LogAt w' lb d r.2.1∧(∃F',IsDisk w' d F' r.2.2∧(∀b∈F',b∈F∨w.heap.size≤b)∧lb∉F')∧Touch (lb::F) w w'
theorem ApPost.same {w w':World} {d lb:Nat} {F:List Nat} {l:LM} {m:DM} {e:Int} (hl:LogAt w lb d l) (hd:IsDisk w d F m) (hn:lb∉F) (hb:Below w.heap.size w w'):ApPost w d lb F (e,l,m) (.returned (.int .i64 e)) w':=
 ⟨rfl,hl.below hb,⟨F,hd.below hb,fun b h=> .inl h,hn⟩,Touch.of_below hb⟩
def apE (l:LM) (n:Nat):Int:=if l.dead then 17 else if 64<n then 10 else if l.size<l.at_+1+9*n then 9 else 0
def apR (l:LM) (m:DM) (pages:List ByteArray) (n:Nat):Int × LM × DM:=if apE l n=0 then apM l m pages else(apE l n,l,m)
theorem apR_no {l:LM} {m:DM} {pages:List ByteArray} {n:Nat} {e:Int} (h:apE l n=e) (he:e≠0):apR l m pages n=(e,l,m):=by unfold apR;rw[if_neg (by rw[h];exact he),h]
theorem apR_yes {l:LM} {m:DM} {pages:List ByteArray} {n:Nat} (h:apE l n=0):apR l m pages n=apM l m pages:=by unfold apR;rw[if_pos h]
variable {w:World} {d lb c k:Nat} {F:List Nat} {l:LM} {m:DM} {a:Option Addr} {pages:List ByteArray}
set_option maxRecDepth 100000 in
set_option maxHeartbeats 8000000 in
theorem append_right (hl:LogAt w lb d l) (hd:IsDisk w d F m) (hk:DOk m k) (hkk:k≤100000) (hF:lb∉F) (hin:l.frm+l.size≤100000) (hat:l.at_≤l.size) (h0:0≤l.next) (h1:l.next≤18446744073709551615)
  (hne:0<pages.length) (hn:pages.length≤1000000000) (hpg:PgAt w a pages (lb::F)) (hall: ∀p∈pages,p.size=512):
  Calls Tryz.prog 93 #[.pointer (some ⟨lb,0,none⟩), .slice a pages.length c] w (ApPost w d lb F (apR l m pages pages.length)):=by
 obtain⟨b,off,rfl,hc,hbn⟩:=hpg
 have hlt0:b<w.heap.size:=cell_lt (hc 0 _ (List.getElem?_eq_getElem hne))
 have hz:((pages.length:Int)==0)=false:=by rw[beq_eq_false_iff_ne];omega
 have hz2:(pages.length==0)=false:=by rw[beq_eq_false_iff_ne];omega
 have hpos:=hne
 obtain⟨n,hnn⟩: ∃n,n=pages.length:=⟨_,rfl⟩
 have hne':0<n:=by omega
 have hn':n≤1000000000:=by omega
 rw[←hnn] at hz hz2 ⊢
 clear hne hn
 have HN:=Lib.hid hnn
 have HC:=Lib.hid hc
 have HALL:=Lib.hid hall
 obtain⟨c0,c1,c2,c3,c4,c5⟩:=hl.cell
 have hlt:=hl.lt
 have SAME:=fun(e:Int) (W:World) (hb:Below w.heap.size w W)=>Lib.hid (ApPost.same (e:=e) hl hd hF hb)
 have HL:=Lib.hid hl
 have HPOS:=Lib.hid hpos
 clear hnn hc hall hl hpos
 go_enter Tryz.func93,Tryz.ntmps93
 go_wp2_with fail
 go_loop [24] (fun v=> ∃j:Nat,j≤n∧v= .int .i64 j) (fun v=>n - (intOf v).toNat)
 case atStart=>exact⟨0,Nat.zero_le _,rfl⟩
 case round=>
  obtain⟨j,hj,rfl⟩:=hrel
  by_cases hltj:j<n
  ·obtain⟨p,hp⟩: ∃p,pages[j]? =some p:=⟨pages[j]'(by rw[←HN.out];exact hltj),List.getElem?_eq_getElem _⟩
   have hcell:w.cell? ⟨b,off+j,none⟩=some (.string p):=HC.out j p hp
   have t:((p.size:Int) != 512)=false:=by rw[HALL.out p (List.mem_of_getElem? hp)];rfl
   clear hp
   go_wp2
   go_round
   case rel=>exact⟨j+1,by omega,by go_num⟩
   case measure=>simp[intOf];omega
  ·obtain rfl:j=n:=by omega
   have hbx:Below w.heap.size w ((w.alloc (.cells #[.pointer (some ⟨lb,0,none⟩)] 128)).alloc (.cells #[.slice (some ⟨b,off,none⟩) j c] 47)):=below_alloc (below_alloc (Below.refl _ _))
   have HBX:=Lib.hid hbx
   clear hbx
   cases hdead:l.dead
   ·have DE:=Lib.hid hdead
    rw[hdead] at c5
    clear hdead
    by_cases h64:64<j
    ·have e0:apE l j=10:=by unfold apE;rw[DE.out];simp;omega
     have E0:=Lib.hid e0
     clear e0
     go_wp2
     go_ret
     rw[apR_no E0.out (by decide)]
     exact(SAME 10 _ HBX.out).out
    ·obtain⟨j9,hj9⟩: ∃j9:Nat,j9=9*j:=⟨_,rfl⟩
     obtain⟨j10,hj10⟩: ∃j10:Nat,j10=1+j9:=⟨_,rfl⟩
     obtain⟨left,hleft⟩: ∃left:Nat,left=l.size - l.at_:=⟨_,rfl⟩
     have y1:IntKind.i64.wrap (9*(j:Int))=(j9:Int):=by rw[IntKind.wrap_i64];omega
     have y2:IntKind.i64.wrap (1+(j9:Int))=(j10:Int):=by rw[IntKind.wrap_i64];omega
     have y3:IntKind.i64.wrap ((l.size:Int) - (l.at_:Int))=(left:Int):=by rw[IntKind.wrap_i64];omega
     by_cases hroom:left<j10
     ·have e0:apE l j=9:=by unfold apE;rw[DE.out];simp;omega
      have E0:=Lib.hid e0
      clear e0 hj9 hj10 hleft
      go_wp2
      go_quiet (fail)
      go_wp2
      go_ret
      rw[apR_no E0.out (by decide)]
      exact(SAME 9 _ (below_drewN HBX.out _)).out
     ·have e0:apE l j=0:=by unfold apE;rw[DE.out];simp;omega
      have E0:=Lib.hid e0
      have hr2:l.at_+1+9*j≤l.size:=by omega
      have hfl:decide ((left:Int)<(j10:Int))=false:=by simp;omega
      have hfl2:decide (left<j10)=false:=by simp;omega
      have HFL2:=Lib.hid hfl2
      clear hfl2
      have hFlt:=hd.lt
      have hnew: ∀q,w.heap.size≤q→q∉F:=fun q hq hm=>by have:=hFlt q hm;omega
      have HNEW:=Lib.hid hnew
      clear e0 hj9 hj10 hleft hFlt hnew hroom
      go_upto_region 13 with (fail)
      go_cut [41] (fun s wx=>s= .bool false∧Below w.heap.size w wx∧wx.cell? ⟨w.heap.size,0,none⟩=some (.pointer (some ⟨lb,0,none⟩))∧wx.cell? ⟨w.heap.size+1,0,none⟩=some (.slice (some ⟨b,off,none⟩) j c))
      case first=>
       go_quiet (fail)
       go_wp2_with fail
       go_meet
       refine⟨by rw[HFL2.out],below_drewN HBX.out _, ?_, ?_⟩
       ·simp
       ·simp
      case rest=>
      obtain⟨rfl,hbw,k0,k1⟩:=hcut
      have HBW:=Lib.hid hbw
      have hl':=HL.out.below hbw
      obtain⟨c0,c1,c2,c3,c4,c5⟩:=hl'.cell
      have hltx:=hl'.lt
      have hk0:=cell_lt k0
      have hk1:=cell_lt k1
      obtain⟨p,hp⟩: ∃p:Nat,p=l.frm+l.at_:=⟨_,rfl⟩
      obtain⟨p1,hp1⟩: ∃p1:Nat,p1=p+1:=⟨_,rfl⟩
      have z1:IntKind.i64.wrap ((l.frm:Int)+(l.at_:Int))=(p:Int):=by rw[IntKind.wrap_i64];omega
      have z2:IntKind.i64.wrap ((p:Int)+1)=(p1:Int):=by rw[IntKind.wrap_i64];omega
      have HP:=Lib.hid hp
      have HP1:=Lib.hid hp1
      clear hp hp1 y1 y2 y3 hfl hbw hl'
      have hwz:w.heap.size+1<wc.heap.size:=hk1
      go_upto_region 17 with (fail)
      go_quiet (fail)
      obtain⟨w1,hw1⟩: ∃w1,w1=(wc.alloc (.cells #[.int .i64 0] 31)).drewN nq:=⟨_,rfl⟩
      have hb1:Below wc.heap.size wc w1:=by rw[hw1];exact below_drewN (below_alloc (Below.refl _ _)) _
      have he1:w1.cell? ⟨wc.heap.size,0,none⟩=some (.int .i64 0):=by rw[hw1];exact cell_new _ _ _
      have hf1:w1.frozen? ⟨wc.heap.size,0,none⟩=false:=by rw[hw1];simp
      have hne1: ∀q,q<wc.heap.size→q∉F→q∉wc.heap.size::F:=fun q hq hm h=>by
       rcases List.mem_cons.1 h with h|h
       ·omega
       ·exact hm h
      have hB:ApB w1 d lb wc.heap.size w.heap.size (w.heap.size+1) F l (some ⟨b,off,none⟩) j c pages:=
       ⟨(HL.out.below HBW.out).below hb1,(hb1.cell (p:=⟨w.heap.size,0,none⟩) hk0).trans k0,(hb1.cell (p:=⟨w.heap.size+1,0,none⟩) hk1).trans k1,
        ⟨b,off,rfl,fun i x hx=>((below_step hb1 HBW.out).cell (p:=⟨b,off+i,none⟩) hlt0).trans (HC.out i x hx),hne1 b (by omega) (fun h=>hbn (by simp[h]))⟩,
        hne1 lb hltx hF,hne1 _ hk0 (HNEW.out _ (Nat.le_refl _)),hne1 _ hk1 (HNEW.out _ (by omega)),HNEW.out _ (by omega),by rw[hw1];simp⟩
      have hS:ApSt w1 d wc.heap.size F w1 (0,m):=⟨F,(hd.below HBW.out).below hb1,he1,hf1,Touch.refl _ _,fun b h=> .inl h,HNEW.out _ (by omega)⟩
      have HB:=Lib.hid hB
      have HS:=Lib.hid hS
      have HW1:=Lib.hid hw1
      have HBW1:=Lib.hid (below_step hb1 HBW.out)
      clear hw1 hb1 he1 hf1 hne1 hB hS c0 c1 c2 c3 c4 c5 k0 z1 z2 hbn
      go_wp2_with fail
      rw[←HW1.out]
      clear k1
      go_loopw [9,69] (fun v c wr=> ∃i q:Nat,i≤j∧c= .int .i64 i∧v= .int .i64 q∧q=p1+9*i∧ApSt w1 d wc.heap.size F wr (wrN p1 pages m (9*i))) (fun _ c _=>j - (intOf c).toNat)
      case atStart=>exact⟨0,p1,Nat.zero_le _,rfl,rfl,rfl,HS.out⟩
      case round=>
       clear HS
       obtain⟨i,q,hij,rfl,rfl,hq,hst⟩:=hrel
       have HQ:=Lib.hid hq
       clear hq
       obtain⟨wo,rfl⟩: ∃wo:World,wo=wr:=⟨_,rfl⟩
       obtain⟨F1,hon1,hB1,ht1,hF1⟩:=HB.out.on HPOS.out hst
       have HON1:=Lib.hid hon1
       have HB1:=Lib.hid hB1
       have HT1:=Lib.hid ht1
       have HF1:=Lib.hid hF1
       have HST:=Lib.hid hst
       clear hst hon1 hB1 ht1 hF1
       by_cases hlti:i<j
       ·obtain⟨pg,hpg⟩: ∃pg,pages[i]? =some pg:=⟨pages[i]'(by rw[←HN.out];exact hlti),List.getElem?_eq_getElem _⟩
        have hpz:=HALL.out pg (List.mem_of_getElem? hpg)
        obtain⟨b',off',e',hc',hb'⟩:=HB1.out.pg
        injection e' with e'
        injection e' with e1 e2
        subst e1 e2
        have hcell:=hc' i pg hpg
        have HPG:=Lib.hid hpg
        have hpz1:pg.size≤567:=by omega
        have HCUT:=fun W=>Lib.hid (rcut_any pg W hpz1)
        clear hpz hpg hc' hb'
        go_wp2_with fail
        refine(HCUT _).out.mono ?_
        rintro e w2 ⟨g,cap,rfl,hrow,hb2⟩
        have HROW:=Lib.hid hrow
        have HB2:=Lib.hid hb2
        have hg1:=(hrow.lt g rfl).1
        have hg2:=(hrow.lt g rfl).2
        have hgn:g∉wc.heap.size::F1:=fun h=>by
         rcases List.mem_cons.1 h with h|h
         ·have:=HB1.out.lt;omega
         ·have:=HON1.out.disk.lt g h;omega
        have hB2:=HB1.out.move HPOS.out (Touch.of_below (F:=wc.heap.size::F1) HB2.out) (fun b h=> .inl h) HB1.out.e4
        have hS2:=ApSt.skip (HON1.out.below HB2.out)
        have HBB:=Lib.hid hB2
        have HSS:=Lib.hid hS2
        have HGN:=Lib.hid hgn
        clear hcell hrow hb2 hB2 hS2 hgn
        have hqb:q≤200000:=by have:=HQ.out;have:=HP1.out;have:=HP.out;omega
        go_wp2_with fail
        go_loopw [9,76] (fun v c wr=> ∃t q2:Nat,t≤9∧c= .int .i64 t∧v= .int .i64 q2∧q2=p1+(9*i+t)∧ApSt w2 d wc.heap.size F1 wr (wrN p1 pages m (9*i+t))) (fun _ c _=>9 - (intOf c).toNat)
        case atStart=>exact⟨0,q,Nat.zero_le _,rfl,rfl,HQ.out,HSS.out⟩
        case round=>
         clear HSS
         obtain⟨t,q2,ht9,rfl,rfl,hq2,hst⟩:=hrel
         obtain⟨F2,hon2,hB2,ht2,hF2⟩:=HBB.out.on HPOS.out hst
         have HQ2:=Lib.hid hq2
         have HON2:=Lib.hid hon2
         have HT2:=Lib.hid ht2
         have HF2:=Lib.hid hF2
         have HST2:=Lib.hid hst
         have hq2b:q2≤200000:=by have:=HP1.out;have:=HP.out;omega
         clear hst hon2 hB2 ht2 hF2 hq2
         by_cases htl:t<9
         ·have hcell:wr.cell? ⟨g,t,none⟩=some (.string (secP pg t)):=by
           refine(HT2.out.cell (p:=⟨g,t,none⟩) hg2 HGN.out).trans ?_
           have:=HROW.out.cells rfl (j:=t) (u:= .string (secP pg t)) (by simp[secCells,htl])
           have e:(⟨g,0,none⟩:Addr).add t=⟨g,t,none⟩:=by unfold Addr.add;split<;>simp_all
           rw[e] at this;exact this
          have hb3:Below wr.heap.size wr ((wr.alloc (.cells #[.string (secP pg t)] 9)).alloc (.cells #[.int .i64 q2] 3)):=below_alloc (below_alloc (Below.refl _ _))
          have hct:((wr.alloc (.cells #[.string (secP pg t)] 9)).alloc (.cells #[.int .i64 q2] 3)).cell? ⟨wr.heap.size+1,0,none⟩=some (.int .i64 q2):=by
           simp
          have hcs:((wr.alloc (.cells #[.string (secP pg t)] 9)).alloc (.cells #[.int .i64 q2] 3)).cell? ⟨wr.heap.size,0,none⟩=some (.string (secP pg t)):=by simp
          have hsz:=secP_size pg hpz1 t htl
          have HTH:=Lib.hid (then_write (HON2.out.below hb3) (hk.wrN p1 pages (9*i+t)) (by omega) (tt:=(q2:Int)) (by omega) (by omega) (by omega) hct hcs)
          clear hct hcs hsz hb3
          go_wp2_with fail
          refine HTH.out.mono ?_
          rintro e w3 ⟨rfl,hst3⟩
          have hst4:=ApSt.trans ((HT2.out.alloc _).alloc _) HF2.out hst3
          have HST4:=Lib.hid hst4
          clear hst3 hst4 hcell
          go_wp2_with fail
          go_roundw
          case rel=>
           refine⟨t+1,q2+1,by omega,by go_num,by go_num,by have:=HQ2.out;omega, ?_⟩
           rw[wrN_step p1 pages m i t pg HPG.out htl, ←HQ2.out]
           exact HST4.out
          case measure=>simp[intOf];omega
         ·obtain rfl:t=9:=by omega
          have hst5:=ApSt.trans (HT1.out.trans (Touch.of_below HB2.out) (fun b h=> .inl h)) HF1.out HST2.out
          have HST5:=Lib.hid hst5
          clear hst5
          go_wp2_with fail
          go_roundw
          case rel=>exact⟨i+1,q2,by omega,by go_num,rfl,by have:=HQ2.out;omega,HST5.out⟩
          case measure=>simp[intOf];omega
       ·obtain rfl:i=j:=by omega
        have k0:=HON1.out.box
        have c0:=HON1.out.log.cell.1
        have HTF:=Lib.hid (then_flush HON1.out (hk.wrN p1 pages (9*i)) (by omega))
        go_wp2_with fail
        refine HTF.out.mono ?_
        rintro e w3 ⟨rfl,hst3⟩
        obtain⟨F3,hon3,hB3,ht3,hF3⟩:=HB1.out.on HPOS.out hst3
        have HON3:=Lib.hid hon3
        have HB3:=Lib.hid hB3
        have HT3:=Lib.hid (HT1.out.trans ht3 (fun b hb=>(List.mem_cons.1 hb).elim (fun h=> .inl (by simp[h])) (fun h=>(HF1.out b h).imp (fun h=>by simp[h]) id)))
        have HF3:Hid (∀b∈F3,b∈F∨w1.heap.size≤b):=Lib.hid (fun b hb=>(hF3 b hb).elim (HF1.out b) (fun h=> .inr (Nat.le_trans HT1.out.size h)))
        have HTM:=Lib.hid (then_mark HON3.out ((hk.wrN p1 pages (9*i)).stepF (x:=(_,_))) (by omega) HB3.out.sl (by omega) (by have:=HP.out;omega) h0)
        clear k0 c0 hst3 hon3 hB3 ht3 hF3
        go_wp2_with fail
        refine HTM.out.mono ?_
        rintro e w4 ⟨rfl,hst4⟩
        obtain⟨F4,hon4,hB4,ht4,hF4⟩:=HB3.out.on HPOS.out hst4
        have HON4:=Lib.hid hon4
        have HB4:=Lib.hid hB4
        have HT4:=Lib.hid (HT3.out.trans ht4 (fun b hb=>(List.mem_cons.1 hb).elim (fun h=> .inl (by simp[h])) (fun h=>(HF3.out b h).imp (fun h=>by simp[h]) id)))
        have HF4:Hid (∀b∈F4,b∈F∨w1.heap.size≤b):=Lib.hid (fun b hb=>(hF4 b hb).elim (HF3.out b) (fun h=> .inr (Nat.le_trans HT3.out.size h)))
        have k0:=HON4.out.box
        have c0:=HON4.out.log.cell.1
        have HTG:=Lib.hid (then_flush HON4.out (((hk.wrN p1 pages (9*i)).stepF (x:=(_,_))).stepW (x:=(_,_)) _ _) (by omega))
        clear hst4 hon4 hB4 ht4 hF4
        go_wp2_with fail
        refine HTG.out.mono ?_
        rintro e w5 ⟨rfl,hst5⟩
        obtain⟨F5,hon5,hB5,ht5,hF5⟩:=HB4.out.on HPOS.out hst5
        have HT5:=Lib.hid (HT4.out.trans ht5 (fun b hb=>(List.mem_cons.1 hb).elim (fun h=> .inl (by simp[h])) (fun h=>(HF4.out b h).imp (fun h=>by simp[h]) id)))
        have HF5:Hid (∀b∈F5,b∈F∨w1.heap.size≤b):=Lib.hid (fun b hb=>(hF5 b hb).elim (HF4.out b) (fun h=> .inr (Nat.le_trans HT4.out.size h)))
        have hX:stepF (stepW (stepF (wrN p1 pages m (9*i))) ((l.frm+l.at_:Nat):Int) (mkStr l.next (textM (i:Int))))=apX l m pages:=by
         unfold apX;rw[←HN.out,HP1.out,HP.out]
        have hon6:ApOn w5 d lb wc.heap.size w.heap.size F5 l (apX l m pages).2 (apX l m pages).1:=by rw[←hX];exact hon5
        have HON5:=Lib.hid hon6
        have KSL:=Lib.hid hB5.sl
        have HT6:Hid (Touch (lb::F) w w5):=Lib.hid ((Touch.of_below HBW1.out).trans HT5.out (fun b hb=>(List.mem_cons.1 hb).elim (fun h=> .inr (by omega)) (fun h=> .inl (by simp[h]))))
        have hF6: ∀b∈F5,b∈F∨w.heap.size≤b:=fun b hb=>(HF5.out b hb).imp id (fun h=>Nat.le_trans HBW1.out.size h)
        have HF6:=Lib.hid hF6
        have k0:=hon6.box
        have ke:=hon6.err
        obtain⟨c0,c1,c2,c3,c4,c5⟩:=hon6.log.cell
        have f3:=hon6.log.frozen 3
        have f4:=hon6.log.frozen 4
        have f5:=hon6.log.frozen 5
        have hlx:=hon6.nel2
        clear hst5 hon5 hB5 ht5 hF5 hX hon6 hF6
        by_cases hxe:(apX l m pages).1=0
        ·have hap:apM l m pages=(0, { l with at_:=l.at_+1+9*i,next:=(l.next+1) % 18446744073709551616 },(apX l m pages).2):=by
          unfold apM;rw[if_neg (by simp[hxe]),HN.out]
         have HAP:=Lib.hid hap
         rw[hxe] at ke
         obtain⟨i9,hi9⟩: ∃i9:Nat,i9=9*i:=⟨_,rfl⟩
         obtain⟨i10,hi10⟩: ∃i10:Nat,i10=1+i9:=⟨_,rfl⟩
         obtain⟨a',ha'⟩: ∃a':Nat,a'=l.at_+i10:=⟨_,rfl⟩
         have y1:IntKind.i64.wrap (9*(i:Int))=(i9:Int):=by rw[IntKind.wrap_i64];omega
         have y2:IntKind.i64.wrap (1+(i9:Int))=(i10:Int):=by rw[IntKind.wrap_i64];omega
         have y3:IntKind.i64.wrap ((l.at_:Int)+(i10:Int))=(a':Int):=by rw[IntKind.wrap_i64];omega
         have ea:a'=l.at_+1+9*i:=by omega
         have EA:=Lib.hid ea
         have k3:w5.cell? ⟨w.heap.size+1,0,none⟩=some (.slice (some ⟨b,off,none⟩) i c):=KSL.out
         clear hap hxe hi9 hi10 ha' ea
         go_wp2_with fail
         refine wp_region_tail (C:=fun w'=> ∃n,w'=w5.drewN n) 11 (by kernel_rfl) (by kernel_rfl) ⟨1,rfl⟩ ?_
         simp only[List.take_succ_cons,List.take_zero,List.drop_succ_cons,List.drop_zero]
         repeat (first|go_big_quiet_step (fail)|quiet_step (fail))
         refine wpQuiet_nil ?_
         rintro w6 ⟨nq,rfl⟩
         go_wp2_with fail
         go_ret
         rw[apR_yes E0.out,HAP.out]
         refine⟨rfl, ?_,⟨F5,HON5.out.disk.touch (F:=[lb]) ((((Touch.refl _ _).drewN nq).setCell (.inl (by simp)) _).setCell (.inl (by simp)) _) (fun b hb hm=>by simp at hm;subst hm;exact HON5.out.nel hb),HF6.out,HON5.out.nel⟩,((HT6.out.drewN nq).setCell (.inl (by simp)) _).setCell (.inl (by simp)) _⟩
         refine World.rowIs.congr (World.rowIs.set (World.rowIs.set (show(w5.drewN nq).rowIs lb 236 6 _ from HON5.out.log) 3 (.int .i64 (a':Nat))) 4 (.int .u64 (IntKind.u64.wrap (l.next+1)))) (fun t ht=> ?_)
         rcases t with _|_|_|_|_|_|t
         ·rfl
         ·rfl
         ·rfl
         ·rw[EA.out];rfl
         ·rw[IntKind.wrap_u64];rfl
         ·rfl
         ·omega
        ·have hap:apM l m pages=((apX l m pages).1, { l with dead:=true },(apX l m pages).2):=by
          unfold apM;rw[if_pos hxe]
         have HAP:=Lib.hid hap
         have t:((apX l m pages).1 != 0)=true:=by simpa using hxe
         clear hap hxe
         go_wp2_with fail
         go_ret
         rw[apR_yes E0.out,HAP.out]
         refine⟨rfl, ?_,⟨F5,HON5.out.disk.touch (F:=[lb]) ((Touch.refl _ _).setCell (.inl (by simp)) _) (fun b hb hm=>by simp at hm;subst hm;exact HON5.out.nel hb),HF6.out,HON5.out.nel⟩,HT6.out.setCell (.inl (by simp)) _⟩
         refine World.rowIs.congr (World.rowIs.set HON5.out.log 5 (.bool true)) (fun t ht=> ?_)
         rcases t with _|_|_|_|_|_|t
         ·rfl
         ·rfl
         ·rfl
         ·rfl
         ·rfl
         ·rfl
         ·omega
   ·have e0:apE l j=17:=by unfold apE;rw[hdead];rfl
    have E0:=Lib.hid e0
    rw[hdead] at c5
    clear hdead e0
    go_wp2
    go_ret
    rw[apR_no E0.out (by decide)]
    exact(SAME 17 _ HBX.out).out
end Go.Proofs.YtjgkegkinnlcoaaGreatDoor
namespace Go.Proofs.YtjgkegkinnlcoaaGreatDoor
open Go.RowKit
open Go.Maps (Keyed)
variable {α β:Type} {w w':World} {P:Program} {k e t:TypeId} {b n:Nat} {ek:α→Value} {ev:β→Value} {g:α→Option β}
theorem clear_N (h:MapN w P k b n ek ev g) (ht:P.underlying t=some (.map k e)):
  ∃w',(∀ty,(Builtin.clear_ #[t] ty #[.map (some b)]).run P w= .ok (.tuple #[]) w')∧MapN w' P k b 0 ek ev (fun _=>none)∧Touch [b] w w':=by
 obtain⟨D,hD,hs,hgx⟩:=h
 obtain⟨w',h1,h2,h3⟩:=clear_run hD ht
 exact⟨w',h1,⟨_,h2,rfl,fun x l hx=>⟨rfl,fun z=>rfl⟩⟩,Touch.of_grown h3⟩
end Go.Proofs.YtjgkegkinnlcoaaGreatDoor
namespace Go.Proofs.YtjgkegkinnlcoaaGreatDoor
open Go.RowKit Go.Maps Go.Joins
theorem Tryz.infoIntP:(Tryz.prog.info? 3).map (fun i=>(i.zero,i.size,i.bytes))=some (some (.int .i64 0),1,8):=by kernel_rfl
theorem keysI_length (p:Int→Bool) (N:Nat):(keysI p N).length=cntI p N:=by simp[keysI,cntI]
theorem keysI_mem (p:Int→Bool) (N:Nat) (x:Int):x∈keysI p N↔0≤x∧x<N∧p x=true:=by
 unfold keysI
 simp only[List.mem_map,List.mem_filter,List.mem_range]
 constructor
 ·rintro ⟨a,⟨h1,h2⟩,rfl⟩
  exact⟨by simp,by simpa using h1,h2⟩
 ·rintro ⟨h1,h2,h3⟩
  refine⟨x.toNat,⟨by omega, ?_⟩,by simp;omega⟩
  rw[show((x.toNat:Nat):Int)=x by omega]
  exact h3
theorem keysI_sorted (p:Int→Bool) (N:Nat):(keysI p N).Pairwise (· < ·):=by
 unfold keysI
 rw[List.pairwise_map]
 refine(List.Pairwise.filter _ List.pairwise_lt_range).imp (fun h=> ?_)
 simpa using h
theorem keysI_of_perm {p:Int→Bool} {N:Nat} {l:List Int} (hn:l.Nodup) (hm: ∀x,x∈l↔x∈keysI p N):l.mergeSort (fun x y=>decide (x≤y))=keysI p N:=by
 have h1:(keysI p N).Nodup:=(keysI_sorted p N).imp (fun h e=>by omega)
 have hp:l.Perm (keysI p N):=(List.perm_ext_iff_of_nodup hn h1).2 hm
 refine List.Perm.eq_of_pairwise (le:=fun a b=>a≤b) (fun a b _ _ h1 h2=>Int.le_antisymm h1 h2) ?_ ((keysI_sorted p N).imp (fun h=>by omega)) ((List.mergeSort_perm l _).trans hp)
 have:=List.pairwise_mergeSort (le:=fun x y:Int=>decide (x≤y)) (fun a b c h1 h2=>by simp at*;omega) (fun a b=>by simp;omega) l
 exact this.imp (fun h=>by simpa using h)
structure DiLoop (w:World) (mb n:Nat) (at_:Int→Option Nat) (fr:Hand) (v:Value) (wr:World):Prop where
 ex: ∃(l:List Int) (left:Int→Bool) (cnt:Nat),l.Nodup∧(∀x,x∈l↔((at_ x).isSome=true∧left x=false∧isDirty fr x=true))∧wr.ownsRow (w.heap.size+1) 3 1 v l.length (l.map (Value.int .i64))∧
  RngT wr Tryz.prog 3 mb w.heap.size n (Value.int .i64) ptrV at_ left cnt∧Below w.heap.size w wr∧w.heap.size+1≤wr.heap.size
section
variable {w w':World} {pb mb room n b K:Nat} {clock c' u' no:Int} {at_ at':Int→Option Nat} {us us':Int→Int} {fr fr':Hand} {s:ByteArray} {d:Bool} {u:Int} {F:List Nat}
theorem PoolAt.dirty_dom (h:PoolAt w pb mb room n clock at_ us fr) {x:Int} (hx:isDirty fr x=true):(at_ x).isSome=true∧0≤x∧x<100000:=by
 cases ha:at_ x with
 |none=>unfold isDirty at hx;rw[h.out x ha] at hx;cases hx
 |some b=>exact⟨rfl,h.dom x b ha⟩
theorem DiLoop.bound (h:PoolAt w pb mb room n clock at_ us fr) {l:List Int} {left:Int→Bool} (hn:l.Nodup) (hm: ∀x,x∈l↔((at_ x).isSome=true∧left x=false∧isDirty fr x=true)):l.length≤65536:=by
 have h1:(keysI (fun x=>(at_ x).isSome&& !left x&&isDirty fr x) 100000).Nodup:=(keysI_sorted _ _).imp (fun h e=>by omega)
 have hp:l.Perm (keysI (fun x=>(at_ x).isSome&& !left x&&isDirty fr x) 100000):=(List.perm_ext_iff_of_nodup hn h1).2 (fun x=>by
  rw[hm,keysI_mem]
  constructor
  ·rintro ⟨a,b,c⟩
   have:=h.dirty_dom c
   exact⟨this.2.1,this.2.2,by simp[a,b,c]⟩
  ·rintro ⟨_,_,c⟩
   simp at c
   exact⟨c.1.1,c.1.2,c.2⟩)
 have e:=hp.length_eq
 rw[keysI_length] at e
 have h2:=h.dirty_le
 have h3:=h.le
 have h4:=h.room2
 have h5:cntI (fun x=>(at_ x).isSome&& !left x&&isDirty fr x) 100000≤cntDirty fr:=cntI_le (fun i hi=>by simp at hi;exact hi.2) _
 omega
set_option maxRecDepth 100000 in
set_option maxHeartbeats 2000000 in
theorem dirty_at (h:PoolAt w pb mb room n clock at_ us fr):
  Calls Tryz.prog 91 #[.pointer (some ⟨pb,0,none⟩)] w fun e w'=> ∃v,e= .returned v∧w'.ownsRow (w.heap.size+1) 3 1 v (cntDirty fr) ((keysI (isDirty fr) 100000).map (Value.int .i64))∧Below w.heap.size w w':=by
 obtain⟨i0,hi,hz0,hz1,hz2⟩:=info_parts Tryz.infoIntP
 have HPA:=fun(W:World) (hb:Below w.heap.size w W)=>Lib.hid (h.later hb)
 have H:=Lib.hid h
 obtain⟨c0,c1,c2⟩:=h.cell
 have HLT:=Lib.hid h.lt
 clear h
 go_enter Tryz.func91,Tryz.ntmps91
 go_wp2_with (at_range;refine wpList_range_T _ rfl _ 232 rfl 3 241 Tryz.keyIntP Tryz.underlying232 mb n (Value.int .i64) ptrV at_ rfl H.out.map.toT ?_;intro w5 cnt hrg hg5 hs5)
 have hb5:Below w.heap.size w w5:=(Touch.of_grown hg5).below (Nat.le_refl _) (by simp)
 have HR:=Lib.hid hrg
 have HB:=Lib.hid hb5
 have HS:=Lib.hid hs5
 clear hrg hg5 hs5 hb5 c0 c1 c2
 go_frame
 go_loopw [3,4,5] (fun v3 v4 v5 wr=>DiLoop w mb n at_ fr v3 wr) (fun _ _ _ wr=>wr.rangeLeft mb w.heap.size)
 case atStart=>exact⟨⟨[],fun x=>(at_ x).isSome,_,List.nodup_nil,fun x=>⟨fun h=>(by cases h),fun⟨h1,h2,_⟩=>Bool.noConfusion (h1.symm.trans h2)⟩,World.ownsRow_nil _ _ _ _,HR.out,HB.out,by have:=HS.out;omega⟩⟩
 case round=>
  obtain⟨⟨l,left,cnt,hn,hm,hrow,hrg,hb,hsz⟩⟩:=hrel
  have HRG:=Lib.hid hrg
  have HBW:=Lib.hid hb
  have HN:=Lib.hid hn
  have HM:=Lib.hid hm
  have HROW:=Lib.hid hrow
  have HSZ:=Lib.hid hsz
  have hbd:=DiLoop.bound H.out hn hm
  clear hrg hb hn hm hrow hsz HR HB HS
  go_wp2_with (at_next;refine wpList_next_T _ rfl _ rfl 3 Tryz.keyIntP mb w.heap.size n (Value.int .i64) ptrV at_ left cnt inv_keyI inj_I rfl HRG.out ?done ?more)
  case done=>
   intro hall
   have hkeys: ∀x,x∈l↔x∈keysI (isDirty fr) 100000:=fun x=>by
    rw[HM.out,keysI_mem]
    constructor
    ·rintro ⟨_,_,c⟩
     have:=H.out.dirty_dom c
     exact⟨this.2.1,this.2.2,c⟩
    ·rintro ⟨a,b,c⟩
     have:=H.out.dirty_dom c
     exact⟨this.1,hall x _ (keyP (by omega) (by omega)),c⟩
   have hsort:=keysI_of_perm HN.out hkeys
   have hlen:l.length=cntDirty fr:=by
    have:=congrArg List.length hsort
    rw[List.length_mergeSort,keysI_length] at this
    exact this
   have HSO:=Lib.hid hsort
   have HLE:=Lib.hid hlen
   clear hkeys hall hsort hlen
   rcases HROW.out.2 with ⟨hv,h0⟩|⟨g,cap,cur,hv,hg,hgb,h1,h2,h3,ht⟩
   ·subst hv
    have hl0:l.length=0:=h0
    have hsn:=Tryz.slices_Sort_int_none none 0
    go_wp2_with fail
    refine(hsn _).mono ?_
    rintro e w1 ⟨rfl,rfl⟩
    go_wp2_with fail
    go_ret
    refine⟨_,rfl, ?_,HBW.out⟩
    have e1:cntDirty fr=0:=by have:=HLE.out;omega
    have e2:keysI (isDirty fr) 100000=[]:=List.eq_nil_of_length_eq_zero (by rw[keysI_length];exact e1)
    rw[e1,e2]
    exact World.ownsRow_nil _ _ _ _
   ·subst hv
    rw[Nat.mul_one] at ht
    have ht':cur.toList.take l.length=l.map (Value.int .i64):=ht
    have hgl:g<wr.heap.size:=(Array.getElem?_eq_some_iff.1 hgb).1
    have HSN:=Lib.hid (Tryz.slices_Sort_int g 0 cap l wr (holds_of_blockI hgb ht') hgl (by omega))
    have HGB:=Lib.hid hgb
    have HTK:=Lib.hid ht'
    clear ht ht' hgb
    go_wp2_with fail
    refine HSN.out.mono ?_
    rintro e w1 ⟨rfl,nq,os,hw1⟩
    have HW1:=Lib.hid hw1
    clear hw1
    go_wp2_with fail
    go_ret
    refine⟨_,rfl, ?_, ?_⟩
    ·have:=ownsRow_sortedI (n:=nq) (os:=os) (ss:=l) (ts:=l.mergeSort fun x y=>decide (x≤y)) (base:=w.heap.size+1) (List.length_mergeSort l) hg HGB.out h1 h2 h3
     rw[←HW1.out,HSO.out] at this
     rw[←HLE.out]
     exact this
    ·have hgr:=grownBy_sortedI (n:=nq) (os:=os) (w:=wr) (g:=g) (l.mergeSort fun x y=>decide (x≤y)).toArray
     rw[←HW1.out] at hgr
     exact below_of_grown HBW.out hgr (by omega) HBW.out.size
  case more=>
   intro x b kl w' cnt' hkey hlx hgx hrg' hlt' hgr hsz hen
   have hb':=below_of_grown HBW.out hgr (Nat.le_refl _) HBW.out.size
   obtain⟨s,d,e0,r0, -⟩:=(HPA _ hb').out.row x b hgx
   obtain⟨f0,f1,f2,f3⟩:=frame_cell r0
   have HRG':=Lib.hid hrg'
   have HB':=Lib.hid hb'
   have HME:=Lib.hid (show cnt'<wr.rangeLeft mb w.heap.size by rw[HRG.out.left_eq];exact hlt')
   have HROW':=Lib.hid (ownsRow_touch HROW.out (Touch.of_grown hgr) (fun q hq=>by have:=(HROW.out.lt q hq).1;simp;omega))
   have HSZ':=Lib.hid (show w.heap.size+1≤w'.heap.size by have:=HSZ.out;omega)
   clear hrg' hb' hgr hkey hlt' r0 hsz
   simp only[ptrV] at hen
   cases d
   ·go_wp2_with fail
    go_roundw
    case rel=>
     refine⟨⟨l,_,cnt',HN.out,fun y=> ?_,HROW'.out,HRG'.out,HB'.out,HSZ'.out⟩⟩
     rw[HM.out]
     by_cases e:y=x
     ·subst e;unfold isDirty;rw[e0];simp
     ·simp[e]
    case measure=>exact HRG'.out.left_eq.symm▸HME.out
   ·have hcap:l.length+1≤maxLen:=by unfold maxLen;omega
    go_wp2_with (at_builtin;go_loud (refine wpList_append_near _ rfl (.tmp 22) (.tmp 24) 67 rfl (w.heap.size+1) 3 i0 (.int .i64 0) 1 8 Tryz.underlying67 hi hz0 hz1 hz2 rfl (by decide) _ l.length (l.map (Value.int .i64)) rfl (HROW'.out.alloc _) ⟨w'.heap.size,0,none⟩ 1 1 [.int .i64 x] rfl (by decide) rfl (cell_one_new _ _ _) (by intro u hu;simp at hu;subst hu;rfl) hcap (by omega) (by have:=HSZ'.out;simp;omega) ?_);intro g cap w7 hown hgr hat)
    have hb7:Below w.heap.size w w7:=(HB'.out.alloc (HB'.out.size) _).trans ((Touch.of_grown hgr).below (by have:=HB'.out.size;simp;omega) (fun q hq=>by have:=(HROW'.out.lt q (Option.mem_toList.1 hq)).1;omega))
    have hr7:=(HRG'.out.touch (F:=[]) ((Touch.refl _ _).alloc (.cells #[.int .i64 x] 3)) (by simp) (by simp)).touch (Touch.of_grown hgr) (fun hq=>by have:=(HROW'.out.lt _ (Option.mem_toList.1 hq)).1;have:=HLT.out.2.1;omega) (fun hq=>by have:=(HROW'.out.lt _ (Option.mem_toList.1 hq)).1;omega)
    have HO7:=Lib.hid hown
    have HB7:=Lib.hid hb7
    have HR7:=Lib.hid hr7
    have HS7:=Lib.hid (show w.heap.size+1≤w7.heap.size by have:=HSZ'.out;have:=hgr.size;simp at this;omega)
    clear hown hb7 hr7 hgr hat
    go_wp2_with fail
    go_roundw
    case rel=>
     refine⟨⟨l++[x],_,cnt', ?_,fun y=> ?_, ?_,HR7.out,HB7.out,HS7.out⟩⟩
     ·rw[List.nodup_append]
      exact⟨HN.out,by simp,fun a ha b hb=>by simp at hb;subst hb;intro e;subst e;have:=(HM.out a).1 ha;rw[hlx] at this;simp at this⟩
     ·rw[List.mem_append,HM.out]
      by_cases e:y=x
      ·subst e;unfold isDirty;rw[e0,hgx];simp
      ·simp[e]
     ·have:=HO7.out
      rw[List.map_append,List.length_append]
      exact this
    case measure=>exact HR7.out.left_eq.symm▸HME.out
end
end Go.Proofs.YtjgkegkinnlcoaaGreatDoor
namespace Go.Proofs.YtjgkegkinnlcoaaGreatDoor
open Go.RowKit Go.Maps Go.Joins
def cleanH (fr:Hand) (left:Int→Bool):Hand:=fun i=>match fr i with
 |some (s,d)=>some (s,d&&left i)
 |none=>none
def cleanAll (fr:Hand):Hand:=fun i=>(fr i).map fun x=>(x.1,false)
structure ClLoop (w:World) (F:List Nat) (pb mb room n:Nat) (clock:Int) (at_:Int→Option Nat) (us:Int→Int) (fr:Hand) (wr:World):Prop where
 ex: ∃(left:Int→Bool) (cnt:Nat),PoolAt wr pb mb room n clock at_ us (cleanH fr left)∧RngT wr Tryz.prog 3 mb w.heap.size n (Value.int .i64) ptrV at_ left cnt∧Touch F w wr∧w.heap.size+1≤wr.heap.size
section
variable {w w':World} {pb mb room n b K:Nat} {clock c' u' no:Int} {at_ at':Int→Option Nat} {us us':Int→Int} {fr fr':Hand} {s:ByteArray} {d:Bool} {u:Int} {F:List Nat}
set_option maxRecDepth 100000 in
set_option maxHeartbeats 2000000 in
theorem clean_at (h:PoolAt w pb mb room n clock at_ us fr) (m1:pb∈F) (m2:mb∈F) (m3: ∀i b,at_ i=some b→b∈F) (m4: ∀b∈F,b<w.heap.size):
  Calls Tryz.prog 95 #[.pointer (some ⟨pb,0,none⟩)] w fun e w'=>e= .returned (.tuple #[])∧PoolAt w' pb mb room n clock at_ us (cleanAll fr)∧Touch F w w':=by
 have H:=Lib.hid h
 obtain⟨c0,c1,c2⟩:=h.cell
 clear h
 go_enter Tryz.func95,Tryz.ntmps95
 go_wp2_with (at_range;refine wpList_range_T _ rfl _ 232 rfl 3 241 Tryz.keyIntP Tryz.underlying232 mb n (Value.int .i64) ptrV at_ rfl H.out.map.toT ?_;intro w5 cnt hrg hg5 hs5)
 have ht5:Touch F w w5:=(Touch.of_grown hg5).mono (by simp)
 have hp5:=H.out.later ((Touch.of_grown hg5).below (Nat.le_refl _) (by simp))
 have HR:=Lib.hid hrg
 have HT:=Lib.hid ht5
 have HS:=Lib.hid hs5
 have HP:=Lib.hid hp5
 clear hrg hg5 hs5 ht5 hp5 c0 c1 c2
 go_frame
 go_loopw [3] (fun v3 wr=>ClLoop w F pb mb room n clock at_ us fr wr) (fun _ wr=>wr.rangeLeft mb w.heap.size)
 case atStart=>
  refine⟨⟨fun x=>(at_ x).isSome,_, ?_,HR.out,HT.out,by have:=HS.out;omega⟩⟩
  have e:cleanH fr (fun x=>(at_ x).isSome)=fr:=by
   funext i
   unfold cleanH
   cases hf:fr i with
   |none=>rfl
   |some x=>
    cases ha:at_ i with
    |none=>rw[H.out.out i ha] at hf;cases hf
    |some b=>simp[ha]
  rw[e]
  exact HP.out
 case round=>
  obtain⟨⟨left,cnt,hp,hrg,ht,hsz⟩⟩:=hrel
  have HRG:=Lib.hid hrg
  have HTW:=Lib.hid ht
  have HPW:=Lib.hid hp
  have HSZ:=Lib.hid hsz
  clear hrg ht hp hsz HR HT HS HP
  go_wp2_with (at_next;refine wpList_next_T _ rfl _ rfl 3 Tryz.keyIntP mb w.heap.size n (Value.int .i64) ptrV at_ left cnt inv_keyI inj_I rfl HRG.out ?done ?more)
  case done=>
   intro hall
   have e:cleanH fr left=cleanAll fr:=by
    funext i
    unfold cleanH cleanAll
    cases hf:fr i with
    |none=>rfl
    |some x=>
     cases ha:at_ i with
     |none=>rw[H.out.out i ha] at hf;cases hf
     |some b=>
      have hd:=H.out.dom i b ha
      simp[hall i _ (keyP (by omega) (by omega))]
   have HE:=Lib.hid e
   clear e hall
   go_wp2_with fail
   go_end0
   refine⟨rfl, ?_,HTW.out⟩
   rw[←HE.out]
   exact HPW.out
  case more=>
   intro x b kl w' cnt' hkey hlx hgx hrg' hlt' hgr hsz hen
   have hx:=m4 b (m3 x b hgx)
   have hx1:=m4 pb m1
   have hx2:=m4 mb m2
   have hp':=HPW.out.touch (Touch.of_grown hgr) (by simp;omega) (by simp;omega) (fun i b' hb'=>by have:=m4 b' (m3 i b' hb');simp;omega)
   obtain⟨s,d,e0,r0,u0,u1,n1,n2⟩:=hp'.row x b hgx
   obtain⟨f0,f1,f2,f3⟩:=frame_cell r0
   have fz:=World.rowIs.frozen r0 1
   have hst:Touch [pb,b] w' (w'.setCell ⟨b,1,none⟩ (.bool false)):=(Touch.refl _ _).setCell (.inl (by simp)) _
   have hst1:Touch [b] w' (w'.setCell ⟨b,1,none⟩ (.bool false)):=(Touch.refl _ _).setCell (.inl (by simp)) _
   have hnew:=hp'.change hgx hst (rowIs_touch hp'.cells hst1 (by simpa using n1.symm)) (World.rowIs.congr (g:=frF s false (us x)) (World.rowIs.set r0 1 (.bool false)) (fun i hi=>by rcases i with _|_|_|_|i<;>first|rfl|omega)) u0 u1 (Int.le_refl _)
   rw[updI_self us rfl] at hnew
   have hfe:updI (cleanH fr left) x (some (s,false))=cleanH fr (fun z=>left z&& !decide (z=x)):=by
    funext y
    by_cases e:y=x
    ·subst e
     rw[updI_same]
     unfold cleanH at e0 ⊢
     cases hf:fr y with
     |none=>rw[hf] at e0;cases e0
     |some q=>
      rw[hf] at e0
      obtain⟨q1,q2⟩:=q
      simp at e0 ⊢
      exact e0.1.symm
    ·rw[updI_other _ _ e]
     unfold cleanH
     cases fr y with
     |none=>rfl
     |some q=>simp[e]
   rw[hfe] at hnew
   have HN:=Lib.hid hnew
   have HR2:=Lib.hid (hrg'.touch hst1 (by simpa using n2.symm) (by simp;omega))
   have HT2:=Lib.hid ((HTW.out.trans (Touch.of_grown hgr) (fun q hq=>by simp at hq;subst hq;exact .inr (Nat.le_refl _))).trans hst1 (fun q hq=>by simp at hq;subst hq;exact .inl (m3 x q hgx)))
   have HS2:=Lib.hid (show w.heap.size+1≤(w'.setCell ⟨b,1,none⟩ (.bool false)).heap.size by have:=HSZ.out;simp;omega)
   have HME:=Lib.hid (show cnt'<wr.rangeLeft mb w.heap.size by rw[HRG.out.left_eq];exact hlt')
   clear hnew hp' hrg' hgr hkey hlt' r0 hst hst1 hfe hsz
   simp only[ptrV] at hen
   go_wp2_with fail
   go_roundw
   case rel=>exact⟨⟨_,cnt',HN.out,HR2.out,HT2.out,HS2.out⟩⟩
   case measure=>exact HR2.out.left_eq.symm▸HME.out
theorem pclean_any (h:IsPool w pb F room K fr):Calls Tryz.prog 95 #[.pointer (some ⟨pb,0,none⟩)] w fun e w'=>e= .returned (.tuple #[])∧PoolGo w w' pb F room K (cleanAll fr):=by
 obtain⟨mb,n,clock,at_,us,h,hc,m1,m2,m3,m4⟩:=h
 refine(clean_at h m1 m2 m3 m4).mono ?_
 rintro e w' ⟨rfl,hp,ht⟩
 exact⟨rfl,PoolGo.of_at hp hc ht m1 m2 m3 m4⟩
theorem pdirty_any (h:IsPool w pb F room K fr):Calls Tryz.prog 91 #[.pointer (some ⟨pb,0,none⟩)] w fun e w'=> ∃v,e= .returned v∧w'.ownsRow (w.heap.size+1) 3 1 v (cntDirty fr) ((keysI (isDirty fr) 100000).map (Value.int .i64))∧Below w.heap.size w w':=by
 obtain⟨mb,n,clock,at_,us,h,hc,m1,m2,m3,m4⟩:=h
 exact dirty_at h
end
end Go.Proofs.YtjgkegkinnlcoaaGreatDoor
namespace Go.Proofs.YtjgkegkinnlcoaaGreatDoor
open Go.RowKit Go.Maps Go.Joins
theorem own_at {w:World} {base n:Nat} {e:TypeId} {v:Value} {xs:List Value} (h:w.ownsRow base e 1 v n xs): ∃a c,v= .slice a n c∧ ∀(j:Nat) u,xs[j]? =some u→ ∃g,a=some ⟨g,0,none⟩∧base≤g∧g<w.heap.size∧w.cell? ⟨g,j,none⟩=some u:=by
 rcases ownsRow_forms h with ⟨e1,h0⟩|⟨g,cap,e1⟩
 ·refine⟨none,0,by rw[e1,h0],fun j u hu=> ?_⟩
  have hx:xs=[]:=List.eq_nil_of_length_eq_zero (by have:=h.1;omega)
  rw[hx] at hu
  simp at hu
 ·subst e1
  exact⟨_,_,rfl,fun j u hu=>⟨g,rfl,(h.lt g rfl).1,(h.lt g rfl).2,addr_at0 g j▸h.cells (g:=g) rfl j u hu⟩⟩
end Go.Proofs.YtjgkegkinnlcoaaGreatDoor
namespace Go.Proofs.YtjgkegkinnlcoaaGreatDoor
open Go.RowKit
def dirtyL (M:PM):List Int:=keysI (fun i=>(M.dirty i).isSome) 100000
def hotL (M:PM):List Int:=keysI (fun i=>(M.hot i).isSome) 100000
def layX (M:PM):Int × DM:=
 let x:=(hotL M).foldl (fun x no=>putX x (2+M.size+no.toNat*8) ((M.hot no).getD ⟨#[]⟩)) (0,M.m)
 let g:=(M.gen+1) % 18446744073709551616
 stepF (stepW (stepF x) (g % 2) (mkStr g (superT M.l.next M.size)))
def layP (M:PM):Int × PM:=
 let x:=layX M
 if x.1≠0 then(x.1, { M with m:=x.2,dead:=true }) else
 (if M.l.dead then 17 else 0, { M with m:=x.2,gen:=(M.gen+1) % 18446744073709551616,hot:=fun _=>none,l:=if M.l.dead then M.l else { M.l with at_:=0 } })
def dirtyPages (M:PM):List ByteArray:=(dirtyL M).map fun no=>(M.dirty no).getD ⟨#[]⟩
def keepP (M:PM):PM:= { M with hot:=fun i=>(M.dirty i).orElse fun _=>M.hot i,dirty:=fun _=>none }
def apP (M:PM):Int × PM:=let r:=apR M.l M.m (dirtyPages M) (dirtyPages M).length;(r.1, { M with l:=r.2.1,m:=r.2.2 })
def endP (x:Int × PM):Int × PM:=if x.1=0 then(0,keepP x.2) else(x.1, { x.2 with dead:=x.2.dead||decide (x.1≠9) })
def commitP (M:PM):Int × PM:=
 if M.dead=true then(17,M) else if cntD M=0 then(0,M) else if 64<cntD M then(10,M) else
 let a:=apP M
 endP (if a.1=9∧1+9*cntD M≤M.size then(let y:=layP a.2;if y.1=0 then apP y.2 else y) else a)
end Go.Proofs.YtjgkegkinnlcoaaGreatDoor
namespace Go.Proofs.YtjgkegkinnlcoaaGreatDoor
open Go.RowKit Go.Joins
section
variable {w:World} {d lb:Nat} {l:LM}
theorem next_any (h:LogAt w lb d l):Calls Tryz.prog 168 #[.pointer (some ⟨lb,0,none⟩)] w fun e w'=>e= .returned (.int .u64 l.next)∧w=w':=by
 obtain⟨c0,c1,c2,c3,c4,c5⟩:=h.cell
 clear h
 go_enter Tryz.func168,Tryz.ntmps168
 go_wp2_with fail
 go_ret
 exact⟨rfl,rfl⟩
theorem restart_dead (h:LogAt w lb d l) (hd:l.dead=true):Calls Tryz.prog 169 #[.pointer (some ⟨lb,0,none⟩)] w fun e w'=>e= .returned (.int .i64 17)∧w=w':=by
 obtain⟨c0,c1,c2,c3,c4,c5⟩:=h.cell
 rw[hd] at c5
 clear h hd
 go_enter Tryz.func169,Tryz.ntmps169
 go_wp2_with fail
 go_ret
 exact⟨rfl,rfl⟩
theorem restart_any (h:LogAt w lb d l) (hd:l.dead=false):Calls Tryz.prog 169 #[.pointer (some ⟨lb,0,none⟩)] w fun e w'=>e= .returned (.int .i64 0)∧LogAt w' lb d { l with at_:=0 }∧Touch [lb] w w':=by
 obtain⟨c0,c1,c2,c3,c4,c5⟩:=h.cell
 have f3:=h.frozen 3
 rw[hd] at c5
 have H:=Lib.hid h
 clear h hd
 go_enter Tryz.func169,Tryz.ntmps169
 go_wp2_with fail
 go_ret
 refine⟨rfl, ?_,(Touch.refl _ _).setCell (.inl (by simp)) _⟩
 refine World.rowIs.congr (World.rowIs.set H.out 3 (.int .i64 0)) (fun t ht=> ?_)
 rcases t with _|_|_|_|_|_|t
 ·rfl
 ·rfl
 ·rfl
 ·rfl
 ·rfl
 ·rfl
 ·omega
end
end Go.Proofs.YtjgkegkinnlcoaaGreatDoor
namespace Go.Proofs.YtjgkegkinnlcoaaGreatDoor
open Go.RowKit Go.Maps Go.Joins
theorem Coh.clean {fr:Hand} {D:Int→Option ByteArray} {B:Int→ByteArray} (h:Coh fr D B):Coh (cleanAll fr) (fun _=>none) (fun i=>(D i).getD (B i)):=by
 refine⟨fun i t=>⟨fun ht=> ?_,fun ht=>by cases ht⟩,fun i t ht=> ?_⟩
 ·unfold cleanAll at ht
  cases hf:fr i with
  |none=>rw[hf] at ht;cases ht
  |some x=>rw[hf] at ht;simp at ht
 ·unfold cleanAll at ht
  cases hf:fr i with
  |none=>rw[hf] at ht;cases ht
  |some x=>
   rw[hf] at ht
   simp at ht
   show(D i).getD (B i)=t
   rw[←h.text (s:=x.1) (d:=x.2) hf,ht]
end Go.Proofs.YtjgkegkinnlcoaaGreatDoor
namespace Go.Proofs.YtjgkegkinnlcoaaGreatDoor
open Go.RowKit
theorem putN_zero {x:Int × DM} {a:Nat} {s:ByteArray}: ∀ {n:Nat},(putN x a s n).1=0→x.1=0
 |0,h=>h
 |n+1,h=>by rw[putN_succ] at h;exact putN_zero (stepW_zero h)
def layN (x:Int × DM) (hot:Int→Option ByteArray) (size:Nat) (L:List Int):Int × DM:=L.foldl (fun x no=>putX x (2+size+no.toNat*8) ((hot no).getD ⟨#[]⟩)) x
theorem layN_snoc (x:Int × DM) (hot:Int→Option ByteArray) (size:Nat) (L:List Int) (no:Int):layN x hot size (L++[no])=putX (layN x hot size L) (2+size+no.toNat*8) ((hot no).getD ⟨#[]⟩):=by
 unfold layN;rw[List.foldl_append];rfl
theorem layN_zero {hot:Int→Option ByteArray} {size:Nat}: ∀ {L:List Int} {x:Int × DM},(layN x hot size L).1=0→x.1=0
 | [],_,h=>h
 |no::L,x,h=>putN_zero (n:=8) (layN_zero (L:=L) (x:=putX x (2+size+no.toNat*8) ((hot no).getD ⟨#[]⟩)) h)
theorem layN_other {hot:Int→Option ByteArray} {size j:Nat}: ∀ {L:List Int} {x:Int × DM},(∀no∈L,j<2+size+no.toNat*8∨2+size+no.toNat*8+8≤j)→secM (layN x hot size L).2 j=secM x.2 j
 | [],_,_=>rfl
 |no::L,x,h=>by
  show secM (layN (putX x (2+size+no.toNat*8) ((hot no).getD ⟨#[]⟩)) hot size L).2 j=_
  rw[layN_other (fun q hq=>h q (by simp[hq]))]
  exact putN_other (n:=8) (h no (by simp))
theorem layN_page {hot:Int→Option ByteArray} {size:Nat} {L:List Int} {x:Int × DM} {i:Nat} (h: ∀no∈L,0≤no) (hi:(i:Int)∉L):pgOf (layN x hot size L).2 (2+size+i*8)=pgOf x.2 (2+size+i*8):=
 pgOf_congr (fun k hk=>layN_other (fun no hno=>by
  have h0:=h no hno
  have hne:no.toNat≠i:=fun e=>hi (by rw[←e,show((no.toNat:Nat):Int)=no by omega];exact hno)
  omega))
theorem layN_same {hot:Int→Option ByteArray} {size:Nat}: ∀ {L:List Int} {x:Int × DM},(layN x hot size L).1=0→L.Nodup→(∀no∈L,0≤no∧((hot no).getD ⟨#[]⟩).size=512)→ ∀i:Nat,(i:Int)∈L→pgOf (layN x hot size L).2 (2+size+i*8)=(hot i).getD ⟨#[]⟩
 | [],_,_,_,_,i,hi=>by cases hi
 |no::L,x,h,hn,hs,i,hi=>by
  have hn':=List.nodup_cons.1 hn
  by_cases e:(i:Int)∈L
  ·exact layN_same (L:=L) (x:=putX x (2+size+no.toNat*8) ((hot no).getD ⟨#[]⟩)) h hn'.2 (fun q hq=>hs q (by simp[hq])) i e
  ·have e2:(i:Int)=no:=by
    rcases List.mem_cons.1 hi with e2|e2
    ·exact e2
    ·exact absurd e2 e
   show pgOf (layN (putX x (2+size+no.toNat*8) ((hot no).getD ⟨#[]⟩)) hot size L).2 (2+size+i*8)=_
   rw[layN_page (fun q hq=>(hs q (by simp[hq])).1) e, ←e2,Int.toNat_natCast]
   have hz:=layN_zero (L:=L) (x:=putX x (2+size+no.toNat*8) ((hot no).getD ⟨#[]⟩)) h
   rw[←e2,Int.toNat_natCast] at hz
   have hss:=(hs no (by simp)).2
   rw[←e2] at hss
   exact pgOf_put hss hz
theorem layN_ok {hot:Int→Option ByteArray} {size k:Nat}: ∀ {L:List Int} {x:Int × DM},DOk x.2 k→DOk (layN x hot size L).2 (k+8*L.length)
 | [],_,h=>h
 |no::L,x,h=>by
  have:=layN_ok (hot:=hot) (size:=size) (L:=L) (x:=putX x (2+size+no.toNat*8) ((hot no).getD ⟨#[]⟩)) (putN_ok h _ _ 8)
  exact this.mono (by simp;omega)
end Go.Proofs.YtjgkegkinnlcoaaGreatDoor
namespace Go.Proofs.YtjgkegkinnlcoaaGreatDoor
open Go.RowKit Go.Maps Go.Joins
section
variable {W w w1 w2:World} {b d lb pb hb pp k:Nat} {F F1:List Nat} {m:DM} {l:LM} {e0:Int} {x:Int × DM}
set_option maxRecDepth 100000 in
set_option maxHeartbeats 2000000 in
theorem lay_fn (hD:IsDisk W d F m) (hL:LogAt W lb d l) (hk:DOk m k) (hkk:k≤1000000000) {gen:Int} {size:Nat} (g0:0≤gen) (g1:gen≤18446744073709551615) (n0:0≤l.next) (hs:size≤65536)
  (cp:W.cell? ⟨pp,0,none⟩=some (.pointer (some ⟨b,0,none⟩))) (c0:W.cell? ⟨b,0,none⟩=some (.pointer (some ⟨d,0,none⟩))) (c1:W.cell? ⟨b,1,none⟩=some (.pointer (some ⟨lb,0,none⟩))) (c2:W.cell? ⟨b,2,none⟩=some (.int .i64 size)) (c3:W.cell? ⟨b,3,none⟩=some (.int .u64 gen)):
  Calls Tryz.prog 167 #[.pointer (some ⟨pp,0,none⟩)] W
   fun e w'=>e= .returned (.int .i64 (wrM m ((gen+1) % 18446744073709551616 % 2) (mkStr ((gen+1) % 18446744073709551616) (superT l.next size))).1)∧Goes W w' d F (wrM m ((gen+1) % 18446744073709551616 % 2) (mkStr ((gen+1) % 18446744073709551616) (superT l.next size))).2:=by
 obtain⟨g,hg⟩: ∃g,g=(gen+1) % 18446744073709551616:=⟨_,rfl⟩
 rw[←hg]
 have q1:IntKind.u64.wrap (gen+1)=g:=by rw[IntKind.wrap_u64,hg]
 have hgb:0≤g∧g≤18446744073709551615:=by omega
 have ltp:=cell_lt cp
 have ltb:=cell_lt c0
 have xp: ∀x:Later W,x.1.cell? ⟨pp,0,none⟩=some (.pointer (some ⟨b,0,none⟩)):=fun x=>(x.cell ltp).trans cp
 have x1: ∀x:Later W,x.1.cell? ⟨b,1,none⟩=some (.pointer (some ⟨lb,0,none⟩)):=fun x=>(x.cell ltb).trans c1
 have x2: ∀x:Later W,x.1.cell? ⟨b,2,none⟩=some (.int .i64 size):=fun x=>(x.cell ltb).trans c2
 have x3: ∀x:Later W,x.1.cell? ⟨b,3,none⟩=some (.int .u64 gen):=fun x=>(x.cell ltb).trans c3
 have HNX:=Lib.hid (fun x:Later W=>next_any (hL.below x.2))
 have HSU:=Lib.hid (fun W=>super_any l.next size W n0 hs)
 have HMK:=Lib.hid (fun W=>markPut_any g (superT l.next size) W hgb.1 (by rw[superT_size];omega))
 have hms:(mkStr g (superT l.next size)).size=64:=mkStr_size _ _ (by rw[superT_size];omega)
 have HD:=Lib.hid hD
 have HC:=Lib.hid (And.intro cp (And.intro c0 c3))
 clear hD hL cp c0 c1 c2 c3 hg
 go_enter Tryz.func167,Tryz.ntmps167
 go_wp2_with fail
 refine wp_region_later (by kernel_rfl) (by kernel_rfl) ?_
 repeat (first|go_big_quiet_step ((first|(go_at_call 168;refine Later.call_same (HNX.out _))|(go_at_call 83;refine Later.call (HSU.out _))|(go_at_call 82;refine Later.call (HMK.out _))))|quiet_step ((first|(go_at_call 168;refine Later.call_same (HNX.out _))|(go_at_call 83;refine Later.call (HSU.out _))|(go_at_call 82;refine Later.call (HMK.out _)))))
 refine wpQuiet_nil ?_
 rintro w3 ⟨y3,hw3⟩
 have hb3:Below W.heap.size W w3:=by rw[hw3];exact y3.2
 clear hw3 xp x1 x2 x3
 have cp:=(hb3.cell (p:=⟨pp,0,none⟩) ltp).trans HC.out.1
 have c0:=(hb3.cell (p:=⟨b,0,none⟩) ltb).trans HC.out.2.1
 have c3:=(hb3.cell (p:=⟨b,3,none⟩) ltb).trans HC.out.2.2
 have lp3:=Nat.lt_of_lt_of_le ltp hb3.size
 have lb3:=Nat.lt_of_lt_of_le ltb hb3.size
 have q2:IntKind.u64.wrap (g.tmod 2)=g % 2:=by rw[Int.tmod_eq_emod_of_nonneg hgb.1,IntKind.wrap_u64];omega
 have q3:IntKind.i64.wrap (g % 2)=g % 2:=IntWalk.i64_in _ (by omega)
 have HW:=fun q=>Lib.hid (is_write (w:=w3.drewN q) ((HD.out.below hb3).touch (F:=[]) ((Touch.refl _ _).drewN q) (fun _ _ h=>by cases h)) hk hkk (g % 2) (mkStr g (superT l.next size)) (by omega) (by omega) (by omega))
 have HB3:=Lib.hid hb3
 clear hb3
 go_wp2_with fail
 refine wp_region_tail (C:=fun w'=> ∃n,w'=w3.drewN n) 12 (by kernel_rfl) (by kernel_rfl) ⟨1,rfl⟩ ?_
 simp only[List.take_succ_cons,List.take_zero,List.drop_succ_cons,List.drop_zero]
 repeat (first|go_big_quiet_step (fail)|quiet_step (fail))
 refine wpQuiet_nil ?_
 rintro w6 ⟨nq,rfl⟩
 go_wp2_with fail
 refine(HW nq).out.mono ?_
 rintro e w7 ⟨rfl,hg7⟩
 go_wp2_with fail
 go_ret
 exact⟨rfl,Goes.after ((Touch.of_below HB3.out).drewN nq) hg7⟩
end
end Go.Proofs.YtjgkegkinnlcoaaGreatDoor
namespace Go.Proofs.YtjgkegkinnlcoaaGreatDoor
open Go.RowKit Go.Maps Go.Joins
theorem wrM_len (m:DM) (i:Int) (s:ByteArray):(wrM m i s).2.sure.length=m.sure.length:=by
 unfold wrM
 obtain⟨e1,e2⟩:=burnM_wait m
 split
 ·rfl
 ·split
  ·rfl
  ·split
   ·show(burnM m).2.sure.length=_;rw[e2]
   ·rw[e2]
theorem flM_len (m:DM):(flM m).2.sure.length=m.sure.length:=by
 unfold flM
 obtain⟨e1,e2⟩:=burnM_wait m
 split
 ·rfl
 ·split
  ·show(flTo m.sure m.wait).length=_;rw[flTo_length]
  ·rw[e2]
theorem stepW_len (x:Int × DM) (i:Int) (s:ByteArray):(stepW x i s).2.sure.length=x.2.sure.length:=by
 unfold stepW
 split
 ·exact wrM_len _ _ _
 ·rfl
theorem stepF_len (x:Int × DM):(stepF x).2.sure.length=x.2.sure.length:=by
 unfold stepF
 split
 ·exact flM_len _
 ·rfl
theorem putN_len (x:Int × DM) (a:Nat) (s:ByteArray): ∀n,(putN x a s n).2.sure.length=x.2.sure.length
 |0=>rfl
 |n+1=>by rw[putN_succ,stepW_len,putN_len x a s n]
theorem layN_len {hot:Int→Option ByteArray} {size:Nat}: ∀(L:List Int) (x:Int × DM),(layN x hot size L).2.sure.length=x.2.sure.length
 | [],x=>rfl
 |no::L,x=>(layN_len L (putX x (2+size+no.toNat*8) ((hot no).getD ⟨#[]⟩))).trans (putN_len x _ _ 8)
section
variable {M:PM} {k:Nat}
theorem layX_eq (M:PM):layX M=stepF (stepW (stepF (layN (0,M.m) M.hot M.size (hotL M))) ((M.gen+1) % 18446744073709551616 % 2) (mkStr ((M.gen+1) % 18446744073709551616) (superT M.l.next M.size))):=rfl
theorem layX_len (M:PM):(layX M).2.sure.length=M.m.sure.length:=by
 rw[layX_eq,stepF_len,stepW_len,stepF_len,layN_len]
theorem hotL_mem (x:Int):x∈hotL M↔0≤x∧x<100000∧(M.hot x).isSome=true:=by
 have:=keysI_mem (fun i=>(M.hot i).isSome) 100000 x
 exact this
theorem hotL_len (h:PgOk M k):(hotL M).length≤M.most:=by
 have hge:=h.geo
 have hfe:=h.disk.few
 have hn:(hotL M).Nodup:=(keysI_sorted _ _).imp (fun h e=>by omega)
 have h1:(keysI (fun x=>(M.hot x).isSome) M.most).Nodup:=(keysI_sorted _ _).imp (fun h e=>by omega)
 have hp:(hotL M).Perm (keysI (fun x=>(M.hot x).isSome) M.most):=(List.perm_ext_iff_of_nodup hn h1).2 (fun x=>by
  rw[hotL_mem,keysI_mem]
  constructor
  ·rintro ⟨a,b,c⟩
   obtain⟨s,hs⟩:=Option.isSome_iff_exists.1 c
   exact⟨a,(h.hdom x s hs).2.1,c⟩
  ·rintro ⟨a,b,c⟩
   exact⟨a,by omega,c⟩)
 have hc: ∀(p:Int→Bool) (N:Nat),cntI p N≤N:=fun p N=>by
  induction N with
  |zero=>exact Nat.le_refl _
  |succ N ih=>rw[cntI_succ];split<;>omega
 rw[hp.length_eq,keysI_length]
 exact hc _ _
theorem layX_ok (h:PgOk M k):DOk (layX M).2 (k+8*(hotL M).length+1):=by
 rw[layX_eq]
 exact((((layN_ok (hot:=M.hot) (size:=M.size) (L:=hotL M) (x:=(0,M.m)) h.disk).stepF).stepW _ _).stepF)
theorem layX_page (h:PgOk M k) (i:Nat):pgOf (layX M).2 (2+M.size+i*8)=pgOf (layN (0,M.m) M.hot M.size (hotL M)).2 (2+M.size+i*8):=by
 have h1:=layN_ok (hot:=M.hot) (size:=M.size) (L:=hotL M) (x:=(0,M.m)) h.disk
 have h2:=h1.stepF
 refine pgOf_congr (fun k hk=> ?_)
 rw[layX_eq,stepF_sec (h2.stepW _ _).wait,stepW_other _ (by omega),stepF_sec h1.wait]
theorem lay_base_ok (h:PgOk M k) (hz:(layX M).1=0) (i:Nat):pgOf (layX M).2 (2+M.size+i*8)=baseP M i:=by
 rw[layX_page h]
 unfold baseP
 rw[Int.toNat_natCast]
 cases hh:M.hot (i:Int) with
 |none=>
  rw[layN_page (fun no hno=>((hotL_mem no).1 hno).1) (fun hm=>by have:=((hotL_mem (i:Int)).1 hm).2.2;rw[hh] at this;cases this)]
  rfl
 |some s=>
  have hz1:(layN (0,M.m) M.hot M.size (hotL M)).1=0:=by
   rw[layX_eq] at hz
   exact stepF_zero (stepW_zero (stepF_zero hz))
  have hd:=h.hdom _ _ hh
  have hge:=h.geo
  have hfe:=h.disk.few
  rw[layN_same hz1 ((keysI_sorted _ _).imp (fun h e=>by omega)) (fun no hno=> ?_) i ((hotL_mem (i:Int)).2 ⟨by omega,by omega,by rw[hh];rfl⟩),hh]
  ·rfl
  ·obtain⟨s',hs'⟩:=Option.isSome_iff_exists.1 ((hotL_mem no).1 hno).2.2
   rw[hs']
   exact⟨((hotL_mem no).1 hno).1,(h.hdom no s' hs').2.2⟩
theorem lay_base_no (h:PgOk M k) (i:Nat) (hh:M.hot (i:Int)=none):pgOf (layX M).2 (2+M.size+i*8)=pgOf M.m (2+M.size+i*8):=by
 rw[layX_page h,layN_page (fun no hno=>((hotL_mem no).1 hno).1) (fun hm=>by have:=((hotL_mem (i:Int)).1 hm).2.2;rw[hh] at this;cases this)]
theorem layP_no (hz:(layX M).1≠0):layP M=((layX M).1, { M with m:=(layX M).2,dead:=true }):=by
 unfold layP
 simp only
 rw[if_pos hz]
theorem layP_yes (hz:(layX M).1=0):layP M=(if M.l.dead then 17 else 0, { M with m:=(layX M).2,gen:=(M.gen+1) % 18446744073709551616,hot:=fun _=>none,l:=if M.l.dead then M.l else { M.l with at_:=0 } }):=by
 unfold layP
 simp only
 rw[if_neg (by rw[hz];simp)]
theorem layP_m (M:PM):(layP M).2.m=(layX M).2∧(layP M).2.size=M.size∧(layP M).2.dirty=M.dirty:=by
 by_cases hz:(layX M).1=0
 ·rw[layP_yes hz];refine⟨?_, ?_, ?_⟩<;>with_reducible rfl
 ·rw[layP_no hz];refine⟨?_, ?_, ?_⟩<;>with_reducible rfl
theorem layP_hot_ok (hz:(layX M).1=0):(layP M).2.hot=fun _=>none:=by rw[layP_yes hz]
theorem lay_base (h:PgOk M k) (i:Int) (hi:0≤i):baseP (layP M).2 i=baseP M i:=by
 obtain⟨n,rfl⟩: ∃n:Nat,i=n:=⟨i.toNat,by omega⟩
 have e:=layP_m M
 by_cases hz:(layX M).1=0
 ·rw[←lay_base_ok h hz n]
  unfold baseP
  rw[layP_hot_ok hz,e.1,e.2.1,Int.toNat_natCast]
  rfl
 ·have e2:(layP M).2.hot=M.hot:=by rw[layP_no hz]
  unfold baseP
  rw[e2,e.1,e.2.1,Int.toNat_natCast]
  cases hh:M.hot (n:Int) with
  |none=>
   show(none:Option ByteArray).getD (pgOf (layX M).2 (2+M.size+n*8))=(none:Option ByteArray).getD (pgOf M.m (2+M.size+n*8))
   rw[lay_base_no h n hh]
  |some s=>rw[Option.getD_some,Option.getD_some]
end
end Go.Proofs.YtjgkegkinnlcoaaGreatDoor
