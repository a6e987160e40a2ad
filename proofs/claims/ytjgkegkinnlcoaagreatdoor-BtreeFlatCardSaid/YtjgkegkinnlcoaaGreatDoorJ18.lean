/- Lemmas on the way to the statement: BtMade, BtT, Structs, LaidStart. -/
import Derived.Test.YtjgkegkinnlcoaaGreatDoorJ17
import Derived.Carry
import Derived.Deep.DeepLaidRun
import Derived.Deep.Fields
import Derived.Deep.Slices
import Derived.KernelRfl
import Derived.Lib.LaidU8
import Derived.OpenShut
import Derived.SizedLaws
set_option linter.unusedSimpArgs false
set_option linter.unusedVariables false
namespace Go.Proofs.YtjgkegkinnlcoaaGreatDoor
open Go.RowKit Go.Maps Go.Joins
def atD (w:World) (n:Nat):World:= { w with drawn:=n }
theorem PlayAt.atD {w w':World} {b d lb pb hb K n:Nat} {FD FP:List Nat} {M:PM} (h:PlayAt w w' b d lb pb hb FD FP K M):PlayAt (atD w n) w' b d lb pb hb FD FP K M:=
 ⟨h.pin,h.fb,h.fl,h.fh,h.fd,h.fp,⟨h.below.os,h.below.tape,h.below.output,h.below.size,h.below.block⟩⟩
theorem below_atD {w w':World} {n:Nat} (h:Below (atD w n).heap.size (atD w n) w'):Below w.heap.size w w':=⟨h.os,h.tape,h.output,h.size,h.block⟩
set_option maxRecDepth 100000 in
set_option maxHeartbeats 4000000 in
theorem made13_any (w:World):Calls Tryz.prog 13 #[] w fun e w'=> ∃p M,e= .returned (.pointer (some ⟨p,0,none⟩))∧(∃n,PgX (atD w n) w' p 2 M [])∧Rel M (newR 637 2000) 6000 1:=by
 have hm:mostI 6000 ((900:Nat):Int)=637:=by decide
 have hup:=UpM.new 6000
 have hk0:DOk (newM (newSu 6000)) 0:=DOk.new (newSu_size 6000) (by simp[newSu]) (by simp[newSu])
 have hfp:=formatP_yes (log:=900) hup (by rw[hm];omega)
 obtain⟨f1,f2,f3⟩:=format_rel (log:=900) hup hk0 (by omega) 2000 (by rw[hm];omega)
 have hk1:=formatX_ok (log:=900) hup hk0 (by rw[hm];omega)
 rw[hm] at f2 f3
 have HND:=Lib.hid (new_any 6000 w (by omega) (by omega))
 generalize newM (newSu 6000)=m0 at hk0 hup hfp f1 f2 f3 hk1 HND
 obtain⟨X,hX⟩: ∃X,X=formatX m0 900:=⟨_,rfl⟩
 rw[←hX] at f1 f2 f3 hk1 hfp
 obtain⟨M0,hM0⟩: ∃M0,M0=newP X.2 900 637 2000:=⟨_,rfl⟩
 rw[←hM0] at f2 f3
 have HK:=Lib.hid (And.intro hk0 hk1)
 have HFP:=Lib.hid hfp
 have HF:=Lib.hid (And.intro f2 f3)
 have HA:=Lib.hid f1
 clear hm hup hk0 hfp f1 f2 f3 hk1 hX hM0
 go_enter Tryz.func13,Tryz.ntmps13
 go_wp2_with fail
 refine HND.out.mono ?_
 rintro e w1 ⟨d,rfl,F,hd,hb1,hF⟩
 have HFM:=Lib.hid (Format_any hd HK.out.1 (by omega) (900:Nat) (by omega) (by omega))
 rw[HFP.out] at HFM
 have HB1:=Lib.hid hb1
 have HFF:=Lib.hid hF
 clear hd hb1 hF
 go_wp2_with fail
 refine HFM.out.mono ?_
 rintro e w2 ⟨rfl,F2,hd2,t2,g2⟩
 have hb2:Below w.heap.size w w2:=HB1.out.trans (t2.below HB1.out.size HFF.out)
 have hF2: ∀x∈F2,w.heap.size≤x:=fun x hx=>(g2 x hx).elim (HFF.out x) (fun h=>Nat.le_trans HB1.out.size h)
 have HOP:=Lib.hid (Open_any hd2 HK.out.2 2000 (by omega) (by omega))
 rw[HF.out.1] at HOP
 have HB2:=Lib.hid hb2
 have HFF2:=Lib.hid hF2
 clear hd2 t2 g2 hb2 hF2 HFM HND
 rw[HA.out]
 go_wp2_with fail
 refine HOP.out.mono ?_
 rintro e w3 ⟨hb3,v,rfl,hn⟩
 obtain⟨b,lb,pb,hb,FP,rfl,hpl⟩:=play_new hn HFF2.out HB2.out hb3
 have HS:=Lib.hid hpl
 clear hb3 hn hpl HOP
 go_wp2_with fail
 go_ret
 exact⟨_,_,rfl,⟨d,⟨_,_,_,_,_,_,HS.out.atD,rfl,fun x hx=>by cases hx⟩,soundP_snd HF.out.2.snd⟩,HF.out.2⟩
end Go.Proofs.YtjgkegkinnlcoaaGreatDoor
namespace Go.Proofs.YtjgkegkinnlcoaaGreatDoor
open Go.RowKit Go.Maps Go.Joins
structure IsT (w0 w:World) (p K i:Nat) (seg:List (Int × Int)) (X:List Nat):Prop where
 ex: ∃M R P,PgX w0 w p K M X∧BtI M R 6000 1 i seg P∧R.most=637∧R.room=2000
section
variable {w0 w w':World} {p K J i:Nat} {seg:List (Int × Int)} {X Y:List Nat}
theorem IsT.ris (h:IsT w0 w p K i seg X):RisP seg:=by
 obtain⟨M,R,P, -,h, -⟩:=h
 exact h.ris
theorem IsT.below (h:IsT w0 w p K i seg X):Below w0.heap.size w0 w:=by
 obtain⟨M,R,P,h, -⟩:=h
 exact h.below
theorem IsT.lt (h:IsT w0 w p K i seg X): ∀x∈X,x<w.heap.size:=by
 obtain⟨M,R,P,h, -⟩:=h
 exact h.lt
theorem IsT.move (h:IsT w0 w p K i seg X) (hb:Below w.heap.size w w') (hY: ∀y∈Y,y∈X∨(w.heap.size≤y∧y<w'.heap.size)):IsT w0 w' p K i seg Y:=by
 obtain⟨M,R,P,h,r⟩:=h
 exact⟨M,R,P,h.move hb hY,r⟩
theorem IsT.moveX (h:IsT w0 w p K i seg X) (hb:Below w.heap.size w w'):IsT w0 w' p K i seg X:=h.move hb (fun y hy=> .inl hy)
theorem IsT.sub (h:IsT w0 w p K i seg X) (hs: ∀y∈Y,y∈X):IsT w0 w p K i seg Y:=by
 obtain⟨M,R,P,h,r⟩:=h
 exact⟨M,R,P,h.sub hs,r⟩
theorem IsT.mono (h:IsT w0 w p K i seg X) (hJ:K≤J):IsT w0 w p J i seg X:=by
 obtain⟨M,R,P,h,r⟩:=h
 exact⟨M,R,P,h.mono hJ,r⟩
theorem IsT.touch {F:List Nat} (h:IsT w0 w p K i seg X) (t:Touch F w w') (hF: ∀x∈F,x∈X∧w0.heap.size≤x):IsT w0 w' p K i seg X:=by
 obtain⟨M,R,P,h,r⟩:=h
 exact⟨M,R,P,h.touch t hF,r⟩
theorem IsT.new {M:PM} (h:PgX w0 w p K M X) (hr:Rel M (newR 637 2000) 6000 1) (hi:i<8):IsT w0 w p K i [] X:=
 ⟨M,newR 637 2000,[],h,BtI.new (R:=newR 637 2000) hr (by decide) hi,rfl,rfl⟩
theorem t_put (h:IsT w0 w p K i seg X) (hi:i<8) (hs:seg.length≤2600) (hK:K≤400000000000) (key val:Int) (hk:0≤key∧key≤18446744073709551615) (hv:0≤val∧val≤18446744073709551615):
  Calls Tryz.prog 14 #[.pointer (some ⟨p,0,none⟩), .int .i64 i, .int .u64 key, .int .u64 val] w fun e w'=>e= .returned (.int .i64 0)∧IsT w0 w' p (K+600) i (insP key val seg) X∧SameX X w w':=by
 obtain⟨M,R,P,h,hb,hm,hr⟩:=h
 obtain⟨M',R',P',e1,e2,e3,e4⟩:=hb.put hi hs (by omega) hk hv
 refine(Put_any h (by omega) i key val hk hv).mono ?_
 rw[e1]
 rintro e w' ⟨he,hp,hx⟩
 exact⟨he,⟨M',R',P',hp,e2,by omega,by omega⟩,hx⟩
theorem t_all (h:IsT w0 w p K i seg X) (hi:i<8) (hs:seg.length≤2600) (hK:K≤400000000000):
  Calls Tryz.prog 20 #[.pointer (some ⟨p,0,none⟩), .int .i64 i] w fun e w'=> ∃vo,e= .returned (.tuple #[vo, .int .i64 0])∧w'.ownsRow w.heap.size 54 2 vo seg.length (prF seg)∧IsT w0 w' p (K+300000) i seg (blkOf vo++X)∧SameX X w w':=by
 obtain⟨M,R,P,h,hb,hm⟩:=h
 refine(All_any h (by omega) i).mono ?_
 rw[hb.whole hi hs]
 rintro e w' ⟨vo,he,ho,hp,hx, -⟩
 exact⟨vo,he,ho,⟨M,R,P,hp,hb,hm⟩,hx⟩
end
def wkP3:List (Int × Int):=[(3,30),(5,50)]
set_option maxRecDepth 100000 in
set_option maxHeartbeats 4000000 in
theorem awake13_any (w:World):Calls Tryz.prog 12 #[] w fun e w'=>e= .returned (.bool true)∧Below w.heap.size w w':=by
 go_enter Tryz.func12,Tryz.ntmps12
 go_wp2_with fail
 refine(made13_any w).mono ?_
 rintro e w1 ⟨p,M,rfl,⟨nd,hp⟩,hr⟩
 have HT:=Lib.hid (t_put (IsT.new (i:=0) hp hr (by decide)) (by decide) (by decide) (by decide) 5 50 (by decide) (by decide))
 clear hp hr
 go_wp2_with fail
 refine HT.out.mono ?_
 rintro e w2 ⟨rfl,ht, -⟩
 have HT2:=Lib.hid (t_put ht (by decide) (by decide) (by decide) 3 30 (by decide) (by decide))
 clear ht HT
 go_wp2_with fail
 refine HT2.out.mono ?_
 rintro e w3 ⟨rfl,ht, -⟩
 rw[show insP 3 30 (insP 5 50 [])=wkP3 from by decide] at ht
 have HT3:=Lib.hid (t_all ht (by decide) (by decide) (by decide))
 clear ht HT2
 go_wp2_with fail
 refine HT3.out.mono ?_
 rintro e w4 ⟨vo,rfl,ho,ht, -⟩
 have HO:=Lib.hid ho
 have HT4:=Lib.hid ht
 have HPL:=Lib.hid (plain_any (IsP.own ho) (by decide))
 clear ho ht HT3
 go_wp2_with fail
 refine HPL.out.mono ?_
 rintro e w5 ⟨v,rfl,hv⟩
 have HV:=Lib.hid hv
 clear hv
 go_wp2_with fail
 have hI:IsP (w5.alloc (.cells #[.int .u64 3, .int .u64 30, .int .u64 5, .int .u64 50] 106)) (.slice (some ⟨w5.heap.size,0,none⟩) 2 2) wkP3:=by
  refine .inr ⟨_,0,_,rfl,by simp,fun i p hp=> ?_⟩
  rcases i with _|_|i
  ·simp[wkP3] at hp
   subst hp
   constructor<;>(unfold World.cell?;rw[heap_alloc_new];rfl)
  ·simp[wkP3] at hp
   subst hp
   constructor<;>(unfold World.cell?;rw[heap_alloc_new];rfl)
  ·simp[wkP3] at hp
 have hA:=below_alloc (o:= .cells #[.int .u64 3, .int .u64 30, .int .u64 5, .int .u64 50] 106) (Below.refl w5.heap.size w5)
 have HA:=Lib.hid (below_step hA (below_step HV.out.below (below_atD HT4.out.below)))
 refine(rsame_any ((IsP.own HV.out.own).below hA) hI (by decide) (by decide)).mono ?_
 rintro e w6 ⟨rfl,hb⟩
 have HB:=Lib.hid (below_step hb HA.out)
 clear hb hI hA HA
 rw[show decide (wkP3=wkP3)=true from by decide]
 go_wp2_with fail
 go_ret
 exact⟨rfl,HB.out⟩
end Go.Proofs.YtjgkegkinnlcoaaGreatDoor
namespace Go.Proofs.YtjgkegkinnlcoaaGreatDoor
open Go.ChangeShapes Go.WideShapes Go.Deep Go.Joins Go.RowKit
theorem trodAll_keep {H:Type} {enc:TypeId × Value→H} {P:Program} (hl:laidOutB P=true) {W W':World} (hb:Below W.heap.size W W') {sp:Nat→Bool}:
  ∀(ts:List TypeId) (vs:List Value) (ds:List (DataW H)) (p:List MemPlace),ts.all (fun t=>P.readableRec t&&decide (t<P.types.size))=true→DataW.TrodAll enc P W 0 (fun _=>true) true ts vs ds p→
   (∀x∈p,x.block<W.heap.size)→(∀x∈p,sp x.block=true)→DataW.TrodAll enc P W' 0 sp true ts vs ds p
 | [],[],[],p,_,h,_,_=>h
 | [],[],_::_,p,_,h,_,_=>h.elim
 | [],_::_,_,p,_,h,_,_=>h.elim
 |_::_,[],_,p,_,h,_,_=>h.elim
 |_::_,_::_,[],p,_,h,_,_=>h.elim
 |t::ts,v::vs,d::ds,p,ha,h,hlt,hsp=>by
  obtain⟨p1,q,h1,h2,rfl⟩:=h
  simp only[List.all_cons,Bool.and_eq_true,decide_eq_true_eq] at ha
  exact⟨p1,q,WideElems.Trod_stays hl ha.1.1 ha.1.2 h1 (fun x hx=>hb.same (hlt x (by simp[hx]))) (fun x hx=>hsp x (by simp[hx])),
   trodAll_keep hl hb ts vs ds q (by simpa using ha.2) h2 (fun x hx=>hlt x (by simp[hx])) (fun x hx=>hsp x (by simp[hx])),rfl⟩
end Go.Proofs.YtjgkegkinnlcoaaGreatDoor
namespace Go.Proofs.YtjgkegkinnlcoaaGreatDoor
open Go.ChangeShapes Go.WideShapes Go.ChangeAt Go.RowKit
noncomputable def laidWorld (os:Os):World:=
 let w0:=World.holding Tryz.prog os ⟨#[], #[],[]⟩
 let put (h:Array Obj) (g:Nat) (cs:Array Value):Array Obj:=h.modify g fun
  | .cells _ t frozen=> .cells cs t frozen
  |o=>o
 let h1:=put w0.heap 1 (Lib.firstTab.map fun z=>Value.int .u8 z).toArray
 let h2:=put h1 2 ((List.range 16).flatMap fun i=>[Value.int .u8 (Lib.accLo i),Value.int .u8 (Lib.accHi i)]).toArray
 { w0 with heap:=h2 }
set_option maxRecDepth 100000 in
theorem laid_met (os:Os) (args:Array Value):laidMet Tryz.prog [("unicode/utf8.acceptRanges",Rows.laid_unicode_utf8_acceptRanges),("unicode/utf8.first",Rows.laid_unicode_utf8_first)] ((laidWorld os).forCall (fun _ _=>0) ⟨#[],args,[]⟩).memory:=
 laidMet_of_run3 8 (by kernel_rfl) (by kernel_rfl) (by kernel_rfl)
end Go.Proofs.YtjgkegkinnlcoaaGreatDoor
