/- Lemmas on the way to the statement: BtAgainWalk. -/
import Derived.Test.YtjgkegkinnlcoaaGreatDoorJ27
set_option linter.unusedSimpArgs false
set_option linter.unusedVariables false
namespace Go.Proofs.YtjgkegkinnlcoaaGreatDoor
open Go.RowKit Go.Maps Go.Joins
structure BaRnd (w0 wr:World) (p i:Nat) (v:Value) (seg:List (Int × Int)):Prop where
 ex: ∃M R P,PgX w0 wr p (600*i+2) M (blkOf v)∧BtI M R 6000 1 1 seg P∧R.most=637∧R.room=2000∧M.size=900∧Fre M
 m:IsP wr v seg
 len:seg.length≤i
theorem BaRnd.below {w0 wr:World} {p i:Nat} {v:Value} {seg:List (Int × Int)} (h:BaRnd w0 wr p i v seg):Below w0.heap.size w0 wr:=by
 obtain⟨M,R,P,h, -⟩:=h.ex
 exact h.below
theorem BaRnd.ris {w0 wr:World} {p i:Nat} {v:Value} {seg:List (Int × Int)} (h:BaRnd w0 wr p i v seg):RisP seg:=by
 obtain⟨M,R,P, -,h, -⟩:=h.ex
 exact h.ris
theorem ba_put {w0 w:World} {p i:Nat} {v:Value} {seg:List (Int × Int)} (h:BaRnd w0 w p i v seg) (hi:i≤300) (key val:Int) (hk:0≤key∧key≤18446744073709551615) (hv:0≤val∧val≤18446744073709551615):
  Calls Tryz.prog 14 #[.pointer (some ⟨p,0,none⟩), .int .i64 1, .int .u64 key, .int .u64 val] w fun e w'=>e= .returned (.int .i64 0)∧IsP w' v seg∧Below w0.heap.size w0 w'∧
   ∀w2 v',PrRow w' w2 v' (insP key val seg)→BaRnd w0 w2 p (i+1) v' (insP key val seg):=by
 obtain⟨⟨M,R,P,hp,hb,hm,hr,hsz,hf⟩,hip,hl⟩:=h
 obtain⟨M',R',P',e1,e2,e3,e4⟩:=hb.put (key:=key) (val:=val) (by decide) (by omega) (by omega) hk hv
 have hkp:=Kp.put M 1 key val
 refine(Put_any hp (by omega) 1 key val hk hv).mono ?_
 have e1':putB M 1 key val=(0,M'):=e1
 rw[e1'] at hkp ⊢
 rintro e w' ⟨he,hp',hx⟩
 refine⟨he,hip.same hx (fun g hg=>hg),hp'.below,fun w2 v' hv=>⟨⟨M',R',P',(hp'.mono (by omega)).move hv.below (fun y hy=> ?_),e2,by omega,by omega,by have:=hkp.size;simp only at this;omega,hkp.fr hp.f.most hp.s hf⟩,IsP.own hv.own,by have:=insP_length key val hb.ris;omega⟩⟩
 rw[blkOf_ownP hv.own,Option.mem_toList] at hy
 exact .inr (hv.own.lt y hy)
theorem ba_commit {w0 w:World} {p i d:Nat} {v:Value} {seg:List (Int × Int)} (h:BaRnd (atD w0 d) w p i v seg) (hi:i≤300):
  Calls Tryz.prog 30 #[.pointer (some ⟨p,0,none⟩)] w fun e w'=>e= .returned (.int .i64 0)∧IsP w' v seg∧Below w0.heap.size w0 w'∧ ∃(M:PM) (R:RM) (P:List Int) (M':PM) (FD:List Nat),BtI M R 6000 1 1 seg P∧Rel M' (keepR R) 6000 3∧IsDisk w' d FD M'.m∧DOk M'.m 0∧(∀x∈FD,w0.heap.size≤x)∧ ∀x∈blkOf v,x<w'.heap.size∧x∉FD:=by
 obtain⟨⟨M,R,P,hp,hb,hm,hr,hsz,hf⟩,hip,hl⟩:=h
 obtain⟨d',lb,pb,hb',FD,FP,hpl,hd,hx⟩:=hp.f
 obtain rfl:d'=d:=hd
 have hc:=hb.rel.cntLen
 have hu:=hb.use
 have hnf:=hb.rel.noFree hf
 have hfew:=hb.few
 rw[hnf] at hu
 simp only[List.length_nil] at hu
 have hcc:=(hb.rel.commit64 hpl.pin.ok (by omega) (by decide)).2 (by omega)
 refine(Commit_any hpl.pin (by omega) (by omega)).mono ?_
 rw[hcc.1]
 rintro e w' ⟨he,hgo⟩
 have hw:=hcc.2.log.elim fun _ h=>h.elim fun _ h=>h.wait
 obtain⟨FD2,FP2,h2⟩:=hpl.go hgo hw
 obtain⟨FD',FP',h1,t1,f1,f2⟩:=hgo
 have hsize:=hpl.below.size
 have hge: ∀y∈pgBk p lb hb' FD FP,w0.heap.size≤y:=fun y hy=>by
  simp only[pgBk,List.mem_cons,List.mem_append] at hy
  rcases hy with rfl|rfl|rfl|hy|hy
  ·exact hpl.fb
  ·exact hpl.fl
  ·exact hpl.fh
  ·exact hpl.fd y hy
  ·exact hpl.fp y hy
 have hbel:Below w0.heap.size w0 w':=below_atD (n:=d') (hpl.below.trans (t1.below hsize hge))
 refine⟨he,hip.touch t1 (fun g hg=>(hx g hg).2),hbel,M,R,P,_,FD',hb,hcc.2,h1.disk,h1.ok.disk.calm hw,fun x hx'=>(f1 x hx').elim (hpl.fd x) (fun h=>Nat.le_trans hsize h),fun x hx'=> ?_⟩
 obtain⟨a,b⟩:=hx x hx'
 refine⟨Nat.lt_of_lt_of_le a t1.size,fun hm=> ?_⟩
 rcases f1 x hm with h|h
 ·exact b (by simp[pgBk,h])
 ·omega
theorem ba_open {w0 w:World} {d:Nat} {v:Value} {seg:List (Int × Int)} {M M':PM} {R:RM} {P:List Int} {FD:List Nat} (hb:BtI M R 6000 1 1 seg P) (hrel:Rel M' (keepR R) 6000 3) (hd:IsDisk w d FD M'.m) (hk:DOk M'.m 0) (hF: ∀x∈FD,w0.heap.size≤x) (hv: ∀x∈blkOf v,x<w.heap.size∧x∉FD) (hbel:Below w0.heap.size w0 w) (hs:seg.length≤2600):
  Calls Tryz.prog 29 #[.pointer (some ⟨d,0,none⟩), .int .i64 4] w fun e w'=> ∃q M2,e= .returned (.tuple #[.pointer (some ⟨q,0,none⟩), .int .i64 0])∧PgX (atD w0 d) w' q 2 M2 (blkOf v)∧wholeB M2 1=(seg,P,0)∧Below w.heap.size w w':=by
 have hr2:=hrel.reopen 4
 have ho:=Open_any hd hk 4 (by omega) (by omega)
 rw[hrel.opens (by omega) 4] at ho
 refine ho.mono ?_
 rintro e w' ⟨hb',x,he,q,lq,pq,hq,FQ,rfl,h1,h2,h3,h4,h5⟩
 have hsize:=hbel.size
 refine⟨q,_,he,⟨⟨d,lq,pq,hq,FD,FQ,PlayAt.atD ⟨h1,Nat.le_trans hsize h2,Nat.le_trans hsize h3,Nat.le_trans hsize h4,hF,fun y hy=>Nat.le_trans hsize (h5 y hy),below_step hb' hbel⟩,rfl,fun y hy=> ?_⟩,soundP_snd hr2.snd⟩,whole_again hb (by decide) hs hr2 rfl,hb'⟩
 obtain⟨a,b⟩:=hv y hy
 refine⟨Nat.lt_of_lt_of_le a hb'.size,fun hm=> ?_⟩
 simp only[pgBk,List.mem_cons,List.mem_append] at hm
 rcases hm with rfl|rfl|rfl|hm|hm
 ·omega
 ·omega
 ·omega
 ·exact b hm
 ·have:=h5 y hm;omega
set_option maxRecDepth 1000000 in
set_option maxHeartbeats 8000000 in
theorem btreeAgain_walk {w:World} {n c:Nat} {a:Option Addr} {l:List Int} (hl:IntArg w .u64 18446744073709551615 a n l):
  Calls Tryz.prog 5 #[.slice a n c] w fun e w'=>e= .returned (.bool true)∧Below w.heap.size w w':=by
 have HAW:=Lib.hid (fun W=>awake13_any W)
 have hfit:=hl.max
 have HL:=Lib.hid hl
 clear hl
 by_cases h300:300<n
 ·have d1:(300:Int)<(n:Int):=by omega
  clear h300
  go_enter Tryz.func5,Tryz.ntmps5
  go_wp2_with fail
  refine(HAW.out _).mono ?_
  rintro e w1 ⟨rfl,hb1⟩
  go_wp2_with fail
  refine(HAW.out _).mono ?_
  rintro e w2 ⟨rfl,hb2⟩
  go_wp2_with fail
  go_ret
  exact⟨rfl,below_step hb2 hb1⟩
 have d1: ¬((300:Int)<(n:Int)):=by omega
 have hm:mostI 6000 ((900:Nat):Int)=637:=by decide
 have hup:=UpM.new 6000
 have hk0:DOk (newM (newSu 6000)) 0:=DOk.new (newSu_size 6000) (by simp[newSu]) (by simp[newSu])
 have hfp:=formatP_yes (log:=900) hup (by rw[hm];omega)
 obtain⟨f1,f2,f3⟩:=format_rel (log:=900) hup hk0 (by omega) 2000 (by rw[hm];omega)
 have hk1:=formatX_ok (log:=900) hup hk0 (by rw[hm];omega)
 rw[hm] at f2 f3
 have HND:=Lib.hid (fun W=>new_any 6000 W (by omega) (by omega))
 generalize newM (newSu 6000)=m0 at hk0 hup hfp f1 f2 f3 hk1 HND
 obtain⟨X,hX⟩: ∃X,X=formatX m0 900:=⟨_,rfl⟩
 rw[←hX] at f1 f2 f3 hk1 hfp
 obtain⟨M0,hM0⟩: ∃M0,M0=newP X.2 900 637 2000:=⟨_,rfl⟩
 have hM0s:M0.size=900:=by rw[hM0];rfl
 rw[←hM0] at f2 f3
 have hfre:Fre M0:=fun _=>by
  rw[f3.rd0]
  simp only
  rw[f3.fre]
  rfl
 have HK:=Lib.hid (And.intro hk0 hk1)
 have HFP:=Lib.hid hfp
 have HF:=Lib.hid (And.intro f2 (And.intro f3 (And.intro hM0s hfre)))
 have HA:=Lib.hid f1
 clear hm hup hk0 hfp f1 f2 f3 hk1 hX hM0 hM0s hfre
 go_enter Tryz.func5,Tryz.ntmps5
 go_wp2_with fail
 refine(HAW.out _).mono ?_
 rintro e w1 ⟨rfl,hb1⟩
 have HB1:=Lib.hid hb1
 clear hb1
 go_wp2_with fail
 refine(HND.out w1).mono ?_
 rintro e w2 ⟨d,rfl,F,hd,hb2,hF⟩
 have HFM:=Lib.hid (Format_any hd HK.out.1 (by omega) (900:Nat) (by omega) (by omega))
 rw[HFP.out] at HFM
 have HB2:=Lib.hid hb2
 have HFF:=Lib.hid hF
 clear hd hb2 hF
 go_wp2_with fail
 refine HFM.out.mono ?_
 rintro e w3 ⟨rfl,F2,hd2,t2,g2⟩
 have hb3:Below w1.heap.size w1 w3:=HB2.out.trans (t2.below HB2.out.size HFF.out)
 have hF2: ∀x∈F2,w1.heap.size≤x:=fun x hx=>(g2 x hx).elim (HFF.out x) (fun h=>Nat.le_trans HB2.out.size h)
 have HOP:=Lib.hid (Open_any hd2 HK.out.2 2000 (by omega) (by omega))
 rw[HF.out.1] at HOP
 have HB3:=Lib.hid hb3
 have HFF2:=Lib.hid hF2
 clear hd2 t2 g2 hb3 hF2 HFM HND
 rw[HA.out]
 go_wp2_with fail
 refine HOP.out.mono ?_
 rintro e w4 ⟨hb4,v,rfl,hn⟩
 obtain⟨p,lb,pb,hb,FP,rfl,hpl⟩:=play_new hn HFF2.out HB3.out hb4
 have HR0:=Lib.hid (⟨⟨M0,newR 637 2000,[],⟨⟨_,_,_,_,_,_,hpl.atD,rfl,fun x hx=>by cases hx⟩,soundP_snd HF.out.2.1.snd⟩,BtI.new (R:=newR 637 2000) HF.out.2.1 (by decide) (by decide),rfl,rfl,HF.out.2.2.1,HF.out.2.2.2⟩, .inl ⟨rfl,_,_,rfl⟩,Nat.le_refl _⟩:BaRnd (atD w1 d) w4 p 0 (.slice none 0 0) [])
 clear hb4 hn hpl HOP d1
 go_wp2_with fail
 go_loopw [7,8] (fun v7 v8 wr=> ∃(i:Nat) (seg:List (Int × Int)),i≤n∧v8= .int .i64 i∧BaRnd (atD w1 d) wr p i v7 seg) (fun _ v8 _=>n - (intOf v8).toNat)
 case atStart=>exact⟨0,[],Nat.zero_le _,rfl,HR0.out⟩
 case round=>
  clear HR0 HK HF HA HFP HB2 HB3 HFF HFF2
  obtain⟨i,seg,hi,rfl,hr⟩:=hrel
  have HR:=Lib.hid hr
  clear hr
  by_cases hlt:i<n
  ·obtain⟨lb2,off,rfl,hlb,hc⟩:=HL.out.at_.resolve_left (by omega)
   have hil:i<l.length:=by have:=HL.out.len;omega
   have hx:=hc i _ (List.getElem?_eq_getElem hil)
   obtain⟨k,hk⟩: ∃k,k=l[i]:=⟨_,rfl⟩
   rw[←hk] at hx
   have HKB:=Lib.hid (show 0≤k∧k≤18446744073709551615 by rw[hk];exact HL.out.bd _ (List.getElem_mem hil))
   have hx1:=((below_step (below_atD HR.out.below) HB1.out).cell (p:=⟨lb2,off+i,none⟩) hlb).trans hx
   have HX:=Lib.hid hx
   have y1:(i:Int)<(n:Int):=by omega
   have q1:IntKind.u64.wrap (i:Int)=i:=IntWalk.u64_in _ (by omega)
   clear hc hk hx
   go_wp2_with fail
   refine(ba_put HR.out (by omega) k i HKB.out (by omega)).mono ?_
   rintro e w5 ⟨rfl,hp5,hb5,hn5⟩
   have HP:=Lib.hid (rput_any hp5 (by have:=HR.out.len;omega) k i)
   have HN:=Lib.hid hn5
   clear hx1
   have hx1:=((below_step (below_atD hb5) HB1.out).cell (p:=⟨lb2,off+i,none⟩) hlb).trans HX.out
   clear hp5 hn5 hb5
   go_wp2_with fail
   refine HP.out.mono ?_
   rintro e w6 ⟨v',rfl,hv⟩
   rw[refPut_eq HR.out.ris] at hv
   have HN6:=Lib.hid (HN.out _ _ hv)
   clear hv hx1 HP HN
   go_wp2_with fail
   go_roundw
   case rel=>exact⟨i+1,_,by omega,by go_num,HN6.out⟩
   case measure=>simp[intOf];omega
  ·obtain rfl:i=n:=by omega
   go_wp2_with fail
   refine(ba_commit HR.out (by omega)).mono ?_
   rintro e w5 ⟨rfl,hp5,hb5,M,R,P,M',FD,g1,g2,g3,g4,g5,g6⟩
   have HP5:=Lib.hid hp5
   have HOP:=Lib.hid (ba_open g1 g2 g3 g4 g5 g6 hb5 (by have:=HR.out.len;omega))
   clear hp5 hb5 g1 g2 g3 g4 g5 g6
   go_wp2_with fail
   refine HOP.out.mono ?_
   rintro e w6 ⟨q,M2,rfl,hp6,hw6,hb6⟩
   have HAL:=Lib.hid (All_any hp6 (by omega) 1)
   rw[hw6] at HAL
   have HP6:=Lib.hid (HP5.out.below hb6)
   clear hp6 hw6 hb6 HOP HP5
   go_wp2_with fail
   refine HAL.out.mono ?_
   rintro e w7 ⟨vo,rfl,ho,hp7,hx7, -⟩
   have HPL:=Lib.hid (plain_any (IsP.own ho) (by have:=HR.out.len;omega))
   have HP7:=Lib.hid (HP6.out.same hx7 (fun g hg=>hg))
   have HB7:=Lib.hid (below_atD hp7.below)
   clear ho hp7 hx7 HAL HP6
   go_wp2_with fail
   refine HPL.out.mono ?_
   rintro e w8 ⟨v',rfl,hv⟩
   have HV:=Lib.hid hv
   clear hv HPL
   go_wp2_with fail
   refine(rsame_any (IsP.own HV.out.own) (HP7.out.below HV.out.below) (by have:=HR.out.len;omega) (by have:=HR.out.len;omega)).mono ?_
   rintro e w9 ⟨rfl,hb9⟩
   have HB9:=Lib.hid (below_step hb9 (below_step HV.out.below (below_step HB7.out HB1.out)))
   clear hb9
   rw[show decide (seg=seg)=true from decide_eq_true rfl]
   go_wp2_with fail
   go_ret
   exact⟨rfl,HB9.out⟩
end Go.Proofs.YtjgkegkinnlcoaaGreatDoor
