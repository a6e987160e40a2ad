/- Lemmas on the way to the statement: BtPlaysWalk. -/
import Derived.Test.YtjgkegkinnlcoaaGreatDoorJ31
set_option linter.unusedSimpArgs false
set_option linter.unusedVariables false
namespace Go.Proofs.YtjgkegkinnlcoaaGreatDoor
open Go.RowKit Go.Maps Go.Joins
structure BpRnd (w wr:World) (p K N:Nat) (X:List Nat) (v:Value) (seg:List (Int × Int)):Prop where
 t:IsT w wr p K 3 seg (X++blkOf v)
 m:IsP wr v seg
 len:seg.length≤N
section
variable {w wr wj wk:World} {p K J N:Nat} {X:List Nat} {v v':Value} {seg seg':List (Int × Int)}
theorem BpRnd.next (h:BpRnd w wr p K N X v seg) (ht:IsT w wj p J 3 seg' (X++blkOf v)) (hv:PrRow wj wk v' seg') (hl:seg'.length≤N+1):BpRnd w wk p J (N+1) X v' seg':=by
 refine⟨ht.move hv.below (fun y hy=> ?_),IsP.own hv.own,hl⟩
 rcases List.mem_append.1 hy with hy|hy
 ·exact .inl (by simp[hy])
 ·rw[blkOf_ownP hv.own,Option.mem_toList] at hy
  exact .inr (hv.own.lt y hy)
theorem BpRnd.stay (h:BpRnd w wr p K N X v seg) (ht:IsT w wj p J 3 seg (X++blkOf v)) (hs:SameX (X++blkOf v) wr wj):BpRnd w wj p J N X v seg:=⟨ht,h.m.same hs (fun g hg=>by simp[hg]),h.len⟩
theorem BpRnd.below (h:BpRnd w wr p K N X v seg) (hb:Below wr.heap.size wr wj):BpRnd w wj p K N X v seg:=⟨h.t.moveX hb,h.m.below hb,h.len⟩
theorem BpRnd.mono (h:BpRnd w wr p K N X v seg) {N':Nat} (hK:K≤J) (hN:N≤N'):BpRnd w wr p J N' X v seg:=⟨h.t.mono hK,h.m,Nat.le_trans h.len hN⟩
theorem BpRnd.sub {Y:List Nat} (h:BpRnd w wr p K N X v seg) (hs: ∀y∈Y,y∈X):BpRnd w wr p K N Y v seg:=⟨h.t.sub (fun y hy=>by
 rcases List.mem_append.1 hy with hy|hy
 ·simp[hs y hy]
 ·simp[hy]),h.m,h.len⟩
end
theorem u64_rg (n:Int):0≤IntKind.u64.wrap n∧IntKind.u64.wrap n≤18446744073709551615:=by
 rw[IntKind.wrap_u64]
 omega
set_option maxRecDepth 1000000 in
set_option maxHeartbeats 8000000 in
theorem btreePlays_walk {w:World} {n c:Nat} {a:Option Addr} {l:List ActD} (hl:ActsIn w w.heap.size a n l):
  Calls Tryz.prog 3 #[.slice a n c] w fun e w'=>e= .returned (.bool true)∧Below w.heap.size w w':=by
 have HAW:=Lib.hid (fun W=>awake13_any W)
 have hfit:=hl.2.1
 have HL:=Lib.hid hl
 clear hl
 by_cases h40:40<n
 ·have d1:(40:Int)<(n:Int):=by omega
  clear h40
  go_enter Tryz.func3,Tryz.ntmps3
  go_wp2_with fail
  refine(HAW.out _).mono ?_
  rintro e w1 ⟨rfl,hb1⟩
  go_wp2_with fail
  refine(HAW.out _).mono ?_
  rintro e w2 ⟨rfl,hb2⟩
  go_wp2_with fail
  go_ret
  exact⟨rfl,below_step hb2 hb1⟩
 have d1: ¬((40:Int)<(n:Int)):=by omega
 go_enter Tryz.func3,Tryz.ntmps3
 go_wp2_with fail
 refine(HAW.out _).mono ?_
 rintro e w1 ⟨rfl,hb1⟩
 have HB1:=Lib.hid hb1
 clear hb1
 go_wp2_with fail
 refine(made13_any w1).mono ?_
 rintro e w2 ⟨p,M,rfl,⟨nd,hp⟩,hr⟩
 have HT0:=Lib.hid (IsT.new (i:=3) hp hr (by decide))
 clear hp hr
 go_wp2_with fail
 clear d1
 go_loopw [4,5] (fun v4 v5 wr=> ∃(i:Nat) (seg:List (Int × Int)),i≤n∧v5= .int .i64 i∧BpRnd (atD w1 nd) wr p (1000000*i+2) (63*i) [] v4 seg) (fun _ v5 _=>n - (intOf v5).toNat)
 case atStart=>exact⟨0,[],Nat.zero_le _,rfl,HT0.out, .inl ⟨rfl,_,_,rfl⟩,by simp⟩
 case round=>
  clear HT0
  obtain⟨i,seg,hi,rfl,hr⟩:=hrel
  have HR:=Lib.hid hr
  clear hr
  by_cases hlt:i<n
  rotate_left
  ·obtain rfl:i=n:=by omega
   go_wp2_with fail
   go_ret
   exact⟨rfl,below_step (below_atD HR.out.t.below) HB1.out⟩
  obtain⟨lb,off,x,rfl,hat,hlb⟩:=HL.out.at_ (below_step (below_atD HR.out.t.below) HB1.out) hlt
  have y1:(i:Int)<(n:Int):=by omega
  have x0:=hat.c0
  have x1:=hat.c1
  have x2:=hat.c2
  have x3:=hat.c3
  have x4:=hat.c4
  have HOK:=Lib.hid hat.ok
  clear hat
  go_upto_region 9 with fail
  refine wp_name (fun W hW=> ?_)
  have hbW:Below wr.heap.size wr W:=by rw[←hW];exact below_alloc (Below.refl _ _)
  have hrW:W.rowIs wr.heap.size 30 5 (actF x):=by rw[←hW];exact act_new wr x
  have hXW:BpRnd (atD w1 nd) W p (1000000*i+2) (63*i) [wr.heap.size] u4 seg:=⟨HR.out.t.move hbW (fun y hy=>by
   simp only[List.cons_append,List.nil_append,List.mem_cons] at hy
   rcases hy with rfl|hy
   ·exact .inr ⟨Nat.le_refl _,World.rowIs.lt hrW⟩
   ·exact .inl (by simpa using hy)),HR.out.m.below hbW,HR.out.len⟩
  obtain⟨bx,hbx⟩: ∃b,b=wr.heap.size:=⟨_,rfl⟩
  rw[←hbx] at hrW hXW ⊢
  have HX:=Lib.hid hXW
  have HRW:=Lib.hid hrW
  obtain⟨mm,hmm⟩: ∃m:Nat,x.b2.tmod 64=(m:Int):=⟨(x.b2 % 64).toNat,by have:=HOK.out.u2;rw[Int.tmod_eq_emod_of_nonneg (by omega)];omega⟩
  have hm64:mm≤63:=by have:=HOK.out.u2;rw[Int.tmod_eq_emod_of_nonneg (by omega)] at hmm;omega
  obtain⟨dd,hdd⟩: ∃m:Nat,x.b1.tmod 8=(m:Int):=⟨(x.b1 % 8).toNat,by have:=HOK.out.u1;rw[Int.tmod_eq_emod_of_nonneg (by omega)];omega⟩
  have hd8:dd≤7:=by have:=HOK.out.u1;rw[Int.tmod_eq_emod_of_nonneg (by omega)] at hdd;omega
  obtain⟨ss,hss⟩: ∃m:Nat,x.step.tmod 5=(m:Int):=⟨(x.step % 5).toNat,by have:=HOK.out.s;rw[Int.tmod_eq_emod_of_nonneg (by omega)];omega⟩
  have hs4:ss≤4:=by have:=HOK.out.s;rw[Int.tmod_eq_emod_of_nonneg (by omega)] at hss;omega
  have HKK:=Lib.hid (show IntKind.u64.wrap x.key=x.key from IntWalk.u64_in _ (by have:=HOK.out.k;omega))
  have HMM:=Lib.hid (show wrap64 (x.b2.tmod 64)=(mm:Int) by rw[hmm];exact IntWalk.wrap64_in _ ⟨by omega,by omega⟩)
  have HDD:=Lib.hid hdd
  have HSS:=Lib.hid hss
  obtain⟨c0,c1,c2,c3,c4⟩:=actF_cells hrW
  clear hbW hXW hW hrW hbx hdd hss hmm x0 x1 x2 x3 x4
  go_upto_region 10 with fail
  clear c0 c1 c2 c3 c4
  go_wp2_with fail
  go_loopw [4,7,8] (fun v4 v7 v8 wi=> ∃(j:Nat) (k:Int) (sg:List (Int × Int)),j≤mm∧v8= .int .i64 j∧v7= .int .u64 k∧0≤k∧k≤65535+6*j∧BpRnd (atD w1 nd) wi p (1000000*i+2+3000*j) (63*i+j) [bx] v4 sg∧wi.rowIs bx 30 5 (actF x)) (fun _ _ v8 _=>mm - (intOf v8).toNat)
  case atStart=>exact⟨0,x.key,seg,Nat.zero_le _,rfl,by rw[HKK.out],HOK.out.k.1,by have:=HOK.out.k.2;omega,HX.out,HRW.out⟩
  case round=>
   clear HX HRW
   obtain⟨j,k,sg,hj,rfl,rfl,k0,k1,hrd,hrw⟩:=hrel
   have HX:=Lib.hid hrd
   have HRW:=Lib.hid hrw
   obtain⟨c0,c1,c2,c3,c4⟩:=actF_cells hrw
   clear hrd hrw
   go_upto_if 45 with fail
   rw[HMM.out]
   by_cases hjl:j<mm
   rotate_left
   ·obtain rfl:j=mm:=by omega
    have y3: ¬((j:Int)<(j:Int)):=by omega
    clear c0 c1 c2 c3 c4
    go_wp2_with fail
    refine(t_all HX.out.t (by decide) (by have:=HX.out.len;omega) (by omega)).mono ?_
    rintro e wj ⟨vo,rfl,ho,ht,hs⟩
    have HPL:=Lib.hid (plain_any (IsP.own ho) (by have:=HX.out.len;omega))
    have HT:=Lib.hid ht
    have HM:=Lib.hid (HX.out.m.same hs (fun g hg=>by simp[hg]))
    clear ho ht hs
    go_wp2_with fail
    refine HPL.out.mono ?_
    rintro e wk ⟨v',rfl,hv⟩
    have HV:=Lib.hid hv
    clear hv HPL
    go_wp2_with fail
    refine(rsame_any (IsP.own HV.out.own) (HM.out.below HV.out.below) (by have:=HX.out.len;omega) (by have:=HX.out.len;omega)).mono ?_
    rintro e wq ⟨rfl,hb⟩
    rw[show decide (sg=sg)=true from decide_eq_true rfl]
    have HB:=Lib.hid (below_step hb HV.out.below)
    clear hb
    go_wp2_with fail
    go_roundw
    case rel=>exact⟨i+1,sg,by omega,by go_num,⟨((HT.out.moveX HB.out).sub (fun y hy=>by simp only[List.nil_append] at hy;simp[hy])).mono (by omega),HM.out.below HB.out,by have:=HX.out.len;omega⟩⟩
    case measure=>simp[intOf];omega
   have y3:(j:Int)<(mm:Int):=by omega
   go_upto_block 4 with fail
   rw[HDD.out]
   go_cut [4] (fun v4 wx=> ∃sg',BpRnd (atD w1 nd) wx p (1000000*i+2+3000*j+3000) (63*i+j+1) [bx] v4 sg'∧wx.rowIs bx 30 5 (actF x))
   case first=>
    have h8:dd=0∨dd=1∨dd=2∨dd=3∨dd=4∨dd=5∨dd=6∨dd=7:=by omega
    clear y3 hjl
    rcases h8 with rfl|rfl|rfl|rfl|rfl|rfl|rfl|rfl
    ·clear c1 c2 c3
     go_wp2_with fail
     refine(t_put HX.out.t (by decide) (by have:=HX.out.len;omega) (by omega) k _ (by omega) (u64_rg _)).mono ?_
     rintro e wj ⟨rfl,ht,hs⟩
     have HT:=Lib.hid ht
     have HP:=Lib.hid (rput_any (HX.out.m.same hs (fun g hg=>by simp[hg])) (by have:=HX.out.len;omega) k (IntKind.u64.wrap (x.val+k)))
     have hrw:=hs.row HRW.out (by simp)
     have HRJ:=Lib.hid hrw
     clear c0 c4
     obtain⟨c0,c1,c2,c3,c4⟩:=actF_cells hrw
     clear ht hs hrw c0 c1 c2 c3
     go_wp2_with fail
     refine HP.out.mono ?_
     rintro e wk ⟨v',rfl,hv⟩
     rw[refPut_eq HX.out.t.ris] at hv
     have HV:=Lib.hid hv
     clear hv c4 HP
     go_wp2_with fail
     go_meet
     exact⟨_,(HX.out.next HT.out HV.out (by have:=HX.out.len;have:=insP_length k (IntKind.u64.wrap (x.val+k)) HX.out.t.ris;omega)).mono (by omega) (by omega),rowIs_touch HRJ.out (Touch.of_below (F:=[]) HV.out.below) (by simp)⟩
    ·clear c1 c2 c3
     go_wp2_with fail
     refine(t_put HX.out.t (by decide) (by have:=HX.out.len;omega) (by omega) k _ (by omega) (u64_rg _)).mono ?_
     rintro e wj ⟨rfl,ht,hs⟩
     have HT:=Lib.hid ht
     have HP:=Lib.hid (rput_any (HX.out.m.same hs (fun g hg=>by simp[hg])) (by have:=HX.out.len;omega) k (IntKind.u64.wrap (x.val+k)))
     have hrw:=hs.row HRW.out (by simp)
     have HRJ:=Lib.hid hrw
     clear c0 c4
     obtain⟨c0,c1,c2,c3,c4⟩:=actF_cells hrw
     clear ht hs hrw c0 c1 c2 c3
     go_wp2_with fail
     refine HP.out.mono ?_
     rintro e wk ⟨v',rfl,hv⟩
     rw[refPut_eq HX.out.t.ris] at hv
     have HV:=Lib.hid hv
     clear hv c4 HP
     go_wp2_with fail
     go_meet
     exact⟨_,(HX.out.next HT.out HV.out (by have:=HX.out.len;have:=insP_length k (IntKind.u64.wrap (x.val+k)) HX.out.t.ris;omega)).mono (by omega) (by omega),rowIs_touch HRJ.out (Touch.of_below (F:=[]) HV.out.below) (by simp)⟩
    ·clear c1 c2 c3
     go_wp2_with fail
     refine(t_put HX.out.t (by decide) (by have:=HX.out.len;omega) (by omega) k _ (by omega) (u64_rg _)).mono ?_
     rintro e wj ⟨rfl,ht,hs⟩
     have HT:=Lib.hid ht
     have HP:=Lib.hid (rput_any (HX.out.m.same hs (fun g hg=>by simp[hg])) (by have:=HX.out.len;omega) k (IntKind.u64.wrap (x.val+k)))
     have hrw:=hs.row HRW.out (by simp)
     have HRJ:=Lib.hid hrw
     clear c0 c4
     obtain⟨c0,c1,c2,c3,c4⟩:=actF_cells hrw
     clear ht hs hrw c0 c1 c2 c3
     go_wp2_with fail
     refine HP.out.mono ?_
     rintro e wk ⟨v',rfl,hv⟩
     rw[refPut_eq HX.out.t.ris] at hv
     have HV:=Lib.hid hv
     clear hv c4 HP
     go_wp2_with fail
     go_meet
     exact⟨_,(HX.out.next HT.out HV.out (by have:=HX.out.len;have:=insP_length k (IntKind.u64.wrap (x.val+k)) HX.out.t.ris;omega)).mono (by omega) (by omega),rowIs_touch HRJ.out (Touch.of_below (F:=[]) HV.out.below) (by simp)⟩
    ·clear c1 c2 c3
     go_wp2_with fail
     refine(t_put HX.out.t (by decide) (by have:=HX.out.len;omega) (by omega) k _ (by omega) (u64_rg _)).mono ?_
     rintro e wj ⟨rfl,ht,hs⟩
     have HT:=Lib.hid ht
     have HP:=Lib.hid (rput_any (HX.out.m.same hs (fun g hg=>by simp[hg])) (by have:=HX.out.len;omega) k (IntKind.u64.wrap (x.val+k)))
     have hrw:=hs.row HRW.out (by simp)
     have HRJ:=Lib.hid hrw
     clear c0 c4
     obtain⟨c0,c1,c2,c3,c4⟩:=actF_cells hrw
     clear ht hs hrw c0 c1 c2 c3
     go_wp2_with fail
     refine HP.out.mono ?_
     rintro e wk ⟨v',rfl,hv⟩
     rw[refPut_eq HX.out.t.ris] at hv
     have HV:=Lib.hid hv
     clear hv c4 HP
     go_wp2_with fail
     go_meet
     exact⟨_,(HX.out.next HT.out HV.out (by have:=HX.out.len;have:=insP_length k (IntKind.u64.wrap (x.val+k)) HX.out.t.ris;omega)).mono (by omega) (by omega),rowIs_touch HRJ.out (Touch.of_below (F:=[]) HV.out.below) (by simp)⟩
    ·clear c1 c2 c3 c4
     go_wp2_with fail
     refine(t_del HX.out.t (by decide) (by have:=HX.out.len;omega) (by omega) k (by omega)).mono ?_
     rintro e wj ⟨rfl,ht,hs⟩
     have HT:=Lib.hid ht
     have HP:=Lib.hid (rdel_any (HX.out.m.same hs (fun g hg=>by simp[hg])) (by have:=HX.out.len;omega) k)
     have HRJ:=Lib.hid (hs.row HRW.out (by simp))
     clear ht hs c0
     generalize refDelE k sg=ee at HP ⊢
     go_wp2_with fail
     refine HP.out.mono ?_
     rintro e wk ⟨v',rfl,hv⟩
     have HV:=Lib.hid hv
     clear hv HP
     go_wp2_with fail
     go_meet
     exact⟨_,(HX.out.next HT.out HV.out (by have:=HX.out.len;have:=delP_length k sg;omega)).mono (by omega) (by omega),rowIs_touch HRJ.out (Touch.of_below (F:=[]) HV.out.below) (by simp)⟩
    ·clear c1 c2 c3 c4
     go_wp2_with fail
     refine(t_del HX.out.t (by decide) (by have:=HX.out.len;omega) (by omega) k (by omega)).mono ?_
     rintro e wj ⟨rfl,ht,hs⟩
     have HT:=Lib.hid ht
     have HP:=Lib.hid (rdel_any (HX.out.m.same hs (fun g hg=>by simp[hg])) (by have:=HX.out.len;omega) k)
     have HRJ:=Lib.hid (hs.row HRW.out (by simp))
     clear ht hs c0
     generalize refDelE k sg=ee at HP ⊢
     go_wp2_with fail
     refine HP.out.mono ?_
     rintro e wk ⟨v',rfl,hv⟩
     have HV:=Lib.hid hv
     clear hv HP
     go_wp2_with fail
     go_meet
     exact⟨_,(HX.out.next HT.out HV.out (by have:=HX.out.len;have:=delP_length k sg;omega)).mono (by omega) (by omega),rowIs_touch HRJ.out (Touch.of_below (F:=[]) HV.out.below) (by simp)⟩
    ·clear c1 c2 c3 c4
     go_wp2_with fail
     refine(t_del HX.out.t (by decide) (by have:=HX.out.len;omega) (by omega) k (by omega)).mono ?_
     rintro e wj ⟨rfl,ht,hs⟩
     have HT:=Lib.hid ht
     have HP:=Lib.hid (rdel_any (HX.out.m.same hs (fun g hg=>by simp[hg])) (by have:=HX.out.len;omega) k)
     have HRJ:=Lib.hid (hs.row HRW.out (by simp))
     clear ht hs c0
     generalize refDelE k sg=ee at HP ⊢
     go_wp2_with fail
     refine HP.out.mono ?_
     rintro e wk ⟨v',rfl,hv⟩
     have HV:=Lib.hid hv
     clear hv HP
     go_wp2_with fail
     go_meet
     exact⟨_,(HX.out.next HT.out HV.out (by have:=HX.out.len;have:=delP_length k sg;omega)).mono (by omega) (by omega),rowIs_touch HRJ.out (Touch.of_below (F:=[]) HV.out.below) (by simp)⟩
    ·clear c1 c2 c3 c4
     go_wp2_with fail
     refine(t_get HX.out.t (by decide) (by have:=HX.out.len;omega) (by omega) k).mono ?_
     rintro e wj ⟨rfl,ht,hs⟩
     have HT:=Lib.hid (HX.out.stay ht hs)
     have HP:=Lib.hid (rget_any HT.out.m (by have:=HX.out.len;omega) k)
     have HRJ:=Lib.hid (hs.row HRW.out (by simp))
     clear ht hs c0
     generalize findP k sg=ff at HP ⊢
     go_wp2_with fail
     refine HP.out.mono ?_
     rintro e wk ⟨rfl,rfl⟩
     go_wp2_with fail
     go_meet
     exact⟨_,HT.out.mono (by omega) (by omega),HRJ.out⟩
   case rest=>
   obtain⟨sg',hrd,hrw⟩:=hcut
   have HX:=Lib.hid hrd
   have HRW:=Lib.hid hrw
   clear c0 c1 c2 c3 c4
   obtain⟨c0,c1,c2,c3,c4⟩:=actF_cells hrw
   clear hrd hrw c0 c1 c2 c4
   go_wp2_with fail
   go_roundw
   case rel=>exact⟨j+1,_,sg',by omega,by go_num,rfl,(u64_rg _).1,by rw[HSS.out,IntKind.wrap_u64,IntKind.wrap_u64];omega,HX.out.mono (by omega) (by omega),HRW.out⟩
   case measure=>simp[intOf];omega
end Go.Proofs.YtjgkegkinnlcoaaGreatDoor
