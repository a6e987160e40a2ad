/- Lemmas on the way to the statement. -/
import Derived.Test.YthopjhifepijiaaGreatJ18
set_option linter.unusedSimpArgs false
set_option linter.unusedVariables false
namespace Go.Proofs.YthopjhifepijiaaGreat
open Go.RowKit Go.Joins
theorem RlIn.row {w:World} {B n:Nat} {a:Option Addr} {l:List RM} (h:RlIn w B a n l) (hn:0<n): ∃b off,a=some ⟨b,off,none⟩∧b<B∧ ∀(i:Nat) (r:RM),l[i]? =some r→ ∃oa oc ia ic la lc,RmAtC w B b (off+i*3) r oa oc ia ic la lc:=by
 obtain⟨h1,h2|h2⟩:=h
 ·omega
 ·exact h2
def LimR (l:List RM):Prop:= ∀r∈l,r.outer.length≤100000∧r.inner.length≤100000∧(∀R∈r.inner,R.length≤100000)∧r.alone.length≤100000
set_option maxRecDepth 100000 in
set_option maxHeartbeats 8000000 in
theorem r17same_any {w:World} {B n c d:Nat} {a b:Option Addr} {l:List RM} (hr:RlIn w B a n l) (hs:RlIn w B b n l) (hB:B≤w.heap.size) (hl:n≤100000) (hlim:LimR l):
  Calls Tryz.prog 11 #[.slice a n c, .slice b n d] w fun e w'=>e= .returned (.bool true)∧Below w.heap.size w w':=by
 have HRR:=Lib.hid hr
 have HSS:=Lib.hid hs
 have HL:=Lib.hid (show n=l.length from hr.1)
 have HLM:=Lib.hid hlim
 clear hr hs hlim
 go_enter Tryz.func11,Tryz.ntmps11
 go_wp2_with fail
 go_loopw [5] (fun v wr=> ∃k:Nat,k≤n∧v= .int .i64 k∧Below w.heap.size w wr) (fun v _=>n - (intOf v).toNat)
 case atStart=>exact⟨0,Nat.zero_le _,rfl,Below.refl _ _⟩
 case round=>
  obtain⟨k,hk,rfl,hb⟩:=hrel
  obtain⟨wq,rfl⟩: ∃x:World,x=wr:=⟨_,rfl⟩
  have HB:=Lib.hid hb
  clear hb
  by_cases hlt:k<n
  ·obtain⟨ba,fa,rfl,hba,hca⟩:=HRR.out.row (by omega)
   obtain⟨bb,fb,rfl,hbb,hcb⟩:=HSS.out.row (by omega)
   obtain⟨r,hr⟩: ∃r,l[k]? =some r:=⟨_,List.getElem?_eq_getElem (by have:=HL.out;omega)⟩
   obtain⟨xa,xc,ya,yc,za,zc,hA⟩:=hca k r hr
   obtain⟨xb,xd,yb,yd,zb,zd,hD⟩:=hcb k r hr
   obtain⟨q1,q2,q3,q4⟩:=HLM.out r (List.mem_of_getElem? hr)
   have HAC:=fun(W1:World) (hb:Below w.heap.size w W1)=>Lib.hid (hA.below (hb.mono hB) hba)
   have HDC:=fun(W1:World) (hb:Below w.heap.size w W1)=>Lib.hid (hD.below (hb.mono hB) hbb)
   have HSO:=fun(W1:World) (hb:Below w.heap.size w W1)=>Lib.hid (show Calls Tryz.prog 28 #[.slice xa r.outer.length xc, .slice xb r.outer.length xd] W1 fun e w'=>e= .returned (.bool true)∧Below W1.heap.size W1 w' from by
    have:=r16same_any (c:=xc) (d:=xd) (HAC W1 hb).out.outer (HDC W1 hb).out.outer (Nat.le_trans hB hb.size) q1
    rw[decide_eq_true rfl] at this
    exact this)
   have HQ4:=Lib.hid q3
   clear hca hcb hr hA hD q3
   go_wp2_with fail
   refine wp_name (fun c1 hc1=> ?_)
   have HB:=bnm HB (Lib.hid (Nat.le_refl _)) hc1
   have YB:=fun(x0:Later c1)=>HB.out.trans (x0.2.mono HB.out.size);have HSOL:=fun(x0:Later c1)=>HSO x0.1 (YB x0);have y1:=fun(x0:Later c1)=>(HAC x0.1 (YB x0)).out.c0;have y2:=fun(x0:Later c1)=>(HAC x0.1 (YB x0)).out.c1;have y3:=fun(x0:Later c1)=>(HAC x0.1 (YB x0)).out.c2;have y4:=fun(x0:Later c1)=>(HDC x0.1 (YB x0)).out.c0;have y5:=fun(x0:Later c1)=>(HDC x0.1 (YB x0)).out.c1;have y6:=fun(x0:Later c1)=>(HDC x0.1 (YB x0)).out.c2;clear YB
   clear hc1
   refine wp_region_later (by kernel_rfl) (by kernel_rfl) ?_
   repeat (first|go_big_quiet_step (((go_at_call 28;with_reducible refine Later.call (HSOL _).out)))|quiet_step (((go_at_call 28;with_reducible refine Later.call (HSOL _).out))))
   refine wpQuiet_nil ?_
   intro w1 hw1
   have hb1:=later_below hw1
   clear hw1
   have HB:=Lib.hid (bnl HB (Lib.hid (Nat.le_refl _)) hb1)
   skip
   clear hb1
   go_wp2_with fail
   go_loopw [6] (fun v wi=> ∃j:Nat,j≤r.inner.length∧v= .int .i64 j∧Below w.heap.size w wi) (fun v _=>r.inner.length - (intOf v).toNat)
   case atStart=>exact⟨0,Nat.zero_le _,rfl,HB.out⟩
   case round=>
    clear HB
    obtain⟨j,hj,rfl,hb⟩:=hrel
    obtain⟨wi,rfl⟩: ∃x:World,x=wr:=⟨_,rfl⟩
    have HB:=Lib.hid hb
    have c1:=(HAC _ hb).out.c1
    clear hb
    by_cases hjl:j<r.inner.length
    ·obtain⟨R,hR⟩: ∃R,r.inner[j]? =some R:=⟨_,List.getElem?_eq_getElem hjl⟩
     have q5:=HQ4.out R (List.mem_of_getElem? hR)
     obtain⟨ib,ioff,rfl,hib,hci⟩:=(HAC _ (Below.refl _ _)).out.inner.row (by omega)
     obtain⟨jb,joff,rfl,hjb,hcj⟩:=(HDC _ (Below.refl _ _)).out.inner.row (by omega)
     obtain⟨ra,rc,hra⟩:=hci j R hR
     obtain⟨sa,sc,hsa⟩:=hcj j R hR
     have HIA:=fun(W1:World) (hb:Below w.heap.size w W1)=>Lib.hid (hra W1 (hb.mono hB))
     have HIB:=fun(W1:World) (hb:Below w.heap.size w W1)=>Lib.hid (hsa W1 (hb.mono hB))
     have HSO:=fun(W1:World) (hb:Below w.heap.size w W1)=>Lib.hid (show Calls Tryz.prog 28 #[.slice ra R.length rc, .slice sa R.length sc] W1 fun e w'=>e= .returned (.bool true)∧Below W1.heap.size W1 w' from by
      have:=r16same_any (c:=rc) (d:=sc) (HIA W1 hb).out.2 (HIB W1 hb).out.2 (Nat.le_trans hB hb.size) q5
      rw[decide_eq_true rfl] at this
      exact this)
     clear hci hcj hra hsa hR
     go_wp2_with fail
     clear c1
     refine wp_name (fun c2 hc2=> ?_)
     have HB:=bnm HB (Lib.hid (Nat.le_refl _)) hc2
     have YB:=fun(x0:Later c2)=>HB.out.trans (x0.2.mono HB.out.size);have HSOL:=fun(x0:Later c2)=>HSO x0.1 (YB x0);have y2:=fun(x0:Later c2)=>(HAC x0.1 (YB x0)).out.c1;have y5:=fun(x0:Later c2)=>(HDC x0.1 (YB x0)).out.c1;have y7:=fun(x0:Later c2)=>(HIA x0.1 (YB x0)).out.1;have y8:=fun(x0:Later c2)=>(HIB x0.1 (YB x0)).out.1;clear YB
     clear hc2
     refine wp_region_later (by kernel_rfl) (by kernel_rfl) ?_
     repeat (first|go_big_quiet_step (((go_at_call 28;with_reducible refine Later.call (HSOL _).out)))|quiet_step (((go_at_call 28;with_reducible refine Later.call (HSOL _).out))))
     refine wpQuiet_nil ?_
     intro w2 hw2
     have hb2:=later_below hw2
     clear hw2
     have HB:=Lib.hid (bnl HB (Lib.hid (Nat.le_refl _)) hb2)
     skip
     clear hb2
     go_wp2_with fail
     go_roundw
     case rel=>exact⟨j+1,by omega,by go_num,HB.out⟩
     case measure=>simp[intOf];omega
    ·go_wp2_with fail
     clear c1 hjl
     go_loopw [7] (fun v wi=> ∃t:Nat,t≤r.alone.length∧v= .int .i64 t∧Below w.heap.size w wi) (fun v _=>r.alone.length - (intOf v).toNat)
     case atStart=>exact⟨0,Nat.zero_le _,rfl,HB.out⟩
     case round=>
      clear HB
      obtain⟨t,ht,rfl,hb⟩:=hrel
      obtain⟨wv,rfl⟩: ∃x:World,x=wr:=⟨_,rfl⟩
      have HB:=Lib.hid hb
      have c2:=(HAC _ hb).out.c2
      clear hb
      by_cases htl:t<r.alone.length
      ·obtain⟨v,hv⟩: ∃v,r.alone[t]? =some v:=⟨_,List.getElem?_eq_getElem htl⟩
       obtain⟨ib,ioff,rfl,hib,hci⟩:=(HAC _ (Below.refl _ _)).out.alone.row (by omega)
       obtain⟨jb,joff,rfl,hjb,hcj⟩:=(HDC _ (Below.refl _ _)).out.alone.row (by omega)
       have HIA:=fun(W1:World) (hb:Below w.heap.size w W1)=>Lib.hid (hci W1 (hb.mono hB) t v hv)
       have HIB:=fun(W1:World) (hb:Below w.heap.size w W1)=>Lib.hid (hcj W1 (hb.mono hB) t v hv)
       clear hci hcj hv
       go_wp2_with fail
       clear c2
       refine wp_name (fun c3 hc3=> ?_)
       have HB:=bnm HB (Lib.hid (Nat.le_refl _)) hc3
       have YB:=fun(x0:Later c3)=>HB.out.trans (x0.2.mono HB.out.size);have y3:=fun(x0:Later c3)=>(HAC x0.1 (YB x0)).out.c2;have y6:=fun(x0:Later c3)=>(HDC x0.1 (YB x0)).out.c2;have y7:=fun(x0:Later c3)=>(HIA x0.1 (YB x0)).out;have y8:=fun(x0:Later c3)=>(HIB x0.1 (YB x0)).out;clear YB
       clear hc3
       refine wp_region_later (by kernel_rfl) (by kernel_rfl) ?_
       repeat (first|go_big_quiet_step ((fail))|quiet_step ((fail)))
       refine wpQuiet_nil ?_
       intro w3 hw3
       have hb3:=later_below hw3
       clear hw3
       have HB:=Lib.hid (bnl HB (Lib.hid (Nat.le_refl _)) hb3)
       skip
       clear hb3
       go_wp2_with fail
       go_roundw
       case rel=>exact⟨t+1,by omega,by go_num,HB.out⟩
       case measure=>simp[intOf];omega
      ·go_wp2_with fail
       go_roundw
       case rel=>exact⟨k+1,by omega,by go_num,HB.out⟩
       case measure=>simp[intOf];omega
  ·go_wp2_with fail
   go_ret
   exact⟨rfl,HB.out⟩
end Go.Proofs.YthopjhifepijiaaGreat
