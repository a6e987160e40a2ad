/- Lemmas on the way to the statement. -/
import Derived.Test.YthopjhifepijiaaJ9
set_option linter.unusedSimpArgs false
set_option linter.unusedVariables false
namespace Go.Proofs.Ythopjhifepijiaa
open Go.RowKit Go.Joins
theorem Try.infoI9:(Try.prog.info? 3).map (fun i=>(i.zero,i.size,i.bytes))=some (some (.int .i64 0),1,8):=by kernel_rfl
def LastOk (x:Int) (l:List Int):Prop:=0≤x∧x≤1099511627776∧ ∀y,l[l.length - 1]? =some y→y≤x
def FaceOk (fs:List FR) (k:Nat) (f:FR):Prop:=(f.id=0↔k=0)∧(∀j g,k=j+1→fs[j]? =some g→g.id<f.id)∧0≤f.at_∧f.at_≤1073741824
def NumOk (lv le lf:Int) (vs:List VR) (es:List ER) (fs:List FR):Prop:=(∀k f,fs[k]? =some f→FaceOk fs k f)∧LastOk lv (vs.map (·.id))∧LastOk le (es.map (·.id))∧LastOk lf (fs.map (·.id))
def BPost (P:Prop) (w:World) (e:Ending) (w':World):Prop:=(∃b,e= .returned (.bool b)∧(b=true↔P))∧Below w.heap.size w w'
def idC (l:List Int):List Value:=l.map (Value.int .i64)
set_option maxRecDepth 100000 in
set_option maxHeartbeats 2000000 in
theorem last_any {w:World} {base n:Nat} {v:Value} {l:List Int} (hl:w.ownsRow base 3 1 v n (idC l)) (hnl:n=l.length) (hn:n≤100000) (x:Int) (hx:fitI x):
  Calls Try.prog 91 #[.int .i64 x,v] w (BPost (LastOk x l) w):=by
 obtain⟨a,c,rfl⟩:=own_form hl
 have HO:=Lib.hid hl
 have HN:=Lib.hid hnl
 clear hl hnl
 by_cases h1:x<0
 ·have F:=Lib.hid (show¬LastOk x l from fun h=>by have:=h.1;omega)
  go_enter Try.func91,Try.ntmps91
  go_wp2_with fail
  go_ret
  exact⟨⟨false,rfl,fun h=>(by cases h),fun h=>absurd h F.out⟩,Below.refl _ _⟩
 by_cases h2:1099511627776<x
 ·have F:=Lib.hid (show¬LastOk x l from fun h=>by have:=h.2.1;omega)
  have h3:0≤x:=by omega
  clear h1
  go_enter Try.func91,Try.ntmps91
  go_wp2_with fail
  go_ret
  exact⟨⟨false,rfl,fun h=>(by cases h),fun h=>absurd h F.out⟩,Below.refl _ _⟩
 have h3:0≤x:=by omega
 have h4:x≤1099511627776:=by omega
 have H3:=Lib.hid h3
 have H4:=Lib.hid h4
 clear h1 h2
 by_cases h0:n=0
 ·have F:=Lib.hid (show LastOk x l from⟨H3.out,H4.out,fun y hy=>by rw[List.getElem?_eq_none (by have:=HN.out;omega)] at hy;cases hy⟩)
  subst h0
  go_enter Try.func91,Try.ntmps91
  go_wp2_with fail
  go_ret
  exact⟨⟨true,rfl,fun _=>F.out,fun _=>rfl⟩,Below.refl _ _⟩
 ·obtain⟨m,rfl⟩: ∃m,n=m+1:=⟨n - 1,by omega⟩
  obtain⟨g,cap,e⟩:=ownsRow_form HO.out (by omega)
  injection e with e1 e2 e3
  subst e1 e3
  obtain⟨y,hy⟩: ∃y,l[m]? =some y:=⟨_,List.getElem?_eq_getElem (by have:=HN.out;omega)⟩
  have c0:w.cell? ⟨g,m,none⟩=some (.int .i64 y):=(addr_add0 g m)▸HO.out.cells (g:=g) rfl (j:=m) (u:= .int .i64 y) (by unfold idC;rw[List.getElem?_map,hy];rfl)
  have HY:=Lib.hid (show LastOk x l↔y≤x from⟨fun h=>h.2.2 y (by rw[←HN.out];exact hy),fun h=>⟨H3.out,H4.out,fun z hz=>by rw[←HN.out] at hz;rw[show m+1 - 1=m from rfl,hy] at hz;cases hz;exact h⟩⟩)
  have hw:IntKind.i64.wrap ((m:Int)+1 - 1)=(m:Int):=by rw[show(m:Int)+1 - 1=m by omega];exact IntWalk.i64_in _ (by omega)
  clear hy e2 h0
  by_cases hq:y≤x
  ·have F:=Lib.hid (HY.out.2 hq)
   go_enter Try.func91,Try.ntmps91
   go_wp2_with fail
   go_ret
   exact⟨⟨true,rfl,fun _=>F.out,fun _=>rfl⟩,Below.refl _ _⟩
  ·have F:=Lib.hid (fun h=>hq (HY.out.1 h))
   go_enter Try.func91,Try.ntmps91
   go_wp2_with fail
   go_ret
   exact⟨⟨false,rfl,fun h=>(by cases h),fun h=>absurd h F.out⟩,Below.refl _ _⟩
set_option maxRecDepth 100000 in
set_option maxHeartbeats 8000000 in
theorem numbers_any {w:World} {B vn en fn vc ec fc:Nat} {va ea fa:Option Addr} {vs:List VR} {es:List ER} {fs:List FR} (hv:VRIn w B va vn vs) (he:ERIn w B ea en es) (hf:FRIn w B fa fn fs) (hB:B≤w.heap.size) (n1:vn≤1000) (n2:en≤1000) (n3:fn≤1000) (lv le lf:Int) (f1:fitI lv) (f2:fitI le) (f3:fitI lf):
  Calls Try.prog 65 #[.agg #[.int .i64 lv, .int .i64 le, .int .i64 lf, .slice va vn vc, .slice ea en ec, .slice fa fn fc]] w (BPost (NumOk lv le lf vs es fs) w):=by
 have HV:=Lib.hid hv
 have HE:=Lib.hid he
 have HF:=Lib.hid hf
 obtain⟨l0,hl,hl0,hl1,hl2⟩:=info_parts Try.infoI9
 clear hv he hf
 go_enter Try.func65,Try.ntmps65
 go_wp2_with fail
 first|refine wp_name (fun W hW=> ?_)|refine calls_name (fun W hW=> ?_)
 have HW:Hid (Below w.heap.size w W):=Lib.hid (by rw[←hW];repeat (first|exact Below.refl _ _|refine below_alloc ?_))
 have HWs:Hid (W.heap.size=w.heap.size+1):=Lib.hid (by rw[←hW];simp)
 have HBW:Hid (W.heap.size≤W.heap.size):=Lib.hid (by have:=HWs.out;omega)
 have HC:=fun(W1:World) (hb:Below (W.heap.size) W W1)=>Lib.hid (show W1.cell? ⟨w.heap.size,0,none⟩=some (.int .i64 lv)∧W1.cell? ⟨w.heap.size,1,none⟩=some (.int .i64 le)∧W1.cell? ⟨w.heap.size,2,none⟩=some (.int .i64 lf)∧W1.cell? ⟨w.heap.size,3,none⟩=some (.slice va vn vc)∧W1.cell? ⟨w.heap.size,4,none⟩=some (.slice ea en ec)∧W1.cell? ⟨w.heap.size,5,none⟩=some (.slice fa fn fc) from by have hs:=HWs.out;refine⟨?_, ?_, ?_, ?_, ?_, ?_⟩<;>(refine(hb.cell (by dsimp only;omega)).trans ?_;rw[←hW];clear hW;go_simp))
 have HB:=Lib.hid (Below.refl (W.heap.size) W)
 clear hW
 have HZ:=fun(W1:World) (hb:W.heap.size≤W1.heap.size)=>Lib.hid (show w.heap.size<W1.heap.size from by have:=HWs.out;omega)
 obtain⟨qx0,qx1,qx2,qx3,qx4,qx5⟩:=(HC _ HB.out).out
 have rx0:=(HZ _ HB.out.size).out
 go_wp2_with fail
 clear qx0 qx1 qx2 qx3 qx4 qx5 rx0
 go_loopw [3,15] (fun o i wr=> ∃(k:Nat) (ov:Value),k≤vn∧i= .int .i64 k∧ov=o∧wr.ownsRow W.heap.size 3 1 ov k (idC ((vs.take k).map (·.id)))∧Below W.heap.size W wr) (fun _ i _=>vn - (intOf i).toNat)
 case atStart=>exact⟨0,_,Nat.zero_le _,rfl,rfl,World.ownsRow_nil _ _ _ _,Below.refl _ _⟩
 case round=>
  obtain⟨k,ov,hk,rfl,rfl,hown,hb⟩:=hrel
  obtain⟨wq,rfl⟩: ∃x:World,x=wr:=⟨_,rfl⟩
  have HOW:=Lib.hid hown
  have HBQ:=Lib.hid hb
  have HWQ:=Lib.hid (HB.out.trans (hb.mono HB.out.size))
  clear hown hb
  by_cases hlt:k<vn
  ·obtain⟨vb,off,v,rfl,hvb,hv,hcs⟩:=(HV.out.below ((HW.out.trans (HWQ.out.mono HW.out.size)).mono hB)).at_ hlt
   have HVK:=Lib.hid hv
   have hvw:vb<wq.heap.size:=Nat.lt_of_lt_of_le hvb (Nat.le_trans hB (Nat.le_trans HW.out.size HWQ.out.size))
   clear hv
   go_wp2_with (at_builtin;go_loud (refine wpList_append_near _ rfl (.tmp 19) (.tmp 22) 39 rfl W.heap.size 3 l0 (.int .i64 0) 1 8 Try.underlying39 hl hl0 hl1 hl2 rfl (by decide) ov k _ rfl ((HOW.out.alloc _).alloc _) ⟨wq.heap.size+1,0,none⟩ 1 1 [.int .i64 v.id] rfl (by decide) rfl (fun j u hu=>by rw[addr_add0];rcases j with _|j<;>simp at hu;subst hu;simp[World.cell?_alloc_new]) (by simp[Value.oneCell']) (by unfold maxLen;omega) (by omega) (by have:=HBQ.out.size;simp;omega) ?_;intro g9 cap9 w9 hown hgr hat;have HN:=Lib.hid (show w9.ownsRow W.heap.size 3 1 (.slice (some ⟨g9,0,none⟩) (k+1) cap9) (k+1) (idC ((vs.take (k+1)).map (·.id))) from by rw[take_snoc' HVK.out,List.map_append];unfold idC at hown ⊢;rw[List.map_append];exact hown);have HB9:=Lib.hid (((HBQ.out.alloc HBQ.out.size _).alloc (Nat.le_trans HBQ.out.size (by simp)) _).grown hgr (by have:=HBQ.out.size;simp;omega) (fun z hz=>(HOW.out.lt z hz).1));clear hown hgr hat))
   go_roundw
   case rel=>exact⟨k+1,_,by omega,by go_num,rfl,HN.out,HB9.out⟩
   case measure=>simp[intOf];omega
  ·have HV1:=Lib.hid (show wq.ownsRow W.heap.size 3 1 ov k (idC (vs.map (·.id))) from by
    have h:=HOW.out
    rw[List.take_of_length_le (by have:=HV.out.1;omega)] at h
    exact h)
   have HVN:=Lib.hid (show k=(vs.map (·.id)).length from by rw[List.length_map];have:=HV.out.1;omega)
   obtain⟨wv,rfl⟩: ∃x:World,x=wq:=⟨_,rfl⟩
   obtain⟨ov1,rfl⟩: ∃x,x=ov:=⟨_,rfl⟩
   have hkv:k≤1000:=by omega
   obtain⟨kv,rfl⟩: ∃x,x=k:=⟨_,rfl⟩
   have HB:=HWQ
   clear HOW HBQ HWQ
   obtain⟨qx0,qx1,qx2,qx3,qx4,qx5⟩:=(HC _ HB.out).out
   have rx0:=(HZ _ HB.out.size).out
   go_wp2_with fail
   clear qx0 qx1 qx2 qx3 qx4 qx5 rx0
   clear hlt
   go_loopw [4,28] (fun o i wr=> ∃(k:Nat) (ov:Value),k≤en∧i= .int .i64 k∧ov=o∧wr.ownsRow wv.heap.size 3 1 ov k (idC ((es.take k).map (·.id)))∧Below wv.heap.size wv wr) (fun _ i _=>en - (intOf i).toNat)
   case atStart=>exact⟨0,_,Nat.zero_le _,rfl,rfl,World.ownsRow_nil _ _ _ _,Below.refl _ _⟩
   case round=>
    obtain⟨k,ov,hk,rfl,rfl,hown,hb⟩:=hrel
    obtain⟨wq,rfl⟩: ∃x:World,x=wr:=⟨_,rfl⟩
    have HOW:=Lib.hid hown
    have HBQ:=Lib.hid hb
    have HWQ:=Lib.hid (HB.out.trans (hb.mono HB.out.size))
    clear hown hb
    by_cases hlt:k<en
    ·obtain⟨vb,off,v,rfl,hvb,hv,hcs⟩:=(HE.out.below ((HW.out.trans (HWQ.out.mono HW.out.size)).mono hB)).at_ hlt
     have HVK:=Lib.hid hv
     have hvw:vb<wq.heap.size:=Nat.lt_of_lt_of_le hvb (Nat.le_trans hB (Nat.le_trans HW.out.size HWQ.out.size))
     clear hv
     go_wp2_with (at_builtin;go_loud (refine wpList_append_near _ rfl (.tmp 32) (.tmp 35) 39 rfl wv.heap.size 3 l0 (.int .i64 0) 1 8 Try.underlying39 hl hl0 hl1 hl2 rfl (by decide) ov k _ rfl ((HOW.out.alloc _).alloc _) ⟨wq.heap.size+1,0,none⟩ 1 1 [.int .i64 v.id] rfl (by decide) rfl (fun j u hu=>by rw[addr_add0];rcases j with _|j<;>simp at hu;subst hu;simp[World.cell?_alloc_new]) (by simp[Value.oneCell']) (by unfold maxLen;omega) (by omega) (by have:=HBQ.out.size;simp;omega) ?_;intro g9 cap9 w9 hown hgr hat;have HN:=Lib.hid (show w9.ownsRow wv.heap.size 3 1 (.slice (some ⟨g9,0,none⟩) (k+1) cap9) (k+1) (idC ((es.take (k+1)).map (·.id))) from by rw[take_snoc' HVK.out,List.map_append];unfold idC at hown ⊢;rw[List.map_append];exact hown);have HB9:=Lib.hid (((HBQ.out.alloc HBQ.out.size _).alloc (Nat.le_trans HBQ.out.size (by simp)) _).grown hgr (by have:=HBQ.out.size;simp;omega) (fun z hz=>(HOW.out.lt z hz).1));clear hown hgr hat))
     go_roundw
     case rel=>exact⟨k+1,_,by omega,by go_num,rfl,HN.out,HB9.out⟩
     case measure=>simp[intOf];omega
    ·have HE1:=Lib.hid (show wq.ownsRow wv.heap.size 3 1 ov k (idC (es.map (·.id))) from by
      have h:=HOW.out
      rw[List.take_of_length_le (by have:=HE.out.1;omega)] at h
      exact h)
     have HEN:=Lib.hid (show k=(es.map (·.id)).length from by rw[List.length_map];have:=HE.out.1;omega)
     have HV1:=Lib.hid (ownsRow_touch HV1.out (Touch.of_below (F:=[]) HBQ.out) (by simp))
     obtain⟨we,rfl⟩: ∃x:World,x=wq:=⟨_,rfl⟩
     obtain⟨ov2,rfl⟩: ∃x,x=ov:=⟨_,rfl⟩
     have hke:k≤1000:=by omega
     obtain⟨ke,rfl⟩: ∃x,x=k:=⟨_,rfl⟩
     have HB:=HWQ
     clear HOW HBQ HWQ
     obtain⟨qx0,qx1,qx2,qx3,qx4,qx5⟩:=(HC _ HB.out).out
     have rx0:=(HZ _ HB.out.size).out
     go_wp2_with fail
     clear qx0 qx1 qx2 qx3 qx4 qx5 rx0
     clear hlt
     go_loopw [5,41] (fun o i wr=> ∃(k:Nat) (ov:Value),k≤fn∧i= .int .i64 k∧ov=o∧wr.ownsRow we.heap.size 3 1 ov k (idC ((fs.take k).map (·.id)))∧(∀j f,j<k→fs[j]? =some f→FaceOk fs j f)∧Below we.heap.size we wr) (fun _ i _=>fn - (intOf i).toNat)
     case atStart=>exact⟨0,_,Nat.zero_le _,rfl,rfl,World.ownsRow_nil _ _ _ _,fun j f hj=>absurd hj (by omega),Below.refl _ _⟩
     case round=>
      obtain⟨k,ov,hk,rfl,rfl,hown,hall,hb⟩:=hrel
      obtain⟨wq,rfl⟩: ∃x:World,x=wr:=⟨_,rfl⟩
      have HOW:=Lib.hid hown
      have HBQ:=Lib.hid hb
      have HAQ:=Lib.hid hall
      have HWQ:=Lib.hid (HB.out.trans (hb.mono HB.out.size))
      have HXW:=Lib.hid (HW.out.trans (HWQ.out.mono HW.out.size))
      clear hown hb hall
      by_cases hlt:k<fn
      ·skip
       obtain⟨fb,foff,f,rfl,hfb,hf,hcs⟩:=(HF.out.below (HXW.out.mono hB)).at_ hlt
       have HFK:=Lib.hid hf
       have hfw:fb<wq.heap.size:=Nat.lt_of_lt_of_le hfb (Nat.le_trans hB HXW.out.size)
       obtain⟨oa,oc,rfl⟩:=own_form HOW.out
       have HCF:=fun(W1:World) (hb:Below (wq.alloc (.cells #[.int .i64 f.id, .int .i64 f.at_] 83)).heap.size (wq.alloc (.cells #[.int .i64 f.id, .int .i64 f.at_] 83)) W1)=>Lib.hid (show W1.cell? ⟨wq.heap.size,0,none⟩=some (.int .i64 f.id)∧W1.cell? ⟨wq.heap.size,1,none⟩=some (.int .i64 f.at_) from⟨(hb.cell (p:=⟨wq.heap.size,0,none⟩) (by simp)).trans (by simp[World.cell?_alloc_new]),(hb.cell (p:=⟨wq.heap.size,1,none⟩) (by simp)).trans (by simp[World.cell?_alloc_new])⟩)
       clear hf
       go_wp2_with fail
       clear hcs
       have HB:=HWQ
       have hcase:(((k:Int)==0)=true∧ ¬(0:Int)<(k:Int)∧(f.id==0)=true∧Hid ((f.id=0↔k=0)∧(∀j g,k=j+1→fs[j]? =some g→g.id<f.id)))∨(((k:Int)==0)=true∧ ¬(0:Int)<(k:Int)∧(f.id==0)=false∧Hid (¬NumOk lv le lf vs es fs))∨(((k:Int)==0)=false∧(0:Int)<(k:Int)∧(f.id==0)=true∧Hid (¬NumOk lv le lf vs es fs))∨
         (∃(j gg:Nat) (g:FR),((k:Int)==0)=false∧(0:Int)<(k:Int)∧(f.id==0)=false∧oa=some ⟨gg,0,none⟩∧IntKind.i64.wrap ((k:Int) - 1)=(j:Int)∧(j:Int)<(k:Int)∧j<k∧Hid (∀W1,Below wq.heap.size wq W1→W1.cell? ⟨gg,j,none⟩=some (.int .i64 g.id))∧((f.id≤g.id∧Hid (¬NumOk lv le lf vs es fs))∨(¬f.id≤g.id∧Hid ((f.id=0↔k=0)∧(∀j g,k=j+1→fs[j]? =some g→g.id<f.id))))):=by
        by_cases hk0:k=0
        ·have hk2: ¬(0:Int)<(k:Int):=by omega
         by_cases hf0:f.id=0
         ·exact .inl ⟨by simp[hk0],hk2,by simp[hf0],⟨fun _=>hk0,fun _=>hf0⟩,fun j g h=>by omega⟩
         ·exact .inr (.inl ⟨by simp[hk0],hk2,by simp[hf0],fun h=>hf0 ((h.1 k f HFK.out).1.2 hk0)⟩)
        ·have hk2:(0:Int)<(k:Int):=by omega
         by_cases hf0:f.id=0
         ·exact .inr (.inr (.inl ⟨by simp[hk0],hk2,by simp[hf0],fun h=>hk0 ((h.1 k f HFK.out).1.1 hf0)⟩))
         ·obtain⟨j,hj⟩: ∃j,k=j+1:=⟨k - 1,by omega⟩
          obtain⟨g,hg⟩: ∃g,fs[j]? =some g:=⟨_,List.getElem?_eq_getElem (by have:=HF.out.1;omega)⟩
          obtain⟨gg,gc,e⟩:=ownsRow_form HOW.out (by omega)
          injection e with e1 e2 e3
          subst e1
          refine .inr (.inr (.inr ⟨j,gg,g,by simp[hk0],hk2,by simp[hf0],rfl,by rw[show(k:Int) - 1=j by omega];exact IntWalk.i64_in _ (by omega),by omega,by omega,fun W1 hb=>(hb.cell (p:=⟨gg,j,none⟩) (HOW.out.lt gg rfl).2).trans ((addr_add0 gg j)▸HOW.out.cells (g:=gg) rfl (j:=j) (u:= .int .i64 g.id) (by unfold idC;rw[List.getElem?_map,List.getElem?_map,List.getElem?_take_of_lt (by omega),hg];rfl)), ?_⟩))
          by_cases hle:f.id≤g.id
          ·exact .inl ⟨hle,fun h=>by have:=(h.1 k f HFK.out).2.1 j g hj hg;omega⟩
          ·exact .inr ⟨hle,⟨fun h=>absurd h hf0,fun h=>absurd h hk0⟩,fun j2 g2 h h2=>by
            obtain rfl:j2=j:=by omega
            rw[hg] at h2
            cases h2
            omega⟩
       rcases hcase with ⟨hk1,hk2,hf1,G⟩|⟨hk1,hk2,hf1,F⟩|⟨hk1,hk2,hf1,F⟩|⟨j,gg,g,hk1,hk2,hf1,rfl,hwj,hjk,hjk2,HCG,⟨hle,F⟩|⟨hle,G⟩⟩
       all_goals
        have hk3:=hk2
        rw[Int.natCast_pos] at hk3
       all_goals
        try
         have G2:=G
         rcases(show f.at_<0∨(¬f.at_<0∧1073741824<f.at_)∨(¬f.at_<0∧ ¬1073741824<f.at_) by omega) with a1|⟨a1,a2⟩|⟨a1,a2⟩
         rotate_right
         have G3:=Lib.hid (show FaceOk fs k f from⟨G.out.1,G.out.2,by omega,by omega⟩)
         rotate_left
         have F:=Lib.hid (show¬NumOk lv le lf vs es fs from fun h=>by have:=(h.1 k f HFK.out).2.2;omega)
         rotate_left
         have F:=Lib.hid (show¬NumOk lv le lf vs es fs from fun h=>by have:=(h.1 k f HFK.out).2.2;omega)
       all_goals
        refine wp_name (fun c4 hc4=> ?_)
        have HB:=bnm HB HBW hc4
        have HXC:=Lib.hid (show Below wq.heap.size wq c4 from hc4▸below_alloc (Below.refl _ _));have HCC:=fun(W1:World) (hb:Below c4.heap.size c4 W1)=>HCF W1 (by rw[hc4];exact hb);have y1:=fun(x0:Later c4)=>(HCC x0.1 x0.2).out;try (have y2:=fun(x0:Later c4)=>HCG.out x0.1 (below_step x0.2 HXC.out))
        clear hc4
        have xx:=fun(x:Later c4)=>(HC _ (bnl HB HBW x.2)).out
        simp only[forall_and] at xx
        obtain⟨xx0,xx1,xx2,xx3,xx4,xx5⟩:=xx
        refine wp_region_later (by kernel_rfl) (by kernel_rfl) ?_
        repeat (first|go_big_quiet_step ((fail))|quiet_step ((fail)))
        refine wpQuiet_nil ?_
        intro wt hw4
        have hb4:=later_below hw4
        clear hw4
        have HB:=Lib.hid (bnl HB HBW hb4)
        clear xx0 xx1 xx2 xx3 xx4 xx5
        obtain⟨qx0,qx1,qx2,qx3,qx4,qx5⟩:=(HC _ HB.out).out
        have HBt:=Lib.hid (below_step hb4 HXC.out);have HCt:=HCC wt hb4
        clear hb4
        have rx0:=(HZ _ HB.out.size).out
        clear qx0 qx1 qx2 qx3 qx4 qx5 rx0
        first
         |(go_wp2_with fail;go_ret;exact⟨⟨false,rfl,fun h=>(by cases h),fun h=>absurd h F.out⟩,HW.out.trans (HB.out.mono HW.out.size)⟩)
         |skip
       all_goals
        have HOWt:=Lib.hid (ownsRow_touch HOW.out (Touch.of_below (F:=[]) HBt.out) (by simp))
        have HBQt:=Lib.hid (below_step HBt.out HBQ.out)
        obtain⟨d0,d1⟩:=HCt.out
        try clear hle
        go_wp2_with (at_builtin;go_loud (refine wpList_append_near _ rfl (.tmp 76) (.tmp 79) 39 rfl we.heap.size 3 l0 (.int .i64 0) 1 8 Try.underlying39 hl hl0 hl1 hl2 rfl (by decide) _ k _ rfl (HOWt.out.alloc _) ⟨wt.heap.size,0,none⟩ 1 1 [.int .i64 f.id] rfl (by decide) rfl (cell_list_at _ [.int .i64 f.id] _ rfl) (by simp[Value.oneCell']) (by unfold maxLen;omega) (by omega) (by have:=HBQt.out.size;simp;omega) ?_;intro g9 cap9 w9 hown hgr hat;have HN:=Lib.hid (show w9.ownsRow we.heap.size 3 1 (.slice (some ⟨g9,0,none⟩) (k+1) cap9) (k+1) (idC ((fs.take (k+1)).map (·.id))) from by rw[take_snoc' HFK.out,List.map_append];unfold idC at hown ⊢;rw[List.map_append];exact hown);have HB9:=Lib.hid ((HBQt.out.alloc HBQt.out.size (.cells #[.int .i64 f.id] 3)).grown hgr (by have:=HBQt.out.size;simp;omega) (fun z hz=>(HOWt.out.lt z hz).1));clear hown hgr hat))
        go_roundw
        case rel=>
         refine⟨k+1,_,by omega,by go_num,rfl,HN.out,fun j2 f2 hj2 hf2=> ?_,HB9.out⟩
         by_cases e:j2=k
         ·subst e
          rw[HFK.out] at hf2
          cases hf2
          exact G3.out
         ·exact HAQ.out j2 f2 (by omega) hf2
        case measure=>simp[intOf];omega
      ·have HFO:=Lib.hid (show∀j f,fs[j]? =some f→FaceOk fs j f from fun j f hj=>HAQ.out j f (by have:=(List.getElem?_eq_some_iff.1 hj).1;have:=HF.out.1;omega) hj)
       have HF1:=Lib.hid (show wq.ownsRow we.heap.size 3 1 ov k (idC (fs.map (·.id))) from by
        have h:=HOW.out
        rw[List.take_of_length_le (by have:=HF.out.1;omega)] at h
        exact h)
       have HFN:=Lib.hid (show k=(fs.map (·.id)).length from by rw[List.length_map];have:=HF.out.1;omega)
       have HV1:=Lib.hid (ownsRow_touch HV1.out (Touch.of_below (F:=[]) HBQ.out) (by simp))
       have HE1:=Lib.hid (ownsRow_touch HE1.out (Touch.of_below (F:=[]) HBQ.out) (by simp))
       have HB:=HWQ
       clear HOW HAQ
       obtain⟨qx0,qx1,qx2,qx3,qx4,qx5⟩:=(HC _ HB.out).out
       have rx0:=(HZ _ HB.out.size).out
       go_wp2_with fail
       refine(last_any HV1.out HVN.out (by omega) lv f1).mono ?_
       rintro e w5 ⟨⟨b1,rfl,hb1⟩,hb5⟩
       have HL1:=Lib.hid hb1
       have HE1:=Lib.hid (ownsRow_touch HE1.out (Touch.of_below (F:=[]) hb5) (by simp))
       have HF1:=Lib.hid (ownsRow_touch HF1.out (Touch.of_below (F:=[]) hb5) (by simp))
       have HB:=Lib.hid (bnl HB HBW hb5)
       clear hb1 hb5
       clear qx0 qx1 qx2 qx3 qx4 qx5 rx0
       obtain⟨qx0,qx1,qx2,qx3,qx4,qx5⟩:=(HC _ HB.out).out
       have rx0:=(HZ _ HB.out.size).out
       cases b1
       ·have F:=Lib.hid (show¬NumOk lv le lf vs es fs from fun h=>by have:=HL1.out.2 h.2.1;cases this)
        go_wp2_with fail
        go_ret
        exact⟨⟨false,rfl,fun h=>(by cases h),fun h=>absurd h F.out⟩,HW.out.trans (HB.out.mono HW.out.size)⟩
       ·go_wp2_with fail
        refine(last_any HE1.out HEN.out (by omega) le f2).mono ?_
        rintro e w6 ⟨⟨b2,rfl,hb2⟩,hb6⟩
        have HL2:=Lib.hid hb2
        have HF1:=Lib.hid (ownsRow_touch HF1.out (Touch.of_below (F:=[]) hb6) (by simp))
        have HB:=Lib.hid (bnl HB HBW hb6)
        clear hb2 hb6
        clear qx0 qx1 qx2 qx3 qx4 qx5 rx0
        obtain⟨qx0,qx1,qx2,qx3,qx4,qx5⟩:=(HC _ HB.out).out
        have rx0:=(HZ _ HB.out.size).out
        cases b2
        ·have F:=Lib.hid (show¬NumOk lv le lf vs es fs from fun h=>by have:=HL2.out.2 h.2.2.1;cases this)
         go_wp2_with fail
         go_ret
         exact⟨⟨false,rfl,fun h=>(by cases h),fun h=>absurd h F.out⟩,HW.out.trans (HB.out.mono HW.out.size)⟩
        ·go_wp2_with fail
         refine(last_any HF1.out HFN.out (by omega) lf f3).mono ?_
         rintro e w7 ⟨⟨b3,rfl,hb3⟩,hb7⟩
         have HL3:=Lib.hid hb3
         have HB:=Lib.hid (bnl HB HBW hb7)
         clear hb3 hb7
         clear qx0 qx1 qx2 qx3 qx4 qx5 rx0
         go_wp2_with fail
         go_ret
         exact⟨⟨b3,rfl,fun h=>⟨HFO.out,HL1.out.1 (by simp),HL2.out.1 (by simp),HL3.out.1 h⟩,fun h=>HL3.out.2 h.2.2.2⟩,HW.out.trans (HB.out.mono HW.out.size)⟩
end Go.Proofs.Ythopjhifepijiaa
namespace Go.Proofs.Ythopjhifepijiaa
open Go.RowKit Go.Joins
def vrC (v:VR):List Value:=[.int .i64 v.id, .int .i64 v.x, .int .i64 v.y, .int .i64 v.f]
def erC (v:ER):List Value:=[.int .i64 v.id, .int .i64 v.a, .int .i64 v.b, .int .i64 v.n0, .bool v.m0, .int .i64 v.n1, .bool v.m1, .int .i64 v.p0, .bool v.q0, .int .i64 v.p1, .bool v.q1, .int .i64 v.f0, .int .i64 v.f1]
theorem vrIn_of_own {w:World} {base n c:Nat} {t:TypeId} {a:Option Addr} {l:List VR} (h:w.ownsRow base t 4 (.slice a n c) n (l.flatMap vrC)) (hn:n=l.length):VRIn w w.heap.size a n l:=by
 refine⟨hn, ?_⟩
 rcases Nat.eq_zero_or_pos n with h0|h0
 ·exact .inl h0
 ·obtain⟨g,cap,e⟩:=ownsRow_form h h0
  injection e with e1 e2 e3
  subst e1
  refine .inr ⟨g,0,rfl,(h.lt g rfl).2,fun i v hv=> ?_⟩
  have hc:=fun j u (hu:(vrC v)[j]? =some u)=>(addr_add0 g (i*4+j))▸h.cells (g:=g) rfl (j:=i*4+j) (u:=u) (flatMap_get (n:=4) (fun _=>rfl) l i j v u hv hu)
  simp only[Nat.zero_add]
  exact⟨hc 0 _ rfl,hc 1 _ rfl,hc 2 _ rfl,hc 3 _ rfl⟩
theorem erIn_of_own {w:World} {base n c:Nat} {t:TypeId} {a:Option Addr} {l:List ER} (h:w.ownsRow base t 13 (.slice a n c) n (l.flatMap erC)) (hn:n=l.length):ERIn w w.heap.size a n l:=by
 refine⟨hn, ?_⟩
 rcases Nat.eq_zero_or_pos n with h0|h0
 ·exact .inl h0
 ·obtain⟨g,cap,e⟩:=ownsRow_form h h0
  injection e with e1 e2 e3
  subst e1
  refine .inr ⟨g,0,rfl,(h.lt g rfl).2,fun i v hv=> ?_⟩
  have hc:=fun j u (hu:(erC v)[j]? =some u)=>(addr_add0 g (i*13+j))▸h.cells (g:=g) rfl (j:=i*13+j) (u:=u) (flatMap_get (n:=13) (fun _=>rfl) l i j v u hv hu)
  simp only[Nat.zero_add]
  exact⟨hc 0 _ rfl,hc 1 _ rfl,hc 2 _ rfl,hc 3 _ rfl,hc 4 _ rfl,hc 5 _ rfl,hc 6 _ rfl,hc 7 _ rfl,hc 8 _ rfl,hc 9 _ rfl,hc 10 _ rfl,hc 11 _ rfl,hc 12 _ rfl⟩
end Go.Proofs.Ythopjhifepijiaa
namespace Go.Proofs.Ythopjhifepijiaa
open Go.RowKit Go.Joins
theorem Try.infoVR:(Try.prog.info? 141).map (fun i=>(i.zero,i.size,i.bytes))=some (some (.agg #[.int .i64 0, .int .i64 0, .int .i64 0, .int .i64 0]),4,32):=by kernel_rfl
theorem Try.infoER:(Try.prog.info? 81).map (fun i=>(i.zero,i.size,i.bytes))=some (some (.agg #[.int .i64 0, .int .i64 0, .int .i64 0, .int .i64 0, .bool false, .int .i64 0, .bool false, .int .i64 0, .bool false, .int .i64 0, .bool false, .int .i64 0, .int .i64 0]),13,104):=by kernel_rfl
theorem row_alloc_at (w:World) (cs:Array Value) (t:TypeId) (f:Nat→Value) {n m:Nat} (hn:w.heap.size=n) (hm:cs.size=m) (h: ∀i,i<cs.size→cs[i]? =some (f i)):(w.alloc (.cells cs t)).rowIs n t m f:=by
 subst hn hm
 exact World.rowIs_alloc w cs t f h
theorem take_flat {α β:Type} {f:α→List β} {l:List α} {k:Nat} {x:α} (h:l[k]? =some x):(l.take k).flatMap f++f x=(l.take (k+1)).flatMap f:=by
 have hk:=(List.getElem?_eq_some_iff.1 h).1
 rw[List.take_succ_eq_append_getElem hk,List.flatMap_append]
 simp[(List.getElem?_eq_some_iff.1 h).2]
end Go.Proofs.Ythopjhifepijiaa
namespace Go.Proofs.Ythopjhifepijiaa
open Go.RowKit Go.Joins
theorem Try.infoVx:(Try.prog.info? 53).map (fun i=>(i.zero,i.size,i.bytes))=some (some (.agg #[.int .i64 0, .int .i64 0, .int .i64 0]),3,24):=by kernel_rfl
theorem Try.infoEd:(Try.prog.info? 63).map (fun i=>(i.zero,i.size,i.bytes))=some (some (.agg #[.int .i64 0, .int .i64 0, .int .i64 0]),3,24):=by kernel_rfl
def vxC (v:VR):List Value:=[.int .i64 v.id, .int .i64 v.x, .int .i64 v.y]
def edC (v:ER):List Value:=[.int .i64 v.id, .int .i64 v.a, .int .i64 v.b]
def vxOf (v:VR):Vx:=⟨v.id,⟨v.x,v.y⟩⟩
def edOf (v:ER):Ed:=⟨v.id,v.a,v.b⟩
theorem vsIn_of_own {w:World} {base n c:Nat} {t:TypeId} {a:Option Addr} {l:List VR} (h:w.ownsRow base t 3 (.slice a n c) n (l.flatMap vxC)) (hn:n=l.length):VsIn w w.heap.size a n (l.map vxOf):=by
 refine⟨by rw[List.length_map];exact hn, ?_⟩
 rcases Nat.eq_zero_or_pos n with h0|h0
 ·exact .inl h0
 ·obtain⟨g,cap,e⟩:=ownsRow_form h h0
  injection e with e1 e2 e3
  subst e1
  refine .inr ⟨g,0,rfl,(h.lt g rfl).2,fun i v' hv'=> ?_⟩
  rw[List.getElem?_map] at hv'
  obtain⟨v,hv,rfl⟩:=Option.map_eq_some_iff.1 hv'
  have hc:=fun j u (hu:(vxC v)[j]? =some u)=>(addr_add0 g (i*3+j))▸h.cells (g:=g) rfl (j:=i*3+j) (u:=u) (flatMap_get (n:=3) (fun _=>rfl) l i j v u hv hu)
  simp only[Nat.zero_add]
  exact⟨hc 0 _ rfl,hc 1 _ rfl,hc 2 _ rfl⟩
theorem esIn_of_own {w:World} {base n c:Nat} {t:TypeId} {a:Option Addr} {l:List ER} (h:w.ownsRow base t 3 (.slice a n c) n (l.flatMap edC)) (hn:n=l.length):EsIn w w.heap.size a n (l.map edOf):=by
 refine⟨by rw[List.length_map];exact hn, ?_⟩
 rcases Nat.eq_zero_or_pos n with h0|h0
 ·exact .inl h0
 ·obtain⟨g,cap,e⟩:=ownsRow_form h h0
  injection e with e1 e2 e3
  subst e1
  refine .inr ⟨g,0,rfl,(h.lt g rfl).2,fun i v' hv'=> ?_⟩
  rw[List.getElem?_map] at hv'
  obtain⟨v,hv,rfl⟩:=Option.map_eq_some_iff.1 hv'
  have hc:=fun j u (hu:(edC v)[j]? =some u)=>(addr_add0 g (i*3+j))▸h.cells (g:=g) rfl (j:=i*3+j) (u:=u) (flatMap_get (n:=3) (fun _=>rfl) l i j v u hv hu)
  simp only[Nat.zero_add]
  exact⟨hc 0 _ rfl,hc 1 _ rfl,hc 2 _ rfl⟩
def pvF (sv se:Value):Nat→Value
 |0=>sv
 |_=>se
structure PvIn (T:TypeId) (w W wr:World) (vs:List VR) (es:List ER) (sv se:Value) (k j:Nat):Prop where
 out:wr.rowIs (w.heap.size+1+1) T 2 (pvF sv se)
 vs:wr.ownsRow W.heap.size 53 3 sv k ((vs.take k).flatMap vxC)
 es:wr.ownsRow W.heap.size 63 3 se j ((es.take j).flatMap edC)
 below:Below (w.heap.size+1+1) W wr
theorem PvIn.cell {T:TypeId} {w W wr:World} {vs:List VR} {es:List ER} {sv se:Value} {k j:Nat} (h:PvIn T w W wr vs es sv se k j):
  wr.cell? ⟨w.heap.size+1+1,0,none⟩=some sv∧wr.cell? ⟨w.heap.size+1+1,1,none⟩=some se:=
 ⟨World.rowIs.cell h.out (i:=0) (by decide),World.rowIs.cell h.out (i:=1) (by decide)⟩
theorem PvIn.nextV {T:TypeId} {w W wr w2 w5:World} {vs:List VR} {es:List ER} {sv se:Value} {k j g cap:Nat} {v:VR} (h:PvIn T w W wr vs es sv se k j) (hW:W.heap.size=w.heap.size+1+1+1) (hv:vs[k]? =some v) (hb:Below wr.heap.size wr w2)
  (hown:w5.ownsRow W.heap.size 53 3 (.slice (some ⟨g,0,none⟩) (k+1) cap) (k+1) ((vs.take k).flatMap vxC++vxC v)) (hgr:w2.grownBy w5 sv.ownBlock):
  PvIn T w W (w5.setCell ⟨w.heap.size+1+1,0,none⟩ (.slice (some ⟨g,0,none⟩) (k+1) cap)) vs es (.slice (some ⟨g,0,none⟩) (k+1) cap) se (k+1) j:=by
 have hown:=hown
 rw[take_flat hv] at hown
 have hwr:=World.rowIs.lt h.out
 have n1:w.heap.size+1+1∉sv.ownBlock.toList:=fun hm=>by have:=(h.vs.lt _ (Option.mem_toList.1 hm)).1;omega
 have n2: ∀q,se.ownBlock=some q→q∉sv.ownBlock.toList:=fun q hq hm=>own_apart h.es h.vs (by decide) hq (Option.mem_toList.1 hm)
 have t1:=Touch.of_below (F:=[]) hb
 have t2:=Touch.of_grown hgr
 have t3:Touch [w.heap.size+1+1] w5 (w5.setCell ⟨w.heap.size+1+1,0,none⟩ (.slice (some ⟨g,0,none⟩) (k+1) cap)):=(Touch.refl _ _).setCell (.inl (by simp)) _
 have hout:=rowIs_touch (rowIs_touch h.out t1 (by simp)) t2 n1
 refine⟨?_, ?_, ?_, ?_⟩
 ·refine World.rowIs.congr (World.rowIs.set hout 0 _) (fun i hi=> ?_)
  rcases i with _|_|i<;>first|rfl|omega
 ·exact ownsRow_touch hown t3 (fun q hq=>by cases hq;have:=(hown.lt g rfl).1;simp;omega)
 ·refine ownsRow_touch (ownsRow_touch (ownsRow_touch h.es t1 (fun _ _=>by simp)) t2 n2) t3 (fun q hq=> ?_)
  have:=(h.es.lt q hq).1;simp;omega
 ·exact(((h.below.trans (hb.mono (by omega))).grown hgr (by have:=hb.size;omega) (fun q hq=>by have:=(h.vs.lt q hq).1;omega))).setCell (by simp) _
theorem PvIn.nextE {T:TypeId} {w W wr w2 w5:World} {vs:List VR} {es:List ER} {sv se:Value} {k j g cap:Nat} {v:ER} (h:PvIn T w W wr vs es sv se k j) (hW:W.heap.size=w.heap.size+1+1+1) (hv:es[j]? =some v) (hb:Below wr.heap.size wr w2)
  (hown:w5.ownsRow W.heap.size 63 3 (.slice (some ⟨g,0,none⟩) (j+1) cap) (j+1) ((es.take j).flatMap edC++edC v)) (hgr:w2.grownBy w5 se.ownBlock):
  PvIn T w W (w5.setCell ⟨w.heap.size+1+1,1,none⟩ (.slice (some ⟨g,0,none⟩) (j+1) cap)) vs es sv (.slice (some ⟨g,0,none⟩) (j+1) cap) k (j+1):=by
 have hown:=hown
 rw[take_flat hv] at hown
 have hwr:=World.rowIs.lt h.out
 have n1:w.heap.size+1+1∉se.ownBlock.toList:=fun hm=>by have:=(h.es.lt _ (Option.mem_toList.1 hm)).1;omega
 have n2: ∀q,sv.ownBlock=some q→q∉se.ownBlock.toList:=fun q hq hm=>own_apart h.vs h.es (by decide) hq (Option.mem_toList.1 hm)
 have t1:=Touch.of_below (F:=[]) hb
 have t2:=Touch.of_grown hgr
 have t3:Touch [w.heap.size+1+1] w5 (w5.setCell ⟨w.heap.size+1+1,1,none⟩ (.slice (some ⟨g,0,none⟩) (j+1) cap)):=(Touch.refl _ _).setCell (.inl (by simp)) _
 have hout:=rowIs_touch (rowIs_touch h.out t1 (by simp)) t2 n1
 refine⟨?_, ?_, ?_, ?_⟩
 ·refine World.rowIs.congr (World.rowIs.set hout 1 _) (fun i hi=> ?_)
  rcases i with _|_|i<;>first|rfl|omega
 ·refine ownsRow_touch (ownsRow_touch (ownsRow_touch h.vs t1 (fun _ _=>by simp)) t2 n2) t3 (fun q hq=> ?_)
  have:=(h.vs.lt q hq).1;simp;omega
 ·exact ownsRow_touch hown t3 (fun q hq=>by cases hq;have:=(hown.lt g rfl).1;simp;omega)
 ·exact(((h.below.trans (hb.mono (by omega))).grown hgr (by have:=hb.size;omega) (fun q hq=>by have:=(h.es.lt q hq).1;omega))).setCell (by simp) _
def PvPost (w:World) (vs:List VR) (es:List ER) (vn en:Nat) (e:Ending) (w':World):Prop:= ∃a1 c1 a2 c2,e= .returned (.agg #[.slice a1 vn c1, .slice a2 en c2])∧VsIn w' w'.heap.size a1 vn (vs.map vxOf)∧EsIn w' w'.heap.size a2 en (es.map edOf)∧Below w.heap.size w w'∧en≤c2
theorem own_cap {w:World} {base n c size:Nat} {e:TypeId} {a:Option Addr} {xs:List Value} (h:w.ownsRow base e size (.slice a n c) n xs):n≤c:=by
 obtain⟨-,h0|⟨g',cap',cur,hv,hb,hg,h1, -⟩⟩:=h
 ·obtain⟨h0, -⟩:=h0
  injection h0 with e1 e2 e3
  omega
 ·injection hv with e1 e2 e3
  omega
theorem PvIn.finish {T:TypeId} {w W wr w5:World} {vs:List VR} {es:List ER} {vn en c1 c2:Nat} {a1 a2:Option Addr} (h:PvIn T w W wr vs es (.slice a1 vn c1) (.slice a2 en c2) vn en) (hv:vn=vs.length) (he:en=es.length) (hw:Below w.heap.size w W) (hW:W.heap.size=w.heap.size+1+1+1) (t:Touch [w.heap.size+1] wr w5):
  PvPost w vs es vn en (.returned (.agg #[.slice a1 vn c1, .slice a2 en c2])) w5:=by
 have h1:=ownsRow_touch h.vs t (fun q hq=>by have:=(h.vs.lt q hq).1;simp;omega)
 have h2:=ownsRow_touch h.es t (fun q hq=>by have:=(h.es.lt q hq).1;simp;omega)
 rw[List.take_of_length_le (by omega)] at h1 h2
 refine⟨a1,c1,a2,c2,rfl,vsIn_of_own h1 hv,esIn_of_own h2 he, ?_,own_cap h2⟩
 exact(hw.trans (h.below.mono (by omega))).trans (t.below (by have:=hw.size;have:=h.below.size;omega) (fun b hb=>by simp at hb;omega))
end Go.Proofs.Ythopjhifepijiaa
namespace Go.Proofs.Ythopjhifepijiaa
open Go.RowKit
section
variable {P:Program} {md:Region.Mode} {ops:Array Oper} {Q:Exit→Act→World→Prop} {S:World→Prop} {B:Nat→Bool}
def allWait8 (md:Region.Mode) (ops:Array Oper) (B:Nat→Bool) (i:Nat):Bool:=
 (List.range ops.size).all fun j=>B j||reachB md ops i 6 j
theorem allWait8_spec {n i j:Nat} {oj:Oper} {listed:Array Bool} (inv:HeadInv md ops n listed) (h:allWait8 md ops B i=true) (hj:ops[j]? =some oj) (hl: ∀e∈oj.after,Region.binds md e=true→listed.getD e.on false=true) (hi:listed.getD i false=false):B j=true:=by
 have hlt:j<ops.size:=(Array.getElem?_eq_some_iff.1 hj).1
 have h:=List.all_eq_true.1 h j (List.mem_range.2 hlt)
 simp only[Bool.or_eq_true] at h
 rcases h with h|h
 ·exact h
 ·rw[reachB_listed inv 6 j h hj hl] at hi
  cases hi
theorem wpAny3_first8 {m i:Nat} {oi:Oper} {v:Value} (c:Bool) (T:TailOk md ops m) (hi:ops[i]? =some oi) (him:i<m) (hc:c=true→allWait8 md ops B i=true) (hQ: ∀c a w,Q (.panic c) (a.put oi.dst v) w→Q (.panic c) a w) (f:Nat):
  ∀(listed:Array Bool) (a:Act) (w:World),HeadInv md ops m listed→Apart md ops i oi listed→i∈Region.ready md ops listed→YieldsIf P ops (fun w=>c=true→S w) oi v a→(c=true→S w)→
   wpAny3 P md ops Q S B f (listed.setIfInBounds i true) (a.put oi.dst v) w→wpAny3 P md ops Q S B (f+1) listed a w:=by
 induction f with
 |zero=>
  intro listed a w inv hap hr hy hS H
  refine⟨fun h=>absurd hr (by rw[h];simp),fun j hj=> ?_⟩
  rcases Decidable.em (j=i) with rfl|hne
  ·exact hy.wpOp hi hS ⟨fun h _=>h,H⟩
  ·have:=ready_mono hj hne
   rw[H.1] at this
   cases this
 |succ f ih=>
  intro listed a w inv hap hr hy hS H
  refine⟨fun h=>absurd hr (by rw[h];simp),fun j hj=> ?_⟩
  have hjm:=T.head inv him hr hj
  rcases Decidable.em (j=i) with rfl|hne
  ·exact hy.wpOp hi hS ⟨fun h _=>h,H⟩
  ·have h1:=H.2 j (ready_mono hj hne)
   obtain⟨hjun,oj,hoj,hall⟩:=mem_ready.1 hj
   have hw: ∀e∈oj.after,Region.binds md e=true→e.on≠i:=by
    intro e he hb h
    have:=hall e he hb
    rw[h,getD_both (mem_ready.1 hr).1] at this
    cases this
   have h2:=wpOp_putIf hoj (hap j oj hoj hne hjun hw) (fun cs b=>T.sel i oi cs b hi) (fun cs b=>T.sel j oj cs b hoj) hQ hy h1
   refine wpOp_mono (fun a' w' h3=>⟨h3.2.1,ih _ a' w' (inv.set hj hjm) (hap.set hjun) (ready_mono hr (Ne.symm hne)) h3.1 (fun e=>h3.2.1 (hS e) (allWait8_spec inv (hc e) hoj hall (getD_both (mem_ready.1 hr).1))) ?_⟩) h2
   rw[Array.setIfInBounds_comm _ _ hne]
   exact h3.2.2
end
section
variable {P:Program} {ops:Array Oper} {Q:Exit→Act→World→Prop} {S:World→Prop} {n b f:Nat} {listed:Array Bool} {a:Act} {w w1:World}
theorem par3_read8 {o:Oper} {v:Value} (i:Nat) (hi:ops[i]? =some o) (hB:(decide (i<n)&&(Region.ready .any ops listed).contains i&&Region.free .any ops listed i&&allWait8 .any ops (fun j=>decide (j<b)) i)=true)
  (hw:Region.wanted o (yielded ops a.tmps)=true) (hS:S w) (hy: ∀w,S w→(execOp a.eval o).run P w= .ok (.value v) w) (hQ: ∀c a w,Q (.panic c) (a.put o.dst v) w→Q (.panic c) a w)
  (h:wpPar3 P ops Q S n b f (listed.setIfInBounds i true) (a.put o.dst v) w):wpPar3 P ops Q S n b (f+1) listed a w:=fun T inv hb=>by
 simp only[Bool.and_eq_true,decide_eq_true_eq] at hB
 have hr:i∈Region.ready .any ops listed:=by simpa using hB.1.1.2
 exact wpAny3_first8 true T hi hB.1.1.1 (fun _=>hB.2) hQ f listed a w inv (Region.free_spec hi hB.1.2) hr (.inl ⟨hw,fun w h=>hy w (h rfl)⟩) (fun _=>hS) (h T (inv.set hr hB.1.1.1) hb)
end
end Go.Proofs.Ythopjhifepijiaa
namespace Go.Proofs.Ythopjhifepijiaa
open Go.RowKit Go.Joins
open Go.Maps (Keyed)
def lkN (p:PL) (S:List Hf):Hf→Option Hf:=fun x=>if x∈S then some (nextP p x) else none
def lkP (p:PL) (S:List Hf):Hf→Option Hf:=fun y=>if prevP p y∈S∧nextP p (prevP p y)=y then some (prevP p y) else none
theorem lkN_add (p:PL) (S:List Hf) (h:Hf):updT (lkN p S) h (nextP p h)=lkN p (S++[h]):=by
 funext x
 unfold updT lkN
 by_cases e:x=h
 ·subst e;simp
 ·simp[e]
theorem lkP_add {p:PL} (r:RightP p) (S:List Hf) {h:Hf} (hh:h∈halvesE p.es):updT (lkP p S) (nextP p h) h=lkP p (S++[h]):=by
 funext y
 unfold updT lkP
 by_cases e:y=nextP p h
 ·subst e
  rw[if_pos rfl,r.prev_of_next hh]
  simp
 ·rw[if_neg e]
  have e2: ∀z,prevP p y=z→nextP p z=y→z≠h:=fun z h1 h2 h3=>e (by rw[←h2,h3])
  by_cases h1:nextP p (prevP p y)=y
  ·have h3:=e2 _ rfl h1
   simp[h1,h3]
  ·simp[h1]
theorem lkN_all {p:PL} (r:RightP p) {x:Hf} (hx:x∈halvesE p.es):lkN p (ringsP p).flatten x=some (nextP p x):=by
 unfold lkN
 rw[if_pos ((r.rings.2.2 x).2 hx)]
theorem lkP_all {p:PL} (r:RightP p) {x:Hf} (hx:x∈halvesE p.es):lkP p (ringsP p).flatten x=some (prevP p x):=by
 obtain⟨h1,h2⟩:=r.next_of_prev hx
 unfold lkP
 rw[if_pos ⟨(r.rings.2.2 _).2 h2,h1⟩]
theorem RgOut.ring9 {lo k:Nat} {w:World} {a:Option Addr} {L:List (List Hf)} {R:List Hf} (h:RgOut lo w a L) (hR:L[k]? =some R): ∃b g c,a=some ⟨b,0,none⟩∧lo≤b∧b<w.heap.size∧lo≤g∧g<w.heap.size∧w.cell? ⟨b,k,none⟩=some (.slice (some ⟨g,0,none⟩) R.length c)∧HsAt w g 0 R:=by
 rcases h with rfl|⟨b,e,h1,h2,hs⟩
 ·simp at hR
 ·obtain⟨g,c,hc,h3,h4,h5⟩:=hs k R hR
  exact⟨b,g,c,e,h1,h2,h3,h4,hc,h5⟩
structure LK (p:PL) (w1 wr:World) (b1 b2:Nat) (S:List Hf):Prop where
 m1:MapT wr Try.prog 45 b1 S.length ekH ekH (lkN p S)
 m2:MapT wr Try.prog 45 b2 S.length ekH ekH (lkP p S)
 tch:Touch [b1,b2] w1 wr
theorem LK.below {p:PL} {w1 wr w':World} {b1 b2:Nat} {S:List Hf} (h:LK p w1 wr b1 b2 S) (b:Below wr.heap.size wr w'):LK p w1 w' b1 b2 S:=
 ⟨h.m1.below b,h.m2.below b,h.tch.trans (Touch.of_below (F:=[]) b) (by simp)⟩
theorem take_add {L:List Hf} {i:Nat} {h:Hf} (hi:L[i]? =some h) (S:List Hf):S++L.take i++[h]=S++L.take (i+1):=by rw[take_snoc' hi,List.append_assoc]
theorem owp_update_T {α β:Type} [DecidableEq α] {P:Program} {o:Oper} {a:Act} {w:World} {K':Act→World→Prop} {Q:Exit→Act→World→Prop}
  (m x v:Operand) (t:TypeId) (hop:o.op=Op.mapUpdate t m x v) (k e:TypeId) (K:Keyed P k) (ht:P.underlying t=some (.map k e)) (b n:Nat) (ek:α→Value) (ev:β→Value) (g:α→Option β)
  (hown:MapT w P k b n ek ev g) (hm:a.eval m= .map (some b)) (hn:n<maxLen) (y:α) (l:Lit) (hx:a.eval x=ek y) (hkey:keyOf P k (ek y)=some l) (hinj: ∀z,ek z=ek y→z=y) (u:β) (hv:a.eval v=ev u)
  (hK: ∀w',MapT w' P k b (n+1) ek ev (updT g y u)→w.grownBy w' (some b)→K' (a.put o.dst undef) w'):Owp P o a w K' Q:=by
 obtain⟨D,hD,hgx⟩:=hown
 obtain⟨w',hrun,r1,r2⟩:=hD.update K ht hn hkey (val:=ev u) (d:= .held (ev u)) (ps:=[]) rfl
 refine⟨?_⟩
 unfold Oper.wp
 simp[execOp,hop,hm,hx,hv,hrun,Result.andThen,Oper.upon]
 exact hK w' ⟨_,r1,put_T hD.isMap K hkey hinj u hgx⟩ r2
set_option maxRecDepth 100000 in
set_option maxHeartbeats 8000000 in
theorem links_any {w:World} {B vn vc en ec:Nat} {va ea:Option Addr} {p:PL} (r:RightP p) (hv:VsIn w B va vn p.vs) (he:EsIn w B ea en p.es) (hB:B≤w.heap.size) (hec:en≤ec) (hfit:FitPL p):
  Calls Try.prog 63 #[.agg #[.slice va vn vc, .slice ea en ec]] w fun e w'=>(∃b1 b2 n,e= .returned (.tuple #[.map (some b1), .map (some b2)])∧w.heap.size≤b1∧w.heap.size≤b2∧b1≠b2∧MapT w' Try.prog 45 b1 n ekH ekH (lkN p (ringsP p).flatten)∧MapT w' Try.prog 45 b2 n ekH ekH (lkP p (ringsP p).flatten))∧Below w.heap.size w w':=by
 have HRI:=fun(W:World) (hb:Below w.heap.size w W)=>Lib.hid (spinRings_any (w:=W) (vc:=vc) (ec:=ec) r (hv.below (hb.mono hB)) (he.below (hb.mono hB)) (Nat.le_trans hB hb.size) hec hfit)
 have HF:=Lib.hid hfit
 have HR:=Lib.hid r
 have HRN:=Lib.hid r.rings_few
 have hmm:= @run_makeMap Try.prog
 clear hv he hfit r
 go_enter Try.func63,Try.ntmps63
 go_wp2_with fail
 first|refine wp_name (fun W hW=> ?_)|refine calls_name (fun W hW=> ?_)
 have HW:Hid (Below w.heap.size w W):=Lib.hid (by rw[←hW];repeat (first|exact Below.refl _ _|refine below_alloc ?_))
 have HWs:Hid (W.heap.size=w.heap.size+1+1+1):=Lib.hid (by rw[←hW];simp)
 skip
 have HC:=fun(W1:World) (hb:Touch ([w.heap.size+1,w.heap.size+1+1]) W W1)=>Lib.hid (show W1.cell? ⟨w.heap.size,0,none⟩=some (.slice va vn vc)∧W1.cell? ⟨w.heap.size,1,none⟩=some (.slice ea en ec) from by have hs:=HWs.out;refine⟨?_, ?_⟩<;>(refine(touch_cell hb (by omega) (by first|(simp;done)|(simp;omega)|(intro hm;simp at hm;omega))).trans ?_;rw[←hW];clear hW;go_simp))
 have HB:=Lib.hid (Touch.refl ([w.heap.size+1,w.heap.size+1+1]) W)
 have HZ:=fun(W1:World) (hb:W.heap.size≤W1.heap.size)=>Lib.hid (show w.heap.size<W1.heap.size from by have:=HWs.out;omega)
 obtain⟨qx0,qx1⟩:=(HC _ HB.out).out
 have rx0:=(HZ _ HB.out.size).out
 have HM0:=Lib.hid (show MapT W Try.prog 45 (w.heap.size+1) 0 ekH ekH (fun _=>none)∧MapT W Try.prog 45 (w.heap.size+1+1) 0 ekH ekH (fun _=>none) from by
  have e:(w.alloc (.cells #[.slice va vn vc, .slice ea en ec] 30)).heap.size=w.heap.size+1:=by simp
  have e2:((w.alloc (.cells #[.slice va vn vc, .slice ea en ec] 30)).alloc (.map #[] 0)).heap.size=w.heap.size+1+1:=by simp
  have h1:=MapT.made (w.alloc (.cells #[.slice va vn vc, .slice ea en ec] 30)) Try.prog 45 ekH ekH
  have h2:=MapT.made ((w.alloc (.cells #[.slice va vn vc, .slice ea en ec] 30)).alloc (.map #[] 0)) Try.prog 45 ekH ekH
  rw[e] at h1
  rw[e2] at h2
  rw[←hW]
  exact⟨MapT.alloc h1 _,h2⟩)
 have HFF:Hid (∀b∈[w.heap.size+1,w.heap.size+1+1],w.heap.size≤b):=Lib.hid (by intro b hb;simp at hb;omega)
 clear hW
 go_wp2_with fail
 refine(HRI _ HW.out).out.mono ?_
 rintro e w1 ⟨ra,rc,rfl,hro,hb1⟩
 have HU:=Lib.hid (hro.mono (show w.heap.size+1+1+1≤W.heap.size by have:=HWs.out;omega))
 have HL0:=Lib.hid (show LK p w1 w1 (w.heap.size+1) (w.heap.size+1+1) [] from⟨HM0.out.1.below hb1,HM0.out.2.below hb1,Touch.refl _ _⟩)
 have HX1:=Lib.hid (below_step hb1 HW.out)
 have HSZ:=Lib.hid (show w.heap.size+1+1<w1.heap.size from by have:=HWs.out;have:=hb1.size;omega)
 clear hro hb1
 obtain⟨N,hN⟩: ∃N,N=(ringsP p).length:=⟨_,rfl⟩
 rw[←hN] at HRN ⊢
 have HNL:=Lib.hid hN
 have hNb:N≤2048:=by have:=HRN.out;have:=HR.out.ne;omega
 clear hN
 go_wp2_with fail
 go_loopw [16] (fun v wr=> ∃k:Nat,k≤N∧v= .int .i64 k∧LK p w1 wr (w.heap.size+1) (w.heap.size+1+1) ((ringsP p).take k).flatten) (fun v _=>N - (intOf v).toNat)
 case atStart=>exact⟨0,Nat.zero_le _,rfl,HL0.out⟩
 case round=>
  clear HL0 HM0
  obtain⟨k,hk,rfl,hI⟩:=hrel
  obtain⟨wq,rfl⟩: ∃x:World,x=wr:=⟨_,rfl⟩
  have HI:=Lib.hid hI
  clear hI
  by_cases hlt:k<N
  ·obtain⟨L,hL⟩: ∃L,(ringsP p)[k]? =some L:=⟨_,List.getElem?_eq_getElem (by have:=HNL.out;omega)⟩
   have HLK:=Lib.hid hL
   have hmem:=List.mem_of_getElem? hL
   obtain⟨lb,rg,lc,rfl,hb1,hb2,hg1,hg2,hcl,hsl⟩:=HU.out.ring9 hL
   obtain⟨h0,m0,hring⟩:=HR.out.rings.1 L hmem
   have HMH:=Lib.hid (show∀y∈L,y∈halvesE p.es from fun y hy=>(hring.mem y hy).1)
   have hat: ∀i h,L[i]? =some h→L[(i+1) % L.length]? =some (nextP p h):=fun i h hh=>by
    obtain⟨h1,h2⟩:=List.getElem?_eq_some_iff.1 hh
    rw[HR.out.ring_at hmem h1,h2]
   obtain⟨m,hm⟩: ∃m,m=L.length:=⟨_,rfl⟩
   rw[←hm] at hcl hat
   have HAT:=Lib.hid hat
   have HML:=Lib.hid hm
   have hmb:m≤2048:=by
    have h1:=nodup_len hring.nd (fun x hx=>(hring.mem x hx).1)
    rw[halves_len] at h1
    have:=HR.out.ne
    omega
   have HYQ:=fun(W1:World) (t:Touch [w.heap.size+1,w.heap.size+1+1] w1 W1)=>Lib.hid (show W1.cell? ⟨lb,k,none⟩=some (.slice (some ⟨rg,0,none⟩) m lc)∧HsAt W1 rg 0 L from⟨(t.cell (p:=⟨lb,k,none⟩) hb2 (by simp;omega)).trans hcl,hsl.touch t hg2 (by simp;omega)⟩)
   have c0:=(HYQ _ HI.out.tch).out.1
   have HLEN:=Lib.hid (show∀j≤m,(((ringsP p).take k).flatten++L.take j).length≤2048 from fun j hj=>by
    have h1:(((ringsP p).take k).flatten++L.take j).Nodup:=by
     have h2:=HR.out.rings.2.1
     have h3:(ringsP p).flatten=((ringsP p).take k).flatten++(L++((ringsP p).drop (k+1)).flatten):=by
      have h4:=List.take_append_drop k (ringsP p)
      rw[List.drop_eq_getElem_cons (by have:=HNL.out;omega)] at h4
      have h5:(ringsP p)[k]'(by have:=HNL.out;omega)=L:=(List.getElem?_eq_some_iff.1 HLK.out).2
      rw[h5] at h4
      conv=>lhs;rw[←h4]
      rw[List.flatten_append,List.flatten_cons]
     rw[h3, ←List.append_assoc] at h2
     have h6:=List.Nodup.sublist (List.sublist_append_left _ _) h2
     exact List.Nodup.sublist ((List.Sublist.refl _).append (List.take_sublist _ _)) h6
    have h2:=nodup_len h1 (fun x hx=>by
     rcases List.mem_append.1 hx with hx|hx
     ·obtain⟨S,hS,hx⟩:=List.mem_flatten.1 hx
      exact(HR.out.rings.2.2 x).1 (List.mem_flatten.2 ⟨S,List.mem_of_mem_take hS,hx⟩)
     ·exact HMH.out x (List.mem_of_mem_take hx))
    rw[halves_len] at h2
    have:=HR.out.ne
    omega)
   have hlbq:lb<wq.heap.size:=Nat.lt_of_lt_of_le hb2 HI.out.tch.size
   clear hL hmem hring hm hcl hsl hat
   go_wp2_with fail
   go_loopw [22] (fun v wi=> ∃i:Nat,i≤m∧v= .int .i64 i∧LK p w1 wi (w.heap.size+1) (w.heap.size+1+1) (((ringsP p).take k).flatten++L.take i)) (fun v _=>m - (intOf v).toNat)
   case atStart=>exact⟨0,Nat.zero_le _,rfl,by rw[List.take_zero,List.append_nil];exact HI.out⟩
   case round=>
    clear HI c0
    obtain⟨i,hi,rfl,hI⟩:=hrel
    obtain⟨wi,rfl⟩: ∃x:World,x=wr:=⟨_,rfl⟩
    have HI:=Lib.hid hI
    have HSI:=Lib.hid hI.tch.size
    clear hI
    by_cases hlm:i<m
    ·obtain⟨h,hh⟩: ∃h,L[i]? =some h:=⟨_,List.getElem?_eq_getElem (by have:=HML.out;omega)⟩
     have hn:=HAT.out i h hh
     have HHI:=Lib.hid hh
     have HHM:=Lib.hid (HMH.out h (List.mem_of_getElem? hh))
     have hsm:(i+1) % m<m:=Nat.mod_lt _ (by omega)
     have hrm:((i:Int)+1).tmod (m:Int)=(((i+1) % m:Nat):Int):=by rw[Int.tmod_eq_emod_of_nonneg (by omega)];first|exact(Int.natCast_emod (i+1) m).symm|exact(Int.ofNat_emod (i+1) m).symm|simp
     generalize (i+1) % m=s at hn hsm hrm
     generalize hnx:nextP p h=nx at hn
     have HNX:=Lib.hid hnx
     have HNM:=Lib.hid (HMH.out nx (List.mem_of_getElem? hn))
     obtain⟨c0,c1⟩:=(HYQ _ HI.out.tch).out.2 i h hh
     obtain⟨d0,d1⟩:=(HYQ _ HI.out.tch).out.2 s nx hn
     have hrgi:rg<wi.heap.size:=Nat.lt_of_lt_of_le hg2 HSI.out
     rw[Nat.zero_add] at c0 c1 d0 d1
     clear hh hn hnx
     have hLn:=HLEN.out (i+1) (by omega)
     have HADD:=Lib.hid (take_add HHI.out ((ringsP p).take k).flatten)
     generalize hS:((ringsP p).take k).flatten++L.take i=S at HI HADD
     have HLS:=Lib.hid (show S.length≤2048 from by rw[←hS];exact HLEN.out i hi)
     have HKH:=Lib.hid (key_h (HF.out.half HHM.out))
     have HKN:=Lib.hid (key_h (HF.out.half HNM.out))
     clear hS hLn
     go_wp2_with fail
     refine wp_name (fun V hV=> ?_)
     have HBV:=Lib.hid (show Below wi.heap.size wi V from by rw[←hV];exact below_alloc (below_alloc (Below.refl _ _)))
     have HVs:=Lib.hid (show V.heap.size=wi.heap.size+1+1 from by rw[←hV];simp)
     have HCV:=Lib.hid (show V.cell? ⟨wi.heap.size,0,none⟩=some (.int .i64 h.edge)∧V.cell? ⟨wi.heap.size,1,none⟩=some (.bool h.back)∧V.cell? ⟨wi.heap.size+1,0,none⟩=some (.int .i64 nx.edge)∧V.cell? ⟨wi.heap.size+1,1,none⟩=some (.bool nx.back) from by
      rw[←hV]
      clear hV
      refine⟨?_, ?_, ?_, ?_⟩<;>(go_simp))
     clear hV c0 c1 d0 d1
     have IV:=Lib.hid (HI.out.below HBV.out)
     have HY:=fun(w':World) (t:Touch [w.heap.size+1] V w')=>Lib.hid (show w'.cell? ⟨wi.heap.size,0,none⟩=some (.int .i64 h.edge)∧w'.cell? ⟨wi.heap.size,1,none⟩=some (.bool h.back)∧w'.cell? ⟨wi.heap.size+1,0,none⟩=some (.int .i64 nx.edge)∧w'.cell? ⟨wi.heap.size+1,1,none⟩=some (.bool nx.back) from by
      obtain⟨e0,e1,e2,e3⟩:=HCV.out
      have h1:=HVs.out
      have h2:=HSI.out
      have h3:=HSZ.out
      exact⟨(t.cell (p:=⟨wi.heap.size,0,none⟩) (show wi.heap.size<V.heap.size by omega) (by simp;omega)).trans e0,(t.cell (p:=⟨wi.heap.size,1,none⟩) (show wi.heap.size<V.heap.size by omega) (by simp;omega)).trans e1,(t.cell (p:=⟨wi.heap.size+1,0,none⟩) (show wi.heap.size+1<V.heap.size by omega) (by simp;omega)).trans e2,(t.cell (p:=⟨wi.heap.size+1,1,none⟩) (show wi.heap.size+1<V.heap.size by omega) (by simp;omega)).trans e3⟩)
     have HS0:=Lib.hid (Touch.refl [w.heap.size+1] V).drew
     have ID:=Lib.hid (IV.out.below (Below.refl V.heap.size V).drew)
     refine wp_region_noPanic ?_
     refine wp_region_par3 7 7 (by kernel_rfl) (by kernel_rfl) (by simp) (by omega) (by kernel_rfl) (by kernel_rfl) (fun w':World=>Touch [w.heap.size+1] V w') ?_
     refine par3_move (v:= ?_) 0 (by simp only[zga,zgb,zgc];rfl) (by kernel_rfl) (by rfl) ?_ (fun _ _ _ h=>h) ?_
     rotate_left
     ·(intro w9;go_simp;try with_reducible rfl)
     simp only[Act.put,zpa,zpb,zpc]
     refine par3_read8 (v:= ?_) 1 (by simp only[zga,zgb,zgc];rfl) (by kernel_rfl) (by rfl) HS0.out ?_ (fun _ _ _ h=>h) ?_
     rotate_left
     ·(intro w9 hSw;obtain⟨y0,y1,y2,y3⟩:=(HY w9 hSw).out;clear hSw;go_simp;try with_reducible rfl)
     simp only[Act.put,zpa,zpb,zpc]
     refine par3_move (v:= ?_) 2 (by simp only[zga,zgb,zgc];rfl) (by kernel_rfl) (by rfl) ?_ (fun _ _ _ h=>h) ?_
     rotate_left
     ·(intro w9;go_simp;try with_reducible rfl)
     simp only[Act.put,zpa,zpb,zpc]
     refine par3_read8 (v:= ?_) 3 (by simp only[zga,zgb,zgc];rfl) (by kernel_rfl) (by rfl) HS0.out ?_ (fun _ _ _ h=>h) ?_
     rotate_left
     ·(intro w9 hSw;obtain⟨y0,y1,y2,y3⟩:=(HY w9 hSw).out;clear hSw;go_simp;try with_reducible rfl)
     simp only[Act.put,zpa,zpb,zpc]
     refine par3_read8 (v:= ?_) 4 (by simp only[zga,zgb,zgc];rfl) (by kernel_rfl) (by rfl) HS0.out ?_ (fun _ _ _ h=>h) ?_
     rotate_left
     ·(intro w9 hSw;obtain⟨y0,y1,y2,y3⟩:=(HY w9 hSw).out;clear hSw;go_simp;try with_reducible rfl)
     simp only[Act.put,zpa,zpb,zpc]
     refine par3_read8 (v:= ?_) 5 (by simp only[zga,zgb,zgc];rfl) (by kernel_rfl) (by rfl) HS0.out ?_ (fun _ _ _ h=>h) ?_
     rotate_left
     ·(intro w9 hSw;obtain⟨y0,y1,y2,y3⟩:=(HY w9 hSw).out;clear hSw;go_simp;try with_reducible rfl)
     simp only[Act.put,zpa,zpb,zpc]
     refine par3_nm (fun W0 hW0=> ?_)
     rw[←hW0] at HS0 ID
     clear hW0
     refine par3_one 6 (by simp only[zga,zgb,zgc];rfl) (by kernel_rfl) (by rfl) ?_
     refine owp_update_T _ _ _ 116 rfl 45 45 Try.keyHalf Try.underlying116 (w.heap.size+1) S.length ekH ekH (lkN p S) ID.out.m1 rfl (by have:=HLS.out;unfold maxLen;omega) h _ rfl HKH.out (ekH_inj _) nx rfl ?_
     intro w5 hm5 hg5
     have HM5:=Lib.hid (show MapT w5 Try.prog 45 (w.heap.size+1) (S.length+1) ekH ekH (lkN p (S++[h])) from by rw[←HNX.out,lkN_add] at hm5;exact hm5)
     have HN5:=Lib.hid (ID.out.m2.touch (Touch.of_grown hg5) (by simp))
     have HT5:=Lib.hid (ID.out.tch.trans (Touch.of_grown hg5) (by simp))
     refine⟨fun s _=>s.trans (Touch.of_grown hg5) (fun b hb=> .inl hb), ?_⟩
     clear hm5 hg5
     simp only[Act.put,zpa,zpb,zpc]
     refine par3_tail _ (by simp only[List.drop_succ_cons,List.drop_zero];rfl) (by kernel_rfl) ?_
     go_wp2_with (at_mapUpdate;refine wpList_update_T _ rfl _ _ _ 116 rfl 45 45 Try.keyHalf Try.underlying116 (w.heap.size+1+1) S.length ekH ekH (lkP p S) HN5.out rfl (by have:=HLS.out;unfold maxLen;omega) nx _ rfl HKN.out (ekH_inj _) h rfl ?_;intro w6 hm6 hg6;have HM6:=Lib.hid (show LK p w1 w6 (w.heap.size+1) (w.heap.size+1+1) (S++[h]) from⟨by rw[List.length_append];exact HM5.out.touch (Touch.of_grown hg6) (by simp),by rw[List.length_append];rw[←HNX.out,lkP_add HR.out S HHM.out] at hm6;exact hm6,HT5.out.trans (Touch.of_grown hg6) (by simp)⟩);clear hm6 hg6)
     refine NoPanic.normal ?_
     go_wp2_with fail
     go_roundw
     case rel=>exact⟨i+1,by omega,by go_num,by rw[←HADD.out];exact HM6.out⟩
     case measure=>simp[intOf];omega
    ·have I9:=Lib.hid (show LK p w1 wi (w.heap.size+1) (w.heap.size+1+1) ((ringsP p).take (k+1)).flatten from by
      have h:=HI.out
      have e:L.take i=L:=List.take_of_length_le (by have:=HML.out;omega)
      rw[e] at h
      rw[take_snoc' HLK.out,List.flatten_append]
      simpa using h)
     go_wp2_with fail
     go_roundw
     case rel=>exact⟨k+1,by omega,by go_num,I9.out⟩
     case measure=>simp[intOf];omega
  ·have HZ9:=Lib.hid (show LK p w1 wq (w.heap.size+1) (w.heap.size+1+1) (ringsP p).flatten from by
    have h:=HI.out
    rw[List.take_of_length_le (by have:=HNL.out;omega)] at h
    exact h)
   have HXF:=Lib.hid (HX1.out.trans (HI.out.tch.below (by have:=HSZ.out;omega) (by simp;omega)))
   go_wp2_with fail
   go_ret2
   exact⟨⟨_,_,_,rfl,by omega,by omega,by omega,HZ9.out.m1,HZ9.out.m2⟩,HXF.out⟩
end Go.Proofs.Ythopjhifepijiaa
namespace Go.Proofs.Ythopjhifepijiaa
def pOf (vs:List VR) (es:List ER):PL:=⟨vs.map vxOf,es.map edOf⟩
def rowN (e:ER) (b:Bool):Hf:=if b=true then⟨e.n1,e.m1⟩ else⟨e.n0,e.m0⟩
def rowP (e:ER) (b:Bool):Hf:=if b=true then⟨e.p1,e.q1⟩ else⟨e.p0,e.q0⟩
def rowF (e:ER) (b:Bool):Int:=if b=true then e.f1 else e.f0
def gf1 (g:Hf→Option Int) (e:ER) (i:Nat):Hf→Option Int:=if i=0 then g else if i=1 then updT g ⟨e.id,false⟩ e.f0 else updT (updT g ⟨e.id,false⟩ e.f0) ⟨e.id,true⟩ e.f1
def gfM (l:List ER):Hf→Option Int:=l.foldl (fun g e=>gf1 g e 2) (fun _=>none)
def gaM (l:List VR):Int→Option Int:=l.foldl (fun g v=>updT g v.id v.f) (fun _=>none)
theorem gfM_snoc (l:List ER) (e:ER):gfM (l++[e])=gf1 (gfM l) e 2:=by unfold gfM;rw[List.foldl_append];rfl
theorem gaM_snoc (l:List VR) (v:VR):gaM (l++[v])=updT (gaM l) v.id v.f:=by unfold gaM;rw[List.foldl_append];rfl
def LinkOk (p:PL) (e:ER) (b:Bool):Prop:=rowN e b=nextP p ⟨e.id,b⟩∧rowP e b=prevP p ⟨e.id,b⟩
def parts18 (p:PL):List RM:=realmsP p (pieceR p) (-1)
structure Sound (vs:List VR) (es:List ER) (fs:List FR):Prop where
 r:RightP (pOf vs es)
 ln: ∀e∈es, ∀b,LinkOk (pOf vs es) e b
 one: ∀x∈parts18 (pOf vs es), ∃id,oneB (gfM es) (gaM vs) x id=true
 num:fs.length=(parts18 (pOf vs es)).length
theorem mem_half_row {vs:List VR} {es:List ER} {e:ER} (he:e∈es) (b:Bool):(⟨e.id,b⟩:Hf)∈halvesE (pOf vs es).es:=mem_halves.2 ⟨edOf e,List.mem_map_of_mem he,rfl⟩
structure FitT (vs:List VR) (es:List ER) (fs:List FR):Prop where
 pl:FitPL (pOf vs es)
 v: ∀v∈vs,fitI v.f
 e: ∀e∈es,fitI e.f0∧fitI e.f1
 f: ∀f∈fs,fitI f.id
end Go.Proofs.Ythopjhifepijiaa
