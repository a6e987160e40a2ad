/- Lemmas on the way to the statement: BtWkW, BtWlk, Pairs4, BtAll, BtAll2, BtInv, Pairs5. -/
import Derived.Test.YtjgkegkinnlcoaaGreatDoorJ16
import Derived.Laws.EntriesVeiled
set_option linter.unusedSimpArgs false
set_option linter.unusedVariables false
namespace Go.Proofs.YtjgkegkinnlcoaaGreatDoor
open Go.RowKit Go.Maps Go.Joins
theorem cell_one_new {w:World} {t:TypeId} {a u:Value} {q:Nat} (h:[a][q]? =some u):(w.alloc (.cells #[a] t)).cell? ⟨w.heap.size,q,none⟩=some u:=by
 unfold World.cell?
 rw[heap_alloc_new]
 rcases q with _|q
 ·simpa using h
 ·simp at h
theorem WkAt.met {w0 w w3 w4:World} {p K B g cap:Nat} {M:PM} {X:List Nat} {c:WkB} {vp vo:Value} {s:WS} {no:Int} {o:Obj} (h:WkAt w0 w p K M X B c vp vo s) (hm:MapT w3 Tryz.prog 3 c.mb (s.pages.length+1) (Value.int .i64) Value.bool (updT (metG s.pages) no true)) (hg3:w.grownBy w3 (some c.mb))
  (ho:w4.ownsRow B 3 1 (.slice (some ⟨g,0,none⟩) (s.pages.length+1) cap) (s.pages.length+1) (s.pages.map (Value.int .i64)++[.int .i64 no])) (hg4:(w3.alloc o).grownBy w4 vp.ownBlock) (hnr:vp.ownBlock=some g∨(w3.alloc o).heap.size≤g):
  WkAt w0 (w4.setCell ⟨c.cp,0,none⟩ (.slice (some ⟨g,0,none⟩) (s.pages.length+1) cap)) p K M X B c (.slice (some ⟨g,0,none⟩) (s.pages.length+1) cap) vo ⟨s.pages++[no],s.out,s.depth⟩∧SameX X w (w4.setCell ⟨c.cp,0,none⟩ (.slice (some ⟨g,0,none⟩) (s.pages.length+1) cap)):=by
 obtain⟨n1,n2,n3,n4,n5,n6⟩:=h.nds
 obtain⟨a1,a2,a3,a4,a5,a6,a7,a8,a9,b1,b2,b3,b4,b5,b6,b7,b8,b9⟩:=WkB.ne n1
 have t3:Touch [c.mb] w w3:=Touch.of_grown hg3
 have t4:Touch vp.ownBlock.toList (w3.alloc o) w4:=Touch.of_grown hg4
 have hbo:=blkOf_own h.op
 have hcpv:c.cp∉vp.ownBlock.toList:=fun hm=>n4 _ (by rw[hbo];exact hm) (by simp[WkB.l])
 have hmbv:c.mb∉vp.ownBlock.toList:=fun hm=>n4 _ (by rw[hbo];exact hm) (by simp[WkB.l])
 have hgc:g≠c.cp:=by
  rcases hnr with e|e
  ·intro e2;exact hcpv (by rw[e,e2];simp)
  ·have:=h.pg.lt c.cp (by simp[WkB.l]);have:=t3.size;rw[World.size_alloc_eq] at e;omega
 have tc:Touch [c.cp] w4 (w4.setCell ⟨c.cp,0,none⟩ (.slice (some ⟨g,0,none⟩) (s.pages.length+1) cap)):=(Touch.refl [c.cp] w4).setCell (.inl (by simp)) _
 have t:Touch (c.mb::c.cp::blkOf vp) w (w4.setCell ⟨c.cp,0,none⟩ (.slice (some ⟨g,0,none⟩) (s.pages.length+1) cap)):=
  ((((Touch.refl (c.mb::c.cp::blkOf vp) w).trans t3 (fun b hb=> .inl (by simp at hb;simp[hb]))).alloc o).trans t4 (fun b hb=> .inl (by rw[←hbo] at hb;simp[hb]))).trans tc (fun b hb=> .inl (by simp at hb;simp[hb]))
 have hrow:=rowIs_touch (rowIs_touch (rowIs_touch h.rp t3 (by simpa using a9)) (F:=[]) ((Touch.refl [] w3).alloc o) (by simp)) t4 hcpv
 refine⟨h.add (v':= .slice (some ⟨g,0,none⟩) (s.pages.length+1) cap) (((MapT.alloc hm o).touch t4 hmbv).touch tc (by simpa using a9.symm)) ?_ ?_ (fun q hq=> ?_) t,SameX.of_touch t (fun x hx=>⟨h.pg.lt x (by simp[hx]), ?_⟩)⟩
 ·rw[List.length_append,List.map_append]
  exact ownsRow_touch ho tc (fun q hq=>by simp[Value.ownBlock] at hq;subst hq;simpa using hgc)
 ·exact World.rowIs.congr (hrow.set 0 (.slice (some ⟨g,0,none⟩) (s.pages.length+1) cap)) (fun i hi=>by rcases i with _|i<;>first|rfl|(exfalso;omega))
 ·have hq:q=g:=by simpa[blkOf] using hq
  subst hq
  rcases hnr with e|e
  ·exact .inl (by rw[hbo,e];simp)
  ·have:=t3.size;rw[World.size_alloc_eq] at e;exact .inr (by omega)
 ·simp only[List.mem_cons,not_or]
  exact⟨fun e=>(h.xx x hx).1 (by rw[e];simp[WkB.l]),fun e=>(h.xx x hx).1 (by rw[e];simp[WkB.l]),(h.xx x hx).2.1⟩
theorem WkAt.met_cell {w0 w w3:World} {p K B:Nat} {M:PM} {X:List Nat} {c:WkB} {vp vo:Value} {s:WS} (h:WkAt w0 w p K M X B c vp vo s) (hg3:w.grownBy w3 (some c.mb)):w3.rowIs c.cp 67 1 (fun _=>vp)∧w3.ownsRow B 3 1 vp s.pages.length (s.pages.map (Value.int .i64))∧w.heap.size≤w3.heap.size:=by
 obtain⟨n1,n2,n3,n4,n5,n6⟩:=h.nds
 obtain⟨a1,a2,a3,a4,a5,a6,a7,a8,a9,b1,b2,b3,b4,b5,b6,b7,b8,b9⟩:=WkB.ne n1
 have t3:Touch [c.mb] w w3:=Touch.of_grown hg3
 refine⟨rowIs_touch h.rp t3 (by simpa using a9),ownsRow_touch h.op t3 (fun g hg=> ?_),t3.size⟩
 have:=n4 g (by rw[blkOf_own h.op];simp[hg])
 simp
 intro e
 exact this (by rw[e];simp[WkB.l])
theorem WkAt.met_cell4 {w0 w w3 w4:World} {p K B:Nat} {M:PM} {X:List Nat} {c:WkB} {vp vo:Value} {s:WS} {o:Obj} (h:WkAt w0 w p K M X B c vp vo s) (hr:w3.rowIs c.cp 67 1 (fun _=>vp)) (hg4:(w3.alloc o).grownBy w4 vp.ownBlock):w4.rowIs c.cp 67 1 (fun _=>vp):=by
 obtain⟨n1,n2,n3,n4,n5,n6⟩:=h.nds
 exact rowIs_touch (rowIs_touch hr (F:=[]) ((Touch.refl [] w3).alloc o) (by simp)) (Touch.of_grown hg4) (fun hm=>n4 _ (by rw[blkOf_own h.op];exact hm) (by simp[WkB.l]))
theorem WkAt.goZ {w0 w w':World} {p K J B:Nat} {M M':PM} {X Z:List Nat} {c:WkB} {vp vo:Value} {s:WS} (h:WkAt w0 w p K M X B c vp vo s) (hp:PgX w0 w' p J M' (Z++(c.l++(blkOf vp++(blkOf vo++X))))) (hs:SameX (c.l++(blkOf vp++(blkOf vo++X))) w w') (hZ: ∀z∈Z,w.heap.size≤z):WkAt w0 w' p J M' (Z++X) B c vp vo s:=by
 have h2:=h.go (hp.sub (fun y hy=>by simp only[List.mem_append] at hy ⊢;exact .inr hy)) hs
 have hl:=fun g hg=>h.lt (g:=g) hg
 refine⟨hp.sub (fun y hy=> ?_),h2.rm,h2.rp,h2.rq,h2.rd,h2.ro,h2.rf,h2.mp,h2.op,h2.oo,h2.nd,fun x hx=> ?_,h2.lo,h2.lc⟩
 ·simp only[List.mem_append] at hy ⊢
  rcases hy with hy|hy|hy|hy|hy<;>simp[hy]
 ·rcases List.mem_append.1 hx with hx|hx
  ·have:=hZ x hx
   exact⟨fun hm=>by have:=hl x (.inl hm);omega,fun hm=>by have:=hl x (.inr (.inl hm));omega,fun hm=>by have:=hl x (.inr (.inr hm));omega⟩
  ·exact h.xx x hx
theorem WkAt.newZ {w0 w w':World} {p K B:Nat} {M:PM} {X Z:List Nat} {c:WkB} {vp vo:Value} {s:WS} (h:WkAt w0 w p K M X B c vp vo s) (hb:Below w.heap.size w w') (hZ: ∀z∈Z,w.heap.size≤z∧z<w'.heap.size):WkAt w0 w' p K M (Z++X) B c vp vo s:=by
 refine h.goZ (h.pg.move hb (fun y hy=> ?_)) (SameX.of_below hb h.pg.lt) (fun z hz=>(hZ z hz).1)
 rcases List.mem_append.1 hy with hy|hy
 ·exact .inr (hZ y hy)
 ·exact .inl hy
theorem WkAt.subX {w0 w:World} {p K J B:Nat} {M:PM} {X Y:List Nat} {c:WkB} {vp vo:Value} {s:WS} (h:WkAt w0 w p K M Y B c vp vo s) (hs: ∀x∈X,x∈Y) (hJ:K≤J):WkAt w0 w p J M X B c vp vo s:=
 ⟨(h.pg.sub (fun y hy=>by
  simp only[List.mem_append] at hy ⊢
  rcases hy with hy|hy|hy|hy
  ·simp[hy]
  ·simp[hy]
  ·simp[hy]
  ·simp[hs y hy])).mono hJ,h.rm,h.rp,h.rq,h.rd,h.ro,h.rf,h.mp,h.op,h.oo,h.nd,fun x hx=>h.xx x (hs x hx),h.lo,h.lc⟩
theorem pdrop_at' {α:Type} {l:List α} {j:Nat} {p:α} (h:l[j]? =some p):l.drop j=p::l.drop (j+1):=by
 obtain⟨hj,rfl⟩:=List.getElem?_eq_some_iff.1 h
 exact List.drop_eq_getElem_cons hj
def WkPost (w0 w:World) (p K:Nat) (M:PM) (X:List Nat) (B:Nat) (c:WkB) (r:Int × WS) (e:Ending) (w':World):Prop:=
 e= .returned (.int .i64 r.1)∧(∃vp vo,WkAt w0 w' p (K+4*r.2.pages.length) M X B c vp vo r.2)∧SameX X w w'∧(r.1=0→WOk M r.2∧r.2.out.length≤40*r.2.pages.length)
theorem wlkL_succ (M:PM) (f:Nat) (no low high:Int) (op:Bool) (s:WS):wlkL M (f+1) no low high op s=if s.pages.contains no=true then(19,s) else
  if (ndRead M no).1≠0 then((ndRead M no).1, { s with pages:=s.pages++[no] }) else
  if keysIn low high op (ndRead M no).2.keys=false then(19, { s with pages:=s.pages++[no] }) else
  if f<15∧thinN (ndRead M no).2=true then(19, { s with pages:=s.pages++[no] }) else
  if (ndRead M no).2.leaf=true then
   (if (if s.depth=0 then 16 - f else s.depth)≠16 - f then(19, { s with pages:=s.pages++[no],depth:=if s.depth=0 then 16 - f else s.depth }) else(0, { s with pages:=s.pages++[no],depth:=if s.depth=0 then 16 - f else s.depth,out:=s.out++(ndRead M no).2.keys.zip (ndRead M no).2.vals }))
  else(spanN (ndRead M no).2 low high op).foldl (fun a q=>if a.1≠0 then a else wlkL M f q.1 q.2.1 q.2.2.1 q.2.2.2 a.2) (0, { s with pages:=s.pages++[no] }):=rfl
theorem Tryz.infoBP:(Tryz.prog.info? 54).map (fun i=>(i.zero,i.size,i.bytes))=some (some (.agg #[.int .u64 0, .int .u64 0]),2,16):=by kernel_rfl
set_option maxRecDepth 100000 in
set_option maxHeartbeats 8000000 in
theorem walk_any (f:Nat): ∀ {w0 w:World} {p K:Nat} {M:PM} {X:List Nat} {B:Nat} {c:WkB} {vp vo:Value} {s:WS} (h:WkAt w0 w p (K+4*s.pages.length) M X B c vp vo s) (hw:WOk M s) (ho:s.out.length≤40*s.pages.length) (hB:B≤w.heap.size) (hK:K≤600000000000) (no low high deep:Int) (op:Bool) (hno:0≤no∧no≤4294967295) (hlo:0≤low∧low≤18446744073709551615) (hhi:0≤high∧high≤18446744073709551615) (hd:deep+f=17) (hd1:1≤deep),
  Calls Tryz.prog 139 #[.int .i64 no, .int .i64 deep, .int .u64 low, .int .u64 high, .bool op, .pointer (some ⟨c.cm,0,none⟩), .pointer (some ⟨c.cp,0,none⟩), .pointer (some ⟨c.cq,0,none⟩), .pointer (some ⟨c.cd,0,none⟩), .pointer (some ⟨c.co,0,none⟩), .pointer (some ⟨c.cw,0,none⟩)] w (WkPost w0 w p K M X B c (wlkL M f no low high op s)):=by
 induction f with
 |zero=>
  intro w0 w p K M X B c vp vo s h hw ho hB hK no low high deep op hno hlo hhi hd hd1
  obtain rfl:deep=17:=by omega
  have H:=Lib.hid h
  have HX:=Lib.hid (show∀x∈X,x<w.heap.size from fun x hx=>h.pg.lt x (by simp[hx]))
  clear h hw
  go_enter Tryz.func139,Tryz.ntmps139
  go_wp2_with fail
  go_ret
  exact⟨rfl,⟨_,_,H.out⟩,SameX.refl _ _,fun e=>by cases e⟩
 |succ f ih=>
  intro w0 w p K M X B c vp vo s h hw ho hB hK no low high deep op hno hlo hhi hd hd1
  have hdd:deep≤16:=by omega
  have hkey:=keyP (no:=no) (by omega) (by omega)
  have lk:=MapT.look h.mp Tryz.keyIntP Tryz.underlying175 (Tryz.zeroValue4 _) (x:=no) hkey
  have hfew:=hw.few
  have hmost:=h.pg.f.most
  obtain⟨va,vc,rfl⟩:=(IsI.own h.op).form
  obtain⟨R,hR⟩: ∃R,R=wlkL M (f+1) no low high op s:=⟨_,rfl⟩
  rw[←hR]
  rw[wlkL_succ] at hR
  have H:=Lib.hid h
  have HR:=Lib.hid hR
  have HW:=Lib.hid hw
  have HO:=Lib.hid ho
  have HKEY:=Lib.hid hkey
  have cm:=World.rowIs.cell h.rm (i:=0) (by decide)
  have cp:=World.rowIs.cell h.rp (i:=0) (by decide)
  have fp:=World.rowIs.frozen h.rp 0
  clear h hR hw ho hkey
  by_cases hc:s.pages.contains no=true
  ·have hq:R=(19,s):=by rw[HR.out,if_pos hc]
   subst hq
   have hg:metG s.pages no=some true:=by unfold metG;rw[if_pos hc]
   rw[hg] at lk
   simp only[Option.map_some,Option.getD_some] at lk
   have HG:=Lib.hid hg
   clear hg hc
   go_enter Tryz.func139,Tryz.ntmps139
   go_wp2_with fail
   go_ret
   exact⟨rfl,⟨_,_,H.out⟩,SameX.refl _ _,fun e=>by cases e⟩
  have hg:metG s.pages no=none:=by unfold metG;rw[if_neg hc]
  rw[hg] at lk
  simp only[Option.map_none,Option.getD_none] at lk
  have HC:=Lib.hid hc
  clear hg hc
  go_enter Tryz.func139,Tryz.ntmps139
  obtain⟨i0,hi0,hz0,hzs,hzb⟩:=info_parts Tryz.infoI
  clear cp fp
  go_upto_region 5 with (first
   |(at_mapUpdate;refine wpList_update_T _ rfl _ _ _ 175 rfl 3 4 Tryz.keyIntP Tryz.underlying175 c.mb s.pages.length (Value.int .i64) Value.bool (metG s.pages) H.out.mp rfl (by unfold maxLen;omega) no _ rfl HKEY.out (inj_I no) true rfl ?_;intro w3 hm3 hg3;have HM3:=Lib.hid hm3;have HG3:=Lib.hid hg3;obtain⟨hr3,ho3,hs3⟩:=H.out.met_cell hg3;have HR3:=Lib.hid hr3;have HO3:=Lib.hid ho3;have cp:=World.rowIs.cell hr3 (i:=0) (by decide);clear hm3 hg3 hr3 ho3)
   |(at_builtin;refine wpList_append_near _ rfl (.tmp 38) (.tmp 40) 67 rfl B 3 i0 (.int .i64 0) 1 8 Tryz.underlying67 hi0 hz0 hzs hzb rfl (by decide) _ s.pages.length (s.pages.map (Value.int .i64)) rfl (ownsRow_touch HO3.out (F:=[]) ((Touch.refl _ _).alloc _) (by simp)) ⟨w3.heap.size,0,none⟩ 1 1 [.int .i64 no] rfl (by decide) rfl (fun q u hu=>by rw[Addr.add_lit,Nat.zero_add];exact cell_one_new hu) (fun u hu=>by simp at hu;subst hu;rfl) (by unfold maxLen;omega) (by omega) (by rw[World.size_alloc_eq];omega) ?_;intro g' cap' w4 ho4 hgr4 hnr4;have hr4:=H.out.met_cell4 HR3.out hgr4;have cp:=World.rowIs.cell hr4 (i:=0) (by decide);have fp:=World.rowIs.frozen hr4 0;obtain⟨hwk,hsx⟩:=H.out.met HM3.out HG3.out ho4 hgr4 hnr4;have HW5:=Lib.hid hwk;have HSX:=Lib.hid hsx;clear hr4 hwk hsx ho4 hgr4 hnr4))
  refine wp_name (fun W5 hW5=> ?_)
  rw[hW5] at HW5 HSX
  clear hW5 cp fp
  have HRD:=Lib.hid (bread_any HW5.out.pg (by omega) no)
  have hdn:=fun hok:(ndRead M no).1=0=>ndRead_ok (M:=M) (no:=no) (n:=(ndRead M no).2) (by rw[←hok])
  have hrg:=fun hok:(ndRead M no).1=0=>ndRead_rg (M:=M) (no:=no) HW5.out.pg.s hok
  have hq:=HR.out
  rw[if_neg HC.out] at hq
  generalize ndRead M no=D at HRD hdn hrg hq
  obtain⟨er,n⟩:=D
  simp only at HRD hdn hrg hq
  obtain⟨s1,hs1⟩: ∃s1,s1=({ s with pages:=s.pages++[no] }:WS):=⟨_,rfl⟩
  have hsd:s1.depth=s.depth:=by rw[hs1]
  have hso:s1.out=s.out:=by rw[hs1]
  have HS1:=Lib.hid hs1
  have HQ:=Lib.hid hq
  have HDN:=Lib.hid hdn
  have HRG:=Lib.hid hrg
  have HXL:=Lib.hid (show∀x∈X,x<w.heap.size from fun x hx=>H.out.pg.lt x (by simp[hx]))
  have cq:=World.rowIs.cell HW5.out.rq (i:=0) (by decide)
  clear hq hdn hrg hs1 hsd hso lk
  go_wp2_with fail
  refine HRD.out.mono ?_
  rintro e w6 ⟨kv,vv,cv,rfl,hno6,hp6,hs6⟩
  obtain⟨ka,kc,rfl⟩:=hno6.i.ks.form
  obtain⟨wa,wvc,rfl⟩:=hno6.i.vs.form
  obtain⟨ca,cc,rfl⟩:=hno6.i.cs.form
  have HW6:=Lib.hid (HW5.out.goZ hp6 hs6 (fun z hz=>(hno6.ge z hz).1))
  have HX6:=Lib.hid (HSX.out.trans (hs6.sub (Y:=X) (fun y hy=>by simp[hy])))
  have HN6:=Lib.hid hno6.i
  clear hno6 hp6 hs6 HRD cq
  unfold ndV
  by_cases her:er=0
  rotate_left
  ·have d2:(er != 0)=true:=by simpa using her
   have hq:R=(er,s1):=by rw[HQ.out,if_pos her,HS1.out]
   subst hq
   go_wp2_with (refine wpList_store_node rfl (.tmp 17) (.tmp 46) rfl w6.heap.size n.leaf (.slice ka n.keys.length kc) (.slice wa n.vals.length wvc) (.slice ca n.kids.length cc) n (by first|rfl|exact hl) rfl rfl (node0_new w6) (by simp[Value.oneCell']) ?_;intro w7 hr7 t7;have HB7:=Lib.hid ((((Touch.refl [w6.heap.size] w6).alloc _).trans t7 (fun b hb=> .inl hb)).below (Nat.le_refl _) (fun x hx=>by simp at hx;omega));have HW7:=Lib.hid (HW6.out.newZ (Z:=[w6.heap.size]) HB7.out (fun z hz=>by simp at hz;subst hz;exact⟨Nat.le_refl _,World.rowIs.lt hr7⟩));have HX7:=Lib.hid (HX6.out.trans (SameX.of_below HB7.out (fun x hx=>HW6.out.pg.lt x (by simp[hx]))));have HN7:=Lib.hid (HN6.out.below HB7.out);have HR7:=Lib.hid hr7;obtain⟨r0,r1,r2,r3⟩:=ndF_cells hr7;clear hr7 t7)
   go_ret
   exact⟨rfl,⟨_,_,by rw[HS1.out];exact HW7.out.subX (fun x hx=>by simp[hx]) (by simp;omega)⟩,HX7.out,fun e=>absurd e her⟩
  subst her
  have hok:=HDN.out rfl
  have hkb:=hok.kb
  have hq:=HQ.out
  rw[if_neg (by simp)] at hq
  have HQ1:=Lib.hid hq
  have HOK:=Lib.hid hok
  have HKB:=Lib.hid hkb
  have hkl:n.keys.length≤40:=hok.sh.kl
  clear hq HQ HDN hok hkb HR
  go_wp2_with (refine wpList_store_node rfl (.tmp 17) (.tmp 46) rfl w6.heap.size n.leaf (.slice ka n.keys.length kc) (.slice wa n.vals.length wvc) (.slice ca n.kids.length cc) n (by first|rfl|exact hl) rfl rfl (node0_new w6) (by simp[Value.oneCell']) ?_;intro w7 hr7 t7;have HB7:=Lib.hid ((((Touch.refl [w6.heap.size] w6).alloc _).trans t7 (fun b hb=> .inl hb)).below (Nat.le_refl _) (fun x hx=>by simp at hx;omega));have HW7:=Lib.hid (HW6.out.newZ (Z:=[w6.heap.size]) HB7.out (fun z hz=>by simp at hz;subst hz;exact⟨Nat.le_refl _,World.rowIs.lt hr7⟩));have HX7:=Lib.hid (HX6.out.trans (SameX.of_below HB7.out (fun x hx=>HW6.out.pg.lt x (by simp[hx]))));have HN7:=Lib.hid (HN6.out.below HB7.out);have HR7:=Lib.hid hr7;obtain⟨r0,r1,r2,r3⟩:=ndF_cells hr7;clear hr7 t7)
  go_loopw [20,54] (fun _ i wr=>(∃j:Nat,j≤n.keys.length∧i= .int .i64 j∧ ∀q x,q<j→n.keys[q]? =some x→(decide (low≤x)&&(op||decide (x<high)))=true)∧wr=w7) (fun _ i _=>n.keys.length - (intOf i).toNat)
  case atStart=>exact⟨⟨0,Nat.zero_le _,rfl,fun q x hq=>absurd hq (by omega)⟩,rfl⟩
  case round=>
   obtain⟨⟨j,hj,rfl,hall⟩,hww⟩:=hrel
   have hww:=hww.symm
   subst hww
   by_cases hjl:j<n.keys.length
   ·obtain⟨g,o,cc2,hv,hc1,hc2,hg,hcs⟩:=HN7.out.ks.at_ (show 0<n.keys.length by omega)
    injection hv with hva hvn hvc
    subst hva
    subst hvc
    have hkc:=hcs j hjl
    have hkj:=getElem?_getD hjl
    obtain⟨k,hk⟩: ∃k,k=n.keys.getD j 0:=⟨_,rfl⟩
    rw[←hk] at hkc hkj
    have hkm:k∈n.keys:=List.mem_of_getElem? hkj
    obtain⟨kb1,kb2⟩:=HKB.out k hkm
    have HKJ:=Lib.hid hkj
    have HKM:=Lib.hid hkm
    have HALL:=Lib.hid hall
    have y1:(j:Int)<(n.keys.length:Int):=by omega
    have hbad:(decide (low≤k)&&(op||decide (k<high)))=false→R=(19,s1):=fun hb=>by
     rw[HQ1.out,if_pos,HS1.out]
     unfold keysIn
     exact List.all_eq_false.2 ⟨k,hkm,by simpa using hb⟩
    have HBAD:=Lib.hid hbad
    clear hcs hk hkj hkm hall hvn hc1 hc2 hg hbad
    by_cases hlk:k<low
    ·have hq:=HBAD.out (by simp;intro h;omega)
     subst hq
     go_wp2_with fail
     go_ret
     exact⟨rfl,⟨_,_,by rw[HS1.out];exact HW7.out.subX (fun x hx=>by simp[hx]) (by simp;omega)⟩,HX7.out,fun e=>by cases e⟩
    ·cases op
     ·by_cases hkh:high≤k
      ·have hq:=HBAD.out (by simp;intro h;omega)
       subst hq
       go_wp2_with fail
       go_ret
       exact⟨rfl,⟨_,_,by rw[HS1.out];exact HW7.out.subX (fun x hx=>by simp[hx]) (by simp;omega)⟩,HX7.out,fun e=>by cases e⟩
      ·go_wp2_with fail
       go_roundw
       case rel=>exact⟨⟨j+1,by omega,by go_num,fun q x hq hx=>by
        by_cases e:q=j
        ·subst e;rw[HKJ.out] at hx;injection hx with hx;subst hx;simp;omega
        ·exact HALL.out q x (by omega) hx⟩,trivial⟩
       case measure=>simp[intOf];omega
     ·go_wp2_with fail
      go_roundw
      case rel=>exact⟨⟨j+1,by omega,by go_num,fun q x hq hx=>by
       by_cases e:q=j
       ·subst e;rw[HKJ.out] at hx;injection hx with hx;subst hx;simp;omega
       ·exact HALL.out q x (by omega) hx⟩,trivial⟩
      case measure=>simp[intOf];omega
   ·have hje:j=n.keys.length:=by omega
    subst hje
    have hki:keysIn low high op n.keys=true:=by
     unfold keysIn
     exact List.all_eq_true.2 (fun x hx=>by
      obtain⟨q,hq⟩:=List.mem_iff_getElem?.1 hx
      exact hall q x (List.getElem?_eq_some_iff.1 hq).1 hq)
    have hq:=HQ1.out
    rw[if_neg (by rw[hki];decide)] at hq
    have HQ2:=Lib.hid hq
    clear hq HQ1 hall hki
    have hq:=HQ2.out
    have hfd:deep=((16 - f:Nat):Int)∨16<f:=by omega
    go_upto_region 14 with (fail)
    go_cut [76] (fun t wx=>t= .bool (decide (f<15∧thinN n=true))∧Below w7.heap.size w7 wx)
    case first=>
     by_cases h15:f<15
     ·have y1:(1:Int)<deep:=by omega
      have HTH:=thin_any HN7.out
      unfold ndV at HTH
      obtain⟨T,hT⟩: ∃T,T=thinN n:=⟨_,rfl⟩
      rw[←hT] at HTH
      have HT:=Lib.hid hT
      have HTH:=Lib.hid HTH
      have H15:=Lib.hid h15
      clear hT h15 hq
      go_wp2_with fail
      refine HTH.out.mono ?_
      rintro e w8 ⟨rfl,hb⟩
      have HB8:=Lib.hid hb
      clear hb
      go_wp2_with fail
      go_meet
      exact⟨by rw[HT.out];simp[H15.out],HB8.out⟩
     ·have y1: ¬((1:Int)<deep):=by omega
      have H15:=Lib.hid h15
      clear h15 hq
      go_wp2_with fail
      go_meet
      exact⟨by simp[H15.out],Below.refl _ _⟩
    case rest=>
    obtain⟨rfl,hb⟩:=hcut
    have HW8:=Lib.hid (HW7.out.below hb)
    have HN8:=Lib.hid (HN7.out.below hb)
    have HX8:=Lib.hid (HX7.out.trans (SameX.of_below hb (fun x hx=>HW7.out.pg.lt x (by simp[hx]))))
    have HR8:=Lib.hid (rowIs_touch HR7.out (F:=[]) (Touch.of_below hb) (by simp))
    obtain⟨q0,q1,q2,q3⟩:=ndF_cells HR8.out
    clear hb r0 r1 r2 r3 HW7 HN7 HX7 HR7
    obtain⟨TH,hTH⟩: ∃TH,TH=decide (f<15∧thinN n=true):=⟨_,rfl⟩
    rw[←hTH]
    cases TH
    rotate_left
    ·have hq2:R=(19,s1):=by rw[hq,if_pos (of_decide_eq_true hTH.symm),HS1.out]
     clear hq hTH
     subst hq2
     go_wp2_with fail
     go_ret
     exact⟨rfl,⟨_,_,by rw[HS1.out];exact HW8.out.subX (fun x hx=>by simp[hx]) (by simp;omega)⟩,HX8.out,fun e=>by cases e⟩
    rw[if_neg (of_decide_eq_false hTH.symm)] at hq
    clear hTH
    have HQ3:=Lib.hid hq
    clear hq HQ2
    cases hl:n.leaf
    ·have hq:=HQ3.out
     rw[if_neg (by rw[hl];decide)] at hq
     obtain⟨-,hvl, -,hvb⟩:=HOK.out.forks hl
     obtain⟨SPAN,hSP⟩: ∃L,L=spanN n low high op:=⟨_,rfl⟩
     have hSL:SPAN.length=n.kids.length:=by rw[hSP];simp[spanN]
     have HSG:=Lib.hid (fun(j:Nat) (hj:j<n.kids.length)=>(show SPAN[j]? =some (n.kids.getD j 0,(if 0<j then n.keys.getD (j - 1) 0 else low),(if j<n.keys.length then n.keys.getD j 0 else high),(if j<n.keys.length then false else op)) by rw[hSP];unfold spanN;rw[List.getElem?_map,List.getElem?_range hj];rfl))
     rw[←hSP] at hq
     have HQ4:=Lib.hid hq
     have HSL:=Lib.hid hSL
     have HVL:=Lib.hid hvl
     have HVB:=Lib.hid hvb
     have HIH:=fun w0 w p K M X B c vp vo s=>Lib.hid (@ih w0 w p K M X B c vp vo s)
     rw[hl] at q0
     have HBC:=Lib.hid (show B≤wc.heap.size from Nat.le_trans hB HX8.out.size)
     clear hq hSP hSL hvl hvb HQ3 ih
     go_wp2_with fail
     go_loopw [23,24,25,26,27,28,107] (fun _ _ _ _ _ _ i wr=> ∃(j:Nat) (vp2 vo2:Value) (s2:WS),j≤n.kids.length∧i= .int .i64 j∧WkAt w0 wr p (K+4*s2.pages.length) M ([w6.heap.size]++(ndBk (.slice ka n.keys.length kc) (.slice wa n.vals.length wvc) (.slice ca n.kids.length cc)++X)) B c vp2 vo2 s2∧SameX ([w6.heap.size]++(ndBk (.slice ka n.keys.length kc) (.slice wa n.vals.length wvc) (.slice ca n.kids.length cc)++X)) wc wr∧WOk M s2∧s2.out.length≤40*s2.pages.length∧R=(SPAN.drop j).foldl (fun a q=>if a.1≠0 then a else wlkL M f q.1 q.2.1 q.2.2.1 q.2.2.2 a.2) (0,s2)) (fun _ _ _ _ _ _ i _=>n.kids.length - (intOf i).toNat)
     case atStart=>exact⟨0,_,_,⟨s.pages++[no],s.out,s.depth⟩,Nat.zero_le _,rfl,HW8.out.subX (fun x hx=>hx) (by simp;omega),SameX.refl _ _,HW.out.add (by simpa using HC.out) (HRG.out trivial) _ _,by have:=HO.out;simp;omega,by rw[HQ4.out];rfl⟩
     case round=>
      obtain⟨j,vp2,vo2,s2,hj,rfl,hwk,hsx,hwo,hoj,hqr⟩:=hrel
      have HWJ:=Lib.hid hwk
      have HSJ:=Lib.hid hsx
      have HWO:=Lib.hid hwo
      have HOJ:=Lib.hid hoj
      have HBJ:=Lib.hid (show B≤wr.heap.size from Nat.le_trans HBC.out hsx.size)
      have HNJ:=Lib.hid (HN8.out.same hsx (fun x hx=>by simp[hx]))
      have HRJ:=Lib.hid (hsx.row HR8.out (by simp))
      clear hwk hsx hwo hoj
      by_cases hjl:j<n.kids.length
      ·have hsp:=HSG.out j hjl
       have hkl:j≤n.keys.length:=by have:=HVL.out;omega
       have HKG:=Lib.hid (fun(q:Nat) (hq:q<n.keys.length)=>HKB.out _ (List.mem_of_getElem? (getElem?_getD hq)))
       obtain⟨g,o,cc2,hv,hc1,hc2,hg,hcs⟩:=HNJ.out.ks.at_ (show 0<n.keys.length from HOK.out.k1)
       injection hv with hva hvn hvc
       subst hva
       subst hvc
       obtain⟨g2,o2,cc3,hv2,hd1,hd2,hg2,hds⟩:=HNJ.out.cs.at_ (show 0<n.kids.length by omega)
       injection hv2 with hva2 hvn2 hvc2
       subst hva2
       subst hvc2
       have hkd:=hds j hjl
       have hkb:=HVB.out _ (List.mem_of_getElem? (getElem?_getD hjl))
       obtain⟨kid,hkid⟩: ∃k,k=n.kids.getD j 0:=⟨_,rfl⟩
       rw[←hkid] at hkd hkb hsp
       have HKD:=Lib.hid (show 0≤kid∧kid≤4294967295 by omega)
       have kw:=World.rowIs.cell HWJ.out.rf (i:=0) (by decide)
       unfold wkFn at kw
       obtain⟨p0,p1,p2,p3⟩:=ndF_cells HRJ.out
       have y1:(j:Int)<(n.kids.length:Int):=by omega
       clear hds hkb hkid hvn hvn2
       by_cases hj0:0<j
       ·have hk1:=hcs (j - 1) (by omega)
        have HFB0:=HKG.out (j - 1) (by omega)
        obtain⟨fr,hfr⟩: ∃q,q=n.keys.getD (j - 1) 0:=⟨_,rfl⟩
        rw[←hfr] at hk1 HFB0 hsp
        have HFB:=Lib.hid HFB0
        clear hfr HFB0
        have z1:(0:Int)<(j:Int):=by omega
        have z3:((j:Int) - 1).toNat=j - 1:=by omega
        have z4:(j:Int) - 1<(n.keys.length:Int):=by omega
        have z6:(0:Int)≤(j:Int) - 1:=by omega
        by_cases hjk:j<n.keys.length
        ·rw[if_pos hj0,if_pos hjk,if_pos hjk] at hsp
         have hk2:=hcs j hjk
         have HTB0:=HKG.out j hjk
         obtain⟨tv,htv⟩: ∃q,q=n.keys.getD j 0:=⟨_,rfl⟩
         rw[←htv] at hk2 HTB0 hsp
         have HTB:=Lib.hid HTB0
         clear htv HTB0
         have z5:(j:Int)<(n.keys.length:Int):=by omega
         clear hcs
         have hih:=(HIH w0 wr p K M _ B c vp2 vo2 s2).out HWJ.out HWO.out HOJ.out HBJ.out hK kid fr tv (deep+1) false HKD.out HFB.out HTB.out (by omega) (by omega)
         have hq2:R=(SPAN.drop (j+1)).foldl (fun a q=>if a.1≠0 then a else wlkL M f q.1 q.2.1 q.2.2.1 q.2.2.2 a.2) (wlkL M f kid fr tv false s2):=by rw[hqr,pdrop_at' hsp,List.foldl_cons,if_neg (by simp)]
         generalize wlkL M f kid fr tv false s2=RR at hih hq2
         obtain⟨re,s3⟩:=RR
         have HCL:=Lib.hid hih
         have HQJ:=Lib.hid hq2
         clear hih hq2 hqr hsp
         go_wp2_with fail
         refine HCL.out.mono ?_
         rintro e w12 ⟨rfl,⟨vp3,vo3,hwk3⟩,hsx3,hok3⟩
         simp only at hwk3 hok3
         have HW3:=Lib.hid hwk3
         have HS3:=Lib.hid (HSJ.out.trans hsx3)
         have HOK3:=Lib.hid hok3
         clear hwk3 hsx3 hok3 kw hkd
         by_cases hre:re=0
         ·subst hre
          go_wp2_with fail
          go_roundw
          case rel=>exact⟨j+1,_,_,s3,by omega,by go_num,HW3.out,HS3.out,(HOK3.out (by first|rfl|trivial)).1,(HOK3.out (by first|rfl|trivial)).2,HQJ.out⟩
          case measure=>simp[intOf];omega
         ·have d9:(re != 0)=true:=by simpa using hre
          have hq3:R=(re,s3):=by rw[HQJ.out];exact fold_bad _ _ _ hre
          subst hq3
          go_wp2_with fail
          go_ret
          exact⟨rfl,⟨_,_,HW3.out.subX (fun x hx=>by simp[hx]) (Nat.le_refl _)⟩,HX8.out.trans (HS3.out.sub (fun x hx=>by simp[hx])),fun e=>absurd e hre⟩
        ·rw[if_pos hj0,if_neg hjk,if_neg hjk] at hsp
         have z5: ¬((j:Int)<(n.keys.length:Int)):=by omega
         clear hcs
         have hih:=(HIH w0 wr p K M _ B c vp2 vo2 s2).out HWJ.out HWO.out HOJ.out HBJ.out hK kid fr high (deep+1) op HKD.out HFB.out hhi (by omega) (by omega)
         have hq2:R=(SPAN.drop (j+1)).foldl (fun a q=>if a.1≠0 then a else wlkL M f q.1 q.2.1 q.2.2.1 q.2.2.2 a.2) (wlkL M f kid fr high op s2):=by rw[hqr,pdrop_at' hsp,List.foldl_cons,if_neg (by simp)]
         generalize wlkL M f kid fr high op s2=RR at hih hq2
         obtain⟨re,s3⟩:=RR
         have HCL:=Lib.hid hih
         have HQJ:=Lib.hid hq2
         clear hih hq2 hqr hsp
         go_wp2_with fail
         refine HCL.out.mono ?_
         rintro e w12 ⟨rfl,⟨vp3,vo3,hwk3⟩,hsx3,hok3⟩
         simp only at hwk3 hok3
         have HW3:=Lib.hid hwk3
         have HS3:=Lib.hid (HSJ.out.trans hsx3)
         have HOK3:=Lib.hid hok3
         clear hwk3 hsx3 hok3 kw hkd
         by_cases hre:re=0
         ·subst hre
          go_wp2_with fail
          go_roundw
          case rel=>exact⟨j+1,_,_,s3,by omega,by go_num,HW3.out,HS3.out,(HOK3.out (by first|rfl|trivial)).1,(HOK3.out (by first|rfl|trivial)).2,HQJ.out⟩
          case measure=>simp[intOf];omega
         ·have d9:(re != 0)=true:=by simpa using hre
          have hq3:R=(re,s3):=by rw[HQJ.out];exact fold_bad _ _ _ hre
          subst hq3
          go_wp2_with fail
          go_ret
          exact⟨rfl,⟨_,_,HW3.out.subX (fun x hx=>by simp[hx]) (Nat.le_refl _)⟩,HX8.out.trans (HS3.out.sub (fun x hx=>by simp[hx])),fun e=>absurd e hre⟩
       ·have z1: ¬((0:Int)<(j:Int)):=by omega
        by_cases hjk:j<n.keys.length
        ·rw[if_neg hj0,if_pos hjk,if_pos hjk] at hsp
         have hk2:=hcs j hjk
         have HTB0:=HKG.out j hjk
         obtain⟨tv,htv⟩: ∃q,q=n.keys.getD j 0:=⟨_,rfl⟩
         rw[←htv] at hk2 HTB0 hsp
         have HTB:=Lib.hid HTB0
         clear htv HTB0
         have z5:(j:Int)<(n.keys.length:Int):=by omega
         clear hcs
         have hih:=(HIH w0 wr p K M _ B c vp2 vo2 s2).out HWJ.out HWO.out HOJ.out HBJ.out hK kid low tv (deep+1) false HKD.out hlo HTB.out (by omega) (by omega)
         have hq2:R=(SPAN.drop (j+1)).foldl (fun a q=>if a.1≠0 then a else wlkL M f q.1 q.2.1 q.2.2.1 q.2.2.2 a.2) (wlkL M f kid low tv false s2):=by rw[hqr,pdrop_at' hsp,List.foldl_cons,if_neg (by simp)]
         generalize wlkL M f kid low tv false s2=RR at hih hq2
         obtain⟨re,s3⟩:=RR
         have HCL:=Lib.hid hih
         have HQJ:=Lib.hid hq2
         clear hih hq2 hqr hsp
         go_wp2_with fail
         refine HCL.out.mono ?_
         rintro e w12 ⟨rfl,⟨vp3,vo3,hwk3⟩,hsx3,hok3⟩
         simp only at hwk3 hok3
         have HW3:=Lib.hid hwk3
         have HS3:=Lib.hid (HSJ.out.trans hsx3)
         have HOK3:=Lib.hid hok3
         clear hwk3 hsx3 hok3 kw hkd
         by_cases hre:re=0
         ·subst hre
          go_wp2_with fail
          go_roundw
          case rel=>exact⟨j+1,_,_,s3,by omega,by go_num,HW3.out,HS3.out,(HOK3.out (by first|rfl|trivial)).1,(HOK3.out (by first|rfl|trivial)).2,HQJ.out⟩
          case measure=>simp[intOf];omega
         ·have d9:(re != 0)=true:=by simpa using hre
          have hq3:R=(re,s3):=by rw[HQJ.out];exact fold_bad _ _ _ hre
          subst hq3
          go_wp2_with fail
          go_ret
          exact⟨rfl,⟨_,_,HW3.out.subX (fun x hx=>by simp[hx]) (Nat.le_refl _)⟩,HX8.out.trans (HS3.out.sub (fun x hx=>by simp[hx])),fun e=>absurd e hre⟩
        ·rw[if_neg hj0,if_neg hjk,if_neg hjk] at hsp
         have z5: ¬((j:Int)<(n.keys.length:Int)):=by omega
         clear hcs
         have hih:=(HIH w0 wr p K M _ B c vp2 vo2 s2).out HWJ.out HWO.out HOJ.out HBJ.out hK kid low high (deep+1) op HKD.out hlo hhi (by omega) (by omega)
         have hq2:R=(SPAN.drop (j+1)).foldl (fun a q=>if a.1≠0 then a else wlkL M f q.1 q.2.1 q.2.2.1 q.2.2.2 a.2) (wlkL M f kid low high op s2):=by rw[hqr,pdrop_at' hsp,List.foldl_cons,if_neg (by simp)]
         generalize wlkL M f kid low high op s2=RR at hih hq2
         obtain⟨re,s3⟩:=RR
         have HCL:=Lib.hid hih
         have HQJ:=Lib.hid hq2
         clear hih hq2 hqr hsp
         go_wp2_with fail
         refine HCL.out.mono ?_
         rintro e w12 ⟨rfl,⟨vp3,vo3,hwk3⟩,hsx3,hok3⟩
         simp only at hwk3 hok3
         have HW3:=Lib.hid hwk3
         have HS3:=Lib.hid (HSJ.out.trans hsx3)
         have HOK3:=Lib.hid hok3
         clear hwk3 hsx3 hok3 kw hkd
         by_cases hre:re=0
         ·subst hre
          go_wp2_with fail
          go_roundw
          case rel=>exact⟨j+1,_,_,s3,by omega,by go_num,HW3.out,HS3.out,(HOK3.out (by first|rfl|trivial)).1,(HOK3.out (by first|rfl|trivial)).2,HQJ.out⟩
          case measure=>simp[intOf];omega
         ·have d9:(re != 0)=true:=by simpa using hre
          have hq3:R=(re,s3):=by rw[HQJ.out];exact fold_bad _ _ _ hre
          subst hq3
          go_wp2_with fail
          go_ret
          exact⟨rfl,⟨_,_,HW3.out.subX (fun x hx=>by simp[hx]) (Nat.le_refl _)⟩,HX8.out.trans (HS3.out.sub (fun x hx=>by simp[hx])),fun e=>absurd e hre⟩
      ·have hje:j=n.kids.length:=by omega
       subst hje
       have hqr2:R=(0,s2):=by rw[hqr,List.drop_of_length_le (by rw[HSL.out];exact Nat.le_refl _)];rfl
       clear hqr
       subst hqr2
       go_wp2_with fail
       go_ret
       exact⟨rfl,⟨_,_,HWJ.out.subX (fun x hx=>by simp[hx]) (Nat.le_refl _)⟩,HX8.out.trans (HSJ.out.sub (fun x hx=>by simp[hx])),fun _=>⟨HWO.out,HOJ.out⟩⟩
    ·have hq:=HQ3.out
     rw[if_pos hl] at hq
     have hok:=HOK.out
     obtain⟨-,hvl, -,hvb⟩:=hok.leafs hl
     have hde:deep=((16 - f:Nat):Int):=by omega
     obtain⟨dd,hdd⟩: ∃d:Nat,d=if s.depth=0 then 16 - f else s.depth:=⟨_,rfl⟩
     rw[←hdd] at hq
     have HQ4:=Lib.hid hq
     have HDD:=Lib.hid hdd
     have HDE:=Lib.hid hde
     have HVL:=Lib.hid hvl
     rw[hl] at q0
     have cdc:=World.rowIs.cell HW8.out.rd (i:=0) (by decide)
     have cdf:=World.rowIs.frozen HW8.out.rd 0
     clear hq hok hdd hde hvl HQ3
     go_upto_if 80 with (fail)
     go_cut [80] (fun _ wx=>wx.rowIs c.cd 3 1 (fun _=> .int .i64 (dd:Int))∧Touch [c.cd] wc wx)
     case first=>
      by_cases hz:s.depth=0
      ·have hrow:=HW8.out.rd.set 0 (.int .i64 deep)
       have HRW:=Lib.hid hrow
       have HD9:=Lib.hid (show(dd:Int)=deep by rw[HDD.out,if_pos hz,HDE.out])
       clear hrow
       go_wp2_with fail
       go_meet
       exact⟨World.rowIs.congr HRW.out (fun i hi=>by rcases i with _|i<;>first|(rw[HD9.out];rfl)|(exfalso;omega)),(Touch.refl [c.cd] wc).setCell (.inl (by simp)) _⟩
      ·have d7:((s.depth:Int)==0)=false:=by simpa using hz
       have HD9:=Lib.hid (show dd=s.depth by rw[HDD.out,if_neg hz])
       clear hz
       go_wp2_with fail
       go_meet
       exact⟨by rw[HD9.out];exact HW8.out.rd,Touch.refl _ _⟩
     case rest=>
     obtain⟨hrd,ht⟩:=hcut
     clear cdc cdf q0 q1 q2 q3
     have HW9:=Lib.hid (HW8.out.setD hrd ht)
     have hoff: ∀x,x∈[w6.heap.size]++(ndBk (.slice ka n.keys.length kc) (.slice wa n.vals.length wvc) (.slice ca n.kids.length cc)++X)→x∉ [c.cd]:=fun x hx hm=>by
      simp at hm
      subst hm
      exact(HW8.out.xx _ hx).1 (by simp[WkB.l])
     have HN9:=Lib.hid (HN8.out.touch ht (fun x hx=>hoff x (by simp[hx])))
     have HR9:=Lib.hid (rowIs_touch HR8.out ht (hoff _ (by simp)))
     have HX9:=Lib.hid (HX8.out.trans (SameX.of_touch ht (fun x hx=>⟨HW8.out.pg.lt x (by simp[hx]),hoff x (by simp[hx])⟩)))
     have cdc:=World.rowIs.cell hrd (i:=0) (by decide)
     obtain⟨q0,q1,q2,q3⟩:=ndF_cells HR9.out
     have HBC:=Lib.hid (show B≤wc.heap.size from Nat.le_trans hB HX9.out.size)
     clear hrd ht hoff HW8 HN8 HX8 HR8
     by_cases hdq:dd=16 - f
     rotate_left
     ·have hq:=HQ4.out
      rw[if_pos hdq] at hq
      have HQ5:=Lib.hid hq
      have d9:((dd:Int)==deep)=false:=by rw[HDE.out];simpa using fun e=>hdq (by omega)
      clear hq hdq
      go_wp2_with fail
      go_ret
      rw[HQ5.out]
      exact⟨rfl,⟨_,_,HW9.out.subX (fun x hx=>by simp[hx]) (by simp;omega)⟩,HX9.out,fun e=>by cases e⟩
     have hq:=HQ4.out
     rw[if_neg (by simpa using hdq)] at hq
     have HQ5:=Lib.hid hq
     have d9:((dd:Int)==deep)=true:=by rw[HDE.out,hdq];simp
     obtain⟨j0,hj0,hz1,hz3,hz4⟩:=info_parts Tryz.infoBP
     clear hq hdq HQ4
     go_wp2_with fail
     go_loopw [21,22,88] (fun _ _ i wr=> ∃(j:Nat) (vp2 vo2:Value),j≤n.keys.length∧i= .int .i64 j∧WkAt w0 wr p (K+4*s.pages.length+4) M ([w6.heap.size]++(ndBk (.slice ka n.keys.length kc) (.slice wa n.vals.length wvc) (.slice ca n.kids.length cc)++X)) B c vp2 vo2 ⟨s.pages++[no],s.out++(n.keys.zip n.vals).take j,dd⟩∧SameX ([w6.heap.size]++(ndBk (.slice ka n.keys.length kc) (.slice wa n.vals.length wvc) (.slice ca n.kids.length cc)++X)) wc wr) (fun _ _ i _=>n.keys.length - (intOf i).toNat)
     case atStart=>exact⟨0,_,_,Nat.zero_le _,rfl,by rw[List.take_zero,List.append_nil];exact HW9.out,SameX.refl _ _⟩
     case round=>
      obtain⟨j,vp2,vo2,hj,rfl,hwk,hsx⟩:=hrel
      have HWJ:=Lib.hid hwk
      have HSJ:=Lib.hid hsx
      have HBJ:=Lib.hid (show B≤wr.heap.size from Nat.le_trans HBC.out hsx.size)
      have HNJ:=Lib.hid (HN9.out.same hsx (fun x hx=>by simp[hx]))
      have HRJ:=Lib.hid (hsx.row HR9.out (by simp))
      clear hwk hsx
      by_cases hjl:j<n.keys.length
      ·have hjv:j<n.vals.length:=by have:=HVL.out;omega
       obtain⟨g,o,cc2,hv,hc1,hc2,hg,hcs⟩:=HNJ.out.ks.at_ (show 0<n.keys.length by omega)
       injection hv with hva hvn hvc
       subst hva
       subst hvc
       obtain⟨g2,o2,cc3,hv2,hd1,hd2,hg2,hds⟩:=HNJ.out.vs.at_ (show 0<n.vals.length by omega)
       injection hv2 with hva2 hvn2 hvc2
       subst hva2
       subst hvc2
       have hkc:=hcs j hjl
       have hvc3:=hds j hjv
       have hz:(n.keys.zip n.vals)[j]? =some (n.keys.getD j 0,n.vals.getD j 0):=List.getElem?_zip_eq_some.2 ⟨getElem?_getD hjl,getElem?_getD hjv⟩
       obtain⟨k,hk⟩: ∃k,k=n.keys.getD j 0:=⟨_,rfl⟩
       obtain⟨u,hu⟩: ∃u,u=n.vals.getD j 0:=⟨_,rfl⟩
       rw[←hk] at hkc hz
       rw[←hu] at hvc3 hz
       obtain⟨OL,hOL⟩: ∃OL,OL=s.out++(n.keys.zip n.vals).take j:=⟨_,rfl⟩
       have hOn:OL++[(k,u)]=s.out++(n.keys.zip n.vals).take (j+1):=by rw[hOL,List.append_assoc,take_one hz]
       have hOlen:OL.length≤4000000:=by
        rw[hOL,List.length_append,List.length_take]
        have:=HO.out;have:=HVL.out
        rw[List.length_zip]
        omega
       have HWJ2:=HWJ.out
       rw[←hOL] at HWJ2
       have HWJ:=Lib.hid HWJ2
       obtain⟨oa,oc,hof⟩:=(show∃a c,vo2= .slice a OL.length c from by
        rcases ownsRow_forms HWJ2.oo with ⟨h1,h0⟩|⟨g,cap,h1⟩
        ·exact⟨none,0,by rw[h1,show OL.length=0 from h0]⟩
        ·exact⟨_,_,h1⟩)
       subst hof
       have HON:=Lib.hid hOn
       have y1:(j:Int)<(n.keys.length:Int):=by omega
       have y2:(j:Int)<(n.vals.length:Int):=by omega
       have co:=World.rowIs.cell HWJ2.ro (i:=0) (by decide)
       obtain⟨p0,p1,p2,p3⟩:=ndF_cells HRJ.out
       have hS:(fun w':World=>w'.cell? ⟨c.co,0,none⟩=some (.slice oa OL.length oc)∧w'.cell? ⟨w6.heap.size,2,none⟩=some (.slice (some ⟨g2,o2,none⟩) n.vals.length wvc)∧w'.cell? ⟨g2,o2+j,none⟩=some (.int .u64 u)) wr.drew:=⟨co,p2,hvc3⟩
       have HS0:=Lib.hid hS
       clear hcs hds hz hk hu hOL hOn hvn hvn2 hS HWJ2
       go_wp2_with fail
       refine wp_region_noPanic ?_
       refine wp_region_par3 10 10 (by kernel_rfl) (by kernel_rfl) (by simp) (by omega) (by kernel_rfl) (by kernel_rfl) (fun w':World=>w'.cell? ⟨c.co,0,none⟩=some (.slice oa OL.length oc)∧w'.cell? ⟨w6.heap.size,2,none⟩=some (.slice (some ⟨g2,o2,none⟩) n.vals.length wvc)∧w'.cell? ⟨g2,o2+j,none⟩=some (.int .u64 u)) ?_
       refine par3_read (v:= ?_) 0 (by simp only[zga,zgb,zgc];rfl) (by kernel_rfl) (by rfl) HS0.out ?_ (fun _ _ _ h=>h) ?_
       rotate_left
       ·(intro w9 hSw;(try dsimp only at hSw);go_simp;try with_reducible rfl)
       simp only[Act.put,zpa,zpb,zpc]
       refine par3_move (v:= ?_) 1 (by simp only[zga,zgb,zgc];rfl) (by kernel_rfl) (by rfl) ?_ (fun _ _ _ h=>h) ?_
       rotate_left
       ·(intro w9;go_simp;try with_reducible rfl)
       simp only[Act.put,zpa,zpb,zpc]
       refine par3_move (v:= ?_) 2 (by simp only[zga,zgb,zgc];rfl) (by kernel_rfl) (by rfl) ?_ (fun _ _ _ h=>h) ?_
       rotate_left
       ·(intro w9;go_simp;try with_reducible rfl)
       simp only[Act.put,zpa,zpb,zpc]
       refine par3_read (v:= ?_) 3 (by simp only[zga,zgb,zgc];rfl) (by kernel_rfl) (by rfl) HS0.out ?_ (fun _ _ _ h=>h) ?_
       rotate_left
       ·(intro w9 hSw;(try dsimp only at hSw);go_simp;try with_reducible rfl)
       simp only[Act.put,zpa,zpb,zpc]
       refine par3_move (v:= ?_) 4 (by simp only[zga,zgb,zgc];rfl) (by kernel_rfl) (by rfl) ?_ (fun _ _ _ h=>h) ?_
       rotate_left
       ·(intro w9;go_simp;try with_reducible rfl)
       simp only[Act.put,zpa,zpb,zpc]
       refine par3_move (v:= ?_) 5 (by simp only[zga,zgb,zgc];rfl) (by kernel_rfl) (by rfl) ?_ (fun _ _ _ h=>h) ?_
       rotate_left
       ·(intro w9;go_simp;try with_reducible rfl)
       simp only[Act.put,zpa,zpb,zpc]
       refine par3_read (v:= ?_) 6 (by simp only[zga,zgb,zgc];rfl) (by kernel_rfl) (by rfl) HS0.out ?_ (fun _ _ _ h=>h) ?_
       rotate_left
       ·(intro w9 hSw;(try dsimp only at hSw);go_simp;try with_reducible rfl)
       simp only[Act.put,zpa,zpb,zpc]
       refine par3_move (v:= ?_) 7 (by simp only[zga,zgb,zgc];rfl) (by kernel_rfl) (by rfl) ?_ (fun _ _ _ h=>h) ?_
       rotate_left
       ·(intro w9;go_simp;try with_reducible rfl)
       simp only[Act.put,zpa,zpb,zpc]
       refine par3_one 8 (by simp only[zga,zgb,zgc];rfl) (by kernel_rfl) (by rfl) ?_
       refine owp_val (v:= ?_) (w1:= ?_) ?_ ?_
       rotate_left 2
       ·(go_simp;constructor<;>rfl)
       have hco:=HWJ.out.lt (g:=c.co) (.inl (by simp[WkB.l]))
       have hbx:=World.rowIs.lt HRJ.out
       refine⟨fun s _=>⟨((Touch.refl [] wr.drew).alloc _).cell (p:=⟨c.co,0,none⟩) hco (by simp) |>.trans s.1,((Touch.refl [] wr.drew).alloc _).cell (p:=⟨w6.heap.size,2,none⟩) hbx (by simp) |>.trans s.2.1,((Touch.refl [] wr.drew).alloc _).cell (p:=⟨g2,o2+j,none⟩) hg2 (by simp) |>.trans s.2.2⟩, ?_⟩
       simp only[Act.put,zpa,zpb,zpc]
       refine par3_one 9 (by simp only[zga,zgb,zgc];rfl) (by kernel_rfl) (by rfl) ?_
       refine owp_append_near rfl (.tmp 93) (.tmp 101) 41 rfl B 54 j0 (.agg #[.int .u64 0, .int .u64 0]) 2 16 Tryz.underlying41 hj0 hz1 hz3 hz4 rfl (by decide) (.slice oa OL.length oc) OL.length (prF OL) rfl (ownsRow_touch HWJ.out.oo (F:=[]) ((Touch.refl [] wr).alloc _).drew (by simp)) ⟨wr.heap.size,0,none⟩ 1 1 [.int .u64 k, .int .u64 u] rfl (by decide) rfl (fun q u hu=>by rw[Addr.add_lit,Nat.zero_add];exact cell_two_new (w:=wr) hu) (fun u hu=>by simp at hu;rcases hu with rfl|rfl<;>rfl) (by unfold maxLen;omega) (by omega) (Nat.le_trans HBJ.out (Nat.le_trans (Nat.le_succ _) (Nat.le_of_eq (World.size_alloc_eq wr _).symm))) ?_
       intro g' cap' w10 ho2 hgr hnr
       have hbo:=blkOf_ownP HWJ.out.oo
       have t10:Touch (blkOf (.slice oa OL.length oc)) (wr.alloc (.cells #[.int .u64 k, .int .u64 u] 54)).drew w10:=by rw[hbo];exact Touch.of_grown hgr
       obtain⟨n1,n2,n3,n4,n5,n6⟩:=HWJ.out.nds
       have hcob:c.co∉blkOf (.slice oa OL.length oc):=fun hm=>n5 _ hm (by simp[WkB.l])
       have hxb:=(HWJ.out.xx w6.heap.size (by simp)).2.2
       have hgb:=(HWJ.out.xx g2 (by simp[ndBk,blkOf])).2.2
       have hal:(wr.alloc (.cells #[.int .u64 k, .int .u64 u] 54)).drew.heap.size=wr.heap.size+1:=World.size_alloc_eq wr _
       refine⟨fun s _=>⟨(t10.cell (p:=⟨c.co,0,none⟩) (show c.co<(wr.alloc (.cells #[.int .u64 k, .int .u64 u] 54)).drew.heap.size by rw[hal];omega) hcob).trans s.1,(t10.cell (p:=⟨w6.heap.size,2,none⟩) (show w6.heap.size<(wr.alloc (.cells #[.int .u64 k, .int .u64 u] 54)).drew.heap.size by rw[hal];omega) hxb).trans s.2.1,(t10.cell (p:=⟨g2,o2+j,none⟩) (show g2<(wr.alloc (.cells #[.int .u64 k, .int .u64 u] 54)).drew.heap.size by rw[hal];omega) hgb).trans s.2.2⟩, ?_⟩
       have hro:=rowIs_touch (rowIs_touch HWJ.out.ro (F:=[]) ((Touch.refl [] wr).alloc (.cells #[.int .u64 k, .int .u64 u] 54)).drew (by simp)) t10 hcob
       have HRO:=Lib.hid hro
       have HO2:=Lib.hid ho2
       have HT10:=Lib.hid t10
       have hgrow: ∀q∈blkOf (.slice (some ⟨g',0,none⟩) (OL.length+1) cap'),q∈blkOf (.slice oa OL.length oc)∨wr.heap.size≤q:=fun q hq=>by
        have hq:q=g':=by simpa[blkOf] using hq
        subst hq
        rcases hnr with e|e
        ·exact .inl (by rw[hbo];exact Option.mem_toList.2 e)
        ·rw[hal] at e;exact .inr (by omega)
       have HGW:=Lib.hid hgrow
       have hgc:g'≠c.co:=by
        rcases hnr with e|e
        ·intro e2;exact hcob (by rw[hbo];exact Option.mem_toList.2 (by rw[←e2];exact e))
        ·rw[hal] at e;omega
       have HGC:=Lib.hid hgc
       clear ho2 hgr hnr t10 n1 n2 n3 n4 n5 n6 hgb hxb hal hro hgrow hgc
       simp only[Act.put,zpa,zpb,zpc]
       refine par3_tail _ (by simp only[List.drop_succ_cons,List.drop_zero];rfl) (by kernel_rfl) ?_
       skip
       clear co
       have cc1:=World.rowIs.cell HRO.out (i:=0) (by decide)
       have fz:=World.rowIs.frozen HRO.out 0
       have tc:Touch [c.co] w10 (w10.setCell ⟨c.co,0,none⟩ (.slice (some ⟨g',0,none⟩) (OL.length+1) cap')):=(Touch.refl [c.co] w10).setCell (.inl (by simp)) _
       have t:Touch (c.co::blkOf (.slice oa OL.length oc)) wr (w10.setCell ⟨c.co,0,none⟩ (.slice (some ⟨g',0,none⟩) (OL.length+1) cap')):=
        ((((Touch.refl (c.co::blkOf (.slice oa OL.length oc)) wr).alloc (.cells #[.int .u64 k, .int .u64 u] 54)).drew).trans HT10.out (fun b hb=> .inl (by simp[hb]))).trans tc (fun b hb=> .inl (by simp at hb;simp[hb]))
       have hwk2:=HWJ.out.pair (q:=(k,u)) (by rw[List.length_append,prF_app];exact ownsRow_touch HO2.out tc (fun q hq=>by simp[Value.ownBlock] at hq;subst hq;have:=HGC.out;simpa using this)) (World.rowIs.congr (HRO.out.set 0 (.slice (some ⟨g',0,none⟩) (OL.length+1) cap')) (fun i hi=>by rcases i with _|i<;>first|rfl|(exfalso;omega))) HGW.out t
       rw[HON.out] at hwk2
       have HWK2:=Lib.hid hwk2
       have HSX2:=Lib.hid (HSJ.out.trans (SameX.of_touch t (fun x hx=>⟨HWJ.out.pg.lt x (by simp only[List.mem_append] at hx ⊢;exact .inr (.inr (.inr hx))),by
        have:=HWJ.out.xx x hx
        simp only[List.mem_cons,not_or]
        exact⟨fun e=>this.1 (by rw[e];simp[WkB.l]),this.2.2⟩⟩)))
       clear tc t hwk2
       go_wp2_with fail
       refine NoPanic.normal ?_
       clear cc1 fz
       go_wp2_with fail
       go_roundw
       case rel=>exact⟨j+1,_,_,by omega,by go_num,HWK2.out,HSX2.out⟩
       case measure=>simp[intOf];omega
      ·have hje:j=n.keys.length:=by omega
       subst hje
       have hzl:(n.keys.zip n.vals).length=n.keys.length:=by rw[List.length_zip,HVL.out,Nat.min_self]
       have HZL:=Lib.hid hzl
       clear hzl
       go_wp2_with fail
       go_ret
       rw[HQ5.out]
       have hwk:=HWJ.out
       rw[List.take_of_length_le (by rw[HZL.out];exact Nat.le_refl _)] at hwk
       refine⟨rfl,⟨_,_,hwk.subX (fun x hx=>by simp[hx]) (by simp;omega)⟩,HX9.out.trans (HSJ.out.sub (fun x hx=>by simp[hx])),fun _=>⟨HW.out.add (by simpa using HC.out) (HRG.out trivial) _ _, ?_⟩⟩
       have h1:=HO.out
       have h2:=HZL.out
       simp only[List.length_append,List.length_singleton]
       omega
end Go.Proofs.YtjgkegkinnlcoaaGreatDoor
namespace Go.Proofs.YtjgkegkinnlcoaaGreatDoor
open Go.RowKit Go.Maps Go.Joins
section
variable {M:PM}
theorem fold_wk {f:Nat} (ih: ∀(no low high:Int) (op:Bool) (s:WS),WOk M s→((wlkL M f no low high op s).1=0→WOk M (wlkL M f no low high op s).2)∧(wlkL M f no low high op s).2.pages.length≤M.most+1):
  ∀(L:List SpK) (a:Int × WS),(a.1=0→WOk M a.2)→a.2.pages.length≤M.most+1→((L.foldl (fun a q=>if a.1≠0 then a else wlkL M f q.1 q.2.1 q.2.2.1 q.2.2.2 a.2) a).1=0→WOk M (L.foldl (fun a q=>if a.1≠0 then a else wlkL M f q.1 q.2.1 q.2.2.1 q.2.2.2 a.2) a).2)∧(L.foldl (fun a q=>if a.1≠0 then a else wlkL M f q.1 q.2.1 q.2.2.1 q.2.2.2 a.2) a).2.pages.length≤M.most+1
 | [],a,h1,h2=>⟨h1,h2⟩
 |q::L,a,h1,h2=>by
  rw[List.foldl_cons]
  by_cases ha:a.1=0
  ·rw[if_neg (by simpa using ha)]
   obtain⟨b1,b2⟩:=ih q.1 q.2.1 q.2.2.1 q.2.2.2 a.2 (h1 ha)
   exact fold_wk ih L _ b1 b2
  ·rw[if_pos ha]
   exact fold_wk ih L _ h1 h2
theorem wlk_ok (hs:Snd M): ∀(f:Nat) (no low high:Int) (op:Bool) (s:WS),WOk M s→((wlkL M f no low high op s).1=0→WOk M (wlkL M f no low high op s).2)∧(wlkL M f no low high op s).2.pages.length≤M.most+1
 |0,no,low,high,op,s,h=>⟨fun e=>(by cases e),by have:=h.few;show s.pages.length≤_;omega⟩
 |f+1,no,low,high,op,s,h=>by
  have hf:=h.few
  unfold wlkL
  simp only
  by_cases hc:s.pages.contains no=true
  ·rw[if_pos hc];exact⟨fun e=>(by cases e),by show s.pages.length≤_;omega⟩
  rw[if_neg hc]
  have hl:(s.pages++[no]).length≤M.most+1:=by simp;omega
  by_cases he:(ndRead M no).1=0
  rotate_left
  ·rw[if_pos he];exact⟨fun e=>absurd e he,hl⟩
  rw[if_neg (by simpa using he)]
  have hr:=ndRead_rg hs he
  have hn: ∀o d,WOk M ⟨s.pages++[no],o,d⟩:=fun o d=>h.add (by simpa using hc) hr o d
  split
  ·exact⟨fun e=>(by cases e),hl⟩
  split
  ·exact⟨fun e=>(by cases e),hl⟩
  by_cases hlf:(ndRead M no).2.leaf=true
  ·rw[if_pos hlf]
   by_cases hz:s.depth=0
   ·rw[if_pos hz]
    split
    ·exact⟨fun e=>(by cases e),hl⟩
    ·exact⟨fun _=>hn _ _,hl⟩
   ·rw[if_neg hz]
    split
    ·exact⟨fun e=>(by cases e),hl⟩
    ·exact⟨fun _=>hn _ _,hl⟩
  ·rw[if_neg hlf]
   exact fold_wk (wlk_ok hs f) _ _ (fun _=>hn _ _) hl
theorem wok_nil:WOk M ⟨[],[],0⟩:=⟨List.nodup_nil,fun q hq=>by cases hq⟩
end
theorem one_row (w:World) (t:TypeId) (v:Value):(w.alloc (.cells #[v] t)).rowIs w.heap.size t 1 (fun _=>v):=World.rowIs_alloc w #[v] t (fun _=>v) (fun i hi=>by rcases i with _|i<;>first|rfl|(simp at hi))
theorem row_alloc {w:World} {b n:Nat} {t:TypeId} {f:Nat→Value} (h:w.rowIs b t n f) (o:Obj):(w.alloc o).rowIs b t n f:=rowIs_touch h (F:=[]) ((Touch.refl [] w).alloc o) (by simp)
theorem WkAt.start {w0 w w':World} {p K B:Nat} {M:PM} {X:List Nat} {c:WkB} (h:PgX w0 w p K M (c.cq::X)) (hb:Below w.heap.size w w') (hB:w0.heap.size≤B) (hX: ∀x∈X,x<B) (hq:B≤c.cq) (hBw:B≤w.heap.size) (hl: ∀g∈c.l,g=c.cq∨(w.heap.size≤g∧g<w'.heap.size)) (hn:c.l.Nodup)
  (rm:w'.rowIs c.cm 175 1 (fun _=> .map (some c.mb))) (rp:w'.rowIs c.cp 67 1 (fun _=> .slice none 0 0)) (rq:w'.rowIs c.cq 24 1 (fun _=> .pointer (some ⟨p,0,none⟩))) (rd:w'.rowIs c.cd 3 1 (fun _=> .int .i64 0)) (ro:w'.rowIs c.co 41 1 (fun _=> .slice none 0 0))
  (rf:w'.rowIs c.cw 206 1 (fun _=>wkFn c)) (mp:MapT w' Tryz.prog 3 c.mb 0 (Value.int .i64) Value.bool (fun _=>none)):WkAt w0 w' p K M X B c (.slice none 0 0) (.slice none 0 0) ⟨[],[],0⟩:=by
 have hg: ∀g∈c.l,B≤g:=fun g hg=>by
  rcases hl g hg with rfl|h1
  ·exact hq
  ·omega
 refine⟨h.move hb (fun y hy=> ?_),rm,rp,rq,rd,ro,rf,mp,World.ownsRow_nil _ _ _ _,World.ownsRow_nil _ _ _ _,by simpa[blkOf] using hn,fun x hx=>⟨fun hm=> ?_,by simp[blkOf],by simp[blkOf]⟩,hB,fun x hx=>Nat.le_trans hB (hg x hx)⟩
 ·simp only[List.mem_append] at hy
  rcases hy with hy|hy|hy|hy
  ·rcases hl y hy with rfl|h1
   ·exact .inl (by simp)
   ·exact .inr h1
  ·simp[blkOf] at hy
  ·simp[blkOf] at hy
  ·exact .inl (by simp[hy])
 ·have:=hX x hx;have:=hg x hm;omega
end Go.Proofs.YtjgkegkinnlcoaaGreatDoor
namespace Go.Proofs.YtjgkegkinnlcoaaGreatDoor
open Go.RowKit Go.Maps Go.Joins
theorem neq_of_eqlP {P:Program} {t:TypeId} {xs ys:Array Value} {v:Bool} {w:World} (h:(binOp .eql t (.agg xs) (.agg ys)).run P w= .ok (.bool v) w):(binOp .neq t (.agg xs) (.agg ys)).run P w= .ok (.bool (!v)) w:=by
 rw[run_eql_struct] at h
 rw[run_neq_struct]
 generalize (Op.equalIn 10000 t (.agg xs) (.agg ys)).run P w=r at h ⊢
 cases r with
 |ok b w'=>
  simp only[Result.andThen_ok] at h ⊢
  injection h with h1 h2
  injection h1 with h1
  rw[h1,h2]
 |halt x w'=>simp[Result.andThen] at h
theorem equal_rp (w:World) (x y:Int × Int):(binOp .eql 106 (.agg #[.int .u64 x.1, .int .u64 x.2]) (.agg #[.int .u64 y.1, .int .u64 y.2])).run Tryz.prog w= .ok (.bool (decide (x=y))) w:=by
 obtain⟨a1,a2⟩:=x
 obtain⟨b1,b2⟩:=y
 simp[go_sem]
 by_cases h1:a1=b1<;>by_cases h2:a2=b2<;>simp[h1,h2]
theorem drewN_below {w wr:World} (h:Below w.heap.size w wr) (q:Nat):Below w.heap.size w (wr.drewN q):=⟨h.os,h.tape,h.output,h.size,h.block⟩
set_option maxRecDepth 100000 in
set_option maxHeartbeats 2000000 in
theorem rsame_any {w:World} {u v:Value} {l k:List (Int × Int)} (h:IsP w u l) (h2:IsP w v k) (hl:l.length≤100000) (hk:k.length≤100000):
  Calls Tryz.prog 21 #[u,v] w fun e w'=>e= .returned (.bool (decide (l=k)))∧Below w.heap.size w w':=by
 obtain⟨a0,c0,rfl⟩:=h.form
 obtain⟨a1,c1,rfl⟩:=h2.form
 have HL:=Lib.hid h
 have HK:=Lib.hid h2
 clear h h2
 by_cases hn:l.length=k.length
 rotate_left
 ·have z:((l.length:Int) != (k.length:Int))=true:=by simp;omega
  have hq:decide (l=k)=false:=decide_eq_false (fun e=>hn (by rw[e]))
  rw[hq]
  clear hq
  go_enter Tryz.func21,Tryz.ntmps21
  go_wp2_with fail
  go_ret
  exact⟨rfl,Below.refl _ _⟩
 obtain⟨n,hnl⟩: ∃n,n=l.length:=⟨_,rfl⟩
 have HN:=Lib.hid (And.intro hnl hn)
 rw[←hn, ←hnl]
 have hn9:n≤100000:=by omega
 obtain⟨T,hT⟩: ∃T,T=decide (l=k):=⟨_,rfl⟩
 rw[←hT]
 have HT:=Lib.hid hT
 have z:((n:Int) != (n:Int))=false:=by simp
 clear hn hnl hT hl hk
 go_enter Tryz.func21,Tryz.ntmps21
 go_wp2_with fail
 go_loopw [5] (fun v wr=> ∃i:Nat,i≤n∧v= .int .i64 i∧(∀j,j<i→l[j]? =k[j]?)∧Below w.heap.size w wr) (fun v _=>n - (intOf v).toNat)
 case atStart=>exact⟨0,Nat.zero_le _,rfl,fun j hj=>absurd hj (by omega),Below.refl _ _⟩
 case round=>
  obtain⟨i,hi,rfl,hall,hb⟩:=hrel
  have HB:=Lib.hid hb
  have HA:=Lib.hid hall
  clear hb hall
  by_cases hlt:i<n
  ·have hil:i<l.length:=by have:=HN.out.1;omega
   have hik:i<k.length:=by have:=HN.out.1;have:=HN.out.2;omega
   obtain⟨g1,o1,d1,hv,hg,hcs⟩:=(HL.out.below HB.out).at_ (by have:=HN.out.1;omega)
   injection hv with hva hvn hvc
   subst hva
   subst hvc
   obtain⟨g2,o2,d2,hv2,hg2,hcs2⟩:=(HK.out.below HB.out).at_ (by have:=HN.out.1;have:=HN.out.2;omega)
   injection hv2 with hva2 hvn2 hvc2
   subst hva2
   subst hvc2
   have hx:l[i]? =some l[i]:=List.getElem?_eq_getElem hil
   have hy:k[i]? =some k[i]:=List.getElem?_eq_getElem hik
   obtain⟨x0,x1⟩:=hcs i _ hx
   obtain⟨y0,y1⟩:=hcs2 i _ hy
   obtain⟨x,hxe⟩: ∃x,x=l[i]:=⟨_,rfl⟩
   obtain⟨y,hye⟩: ∃y,y=k[i]:=⟨_,rfl⟩
   rw[←hxe] at x0 x1 hx
   rw[←hye] at y0 y1 hy
   have HX:=Lib.hid hx
   have HY:=Lib.hid hy
   clear hx hy hcs hcs2 hvn hvn2 hxe hye hil hik
   have yi:(i:Int)<(n:Int):=by omega
   have hne:=fun w=>neq_of_eqlP (equal_rp w x y)
   cases hxy:decide (x=y)
   ·rw[hxy] at hne
    have F:T=false:=by
     rw[HT.out]
     exact decide_eq_false (fun h=>by
      have h1:=HX.out
      rw[h,HY.out] at h1
      injection h1 with h1
      exact absurd h1.symm (of_decide_eq_false hxy))
    subst F
    clear hxy
    simp only[Bool.not_false] at hne
    go_wp2_with fail
    go_quiet (fail)
    go_wp2_with fail
    go_ret
    exact⟨rfl,drewN_below HB.out _⟩
   ·rw[hxy] at hne
    have HXY:=Lib.hid (of_decide_eq_true hxy)
    clear hxy
    simp only[Bool.not_true] at hne
    go_wp2_with fail
    go_quiet (fail)
    go_wp2_with fail
    go_roundw
    case rel=>
     refine⟨i+1,by omega,by go_num,fun j hj=> ?_,drewN_below HB.out _⟩
     by_cases e:j=i
     ·subst e;rw[HX.out,HY.out,HXY.out]
     ·exact HA.out j (by omega)
    case measure=>simp[intOf];omega
  ·obtain rfl:n=i:=by omega
   have F:T=true:=by
    rw[HT.out]
    exact decide_eq_true (by
     apply List.ext_getElem?
     intro j
     by_cases hj:j<n
     ·exact HA.out j hj
     ·rw[List.getElem?_eq_none (by have:=HN.out.1;omega),List.getElem?_eq_none (by have:=HN.out.1;have:=HN.out.2;omega)])
   subst F
   go_wp2_with fail
   go_ret
   exact⟨rfl,HB.out⟩
end Go.Proofs.YtjgkegkinnlcoaaGreatDoor
namespace Go.Proofs.YtjgkegkinnlcoaaGreatDoor
open Go.RowKit Go.Maps Go.Joins
def AllPost (w0 w:World) (p K:Nat) (M:PM) (X:List Nat) (r:List (Int × Int) × List Int × Int) (vo vp:Value) (w':World):Prop:=
 w'.ownsRow w.heap.size 54 2 vo r.1.length (prF r.1)∧w'.ownsRow w.heap.size 3 1 vp r.2.1.length (r.2.1.map (Value.int .i64))∧PgX w0 w' p (K+300000) M (blkOf vo++(blkOf vp++X))∧SameX X w w'∧r.1.length≤4000000∧r.2.1.length≤65536∧(blkOf vo++blkOf vp).Nodup
theorem AllPost.none {w0 w w':World} {p K J:Nat} {M:PM} {X Y:List Nat} {e:Int} (h:PgX w0 w' p J M Y) (hs:SameX X w w') (hJ:J≤K+300000) (hY: ∀x∈X,x∈Y):AllPost w0 w p K M X ([],[],e) (.slice none 0 0) (.slice none 0 0) w':=
 ⟨World.ownsRow_nil _ _ _ _,World.ownsRow_nil _ _ _ _,(h.sub (fun y hy=>by simp[blkOf] at hy;exact hY y hy)).mono hJ,hs,by simp,by simp,by simp[blkOf]⟩
theorem AllPost.some {w0 w w':World} {p K J:Nat} {M:PM} {X:List Nat} {c:WkB} {vp vo:Value} {s:WS} (h:WkAt w0 w' p J M X w.heap.size c vp vo s) (hs:SameX X w w') (hJ:J≤K+300000) (hw:WOk M s) (ho:s.out.length≤40*s.pages.length):AllPost w0 w p K M X (s.out,s.pages,0) vo vp w':=by
 have hf:=hw.few
 have hm:=h.pg.f.most
 refine⟨h.oo,h.op,(h.pg.sub (fun y hy=> ?_)).mono hJ,hs,by simp only;omega,by simp only;omega, ?_⟩
 ·simp only[List.mem_append] at hy ⊢
  rcases hy with hy|hy|hy<;>simp[hy]
 ·obtain⟨a,b,c1,d,e,f⟩:=h.nds
  rw[List.nodup_append]
  exact⟨c1,b,fun x hx y hy e2=>f y hy (by rw[←e2];exact hx)⟩
set_option maxRecDepth 100000 in
set_option maxHeartbeats 4000000 in
theorem whole_any {w0 w:World} {p K:Nat} {M:PM} {X:List Nat} (h:PgX w0 w p K M X) (hK:K≤500000000000) (root:Int):
  Calls Tryz.prog 62 #[.pointer (some ⟨p,0,none⟩), .int .i64 root] w fun e w'=> ∃vo vp,e= .returned (.tuple #[vo,vp, .int .i64 (wholeB M root).2.2])∧AllPost w0 w p K M X (wholeB M root) vo vp w':=by
 have hb0:Below w.heap.size w (w.alloc (.cells #[.pointer (some ⟨p,0,none⟩)] 24)):=below_alloc (Below.refl _ _)
 have hr0:=one_row w 24 (.pointer (some ⟨p,0,none⟩))
 have hp0:=h.move (Y:=w.heap.size::X) hb0 (fun y hy=>by
  rcases List.mem_cons.1 hy with rfl|hy
  ·exact .inr ⟨Nat.le_refl _,World.rowIs.lt hr0⟩
  ·exact .inl hy)
 have HTP:=Lib.hid (top_any hp0 (by omega) root)
 have hbd:0≤(topB M root).1∧(topB M root).1≤4294967295:=by
  obtain⟨b1,b2,b3⟩:=rootP_bd M root
  unfold topB
  simp only
  split
  ·simp
  ·rename_i hn
   by_cases e:(rootP M root).2=0
   ·simp only[e,true_and] at hn;omega
   ·have:=b3 e;omega
 obtain⟨R,hR⟩: ∃R,R=wholeB M root:=⟨_,rfl⟩
 rw[←hR]
 unfold wholeB at hR
 generalize topB M root=T at HTP hbd hR
 obtain⟨no,er⟩:=T
 simp only at HTP hbd hR
 obtain⟨n0,n1⟩:=hbd
 have H:=Lib.hid h
 have HR:=Lib.hid hR
 have HR0:=Lib.hid hr0
 have HB0:=Lib.hid hb0
 have hmm:= @run_makeMap Tryz.prog
 clear hR h hr0 hb0 hp0
 go_enter Tryz.func62,Tryz.ntmps62
 go_wp2_with fail
 refine HTP.out.mono ?_
 rintro e w1 ⟨rfl,hp1,hs1⟩
 have HP1:=Lib.hid hp1
 have HS01:=Lib.hid (show SameX X w w1 from(SameX.of_below HB0.out H.out.lt).trans (hs1.sub (fun x hx=>by simp[hx])))
 have HR1:=Lib.hid (hs1.row HR0.out (by simp))
 have HSZ:=Lib.hid (show w.heap.size<w1.heap.size from Nat.lt_of_lt_of_le (World.rowIs.lt HR0.out) hs1.size)
 have cq:=World.rowIs.cell (hs1.row HR0.out (by simp)) (i:=0) (by decide)
 clear hp1 hs1 HTP
 by_cases her:er=0
 rotate_left
 ·have d1:(er != 0)=true:=by simpa using her
  have hq:R=([],[],er):=by rw[HR.out,if_pos (.inl her)]
  subst hq
  go_wp2_with fail
  go_ret3
  exact⟨_,_,rfl,AllPost.none HP1.out HS01.out (by omega) (fun x hx=>by simp[hx])⟩
 subst her
 by_cases hno:no=0
 ·have hq:R=([],[],0):=by rw[HR.out,if_pos (.inr hno)]
  subst hq
  subst hno
  go_wp2_with fail
  go_ret3
  exact⟨_,_,rfl,AllPost.none HP1.out HS01.out (by omega) (fun x hx=>by simp[hx])⟩
 have d1:(no==0)=false:=by simpa using hno
 go_upto_region 10 with fail
 refine wp_name (fun W hW=> ?_)
 have hq:R=(if (wlkL M 16 no 0 0 true ⟨[],[],0⟩).1≠0 then([],[],(wlkL M 16 no 0 0 true ⟨[],[],0⟩).1) else((wlkL M 16 no 0 0 true ⟨[],[],0⟩).2.out,(wlkL M 16 no 0 0 true ⟨[],[],0⟩).2.pages,0)):=by rw[HR.out,if_neg (by simpa using hno)]
 have hwk:=wlk_ok HP1.out.s 16 no 0 0 true ⟨[],[],0⟩ wok_nil
 have hbW:Below w1.heap.size w1 W:=by rw[←hW];exact below_alloc (below_alloc (below_alloc (below_alloc (below_alloc (below_alloc (Below.refl _ _))))))
 have hsW:W.heap.size=w1.heap.size+1+1+1+1+1+1:=by rw[←hW];simp
 obtain⟨c,hc⟩: ∃c:WkB,c=⟨w1.heap.size+1+1+1,w1.heap.size+1,w.heap.size,w1.heap.size+1+1+1+1,w1.heap.size,w1.heap.size+1+1+1+1+1,w1.heap.size+1+1⟩:=⟨_,rfl⟩
 have hst:WkAt w0 W p (K+2) M X w.heap.size c (.slice none 0 0) (.slice none 0 0) ⟨[],[],0⟩:=by
  have hsz:=HSZ.out
  subst hc
  refine WkAt.start (w:=w1) HP1.out hbW H.out.below.size (fun x hx=>H.out.lt x hx) (Nat.le_refl _) (Nat.le_of_lt hsz) (fun g hg=> ?_) ?_ ?_ ?_ ?_ ?_ ?_ ?_ ?_
  ·simp only[WkB.l,List.mem_cons,List.not_mem_nil,or_false] at hg
   rcases hg with rfl|rfl|rfl|rfl|rfl|rfl|rfl
   ·exact .inr (by omega)
   ·exact .inr (by omega)
   ·exact .inl rfl
   ·exact .inr (by omega)
   ·exact .inr (by omega)
   ·exact .inr (by omega)
   ·exact .inr (by omega)
  ·simp only[WkB.l,List.nodup_cons,List.mem_cons,List.not_mem_nil,or_false,not_or,not_false_eq_true,List.nodup_nil,and_true]
   refine⟨?_, ?_, ?_, ?_, ?_, ?_⟩<;>omega
  ·have:=one_row (((w1.alloc (.cells #[.slice none 0 0] 41)).alloc (.cells #[.slice none 0 0] 67)).alloc (.map #[] 0)) 175 (.map (some (w1.heap.size+1+1)))
   simp only[World.size_alloc_eq] at this
   rw[←hW]
   exact row_alloc (row_alloc this _) _
  ·have:=one_row (w1.alloc (.cells #[.slice none 0 0] 41)) 67 (.slice none 0 0)
   simp only[World.size_alloc_eq] at this
   rw[←hW]
   exact row_alloc (row_alloc (row_alloc (row_alloc this _) _) _) _
  ·rw[←hW]
   exact row_alloc (row_alloc (row_alloc (row_alloc (row_alloc (row_alloc HR1.out _) _) _) _) _) _
  ·have:=one_row ((((w1.alloc (.cells #[.slice none 0 0] 41)).alloc (.cells #[.slice none 0 0] 67)).alloc (.map #[] 0)).alloc (.cells #[.map (some (w1.heap.size+1+1))] 175)) 3 (.int .i64 0)
   simp only[World.size_alloc_eq] at this
   rw[←hW]
   exact row_alloc this _
  ·rw[←hW]
   exact row_alloc (row_alloc (row_alloc (row_alloc (row_alloc (one_row w1 41 (.slice none 0 0)) _) _) _) _) _
  ·have:=one_row (((((w1.alloc (.cells #[.slice none 0 0] 41)).alloc (.cells #[.slice none 0 0] 67)).alloc (.map #[] 0)).alloc (.cells #[.map (some (w1.heap.size+1+1))] 175)).alloc (.cells #[.int .i64 0] 3)) 206 (wkFn ⟨w1.heap.size+1+1+1,w1.heap.size+1,w.heap.size,w1.heap.size+1+1+1+1,w1.heap.size,w1.heap.size+1+1+1+1+1,w1.heap.size+1+1⟩)
   simp only[World.size_alloc_eq] at this
   rw[←hW]
   exact this
  ·have:=MapT.made ((w1.alloc (.cells #[.slice none 0 0] 41)).alloc (.cells #[.slice none 0 0] 67)) Tryz.prog 3 (Value.int .i64) Value.bool
   simp only[World.size_alloc_eq] at this
   rw[←hW]
   exact((this.alloc _).alloc _).alloc _
 have hcall:=walk_any 16 (K:=K+2) hst wok_nil (by simp) (by have:=HSZ.out;omega) (by omega) no 0 0 1 true (by omega) (by omega) (by omega) (by decide) (by decide)
 have cw:=World.rowIs.cell hst.rf (i:=0) (by decide)
 unfold wkFn at cw
 have HSW:=Lib.hid (HS01.out.trans (SameX.of_below hbW (fun x hx=>HP1.out.lt x (by simp[hx]))))
 rw[hc] at hcall cw
 have HCL:=Lib.hid hcall
 have HWO:=Lib.hid hwk
 have HQ:=Lib.hid hq
 have HM:=Lib.hid HP1.out.f.most
 clear hcall hwk hq hst hbW hsW hc hW cq hmm
 simp only at HCL cw
 generalize wlkL M 16 no 0 0 true ⟨[],[],0⟩=r at HCL HQ HWO
 go_wp2_with fail
 refine HCL.out.mono ?_
 rintro e w2 ⟨rfl,⟨vp,vo,hwk⟩,hsx,hok⟩
 have HW2:=Lib.hid hwk
 have HS2:=Lib.hid (HSW.out.trans hsx)
 have HOK:=Lib.hid hok
 clear hwk hsx hok cw
 obtain⟨re,s2⟩:=r
 simp only at HW2 HOK HQ HWO
 by_cases hre:re=0
 rotate_left
 ·have d2:(re != 0)=true:=by simpa using hre
  have hq:R=([],[],re):=by rw[HQ.out,if_pos hre]
  subst hq
  go_wp2_with fail
  go_ret3
  exact⟨_,_,rfl,AllPost.none HW2.out.pg HS2.out (by have:=HWO.out.2;have:=HM.out;omega) (fun x hx=>by simp[hx])⟩
 subst hre
 have hq:R=(s2.out,s2.pages,0):=by rw[HQ.out,if_neg (by simp)]
 subst hq
 have c1:=World.rowIs.cell HW2.out.rp (i:=0) (by decide)
 have c2:=World.rowIs.cell HW2.out.ro (i:=0) (by decide)
 simp only at c1 c2
 go_wp2_with fail
 go_quiet (fail)
 go_wp2_with fail
 go_ret3
 have hd:=drewN_below (Below.refl w2.heap.size w2)
 exact⟨_,_,rfl,AllPost.some (HW2.out.below (hd _)) (HS2.out.trans (SameX.of_below (hd _) (fun x hx=>HW2.out.pg.lt x (by simp[hx])))) (by have:=HWO.out.2;have:=HM.out;omega) (HOK.out trivial).1 (HOK.out trivial).2⟩
end Go.Proofs.YtjgkegkinnlcoaaGreatDoor
namespace Go.Proofs.YtjgkegkinnlcoaaGreatDoor
open Go.RowKit Go.Maps Go.Joins
set_option maxRecDepth 100000 in
theorem All_any {w0 w:World} {p K:Nat} {M:PM} {X:List Nat} (h:PgX w0 w p K M X) (hK:K≤500000000000) (root:Int):
  Calls Tryz.prog 20 #[.pointer (some ⟨p,0,none⟩), .int .i64 root] w fun e w'=> ∃vo,e= .returned (.tuple #[vo, .int .i64 (wholeB M root).2.2])∧w'.ownsRow w.heap.size 54 2 vo (wholeB M root).1.length (prF (wholeB M root).1)∧PgX w0 w' p (K+300000) M (blkOf vo++X)∧SameX X w w'∧(wholeB M root).1.length≤4000000:=by
 have HWH:=Lib.hid (whole_any h hK root)
 clear h
 generalize wholeB M root=R at HWH
 go_enter Tryz.func20,Tryz.ntmps20
 go_wp2_with fail
 refine HWH.out.mono ?_
 rintro e w1 ⟨vo,vp,rfl,h1,h2,h3,h4,h5,h6,h7⟩
 have H1:=Lib.hid h1
 have H3:=Lib.hid h3
 clear h1 h2 h3 h7 HWH
 go_wp2_with fail
 go_ret2
 exact⟨vo,rfl,H1.out,H3.out.sub (fun y hy=>by simp only[List.mem_append] at hy ⊢;rcases hy with hy|hy<;>simp[hy]),h4,h5⟩
end Go.Proofs.YtjgkegkinnlcoaaGreatDoor
namespace Go.Proofs.YtjgkegkinnlcoaaGreatDoor
open Go.RowKit
structure BtI (M:PM) (R:RM) (N:Nat) (G:Int) (i:Nat) (seg:List (Int × Int)) (P:List Int):Prop where
 rel:Rel M R N G
 mr:R.most≤R.room
 root: ∃h,RootAt M R i h seg P
 nd:P.Nodup
 live: ∀q∈P,Live R q
 use:lenR R=R.way.free.length+P.length+1
 bd: ∀p∈seg,0≤p.1
section
variable {M M':PM} {R R':RM} {N:Nat} {G:Int} {i:Nat} {seg:List (Int × Int)} {P:List Int} {key val:Int}
theorem RootAt.much {h:Nat} (t:RootAt M R i h seg P):14*P.length≤seg.length+13∧(0<h→30*21 ^ (h - 1)≤seg.length):=by
 rcases t with ⟨-,rfl,rfl,rfl⟩|⟨-,t⟩
 ·simp
 ·exact t.muchR
theorem RootAt.deepOf {h:Nat} (t:RootAt M R i h seg P) (hs:seg.length≤10000):h≤2:=by
 obtain⟨-,h2⟩:=t.much
 by_cases h3:h≤2
 ·exact h3
 ·have h4:=h2 (by omega)
  have h5:21 ^ 2≤21 ^ (h - 1):=Nat.pow_le_pow_right (by decide) (by omega)
  omega
theorem RootAt.risP {h:Nat} (t:RootAt M R i h seg P):RisP seg:=by
 rcases t with ⟨-,rfl, -, -⟩|⟨-,t⟩
 ·exact List.Pairwise.nil
 ·exact t.ris
theorem BtI.ris (h:BtI M R N G i seg P):RisP seg:=by
 obtain⟨k,t⟩:=h.root
 exact t.risP
theorem BtI.few (h:BtI M R N G i seg P):14*P.length≤seg.length+13:=by
 obtain⟨k,t⟩:=h.root
 exact t.much.1
theorem BtI.put (h:BtI M R N G i seg P) (hi:i<8) (hs:seg.length≤2600) (hm:300≤R.most) (hk:0≤key∧key≤18446744073709551615) (hv:0≤val∧val≤18446744073709551615):
  ∃M' R' P',putB M i key val=(0,M')∧BtI M' R' N G i (insP key val seg) P'∧R'.most=R.most∧R'.room=R.room:=by
 obtain⟨k,t⟩:=h.root
 have hk2:=t.deepOf (by omega)
 have hf:=h.few
 have hu:=h.use
 obtain⟨M',R',h',P',e1,e2,e3,c, -⟩:=putB_tr hk hv h.rel h.mr hi t h.nd h.live (by omega) (by omega)
 have hc:=c.cnt
 refine⟨M',R',P',e1,⟨e2,by rw[c.most,c.room];exact h.mr,⟨h',e3⟩,c.nd,c.live,by omega,fun p hp=> ?_⟩,c.most,c.room⟩
 rcases insP_mem hp with rfl|hp
 ·exact hk.1
 ·exact h.bd p hp
theorem BtI.del (h:BtI M R N G i seg P) (hi:i<8) (hs:seg.length≤2600) (key:Int):
  ∃M' R' P',delB M i key=(refDelE key seg,M')∧BtI M' R' N G i (delP key seg) P'∧R'.most=R.most∧R'.room=R.room:=by
 obtain⟨k,t⟩:=h.root
 have hk2:=t.deepOf (by omega)
 obtain⟨h1,h2⟩:=delB_tr (key:=key) h.rel h.mr hi t h.nd h.live (by omega)
 by_cases hh: ∃p∈seg,p.1=key
 ·obtain⟨M',R',h',P',e1,e2,e3,c, -⟩:=h2 hh
  have hc:=c.cnt
  have hu:=h.use
  refine⟨M',R',P', ?_,⟨e2,by rw[c.most,c.room];exact h.mr,⟨h',e3⟩,c.nd,c.live,by omega,fun p hp=>h.bd p (delP_mem hp)⟩,c.most,c.room⟩
  unfold refDelE
  rw[if_pos (hasP_iff.2 hh)]
  exact e1
 ·refine⟨M,R,P, ?_, ?_,rfl,rfl⟩
  ·unfold refDelE
   rw[if_neg (fun e=>hh (hasP_iff.1 e))]
   exact h1 hh
  ·rw[delP_none hh];exact h
theorem BtI.get (h:BtI M R N G i seg P) (hi:i<8) (hs:seg.length≤2600) (key:Int):getB M i key=findP key seg:=by
 obtain⟨k,t⟩:=h.root
 have hk2:=t.deepOf (by omega)
 exact getB_tr h.rel hi t h.live (by omega)
theorem BtI.whole (h:BtI M R N G i seg P) (hi:i<8) (hs:seg.length≤2600):wholeB M i=(seg,P,0):=by
 obtain⟨k,t⟩:=h.root
 have hk2:=t.deepOf (by omega)
 exact wholeB_tr h.rel hi t h.nd h.live (by omega) h.bd
theorem BtI.deep (h:BtI M R N G i seg P) (hi:i<8) (hs:seg.length≤2600): ∃d:Nat,deepB M i=((d:Int),0)∧d≤3∧(d=0↔seg=[])∧(seg.length<30→d≤1)∧(seg.length<630→d≤2):=by
 obtain⟨k,t⟩:=h.root
 have hk2:=t.deepOf (by omega)
 have hmu:=t.much.2
 have htop:=topB_of h.rel hi (t.small h.rel h.live)
 unfold deepB
 rw[htop]
 rcases t with ⟨e,rfl,rfl,rfl⟩|⟨e,t⟩
 ·refine⟨0, ?_,by omega,by simp,by simp,by simp⟩
  simp only[if_neg (show¬((0:Int)≠0) by simp),e]
  rfl
 ·refine⟨k+1, ?_,by omega,⟨fun h=>by omega,fun h=>absurd h t.some⟩,fun hl=> ?_,fun hl=> ?_⟩
  ·simp only[if_neg (show¬((0:Int)≠0) by simp)]
   rw[t.deep (f:=16) (by omega) (by omega) e]
   simp only[Prod.mk.injEq,and_true]
   omega
  ·by_cases hk0:0<k
   ·have h3:=hmu hk0
    have:1≤21 ^ (k - 1):=Nat.pow_pos (by decide)
    omega
   ·omega
  ·by_cases hk1:1<k
   ·have h3:=hmu (by omega)
    have:21 ^ 1≤21 ^ (k - 1):=Nat.pow_le_pow_right (by decide) (by omega)
    omega
   ·omega
theorem BtI.new (h:Rel M (newR R.most R.room) N G) (hm:R.most≤R.room) (hi:i<8):BtI M (newR R.most R.room) N G i [] []:=by
 refine⟨h,hm,⟨0, .inl ⟨?_,rfl,rfl,rfl⟩⟩,List.nodup_nil,by simp, ?_,by simp⟩
 ·show(List.replicate 8 (0:Int)).getD i 0=0
  rw[List.getD_eq_getElem?_getD,List.getElem?_replicate]
  split<;>rfl
 ·rfl
end
end Go.Proofs.YtjgkegkinnlcoaaGreatDoor
namespace Go.Proofs.YtjgkegkinnlcoaaGreatDoor
open Go.RowKit Go.Maps Go.Joins
theorem PrRow.app2 {w wr w':World} {v v':Value} {O:List (Int × Int)} {p:Int × Int} {o:Obj} (h:PrRow w wr v O) (ho:w'.ownsRow w.heap.size 106 2 v' (O.length+1) (prF O++[.int .u64 p.1, .int .u64 p.2])) (hgr:(wr.alloc o).drew.grownBy w' v.ownBlock):
  PrRow w w' v' (O++[p]):=by
 refine⟨?_,(h.below.alloc h.below.size _).drew.grown hgr (Nat.le_trans h.below.size (Nat.le_trans (Nat.le_succ _) (Nat.le_of_eq (World.size_alloc_eq wr _).symm))) (fun q hq=>(h.own.lt q hq).1)⟩
 rw[List.length_append,prF_app]
 exact ho
set_option maxRecDepth 100000 in
set_option maxHeartbeats 2000000 in
theorem plain_any {w:World} {v:Value} {l:List (Int × Int)} (h:IsP w v l) (hl:l.length≤99999):
  Calls Tryz.prog 22 #[v] w fun e w'=> ∃v',e= .returned v'∧PrRow w w' v' l:=by
 obtain⟨a0,c0,rfl⟩:=h.form
 have HI:=Lib.hid h
 clear h
 obtain⟨i0,hi0,hz0,hzs,hzb⟩:=info_parts Tryz.infoRP
 go_enter Tryz.func22,Tryz.ntmps22
 go_wp2_with fail
 go_loopw [3,4] (fun o i wr=> ∃j:Nat,j≤l.length∧i= .int .i64 j∧PrRow w wr o (l.take j)) (fun _ i _=>l.length - (intOf i).toNat)
 case atStart=>exact⟨0,Nat.zero_le _,rfl,World.ownsRow_nil _ _ _ _,Below.refl _ _⟩
 case round=>
  obtain⟨j,hj,rfl,ho⟩:=hrel
  obtain⟨oa,oc,rfl⟩:=ho.form
  have HO:=Lib.hid ho
  by_cases hjl:j<l.length
  ·obtain⟨g,o,c,hv,hg,hcs⟩:=HI.out.at_ (by omega)
   injection hv with hva hvn hvc
   subst hva
   subst hvc
   have hx:l[j]? =some l[j]:=List.getElem?_eq_getElem hjl
   obtain⟨hc1,hc2⟩:=hcs j _ hx
   have e1:=take_one hx
   have hOl:(l.take j).length=j:=by rw[List.length_take];omega
   obtain⟨O,hO⟩: ∃O,O=l.take j:=⟨_,rfl⟩
   obtain⟨p,hp⟩: ∃p,p=l[j]:=⟨_,rfl⟩
   rw[←hO] at e1 HO hOl ⊢
   rw[←hp] at hc1 hc2 e1
   have hb:=ho.below.size
   have hc1:=(ho.below.cell (p:=⟨g,o+j*2,none⟩) hg).trans hc1
   have hc2:=(ho.below.cell (p:=⟨g,o+j*2+1,none⟩) hg).trans hc2
   have y1:(j:Int)<(l.length:Int):=by omega
   have hgw:g<wr.heap.size:=by omega
   have E1:=Lib.hid e1
   have HOL:=Lib.hid hOl
   have hS:(fun w':World=>w'.cell? ⟨g,o+j*2,none⟩=some (.int .u64 p.1)∧w'.cell? ⟨g,o+j*2+1,none⟩=some (.int .u64 p.2)) wr.drew:=⟨hc1,hc2⟩
   have HS0:=Lib.hid hS
   clear hcs hx hp hvn hO e1 ho hOl hS
   go_wp2_with fail
   refine wp_region_noPanic ?_
   refine wp_region_par3 14 13 (by kernel_rfl) (by kernel_rfl) (by simp) (by omega) (by kernel_rfl) (by kernel_rfl) (fun w':World=>w'.cell? ⟨g,o+j*2,none⟩=some (.int .u64 p.1)∧w'.cell? ⟨g,o+j*2+1,none⟩=some (.int .u64 p.2)) ?_
   refine par3_move (v:= ?_) 0 (by simp only[zga,zgb,zgc];rfl) (by kernel_rfl) (by rfl) ?_ (fun _ _ _ h=>h) ?_
   rotate_left
   ·(intro w9;go_simp;try with_reducible rfl)
   simp only[Act.put,zpa,zpb,zpc]
   refine par3_move (v:= ?_) 1 (by simp only[zga,zgb,zgc];rfl) (by kernel_rfl) (by rfl) ?_ (fun _ _ _ h=>h) ?_
   rotate_left
   ·(intro w9;go_simp;try with_reducible rfl)
   simp only[Act.put,zpa,zpb,zpc]
   refine par3_move (v:= ?_) 2 (by simp only[zga,zgb,zgc];rfl) (by kernel_rfl) (by rfl) ?_ (fun _ _ _ h=>h) ?_
   rotate_left
   ·(intro w9;go_simp;try with_reducible rfl)
   simp only[Act.put,zpa,zpb,zpc]
   refine par3_move (v:= ?_) 3 (by simp only[zga,zgb,zgc];rfl) (by kernel_rfl) (by rfl) ?_ (fun _ _ _ h=>h) ?_
   rotate_left
   ·(intro w9;go_simp;try with_reducible rfl)
   simp only[Act.put,zpa,zpb,zpc]
   refine par3_move (v:= ?_) 4 (by simp only[zga,zgb,zgc];rfl) (by kernel_rfl) (by rfl) ?_ (fun _ _ _ h=>h) ?_
   rotate_left
   ·(intro w9;go_simp;try with_reducible rfl)
   simp only[Act.put,zpa,zpb,zpc]
   refine par3_read (v:= ?_) 5 (by simp only[zga,zgb,zgc];rfl) (by kernel_rfl) (by rfl) HS0.out ?_ (fun _ _ _ h=>h) ?_
   rotate_left
   ·(intro w9 hSw;(try dsimp only at hSw);go_simp;try with_reducible rfl)
   simp only[Act.put,zpa,zpb,zpc]
   refine par3_move (v:= ?_) 6 (by simp only[zga,zgb,zgc];rfl) (by kernel_rfl) (by rfl) ?_ (fun _ _ _ h=>h) ?_
   rotate_left
   ·(intro w9;go_simp;try with_reducible rfl)
   simp only[Act.put,zpa,zpb,zpc]
   refine par3_move (v:= ?_) 7 (by simp only[zga,zgb,zgc];rfl) (by kernel_rfl) (by rfl) ?_ (fun _ _ _ h=>h) ?_
   rotate_left
   ·(intro w9;go_simp;try with_reducible rfl)
   simp only[Act.put,zpa,zpb,zpc]
   refine par3_move (v:= ?_) 8 (by simp only[zga,zgb,zgc];rfl) (by kernel_rfl) (by rfl) ?_ (fun _ _ _ h=>h) ?_
   rotate_left
   ·(intro w9;go_simp;try with_reducible rfl)
   simp only[Act.put,zpa,zpb,zpc]
   refine par3_move (v:= ?_) 9 (by simp only[zga,zgb,zgc];rfl) (by kernel_rfl) (by rfl) ?_ (fun _ _ _ h=>h) ?_
   rotate_left
   ·(intro w9;go_simp;try with_reducible rfl)
   simp only[Act.put,zpa,zpb,zpc]
   refine par3_read (v:= ?_) 10 (by simp only[zga,zgb,zgc];rfl) (by kernel_rfl) (by rfl) HS0.out ?_ (fun _ _ _ h=>h) ?_
   rotate_left
   ·(intro w9 hSw;(try dsimp only at hSw);go_simp;try with_reducible rfl)
   simp only[Act.put,zpa,zpb,zpc]
   refine par3_move (v:= ?_) 11 (by simp only[zga,zgb,zgc];rfl) (by kernel_rfl) (by rfl) ?_ (fun _ _ _ h=>h) ?_
   rotate_left
   ·(intro w9;go_simp;try with_reducible rfl)
   simp only[Act.put,zpa,zpb,zpc]
   refine par3_one 12 (by simp only[zga,zgb,zgc];rfl) (by kernel_rfl) (by rfl) ?_
   refine owp_val (v:= ?_) (w1:= ?_) ?_ ?_
   rotate_left 2
   ·(go_simp;constructor<;>rfl)
   refine⟨fun s _=>⟨((Touch.refl [] wr.drew).alloc _).cell (p:=⟨g,o+j*2,none⟩) hgw (by simp) |>.trans s.1,((Touch.refl [] wr.drew).alloc _).cell (p:=⟨g,o+j*2+1,none⟩) hgw (by simp) |>.trans s.2⟩, ?_⟩
   simp only[Act.put,zpa,zpb,zpc]
   refine par3_one 13 (by simp only[zga,zgb,zgc];rfl) (by kernel_rfl) (by rfl) ?_
   refine⟨wp_append_own _ (.tmp 11) (.tmp 23) 26 rfl w.heap.size 106 i0 (.agg #[.int .u64 0, .int .u64 0]) 2 16 Tryz.underlying26 hi0 hz0 hzs hzb rfl (by decide) _ O.length (prF O) rfl (ownsRow_touch HO.out.own (F:=[]) ((Touch.refl [] wr).alloc _).drew (by simp)) ⟨wr.heap.size,0,none⟩ 1 1 [.int .u64 p.1, .int .u64 p.2] rfl rfl (fun q u hu=>by rw[Addr.add_lit,Nat.zero_add];exact cell_two_new (w:=wr) hu) (fun u hu=>by simp at hu;rcases hu with rfl|rfl<;>rfl) (by have:=HOL.out;unfold maxLen;omega) (by have:=HOL.out;omega) (Nat.le_trans HO.out.below.size (Nat.le_trans (Nat.le_succ _) (Nat.le_of_eq (World.size_alloc_eq wr _).symm))) ?_⟩
   intro v2 w2 ho2 hgr hiff
   have HN:=Lib.hid (PrRow.app2 (p:=p) HO.out ho2 hgr)
   refine⟨fun _ h=>absurd h (by decide), ?_⟩
   clear ho2 hgr hiff hc1 hc2
   simp only[Act.put,zpa,zpb,zpc]
   refine par3_tail _ (by simp only[List.drop_succ_cons,List.drop_zero];rfl) (by kernel_rfl) ?_
   skip
   go_wp2_with fail
   refine NoPanic.normal ?_
   go_wp2_with fail
   go_roundw
   case rel=>exact⟨j+1,by omega,by go_num,by rw[E1.out];exact HN.out⟩
   case measure=>simp[intOf];omega
  ·have hje:j=l.length:=by omega
   subst hje
   simp only[List.take_length] at HO ⊢
   go_wp2_with fail
   go_ret
   exact⟨_,rfl,HO.out⟩
end Go.Proofs.YtjgkegkinnlcoaaGreatDoor
