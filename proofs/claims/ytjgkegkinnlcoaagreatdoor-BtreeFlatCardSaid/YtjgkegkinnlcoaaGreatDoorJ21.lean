/- Lemmas on the way to the statement: Shelf, Pager6, BtMem, BtSh, BtMem2, BtOps2, BtOps3, Dlt, Cat. -/
import Derived.Test.YtjgkegkinnlcoaaGreatDoorJ13
set_option linter.unusedSimpArgs false
set_option linter.unusedVariables false
namespace Go.Proofs
open Go.Shelf
def Tryz.laysSlE45_f131_ren:Go.Shelf.Ren:=⟨fun|45=>131|n=>n,fun|22=>57|23=>28|3=>3|4=>4|0=>0|n=>n,fun|n=>n⟩
theorem Tryz.laysSlE45_f131:Go.Proofs.SlLaysE.n45 Tryz.prog Tryz.laysSlE45_f131_ren:= {
 mixed:=by kernel_rfl
 f45:=⟨Tryz.f131.name,by decide,Tryz.func131.trans (congrArg some (by kernel_rfl))⟩
 t0:=Tryz.underlying0
 a0:=Tryz.isAgg0
 z0:=Tryz.sizeOf0
 v0:=Tryz.zeroValue0
 t3:=Tryz.underlying3
 a3:=Tryz.isAgg3
 z3:=Tryz.sizeOf3
 v3:=Tryz.zeroValue3
 t4:=Tryz.underlying4
 a4:=Tryz.isAgg4
 z4:=Tryz.sizeOf4
 v4:=Tryz.zeroValue4
 t22:=Tryz.underlying57
 a22:=Tryz.isAgg57
 z22:=Tryz.sizeOf57
 v22:=Tryz.zeroValue57
 a23:=Tryz.isAgg28
 z23:=Tryz.sizeOf28 }
open Go.RowKit Go.Lib Go.Sort in
theorem Tryz.slices_Delete_f131 {α:Type} [Inhabited α] (enc:α→Value) (h1:OneCell enc) (zr:α) (v23: ∀w,(zeroValue 28).run Tryz.prog w= .ok (enc zr) w) (i0:TypeInfo) (hi0:Tryz.prog.info? 28=some i0) (hz1:i0.size=1) (blk off cap i j:Nat) (d:Array α) (w:World) (hH:Holds enc w blk off d) (hcap:d.size≤cap) (hm:cap≤9223372036854775807) (hij:i≤j) (hj:j≤d.size):
  Calls Tryz.prog 131 #[.slice (some ⟨blk,off,none⟩) d.size cap, .int .i64 i, .int .i64 j] w fun e w'=>e= .returned (.slice (some ⟨blk,off,none⟩) (d.size - (j - i)) cap)∧ ∃q,w'=putRow enc (Sort.ahead w q) blk off (d.toList.take i++d.toList.drop j++List.replicate (j - i) zr).toArray:=AnyE.slices_Delete Tryz.laysSlE45_f131 enc h1 zr v23 i0 hi0 hz1 blk off cap i j d w hH hcap hm hij hj
def Tryz.laysSlE45_f189_ren:Go.Shelf.Ren:=⟨fun|45=>189|n=>n,fun|22=>67|23=>3|3=>3|4=>4|0=>0|n=>n,fun|n=>n⟩
theorem Tryz.laysSlE45_f189:Go.Proofs.SlLaysE.n45 Tryz.prog Tryz.laysSlE45_f189_ren:= {
 mixed:=by kernel_rfl
 f45:=⟨Tryz.f189.name,by decide,Tryz.func189.trans (congrArg some (by kernel_rfl))⟩
 t0:=Tryz.underlying0
 a0:=Tryz.isAgg0
 z0:=Tryz.sizeOf0
 v0:=Tryz.zeroValue0
 t3:=Tryz.underlying3
 a3:=Tryz.isAgg3
 z3:=Tryz.sizeOf3
 v3:=Tryz.zeroValue3
 t4:=Tryz.underlying4
 a4:=Tryz.isAgg4
 z4:=Tryz.sizeOf4
 v4:=Tryz.zeroValue4
 t22:=Tryz.underlying67
 a22:=Tryz.isAgg67
 z22:=Tryz.sizeOf67
 v22:=Tryz.zeroValue67
 a23:=Tryz.isAgg3
 z23:=Tryz.sizeOf3 }
open Go.RowKit Go.Lib Go.Sort in
theorem Tryz.slices_Delete_f189 {α:Type} [Inhabited α] (enc:α→Value) (h1:OneCell enc) (zr:α) (v23: ∀w,(zeroValue 3).run Tryz.prog w= .ok (enc zr) w) (i0:TypeInfo) (hi0:Tryz.prog.info? 3=some i0) (hz1:i0.size=1) (blk off cap i j:Nat) (d:Array α) (w:World) (hH:Holds enc w blk off d) (hcap:d.size≤cap) (hm:cap≤9223372036854775807) (hij:i≤j) (hj:j≤d.size):
  Calls Tryz.prog 189 #[.slice (some ⟨blk,off,none⟩) d.size cap, .int .i64 i, .int .i64 j] w fun e w'=>e= .returned (.slice (some ⟨blk,off,none⟩) (d.size - (j - i)) cap)∧ ∃q,w'=putRow enc (Sort.ahead w q) blk off (d.toList.take i++d.toList.drop j++List.replicate (j - i) zr).toArray:=AnyE.slices_Delete Tryz.laysSlE45_f189 enc h1 zr v23 i0 hi0 hz1 blk off cap i j d w hH hcap hm hij hj
end Go.Proofs
namespace Go.Proofs.YtjgkegkinnlcoaaGreatDoor
open Go.RowKit Go.Maps Go.Joins
section
variable {w w' w1 w2:World} {b d lb pb hb K J k room:Nat} {FD FP F1 F:List Nat} {M M':PM} {fr:Hand}
theorem free_out {no:Int} (h:withinP M no=false):freeP M no=(1,M):=by unfold freeP;rw[if_pos h]
theorem free_err {no:Int} (h:withinP M no=true) (he:(rdP M no).2.2≠0):freeP M no=((rdP M no).2.2,M):=by unfold freeP;rw[if_neg (by rw[h];decide),if_pos he]
theorem free_none {no:Int} (h:withinP M no=true) (he:(rdP M no).2.2=0) (hk:(rdP M no).1=255):freeP M no=(6,M):=by unfold freeP;rw[if_neg (by rw[h];decide),if_neg (by simp[he]),if_pos hk]
theorem free_set {no:Int} (h:withinP M no=true) (he:(rdP M no).2.2=0) (hk:(rdP M no).1≠255) {s:Int × PM} (hs:setP M no 255 (S (leB (freeR (rdP M 0).2.1) 4))=s) (h1:s.1≠0):freeP M no=s:=by
 unfold freeP;rw[if_neg (by rw[h];decide),if_neg (by simp[he]),if_neg hk];simp only;rw[hs,if_pos h1]
theorem free_head {no:Int} (h:withinP M no=true) (he:(rdP M no).2.2=0) (hk:(rdP M no).1≠255) {s:Int × PM} (hs:setP M no 255 (S (leB (freeR (rdP M 0).2.1) 4))=s) (h1:s.1=0):
  freeP M no=setHeadP s.2 (usedR (rdP M 0).2.1) no (rdP M 0).2.1:=by
 unfold freeP;rw[if_neg (by rw[h];decide),if_neg (by simp[he]),if_neg hk];simp only;rw[hs,if_neg (by simp[h1])]
set_option maxRecDepth 100000 in
set_option maxHeartbeats 4000000 in
theorem Free_any (h:PgIn w b d lb pb hb FD FP K k M) (hs:Snd M) (hK:K≤2000000000000000000) (no:Int):
  Calls Tryz.prog 58 #[.pointer (some ⟨b,0,none⟩), .int .i64 no] w fun e w'=>e= .returned (.int .i64 (freeP M no).1)∧PgStep w w' b d lb pb hb FD FP (K+10) k (freeP M no).2:=by
 have H:=Lib.hid h
 have hm:=h.ok.most1
 have hgeo:=h.ok.geo
 have hfew:=h.ok.disk.few
 have HW:=Lib.hid (within_any h (by omega) no)
 clear h
 cases hw:withinP M no
 ·rw[free_out hw]
  rw[hw] at HW
  go_enter Tryz.func58,Tryz.ntmps58
  go_wp2_with fail
  refine HW.out.mono ?_
  rintro e w1 ⟨rfl,hst⟩
  have HST:=Lib.hid hst
  clear hst
  go_wp2_with fail
  go_ret
  exact⟨rfl,HST.out.mono (by omega)⟩
 rw[hw] at HW
 obtain⟨n1,n2,n3,n4⟩:=within_facts hs hw
 have hsn:=hs n3
 have HWI:=Lib.hid hw
 obtain⟨kx,rx,ex,hx⟩: ∃kx rx ex,rdP M no=(kx,rx,ex):=⟨_,_,_,rfl⟩
 obtain⟨kd,r,er,hy⟩: ∃kd r er,rdP M 0=(kd,r,er):=⟨_,_,_,rfl⟩
 have hz:=rdP_size n3
 rw[hy] at n3 n4 hsn hz
 simp only at n3 n4 hsn hz
 subst n3
 have HX:=Lib.hid hx
 have HY:=Lib.hid hy
 by_cases he:ex=0
 rotate_left
 ·have HA:=Lib.hid (free_err hw (by rw[hx];exact he))
  rw[hx] at HA
  simp only at HA
  have e1:(ex != 0)=true:=by simpa using he
  clear hw hx hy hs
  go_enter Tryz.func58,Tryz.ntmps58
  go_wp2_with fail
  refine HW.out.mono ?_
  rintro e w1 ⟨rfl,F1,h1,t1,f1⟩
  have HR:=Lib.hid (pread_int h1 (by omega) no (by omega) (by omega))
  rw[HX.out] at HR
  simp only at HR
  have HT1:=Lib.hid t1
  have HF1:=Lib.hid f1
  clear h1 t1 f1
  go_wp2_with fail
  refine HR.out.mono ?_
  rintro e w2 ⟨rfl,F2,h2,t2,f2⟩
  have HST:=Lib.hid (show PgStep w1 w2 b d lb pb hb FD F1 (K+2+2) k M from⟨F2,h2,t2,f2⟩)
  clear h2 t2 f2
  go_wp2_with fail
  go_ret
  rw[HA.out]
  exact⟨rfl,PgStep.mono (PgStep.trans HT1.out HF1.out HST.out) (by omega)⟩
 subst he
 by_cases hk:kx=255
 ·have HA:=Lib.hid (free_none hw (by rw[hx]) (by rw[hx];exact hk))
  subst hk
  clear hw hx hy hs
  go_enter Tryz.func58,Tryz.ntmps58
  go_wp2_with fail
  refine HW.out.mono ?_
  rintro e w1 ⟨rfl,F1,h1,t1,f1⟩
  have HR:=Lib.hid (pread_int h1 (by omega) no (by omega) (by omega))
  rw[HX.out] at HR
  simp only at HR
  have HT1:=Lib.hid t1
  have HF1:=Lib.hid f1
  clear h1 t1 f1
  go_wp2_with fail
  refine HR.out.mono ?_
  rintro e w2 ⟨rfl,F2,h2,t2,f2⟩
  have HST:=Lib.hid (show PgStep w1 w2 b d lb pb hb FD F1 (K+2+2) k M from⟨F2,h2,t2,f2⟩)
  clear h2 t2 f2
  go_wp2_with fail
  go_ret
  rw[HA.out]
  exact⟨rfl,PgStep.mono (PgStep.trans HT1.out HF1.out HST.out) (by omega)⟩
 have ek:(kx==255)=false:=by simpa using hk
 have hub:=usedR_bd r
 have hfb:=freeR_bd r
 have HD:=Lib.hid (fun W p=>head_any W p r (by omega) (by omega))
 have HPU:=Lib.hid (fun W=>put_any (freeR r) 4 W (by omega) (by omega))
 have ew:=u64_int (freeR r) (by omega) (by omega)
 obtain⟨sx,hsx⟩: ∃sx,setP M no 255 (S (leB (freeR r) 4))=sx:=⟨_,rfl⟩
 have hmo:sx.2.most=M.most:=by rw[←hsx];exact setP_most _ _ _
 have hsx':setP M no 255 (S (leB (freeR (rdP M 0).2.1) 4))=sx:=by rw[hy];exact hsx
 have HAE:=fun h1=>Lib.hid (free_set hw (by rw[hx]) (by rw[hx];exact hk) hsx' h1)
 have HAH:=fun h1=>Lib.hid (free_head hw (by rw[hx]) (by rw[hx];exact hk) hsx' h1)
 rw[hy] at HAH
 simp only at HAH
 clear hw hx hy hs hsx'
 go_enter Tryz.func58,Tryz.ntmps58
 go_wp2_with fail
 refine HW.out.mono ?_
 rintro e w1 ⟨rfl,F1,h1,t1,f1⟩
 have HR:=Lib.hid (pread_int h1 (by omega) no (by omega) (by omega))
 rw[HX.out] at HR
 simp only at HR
 have HT1:=Lib.hid t1
 have HF1:=Lib.hid f1
 clear h1 t1 f1
 go_wp2_with fail
 refine HR.out.mono ?_
 rintro e w2 ⟨rfl,F2,h2,t2,f2⟩
 have HR3:=Lib.hid (pread_int h2 (by omega) 0 (by omega) (by omega))
 rw[HY.out] at HR3
 simp only at HR3
 have HT2:=Lib.hid t2
 have HF2:=Lib.hid f2
 clear h2 t2 f2
 go_wp2_with fail
 refine HR3.out.mono ?_
 rintro e w3 ⟨rfl,F3,h3,t3,f3⟩
 have HT3:=Lib.hid t3
 have HF3:=Lib.hid f3
 have HP3:=Lib.hid h3
 clear h3 t3 f3
 go_wp2_with fail
 refine(HD.out _ _).mono ?_
 rintro e w4 ⟨rfl,rfl⟩
 go_wp2_with fail
 refine(HPU.out _).mono ?_
 rintro e w5 ⟨rfl,hb5⟩
 have HS:=Lib.hid (pgset_any (HP3.out.below hb5) (by omega) no 255 (S (leB (freeR r) 4)) (by omega) (by omega))
 rw[hsx] at HS
 have HB5:=Lib.hid hb5
 obtain⟨s1,M1⟩:=sx
 simp only at HS HAE HAH hmo
 clear hb5 hsx
 by_cases hs1:s1=0
 ·have HA:=HAH hs1
  subst hs1
  go_wp2_with fail
  refine HS.out.mono ?_
  rintro e w6 ⟨rfl,F6,h6,t6,f6⟩
  have HHD:=Lib.hid (setHead_any h6 (by omega) (usedR r) no r (by omega) (by omega) (by omega) (by omega) hz)
  rw[←HA.out] at HHD
  have HT6:=Lib.hid t6
  have HF6:=Lib.hid f6
  clear h6 t6 f6
  go_wp2_with fail
  refine HHD.out.mono ?_
  rintro e w7 ⟨rfl,hst⟩
  have HST:=Lib.hid hst
  clear hst
  go_wp2_with fail
  go_ret
  exact⟨rfl,PgStep.mono (PgStep.trans HT1.out HF1.out (PgStep.trans HT2.out HF2.out (PgStep.trans HT3.out HF3.out (PgStep.below HB5.out (PgStep.trans HT6.out HF6.out HST.out))))) (by omega)⟩
 ·have HA:=HAE hs1
  have e9:(s1 != 0)=true:=by simpa using hs1
  go_wp2_with fail
  refine HS.out.mono ?_
  rintro e w6 ⟨rfl,hst⟩
  have HST:=Lib.hid hst
  clear hst
  go_wp2_with fail
  go_ret
  rw[HA.out]
  exact⟨rfl,PgStep.mono (PgStep.trans HT1.out HF1.out (PgStep.trans HT2.out HF2.out (PgStep.trans HT3.out HF3.out (PgStep.below HB5.out HST.out)))) (by omega)⟩
end
end Go.Proofs.YtjgkegkinnlcoaaGreatDoor
namespace Go.Proofs.YtjgkegkinnlcoaaGreatDoor
open Go.RowKit Go.Maps Go.Joins
section
variable {w0 w w1 w':World} {p K J k:Nat} {M M':PM} {X Y:List Nat}
theorem pf_free (h:PgF w0 w p K M X) (hs:Snd M) (hK:K≤1000000000000) (no:Int):
  Calls Tryz.prog 58 #[.pointer (some ⟨p,0,none⟩), .int .i64 no] w fun e w'=>e= .returned (.int .i64 (freeP M no).1)∧PgF w0 w' p (K+10) (freeP M no).2 X∧SameX X w w':=by
 obtain⟨d,lb,pb,hb,FD,FP,h,hd,hx⟩:=h
 exact(Free_any h.pin hs (by omega) no).mono fun e w' ⟨he,s⟩=>⟨he,PgF.go h hd hx (PgGo.of_step s) (.inl rfl)⟩
end
end Go.Proofs.YtjgkegkinnlcoaaGreatDoor
namespace Go.Proofs.YtjgkegkinnlcoaaGreatDoor
open Go.RowKit
section
variable {n a b:ND} {K J:Nat} {key val:Int}
theorem NdSh.setKey (h:NdSh n K) {i:Nat} (hk:0≤key∧key≤18446744073709551615):NdSh { n with keys:=n.keys.set i key } K:=by
 refine⟨by simpa using h.kl,fun k hk'=> ?_,fun hl=> ?_,fun hl=> ?_⟩
 ·rcases List.mem_or_eq_of_mem_set hk' with hk'|rfl
  ·exact h.kb k hk'
  ·exact hk
 ·simpa using h.lf hl
 ·simpa using h.fk hl
end
end Go.Proofs.YtjgkegkinnlcoaaGreatDoor
namespace Go.Proofs.YtjgkegkinnlcoaaGreatDoor
open Go.RowKit Go.Maps Go.Joins
section
variable {w0 w w1 w':World} {p K J k:Nat} {M M':PM} {X Y:List Nat}
theorem px_free (h:PgX w0 w p K M X) (hK:K≤1000000000000) (no:Int):
  Calls Tryz.prog 58 #[.pointer (some ⟨p,0,none⟩), .int .i64 no] w fun e w'=>e= .returned (.int .i64 (freeP M no).1)∧PgX w0 w' p (K+10) (freeP M no).2 X∧SameX X w w':=
 (pf_free h.f h.s hK no).mono fun e w' ⟨h1,h2,h3⟩=>⟨h1,⟨h2,h.s.free h.f.most no⟩,h3⟩
end
end Go.Proofs.YtjgkegkinnlcoaaGreatDoor
namespace Go.Proofs.YtjgkegkinnlcoaaGreatDoor
open Go.RowKit Go.Maps Go.Joins
structure NodeAt (w0 w:World) (p K:Nat) (M:PM) (X:List Nat) (b:Nat) (kv vv cv:Value) (n:ND):Prop where
 pg:PgX w0 w p K M (ndBk kv vv cv++(b::X))
 box:w.rowIs b 109 4 (ndF kv vv cv n)
 own:NdO w (b+1) kv vv cv n
 hb:w0.heap.size≤b
section
variable {w0 w w1 w':World} {p K J b:Nat} {M M':PM} {X:List Nat} {kv vv cv:Value} {n:ND}
theorem NodeAt.of_read {wa:World} (hn:NdO w1 (b+1) kv vv cv n) (hp:PgX w0 w1 p K M (ndBk kv vv cv++(b::X))) (hb:w0.heap.size≤b) (hr:w'.rowIs b 109 4 (ndF kv vv cv n)) (t:Touch [b] w1 w'):NodeAt w0 w' p K M X b kv vv cv n:=
 ⟨hp.touch t (fun x hx=>by simp at hx;subst hx;exact⟨by simp,hb⟩),hr,hn.touch t (fun g hg=>by have:=(hn.ge g hg).1;simp;omega),hb⟩
theorem NodeAt.below (h:NodeAt w0 w p K M X b kv vv cv n) (hb:Below w.heap.size w w'):NodeAt w0 w' p K M X b kv vv cv n:=
 ⟨h.pg.moveX hb,rowIs_touch h.box (F:=[]) (Touch.of_below hb) (by simp),h.own.below hb,h.hb⟩
theorem NodeAt.cells (h:NodeAt w0 w p K M X b kv vv cv n):w.cell? ⟨b,0,none⟩=some (.bool n.leaf)∧w.cell? ⟨b,1,none⟩=some kv∧w.cell? ⟨b,2,none⟩=some vv∧w.cell? ⟨b,3,none⟩=some cv:=ndF_cells h.box
theorem NodeAt.pgX (h:NodeAt w0 w p K M X b kv vv cv n):PgX w0 w p K M X:=h.pg.sub (fun y hy=>by simp[hy])
theorem NodeAt.go (h:NodeAt w0 w p K M X b kv vv cv n) (hp:PgX w0 w' p J M' (ndBk kv vv cv++(b::X))) (hs:SameX (ndBk kv vv cv++(b::X)) w w'):NodeAt w0 w' p J M' X b kv vv cv n:=by
 refine⟨hp,hs.row h.box (by simp), ?_,h.hb⟩
 have hb: ∀ {v:Value} {e:TypeId} {m:Nat} {xs:List Value},w.ownsRow (b+1) e 1 v m xs→(∀g∈blkOf v,g∈ndBk kv vv cv)→w'.ownsRow (b+1) e 1 v m xs:=fun {v e m xs} ho hg=>by
  refine⟨ho.1, ?_⟩
  rcases ho.2 with h0|⟨g,cap,cur,hv,hbb,hgg,h1,h2,h3,h4⟩
  ·exact .inl h0
  ·refine .inr ⟨g,cap,cur,hv,hbb, ?_,h1,h2,h3,h4⟩
   rw[hs.blk g (by
    have:=hg g (by rw[hv];simp[blkOf])
    simp[this])]
   exact hgg
 exact⟨hb h.own.ks (fun g hg=>by simp[ndBk,hg]),hb h.own.vs (fun g hg=>by simp[ndBk,hg]),hb h.own.cs (fun g hg=>by simp[ndBk,hg]),h.own.nd⟩
end
end Go.Proofs.YtjgkegkinnlcoaaGreatDoor
namespace Go.Proofs.YtjgkegkinnlcoaaGreatDoor
open Go.RowKit Go.Maps Go.Joins
structure GtLoop (w0 w wr:World) (p K:Nat) (M:PM) (X:List Nat) (R:Int × Int) (f:Nat→Int→Int × Int) (v8 v9 v19:Value):Prop where
 ex: ∃(i:Nat) (no er:Int),v8= .int .i64 no∧v9= .int .i64 er∧v19= .int .i64 i∧i≤16∧(er=0∨i=0)∧R=(if er≠0 then(0,er) else f (16 - i) no)∧PgX w0 wr p (K+4*i) M X∧SameX X w wr
theorem bgetL_succ (M:PM) (key:Int) (f:Nat) (no:Int):bgetL M key (f+1) no=if no=0 then(0,6) else if (ndRead M no).1≠0 then(0,(ndRead M no).1) else
  if (ndRead M no).2.leaf=true then(if hasL (ndRead M no).2.keys key=true then((ndRead M no).2.vals.getD (posL (ndRead M no).2.keys key) 0,0) else(0,6)) else bgetL M key f ((ndRead M no).2.kids.getD (placeN (ndRead M no).2 key) 0):=rfl
set_option maxRecDepth 100000 in
set_option maxHeartbeats 4000000 in
theorem Get_any {w0 w:World} {p K:Nat} {M:PM} {X:List Nat} (h:PgX w0 w p K M X) (hK:K≤900000000000) (root key:Int):
  Calls Tryz.prog 18 #[.pointer (some ⟨p,0,none⟩), .int .i64 root, .int .u64 key] w fun e w'=>e= .returned (.tuple #[.int .u64 (getB M root key).1, .int .i64 (getB M root key).2])∧PgX w0 w' p (K+100) M X∧SameX X w w':=by
 have HTP:=Lib.hid (top_any h (by omega) root)
 have HW0:=Lib.hid h.below.size
 have hG:getB M root key=if (topB M root).2≠0 then(0,(topB M root).2) else bgetL M key 16 (topB M root).1:=rfl
 rw[hG]
 clear hG h
 generalize topB M root=T at HTP
 obtain⟨no,er⟩:=T
 simp only at HTP ⊢
 obtain⟨R,hR⟩: ∃R:Int × Int,R=if er≠0 then(0,er) else bgetL M key 16 no:=⟨_,rfl⟩
 rw[←hR]
 have HR:=Lib.hid hR
 clear hR
 go_enter Tryz.func18,Tryz.ntmps18
 go_wp2_with fail
 refine HTP.out.mono ?_
 rintro e w1 ⟨rfl,hp,hs⟩
 have HP:=Lib.hid hp
 have HS:=Lib.hid hs
 clear hp hs
 go_wp2_with fail
 go_loopw [8,9,10,11,12,19] (fun v8 v9 _ _ _ v19 wr=>GtLoop w0 w wr p (K+2) M X R (bgetL M key) v8 v9 v19) (fun _ _ _ _ _ v _=>16 - (intOf v).toNat)
 case atStart=>exact⟨⟨0,no,er,rfl,rfl,rfl,by omega, .inr rfl,by rw[HR.out],HP.out.mono (by omega),HS.out⟩⟩
 case round=>
  obtain⟨⟨i,n1,e1,rfl,rfl,rfl,hi,hei,hRR,hpr,hsr⟩⟩:=hrel
  have HRR:=Lib.hid hRR
  have HPR:=Lib.hid hpr
  have HSR:=Lib.hid hsr
  clear hRR hpr hsr
  by_cases hlt:i<16
  rotate_left
  ·obtain rfl:i=16:=by omega
   obtain rfl:e1=0:=by omega
   go_wp2_with fail
   go_ret2
   have hq:R=(0,19):=by rw[HRR.out,if_neg (by simp)];rfl
   exact⟨by rw[hq];rfl,HPR.out.mono (by omega),HSR.out⟩
  by_cases he:e1=0
  rotate_left
  ·have d1:(e1 != 0)=true:=by simpa using he
   have d2:(e1==0)=false:=by simpa using he
   go_wp2_with fail
   go_ret2
   have hq:R=(0,e1):=by rw[HRR.out,if_pos he]
   exact⟨by rw[hq];rfl,HPR.out.mono (by omega),HSR.out⟩
  subst he
  have hq0:=HRR.out
  rw[if_neg (by simp),show 16 - i=(15 - i)+1 by omega,bgetL_succ] at hq0
  by_cases hn:n1=0
  ·subst hn
   have hq:R=(0,6):=by rw[hq0];rfl
   have HQ:=Lib.hid hq
   clear hq hq0
   go_wp2_with fail
   go_ret2
   exact⟨by rw[HQ.out];rfl,HPR.out.mono (by omega),HSR.out⟩
  have d1:(n1==0)=false:=by simpa using hn
  rw[if_neg hn] at hq0
  have HRD:=Lib.hid (bread_any (HPR.out.more (w':=wr.alloc (.cells #[.bool false, .slice none 0 0, .slice none 0 0, .slice none 0 0] 109)) (below_alloc (Below.refl _ _)) (Nat.le_refl _) (by simp)) (by omega) n1)
  have hdn:=fun hok:(ndRead M n1).1=0=>ndRead_ok (M:=M) (no:=n1) (n:=(ndRead M n1).2) (by rw[←hok])
  generalize ndRead M n1=D at HRD hq0 hdn
  obtain⟨er,n⟩:=D
  simp only at HRD hq0 hdn
  have HQ0:=Lib.hid hq0
  have HDN:=Lib.hid hdn
  have hw:=HPR.out.below.size
  clear hq0 hdn
  go_wp2_with fail
  refine HRD.out.mono ?_
  rintro e w2 ⟨kv,vv,cv,rfl,ho,hp,hs⟩
  obtain⟨ka,kc,rfl⟩:=ho.i.ks.form
  obtain⟨va,vc,rfl⟩:=ho.i.vs.form
  obtain⟨ca,cc,rfl⟩:=ho.i.cs.form
  rw[show(wr.alloc (.cells #[.bool false, .slice none 0 0, .slice none 0 0, .slice none 0 0] 109)).heap.size=wr.heap.size+1 by simp] at ho
  have HO:=Lib.hid ho
  have HP2:=Lib.hid hp
  have HS2:=Lib.hid (SameX.trans (SameX.of_below (below_alloc (Below.refl _ _)) HPR.out.lt) hs.tail)
  have HR2:=Lib.hid (hs.row (node0_new wr) (by simp))
  have HLB:=Lib.hid (Nat.lt_of_lt_of_le (World.rowIs.lt (node0_new wr)) hs.size)
  clear ho hp hs HRD
  unfold ndV
  by_cases her:er=0
  rotate_left
  ·have d2:(er != 0)=true:=by simpa using her
   have hq:R=(0,er):=by rw[HQ0.out,if_pos her]
   have HQ:=Lib.hid hq
   clear hq
   go_wp2_with (refine wpList_store_node rfl (.tmp 10) (.tmp 30) rfl wr.heap.size n.leaf (.slice ka n.keys.length kc) (.slice va n.vals.length vc) (.slice ca n.kids.length cc) n (by first|rfl|exact hl) rfl rfl HR2.out (by simp[Value.oneCell']) ?_;intro w3 hr3 t3;have HNA:=Lib.hid (NodeAt.of_read (wa:=w2) HO.out HP2.out hw hr3 t3);have HS3:=Lib.hid ((HSR.out.trans HS2.out).trans (SameX.of_touch t3 (fun x hx=>⟨HP2.out.lt x (by simp[hx]),by have:=HPR.out.lt x hx;simp;omega⟩)));clear hr3 t3;obtain⟨c0,c1,c2,c3⟩:=HNA.out.cells)
   clear HO HP2 HS2 HR2 HLB
   go_ret2
   exact⟨by rw[HQ.out];rfl,HNA.out.pgX.mono (by omega),HS3.out⟩
  subst her
  have hok:=HDN.out rfl
  have hq1:=HQ0.out
  rw[if_neg (by simp)] at hq1
  cases hl:n.leaf
  ·obtain⟨k1,k2,k3,k4⟩:=hok.forks hl
   rw[hl,if_neg (by simp)] at hq1
   have HQ:=Lib.hid hq1
   have HPL:=fun(w':World) (h:NdI w' (.slice ka n.keys.length kc) (.slice va n.vals.length vc) (.slice ca n.kids.length cc) n)=>Lib.hid (place_any key h hok.pw (by omega))
   have hpl:=placeN_le hok.pw key
   obtain⟨P,hP⟩: ∃P,P=placeN n key:=⟨_,rfl⟩
   rw[←hP] at HPL hpl
   have HPP:=Lib.hid hP
   have HK2:=Lib.hid k2
   unfold ndV at HPL
   rw[hl] at HPL
   clear hq1 hok k1 k2 k3 k4 hP
   go_wp2_with (refine wpList_store_node rfl (.tmp 10) (.tmp 30) rfl wr.heap.size false (.slice ka n.keys.length kc) (.slice va n.vals.length vc) (.slice ca n.kids.length cc) n (by first|rfl|exact hl) rfl rfl HR2.out (by simp[Value.oneCell']) ?_;intro w3 hr3 t3;have HNA:=Lib.hid (NodeAt.of_read (wa:=w2) HO.out HP2.out hw hr3 t3);have HS3:=Lib.hid ((HSR.out.trans HS2.out).trans (SameX.of_touch t3 (fun x hx=>⟨HP2.out.lt x (by simp[hx]),by have:=HPR.out.lt x hx;simp;omega⟩)));clear hr3 t3;obtain⟨c0,c1,c2,c3⟩:=HNA.out.cells;rw[hl] at c0)
   clear HO HP2 HS2 HR2 HLB
   have hci:=HNA.out.own.i.cs
   obtain⟨g,o,c',hv,hc1,hc2,hg,hcell⟩:=hci.at_ (by have:=HK2.out;omega)
   cases hv
   have hcc:=hcell P (by have:=HK2.out;omega)
   obtain⟨N2,hN2⟩: ∃N2,N2=n.kids.getD P 0:=⟨_,rfl⟩
   rw[←hN2] at hcc
   have HN2:=Lib.hid hN2
   have hbl:=World.rowIs.lt HNA.out.box
   have x0:=fun(x:Later w3)=>(x.cell (o:=0) hbl).trans c0
   have x1:=fun(x:Later w3)=>(x.cell (o:=1) hbl).trans c1
   have x2:=fun(x:Later w3)=>(x.cell (o:=2) hbl).trans c2
   have x3:=fun(x:Later w3)=>(x.cell (o:=3) hbl).trans c3
   have x4:=fun(x:Later w3)=>(x.cell (o:=o+P) hg).trans hcc
   have HPC:=fun(x:Later w3)=>HPL x.1 (HNA.out.own.i.below x.2)
   have y1:(P:Int)<(n.kids.length:Int):=by have:=HK2.out;omega
   clear hcell hN2 hcc hci HPL
   refine wp_region_later (by kernel_rfl) (by kernel_rfl) ?_
   repeat (first|go_big_quiet_step ((go_at_call 61;with_reducible refine Later.call (HPC _).out))|quiet_step ((go_at_call 61;with_reducible refine Later.call (HPC _).out)))
   refine wpQuiet_nil ?_
   rintro w4 ⟨y4,hw4⟩
   have hb4:Below w3.heap.size w3 w4:=by rw[hw4];exact y4.2
   have HN4:=Lib.hid (HNA.out.below hb4)
   have HS4:=Lib.hid (HS3.out.trans (SameX.of_below hb4 HNA.out.pgX.lt))
   clear hw4 hb4 x0 x1 x2 x3 x4 c0 c1 c2 c3 HPC
   have q5:IntKind.i64.wrap ((i:Int)+1)=(i:Int)+1:=IntWalk.i64_in _ (by omega)
   go_wp2_with fail
   go_roundw
   case rel=>exact⟨⟨i+1,N2,0,rfl,rfl,by go_num,by omega, .inl rfl,by rw[if_neg (by simp),HN2.out,HPP.out,show 16 - (i+1)=15 - i by omega];exact HQ.out,HN4.out.pgX.mono (by omega),HS4.out⟩⟩
   case measure=>simp[intOf];omega
  ·obtain⟨k1,k2,k3,k4⟩:=hok.leafs hl
   rw[hl,if_pos rfl] at hq1
   have HQ:=Lib.hid hq1
   have HBS:=fun(w':World) (h:NdI w' (.slice ka n.keys.length kc) (.slice va n.vals.length vc) (.slice ca n.kids.length cc) n)=>Lib.hid (bsearch_any key h.ks hok.pw (by omega))
   have HPOS:=Lib.hid (fun h=>posL_lt (n:=n) (key:=key) hok.pw h)
   obtain⟨P,hP⟩: ∃P,P=posL n.keys key:=⟨_,rfl⟩
   obtain⟨H,hH⟩: ∃H,H=hasL n.keys key:=⟨_,rfl⟩
   rw[←hP, ←hH] at HBS HPOS HQ
   have HK2:=Lib.hid k2
   have HK3:=Lib.hid k3
   clear hq1 hok k1 k2 k3 k4 hP hH
   go_wp2_with (refine wpList_store_node rfl (.tmp 10) (.tmp 30) rfl wr.heap.size true (.slice ka n.keys.length kc) (.slice va n.vals.length vc) (.slice ca n.kids.length cc) n (by first|rfl|exact hl) rfl rfl HR2.out (by simp[Value.oneCell']) ?_;intro w3 hr3 t3;have HNA:=Lib.hid (NodeAt.of_read (wa:=w2) HO.out HP2.out hw hr3 t3);have HS3:=Lib.hid ((HSR.out.trans HS2.out).trans (SameX.of_touch t3 (fun x hx=>⟨HP2.out.lt x (by simp[hx]),by have:=HPR.out.lt x hx;simp;omega⟩)));clear hr3 t3;obtain⟨c0,c1,c2,c3⟩:=HNA.out.cells;rw[hl] at c0)
   clear HO HP2 HS2 HR2 HLB
   refine(HBS _ HNA.out.own.i).out.mono ?_
   rintro e w4 ⟨rfl,hd⟩
   have HN4:=Lib.hid (HNA.out.below hd.below)
   have HS4:=Lib.hid (HS3.out.trans (SameX.of_below hd.below HNA.out.pgX.lt))
   clear hd c0 c1 c2 c3 HBS
   obtain⟨c0,c1,c2,c3⟩:=HN4.out.cells
   cases H
   ·have hq:R=(0,6):=by rw[HQ.out];rfl
    have HQ2:=Lib.hid hq
    clear hq
    go_wp2_with fail
    go_ret2
    exact⟨by rw[HQ2.out];rfl,HN4.out.pgX.mono (by omega),HS4.out⟩
   ·have hlt2:=HPOS.out rfl
    have hq:R=(n.vals.getD P 0,0):=by rw[HQ.out];rfl
    obtain⟨g,o,c',hv,hc1,hc2,hg,hcell⟩:=HN4.out.own.i.vs.at_ (by have:=HK2.out;omega)
    cases hv
    have hcc:=hcell P (by have:=HK2.out;omega)
    obtain⟨N2,hN2⟩: ∃N2,N2=n.vals.getD P 0:=⟨_,rfl⟩
    rw[←hN2] at hcc hq
    have HQ2:=Lib.hid hq
    have y1:(P:Int)<(n.vals.length:Int):=by have:=HK2.out;omega
    clear hq hcell hN2
    go_wp2_with fail
    go_ret2
    exact⟨by rw[HQ2.out];rfl,HN4.out.pgX.mono (by omega),HS4.out⟩
end Go.Proofs.YtjgkegkinnlcoaaGreatDoor
namespace Go.Proofs.YtjgkegkinnlcoaaGreatDoor
open Go.RowKit Go.Maps Go.Joins Go.Sort
theorem putRow_touch (enc:Int→Value) (w:World) (g n:Nat) (d:Array Int):Touch [g] w (putRow enc (Sort.ahead w n) g 0 d):=by
 refine⟨rfl,rfl,rfl,by simp,fun k hk hne=> ?_⟩
 have:g≠k:=fun e=>hne (by rw[e];simp)
 simp[putRow,mapBlock,Sort.ahead,Array.getElem?_modify,this]
theorem putRow_heap {enc:Int→Value} {w:World} {g n:Nat} {cur:Array Value} {e:TypeId} {fr:Nat × Nat} (d:Array Int) (hb:w.heap[g]? =some (.cells cur e fr)):
  (putRow enc (Sort.ahead w n) g 0 d).heap[g]? =some (.cells (Go.Sort.putCells enc 0 d cur) e fr):=by
 simp[putRow,mapBlock,Sort.ahead,Array.getElem?_modify,hb,onCells]
theorem take_putCells (enc:Int→Value) (cur:Array Value) (ts:List Int) (h:ts.length≤cur.size):(Go.Sort.putCells enc 0 ts.toArray cur).toList.take ts.length=ts.map enc:=by
 apply List.ext_getElem?
 intro j
 by_cases hj:j<ts.length
 ·rw[List.getElem?_take_of_lt hj,Array.getElem?_toList]
  simp[Go.Sort.putCells,hj,show j<cur.size by omega]
 ·rw[List.getElem?_take_eq_none (by omega),List.getElem?_eq_none (by simp;omega)]
theorem dltU_any {w:World} {B:Nat} {v:Value} {l:List Int} {i:Nat} (h:w.ownsRow B 28 1 v l.length (l.map (Value.int .u64))) (hi:i<l.length):
  Calls Tryz.prog 131 #[v, .int .i64 i, .int .i64 ((i+1:Nat):Int)] w fun e w'=> ∃v',e= .returned v'∧w'.ownsRow B 28 1 v' (l.length - 1) ((l.eraseIdx i).map (Value.int .u64))∧Touch (blkOf v) w w'∧blkOf v'=blkOf v:=by
 obtain⟨g,cap,rfl⟩:=ownsRow_form h (by omega)
 have hown:=h.2
 rcases hown with ⟨h0, -⟩|⟨g',cap',cur,hv,hB,hg,hnc,hm,hsz,htk⟩
 ·cases h0
 cases hv
 rw[Nat.mul_one] at hsz htk
 have hH:Holds (Value.int .u64) w g 0 l.toArray:=by
  intro j hj
  have hj':j<l.length:=by simpa using hj
  refine⟨?_,by simp[World.frozen?,hg]⟩
  have h1:(cur.toList.take l.length)[j]? =(l.map (Value.int .u64))[j]? :=by rw[htk]
  rw[List.getElem?_take_of_lt hj'] at h1
  simp only[World.cell?,hg,Nat.zero_add]
  simp only[Option.isSome_none,Bool.false_eq_true,if_false]
  rw[←Array.getElem?_toList,h1]
  simp[hj']
 obtain⟨i0,hi0,hs0⟩: ∃i0,Tryz.prog.info? 28=some i0∧i0.size=1:=by
  have h0:=Tryz.infoU
  cases hq:Tryz.prog.info? 28 with
  |none=>rw[hq] at h0;cases h0
  |some i0=>
   rw[hq] at h0
   simp only[Option.map_some,Option.some.injEq,Prod.mk.injEq] at h0
   exact⟨i0,rfl,h0.2.1⟩
 have hcall:=Tryz.slices_Delete_f131 (Value.int .u64) (fun _=>rfl) 0 Tryz.zeroValue28 i0 hi0 hs0 g 0 cap i (i+1) l.toArray w hH (by simpa using hnc) (by simpa[maxLen] using hm) (by omega) (by simp;omega)
 refine(show Calls Tryz.prog 131 #[.slice (some ⟨g,0,none⟩) l.length cap, .int .i64 i, .int .i64 ((i+1:Nat):Int)] w _ from(by simpa using hcall)).mono ?_
 rintro e w' ⟨rfl,q,rfl⟩
 have hX:l.take i++(l.drop (i+1)++[0])=l.eraseIdx i++[0]:=by rw[List.eraseIdx_eq_take_drop_succ,List.append_assoc]
 have hel:(l.eraseIdx i).length=l.length - 1:=by rw[List.length_eraseIdx,if_pos hi]
 refine⟨_,rfl,⟨by simp[hel], .inr ⟨g,cap,_,rfl,hB,putRow_heap _ hg,by omega,hm,by simp[Go.Sort.putCells,hsz], ?_⟩⟩,putRow_touch _ _ _ _ _,rfl⟩
 rw[hX,Nat.mul_one]
 have hT:=take_putCells (Value.int .u64) cur (l.eraseIdx i++[0]) (by simp[hel];omega)
 have h2: ∀C:List Value,C.take (l.eraseIdx i++[0]).length=(l.eraseIdx i++[0]).map (Value.int .u64)→C.take (l.length - 1)=(l.eraseIdx i).map (Value.int .u64):=fun C hC=>by
  have h3:C.take (l.length - 1)=(C.take (l.eraseIdx i++[0]).length).take (l.length - 1):=by rw[List.take_take,Nat.min_eq_left (by rw[List.length_append,hel];exact Nat.le_succ_of_le (Nat.le_refl _))]
  rw[h3,hC,List.map_append,List.take_left' (by rw[List.length_map,hel])]
 exact h2 _ hT
theorem dltI_any {w:World} {B:Nat} {v:Value} {l:List Int} {i:Nat} (h:w.ownsRow B 3 1 v l.length (l.map (Value.int .i64))) (hi:i<l.length):
  Calls Tryz.prog 189 #[v, .int .i64 i, .int .i64 ((i+1:Nat):Int)] w fun e w'=> ∃v',e= .returned v'∧w'.ownsRow B 3 1 v' (l.length - 1) ((l.eraseIdx i).map (Value.int .i64))∧Touch (blkOf v) w w'∧blkOf v'=blkOf v:=by
 obtain⟨g,cap,rfl⟩:=ownsRow_form h (by omega)
 have hown:=h.2
 rcases hown with ⟨h0, -⟩|⟨g',cap',cur,hv,hB,hg,hnc,hm,hsz,htk⟩
 ·cases h0
 cases hv
 rw[Nat.mul_one] at hsz htk
 have hH:Holds (Value.int .i64) w g 0 l.toArray:=by
  intro j hj
  have hj':j<l.length:=by simpa using hj
  refine⟨?_,by simp[World.frozen?,hg]⟩
  have h1:(cur.toList.take l.length)[j]? =(l.map (Value.int .i64))[j]? :=by rw[htk]
  rw[List.getElem?_take_of_lt hj'] at h1
  simp only[World.cell?,hg,Nat.zero_add]
  simp only[Option.isSome_none,Bool.false_eq_true,if_false]
  rw[←Array.getElem?_toList,h1]
  simp[hj']
 obtain⟨i0,hi0,hs0⟩: ∃i0,Tryz.prog.info? 3=some i0∧i0.size=1:=by
  have h0:=Tryz.infoI
  cases hq:Tryz.prog.info? 3 with
  |none=>rw[hq] at h0;cases h0
  |some i0=>
   rw[hq] at h0
   simp only[Option.map_some,Option.some.injEq,Prod.mk.injEq] at h0
   exact⟨i0,rfl,h0.2.1⟩
 have hcall:=Tryz.slices_Delete_f189 (Value.int .i64) (fun _=>rfl) 0 Tryz.zeroValue3 i0 hi0 hs0 g 0 cap i (i+1) l.toArray w hH (by simpa using hnc) (by simpa[maxLen] using hm) (by omega) (by simp;omega)
 refine(show Calls Tryz.prog 189 #[.slice (some ⟨g,0,none⟩) l.length cap, .int .i64 i, .int .i64 ((i+1:Nat):Int)] w _ from(by simpa using hcall)).mono ?_
 rintro e w' ⟨rfl,q,rfl⟩
 have hX:l.take i++(l.drop (i+1)++[0])=l.eraseIdx i++[0]:=by rw[List.eraseIdx_eq_take_drop_succ,List.append_assoc]
 have hel:(l.eraseIdx i).length=l.length - 1:=by rw[List.length_eraseIdx,if_pos hi]
 refine⟨_,rfl,⟨by simp[hel], .inr ⟨g,cap,_,rfl,hB,putRow_heap _ hg,by omega,hm,by simp[Go.Sort.putCells,hsz], ?_⟩⟩,putRow_touch _ _ _ _ _,rfl⟩
 rw[hX,Nat.mul_one]
 have hT:=take_putCells (Value.int .i64) cur (l.eraseIdx i++[0]) (by simp[hel];omega)
 have h2: ∀C:List Value,C.take (l.eraseIdx i++[0]).length=(l.eraseIdx i++[0]).map (Value.int .i64)→C.take (l.length - 1)=(l.eraseIdx i).map (Value.int .i64):=fun C hC=>by
  have h3:C.take (l.length - 1)=(C.take (l.eraseIdx i++[0]).length).take (l.length - 1):=by rw[List.take_take,Nat.min_eq_left (by rw[List.length_append,hel];exact Nat.le_succ_of_le (Nat.le_refl _))]
  rw[h3,hC,List.map_append,List.take_left' (by rw[List.length_map,hel])]
 exact h2 _ hT
end Go.Proofs.YtjgkegkinnlcoaaGreatDoor
namespace Go.Proofs.YtjgkegkinnlcoaaGreatDoor
open Go.RowKit Go.Maps Go.Joins
open Go.Lib
abbrev SV:=Value × List Int
def catL (xs:List SV):List Int:=(xs.map (·.2)).flatten
theorem catL_take {xs:List SV} {i:Nat} {x:SV} (h:xs[i]? =some x):catL (xs.take (i+1))=catL (xs.take i)++x.2:=by
 unfold catL
 rw[List.take_add_one,h]
 simp
theorem catL_le {xs:List SV} (i:Nat):(catL (xs.take i)).length≤(catL xs).length:=by
 unfold catL
 conv=>rhs;rw[←List.take_append_drop i xs,List.map_append,List.flatten_append,List.length_append]
 omega
def CatA (xs:List SV) (s i:Value):Prop:= ∃j:Nat,j≤xs.length∧i= .int .i64 j∧s= .int .i64 ((catL (xs.take j)).length:Nat)
set_option maxHeartbeats 4000000 in
set_option maxRecDepth 100000 in
theorem growU_any (w:World) (n:Nat) (h0:0<n) (hn:n≤1000000):
  Calls Tryz.prog 241 #[.slice none 0 0, .int .i64 n] w fun e w'=> ∃v,e= .returned v∧w'.ownsRow w.heap.size 28 1 v 0 []∧Below w.heap.size w w':=by
 obtain⟨i0,hi0,hz0,hzs,hzb⟩:=info_parts Tryz.infoU
 have hold:(Builtin.firstCells i0.size 0 (.slice none 0 0)).run Tryz.prog w.drew= .ok ([]:List Value).toArray w.drew:=by
  rw[hzs];rfl
 obtain⟨G,hG⟩: ∃G,G=grownCap w n 0 28:=⟨_,rfl⟩
 have hG63:G≤maxLen:=by rw[hG];exact grownCap_le_maxLen w n 0 28 (by unfold maxLen;omega)
 have hGn:n≤G:=by rw[hG];exact grownCap_ge w _ _ _
 obtain⟨ROW,hROW⟩: ∃ROW:Array Value,ROW=([]:List Value).toArray++Builtin.zeroCells (Value.int .u64 0).cells n++Builtin.zeroCells (Value.int .u64 0).cells (G - n):=⟨_,rfl⟩
 have hRs:ROW.size=G:=by
  rw[hROW]
  simp[Builtin.zeroCells,Value.cells]
  omega
 have hrz: ∀ty,(Builtin.append_ #[57,3] ty #[.slice none 0 0, .int .i64 n]).run Tryz.prog w= .ok (.slice (some ⟨w.heap.size,0,none⟩) n G) (w.drew.alloc (.cells ROW 28)):=fun ty=>by
  have h:=Lib.run_append_grow_zeros w 57 3 ty 28 i0 _ .i64 .i64 Tryz.underlying57 Tryz.underlying3 hi0 hz0 none 0 0 [] hold n h0 (by omega) (by omega) (by omega) (by rw[hzb];omega) (by rw[hzb,Nat.zero_add];exact growslice_fits (by omega) (by omega))
  rw[Nat.zero_add] at h
  rw[hROW,hG]
  exact h
 have hb3:(0:Int)<(n:Int):=by omega
 have HOWN:=Lib.hid (show(w.drew.alloc (.cells ROW 28)).ownsRow w.heap.size 28 1 (.slice (some ⟨w.heap.size,0,none⟩) 0 G) 0 [] from
  ⟨rfl, .inr ⟨w.heap.size,G,ROW,rfl,Nat.le_refl _,heap_alloc_new w.drew _,Nat.zero_le _,hG63,by rw[Nat.mul_one];exact hRs,rfl⟩⟩)
 have hG2:(0:Int)≤(G:Int):=by omega
 have hG3: ¬(G=0):=by omega
 clear hold hROW hG hRs
 go_enter Tryz.func241,Tryz.ntmps241
 go_wp2_with (at_builtin;refine Lib.wpList_append_run _ rfl _ _ _ _ rfl _ _ rfl rfl _ _ (hrz _) ?_)
 go_ret
 exact⟨_,rfl,HOWN.out,below_alloc (o:= .cells ROW 28) ((Below.refl _ _).drew)⟩
def CatUB (W wr:World) (xs:List SV) (v i:Value):Prop:= ∃j:Nat,j≤xs.length∧i= .int .i64 j∧wr.ownsRow W.heap.size 28 1 v (catL (xs.take j)).length ((catL (xs.take j)).map (Value.int .u64))∧Below W.heap.size W wr
set_option maxHeartbeats 4000000 in
set_option maxRecDepth 100000 in
theorem catU_any {w:World} {vb m:Nat} (xs:List SV) (hm:xs.length=m) (hc: ∀(i:Nat) x,xs[i]? =some x→w.cell? ⟨vb,i,none⟩=some x.1) (hi: ∀x∈xs,IsI w .u64 x.1 x.2∧x.2≠ []) (h0:0<m) (h10:m≤10) (hn:(catL xs).length≤1000000):
  Calls Tryz.prog 222 #[.slice (some ⟨vb,0,none⟩) m m] w fun e w'=> ∃v,e= .returned v∧w'.ownsRow w.heap.size 28 1 v (catL xs).length ((catL xs).map (Value.int .u64))∧Below w.heap.size w w':=by
 subst hm
 have HC:=Lib.hid hc
 have HI:=Lib.hid hi
 have hle: ∀i,(catL (xs.take i)).length≤1000000:=fun i=>Nat.le_trans (catL_le i) hn
 have hpos:0<(catL xs).length:=by
  obtain⟨x,xs',rfl⟩:=List.exists_cons_of_length_pos h0
  have:=(hi x (by simp)).2
  have hx:0<x.2.length:=List.length_pos_iff.2 this
  unfold catL
  simp only[List.map_cons,List.flatten_cons,List.length_append]
  omega
 have HG:=Lib.hid (growU_any w (catL xs).length hpos hn)
 have HLE:=Lib.hid hle
 have HPO:=Lib.hid hpos
 have HN:=Lib.hid hn
 clear hc hi hle hpos hn
 go_enter Tryz.func222,Tryz.ntmps222
 go_wp2_with fail
 go_loopw [3,11] (fun s i wr=>CatA xs s i∧wr=w) (fun _ i _=>xs.length - (intOf i).toNat)
 case atStart=>exact⟨⟨0,by omega,rfl,by simp[catL]⟩,rfl⟩
 case round=>
  obtain⟨⟨j,hj,rfl,rfl⟩,hww⟩:=hrel
  have hww:=hww.symm
  subst hww
  by_cases hjl:j<xs.length
  ·have hx:xs[j]? =some xs[j]:=List.getElem?_eq_getElem hjl
   have hcell:=HC.out j _ hx
   obtain⟨a,c,hform⟩:=(HI.out _ (List.getElem_mem hjl)).1.form
   rw[hform] at hcell
   have h1:=HLE.out j
   have h2:=HLE.out (j+1)
   have h3:=congrArg List.length (catL_take hx)
   rw[List.length_append] at h3
   rw[h3] at h2
   have HX3:=Lib.hid h3
   have y1:(j:Int)<(xs.length:Int):=by omega
   obtain⟨S,hS⟩: ∃S,S=(catL (xs.take j)).length:=⟨_,rfl⟩
   obtain⟨N,hN⟩: ∃N,N=xs[j].2.length:=⟨_,rfl⟩
   rw[←hS] at h1 h2 ⊢
   rw[←hN] at h2 hcell
   have HS:=Lib.hid hS
   have HN:=Lib.hid hN
   have y2: ¬((S:Int)+(N:Int)<0):=by omega
   clear hx hform h3 hS hN
   go_wp2_with fail
   go_roundw
   case rel=>exact⟨⟨j+1,by omega,by go_num,by rw[HX3.out, ←HS.out, ←HN.out];go_num⟩,trivial⟩
   case measure=>simp[intOf];omega
  ·have hje:j=xs.length:=by omega
   subst hje
   rw[List.take_length]
   obtain⟨S,hS⟩: ∃S,S=(catL xs).length:=⟨_,rfl⟩
   rw[←hS] at HG ⊢
   have HS:=Lib.hid hS
   clear hS
   go_wp2_with fail
   refine HG.out.mono ?_
   rintro e W ⟨v0,rfl,ho,hb⟩
   have HB:=Lib.hid hb
   have HO:=Lib.hid ho
   clear ho hb
   go_wp2_with fail
   go_loopw [6,8,27] (fun v _ i wq=>CatUB w wq xs v i) (fun _ _ i _=>xs.length - (intOf i).toNat)
   case atStart=>exact⟨0,by omega,rfl,HO.out,HB.out⟩
   case round=>
    obtain⟨j,hj,rfl,ho,hb⟩:=hrel
    by_cases hjl:j<xs.length
    ·have hx:xs[j]? =some xs[j]:=List.getElem?_eq_getElem hjl
     obtain⟨hxi,hxn⟩:=HI.out _ (List.getElem_mem hjl)
     have hxi:=hxi.below hb
     have hcell:=(hb.cell (p:=⟨vb,j,none⟩) (cell_lt (HC.out j _ hx))).trans (HC.out j _ hx)
     obtain⟨g,o,c,hform,hc1,hc2,hg,hcs⟩:=hxi.at_ (List.length_pos_iff.2 hxn)
     rw[hform] at hcell
     have h2:=HLE.out (j+1)
     have h3:=catL_take hx
     have h4:=congrArg List.length h3
     rw[List.length_append] at h4
     rw[h4] at h2
     have y1:(j:Int)<(xs.length:Int):=by omega
     have HXL:=Lib.hid (And.intro h3 h4)
     have HCS:=Lib.hid hcs
     have HXN:=Lib.hid (List.length_pos_iff.2 hxn)
     have H2:=Lib.hid h2
     have HO2:=Lib.hid ho
     have HB2:=Lib.hid hb
     clear hx hxi hxn hform h3 h4 hcs ho hb h2
     obtain⟨i0,hi0,hz0,hzs,hzb⟩:=info_parts Tryz.infoU
     go_wp2_with (at_builtin;(refine wpList_append_near _ rfl (.tmp 31) (.tmp 32) 57 rfl w.heap.size 28 i0 (.int .u64 0) 1 8 Tryz.underlying57 hi0 hz0 hzs hzb rfl (by decide) _ (catL (xs.take j)).length _ rfl HO2.out ⟨g,o,none⟩ xs[j].2.length c (xs[j].2.map (Value.int .u64)) rfl HXN.out (by simp) (fun q u hu=>by
      rw[Addr.add_lit]
      obtain⟨x,hx,rfl⟩:=List.getElem?_map .. ▸hu |> Option.map_eq_some_iff.1
      have hq:=(List.getElem?_eq_some_iff.1 hx).1
      rw[HCS.out q hq]
      rw[List.getD_eq_getElem?_getD,hx];rfl) (fun u hu=>by obtain⟨x, -,rfl⟩:=List.mem_map.1 hu;rfl) (by have:=H2.out;unfold maxLen;omega) (by have:=H2.out;omega) HB2.out.size ?_;intro g' cap' w' ho' hgr hnr;have HO3:=Lib.hid ho';have HGR:=Lib.hid hgr;clear ho' hgr hnr))
     go_roundw
     case rel=>
      refine⟨j+1,by omega,by go_num, ?_,HB2.out.grown HGR.out HB2.out.size (fun q hq=>(HO2.out.lt q hq).1)⟩
      rw[HXL.out.2,HXL.out.1,List.map_append]
      exact HO3.out
     case measure=>simp[intOf];omega
    ·have hje:j=xs.length:=by omega
     subst hje
     rw[List.take_length] at ho
     have HB2:=Lib.hid hb
     have HO2:=Lib.hid ho
     clear ho hb
     go_wp2_with fail
     go_ret
     exact⟨_,rfl,HO2.out,HB2.out⟩
set_option maxHeartbeats 4000000 in
set_option maxRecDepth 100000 in
theorem growI_any (w:World) (n:Nat) (h0:0<n) (hn:n≤1000000):
  Calls Tryz.prog 242 #[.slice none 0 0, .int .i64 n] w fun e w'=> ∃v,e= .returned v∧w'.ownsRow w.heap.size 3 1 v 0 []∧Below w.heap.size w w':=by
 obtain⟨i0,hi0,hz0,hzs,hzb⟩:=info_parts Tryz.infoI
 have hold:(Builtin.firstCells i0.size 0 (.slice none 0 0)).run Tryz.prog w.drew= .ok ([]:List Value).toArray w.drew:=by
  rw[hzs];rfl
 obtain⟨G,hG⟩: ∃G,G=grownCap w n 0 3:=⟨_,rfl⟩
 have hG63:G≤maxLen:=by rw[hG];exact grownCap_le_maxLen w n 0 3 (by unfold maxLen;omega)
 have hGn:n≤G:=by rw[hG];exact grownCap_ge w _ _ _
 obtain⟨ROW,hROW⟩: ∃ROW:Array Value,ROW=([]:List Value).toArray++Builtin.zeroCells (Value.int .i64 0).cells n++Builtin.zeroCells (Value.int .i64 0).cells (G - n):=⟨_,rfl⟩
 have hRs:ROW.size=G:=by
  rw[hROW]
  simp[Builtin.zeroCells,Value.cells]
  omega
 have hrz: ∀ty,(Builtin.append_ #[67,3] ty #[.slice none 0 0, .int .i64 n]).run Tryz.prog w= .ok (.slice (some ⟨w.heap.size,0,none⟩) n G) (w.drew.alloc (.cells ROW 3)):=fun ty=>by
  have h:=Lib.run_append_grow_zeros w 67 3 ty 3 i0 _ .i64 .i64 Tryz.underlying67 Tryz.underlying3 hi0 hz0 none 0 0 [] hold n h0 (by omega) (by omega) (by omega) (by rw[hzb];omega) (by rw[hzb,Nat.zero_add];exact growslice_fits (by omega) (by omega))
  rw[Nat.zero_add] at h
  rw[hROW,hG]
  exact h
 have hb3:(0:Int)<(n:Int):=by omega
 have HOWN:=Lib.hid (show(w.drew.alloc (.cells ROW 3)).ownsRow w.heap.size 3 1 (.slice (some ⟨w.heap.size,0,none⟩) 0 G) 0 [] from
  ⟨rfl, .inr ⟨w.heap.size,G,ROW,rfl,Nat.le_refl _,heap_alloc_new w.drew _,Nat.zero_le _,hG63,by rw[Nat.mul_one];exact hRs,rfl⟩⟩)
 have hG2:(0:Int)≤(G:Int):=by omega
 have hG3: ¬(G=0):=by omega
 clear hold hROW hG hRs
 go_enter Tryz.func242,Tryz.ntmps242
 go_wp2_with (at_builtin;refine Lib.wpList_append_run _ rfl _ _ _ _ rfl _ _ rfl rfl _ _ (hrz _) ?_)
 go_ret
 exact⟨_,rfl,HOWN.out,below_alloc (o:= .cells ROW 3) ((Below.refl _ _).drew)⟩
def CatIB (W wr:World) (xs:List SV) (v i:Value):Prop:= ∃j:Nat,j≤xs.length∧i= .int .i64 j∧wr.ownsRow W.heap.size 3 1 v (catL (xs.take j)).length ((catL (xs.take j)).map (Value.int .i64))∧Below W.heap.size W wr
set_option maxHeartbeats 4000000 in
set_option maxRecDepth 100000 in
theorem catI_any {w:World} {vb m:Nat} (xs:List SV) (hm:xs.length=m) (hc: ∀(i:Nat) x,xs[i]? =some x→w.cell? ⟨vb,i,none⟩=some x.1) (hi: ∀x∈xs,IsI w .i64 x.1 x.2∧x.2≠ []) (h0:0<m) (h10:m≤10) (hn:(catL xs).length≤1000000):
  Calls Tryz.prog 223 #[.slice (some ⟨vb,0,none⟩) m m] w fun e w'=> ∃v,e= .returned v∧w'.ownsRow w.heap.size 3 1 v (catL xs).length ((catL xs).map (Value.int .i64))∧Below w.heap.size w w':=by
 subst hm
 have HC:=Lib.hid hc
 have HI:=Lib.hid hi
 have hle: ∀i,(catL (xs.take i)).length≤1000000:=fun i=>Nat.le_trans (catL_le i) hn
 have hpos:0<(catL xs).length:=by
  obtain⟨x,xs',rfl⟩:=List.exists_cons_of_length_pos h0
  have:=(hi x (by simp)).2
  have hx:0<x.2.length:=List.length_pos_iff.2 this
  unfold catL
  simp only[List.map_cons,List.flatten_cons,List.length_append]
  omega
 have HG:=Lib.hid (growI_any w (catL xs).length hpos hn)
 have HLE:=Lib.hid hle
 have HPO:=Lib.hid hpos
 have HN:=Lib.hid hn
 clear hc hi hle hpos hn
 go_enter Tryz.func223,Tryz.ntmps223
 go_wp2_with fail
 go_loopw [3,11] (fun s i wr=>CatA xs s i∧wr=w) (fun _ i _=>xs.length - (intOf i).toNat)
 case atStart=>exact⟨⟨0,by omega,rfl,by simp[catL]⟩,rfl⟩
 case round=>
  obtain⟨⟨j,hj,rfl,rfl⟩,hww⟩:=hrel
  have hww:=hww.symm
  subst hww
  by_cases hjl:j<xs.length
  ·have hx:xs[j]? =some xs[j]:=List.getElem?_eq_getElem hjl
   have hcell:=HC.out j _ hx
   obtain⟨a,c,hform⟩:=(HI.out _ (List.getElem_mem hjl)).1.form
   rw[hform] at hcell
   have h1:=HLE.out j
   have h2:=HLE.out (j+1)
   have h3:=congrArg List.length (catL_take hx)
   rw[List.length_append] at h3
   rw[h3] at h2
   have HX3:=Lib.hid h3
   have y1:(j:Int)<(xs.length:Int):=by omega
   obtain⟨S,hS⟩: ∃S,S=(catL (xs.take j)).length:=⟨_,rfl⟩
   obtain⟨N,hN⟩: ∃N,N=xs[j].2.length:=⟨_,rfl⟩
   rw[←hS] at h1 h2 ⊢
   rw[←hN] at h2 hcell
   have HS:=Lib.hid hS
   have HN:=Lib.hid hN
   have y2: ¬((S:Int)+(N:Int)<0):=by omega
   clear hx hform h3 hS hN
   go_wp2_with fail
   go_roundw
   case rel=>exact⟨⟨j+1,by omega,by go_num,by rw[HX3.out, ←HS.out, ←HN.out];go_num⟩,trivial⟩
   case measure=>simp[intOf];omega
  ·have hje:j=xs.length:=by omega
   subst hje
   rw[List.take_length]
   obtain⟨S,hS⟩: ∃S,S=(catL xs).length:=⟨_,rfl⟩
   rw[←hS] at HG ⊢
   have HS:=Lib.hid hS
   clear hS
   go_wp2_with fail
   refine HG.out.mono ?_
   rintro e W ⟨v0,rfl,ho,hb⟩
   have HB:=Lib.hid hb
   have HO:=Lib.hid ho
   clear ho hb
   go_wp2_with fail
   go_loopw [6,8,27] (fun v _ i wq=>CatIB w wq xs v i) (fun _ _ i _=>xs.length - (intOf i).toNat)
   case atStart=>exact⟨0,by omega,rfl,HO.out,HB.out⟩
   case round=>
    obtain⟨j,hj,rfl,ho,hb⟩:=hrel
    by_cases hjl:j<xs.length
    ·have hx:xs[j]? =some xs[j]:=List.getElem?_eq_getElem hjl
     obtain⟨hxi,hxn⟩:=HI.out _ (List.getElem_mem hjl)
     have hxi:=hxi.below hb
     have hcell:=(hb.cell (p:=⟨vb,j,none⟩) (cell_lt (HC.out j _ hx))).trans (HC.out j _ hx)
     obtain⟨g,o,c,hform,hc1,hc2,hg,hcs⟩:=hxi.at_ (List.length_pos_iff.2 hxn)
     rw[hform] at hcell
     have h2:=HLE.out (j+1)
     have h3:=catL_take hx
     have h4:=congrArg List.length h3
     rw[List.length_append] at h4
     rw[h4] at h2
     have y1:(j:Int)<(xs.length:Int):=by omega
     have HXL:=Lib.hid (And.intro h3 h4)
     have HCS:=Lib.hid hcs
     have HXN:=Lib.hid (List.length_pos_iff.2 hxn)
     have H2:=Lib.hid h2
     have HO2:=Lib.hid ho
     have HB2:=Lib.hid hb
     clear hx hxi hxn hform h3 h4 hcs ho hb h2
     obtain⟨i0,hi0,hz0,hzs,hzb⟩:=info_parts Tryz.infoI
     go_wp2_with (at_builtin;(refine wpList_append_near _ rfl (.tmp 31) (.tmp 32) 67 rfl w.heap.size 3 i0 (.int .i64 0) 1 8 Tryz.underlying67 hi0 hz0 hzs hzb rfl (by decide) _ (catL (xs.take j)).length _ rfl HO2.out ⟨g,o,none⟩ xs[j].2.length c (xs[j].2.map (Value.int .i64)) rfl HXN.out (by simp) (fun q u hu=>by
      rw[Addr.add_lit]
      obtain⟨x,hx,rfl⟩:=List.getElem?_map .. ▸hu |> Option.map_eq_some_iff.1
      have hq:=(List.getElem?_eq_some_iff.1 hx).1
      rw[HCS.out q hq]
      rw[List.getD_eq_getElem?_getD,hx];rfl) (fun u hu=>by obtain⟨x, -,rfl⟩:=List.mem_map.1 hu;rfl) (by have:=H2.out;unfold maxLen;omega) (by have:=H2.out;omega) HB2.out.size ?_;intro g' cap' w' ho' hgr hnr;have HO3:=Lib.hid ho';have HGR:=Lib.hid hgr;clear ho' hgr hnr))
     go_roundw
     case rel=>
      refine⟨j+1,by omega,by go_num, ?_,HB2.out.grown HGR.out HB2.out.size (fun q hq=>(HO2.out.lt q hq).1)⟩
      rw[HXL.out.2,HXL.out.1,List.map_append]
      exact HO3.out
     case measure=>simp[intOf];omega
    ·have hje:j=xs.length:=by omega
     subst hje
     rw[List.take_length] at ho
     have HB2:=Lib.hid hb
     have HO2:=Lib.hid ho
     clear ho hb
     go_wp2_with fail
     go_ret
     exact⟨_,rfl,HO2.out,HB2.out⟩
end Go.Proofs.YtjgkegkinnlcoaaGreatDoor
