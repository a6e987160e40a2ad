/- Lemmas on the way to the statement: BtNilWalk. -/
import Derived.Test.YtjgkegkinnlcoaaGreatDoorJ18
import Derived.Test.YtjgkegkinnlcoaaGreatDoorJ24
import Derived.Test.YtjgkegkinnlcoaaGreatDoorJ29
set_option linter.unusedSimpArgs false
set_option linter.unusedVariables false
namespace Go.Proofs.YtjgkegkinnlcoaaGreatDoor
open Go.RowKit Go.Maps Go.Joins
set_option maxRecDepth 100000 in
theorem Root_nil (w:World) (i:Int):Calls Tryz.prog 34 #[.pointer none, .int .i64 i] w fun e w'=>e= .returned (.tuple #[.int .u64 0, .int .i64 1])∧Below w.heap.size w w':=by
 go_enter Tryz.func34,Tryz.ntmps34
 go_wp2_with fail
 go_ret2
 exact⟨rfl,Below.refl _ _⟩
set_option maxRecDepth 100000 in
theorem top_nil (w:World) (i:Int):Calls Tryz.prog 54 #[.pointer none, .int .i64 i] w fun e w'=>e= .returned (.tuple #[.int .i64 0, .int .i64 1])∧Below w.heap.size w w':=by
 go_enter Tryz.func54,Tryz.ntmps54
 go_wp2_with fail
 refine(Root_nil w i).mono ?_
 rintro e w1 ⟨rfl,hb⟩
 have HB:=Lib.hid hb
 clear hb
 go_wp2_with fail
 go_ret2
 exact⟨rfl,HB.out⟩
set_option maxRecDepth 100000 in
theorem Get_nil (w:World) (i key:Int):Calls Tryz.prog 18 #[.pointer none, .int .i64 i, .int .u64 key] w fun e w'=>e= .returned (.tuple #[.int .u64 0, .int .i64 1])∧Below w.heap.size w w':=by
 go_enter Tryz.func18,Tryz.ntmps18
 go_wp2_with fail
 refine(top_nil w i).mono ?_
 rintro e w1 ⟨rfl,hb⟩
 have HB:=Lib.hid hb
 clear hb
 go_wp2_with fail
 refine wp_loop_rounds 1 ?_
 rw[rounds_succ]
 go_wp2_with fail
 go_ret2
 exact⟨rfl,HB.out⟩
set_option maxRecDepth 100000 in
theorem Deep_nil (w:World) (i:Int):Calls Tryz.prog 26 #[.pointer none, .int .i64 i] w fun e w'=>e= .returned (.tuple #[.int .i64 0, .int .i64 1])∧Below w.heap.size w w':=by
 go_enter Tryz.func26,Tryz.ntmps26
 go_wp2_with fail
 refine(top_nil w i).mono ?_
 rintro e w1 ⟨rfl,hb⟩
 have HB:=Lib.hid hb
 clear hb
 go_wp2_with fail
 refine wp_loop_rounds 1 ?_
 rw[rounds_succ]
 go_wp2_with fail
 go_ret2
 exact⟨rfl,HB.out⟩
set_option maxRecDepth 100000 in
theorem whole_nil (w:World) (i:Int):Calls Tryz.prog 62 #[.pointer none, .int .i64 i] w fun e w'=>e= .returned (.tuple #[.slice none 0 0, .slice none 0 0, .int .i64 1])∧Below w.heap.size w w':=by
 have HB0:=Lib.hid (show Below w.heap.size w (w.alloc (.cells #[.pointer none] 24)) from below_alloc (Below.refl _ _))
 go_enter Tryz.func62,Tryz.ntmps62
 go_wp2_with fail
 refine(top_nil _ i).mono ?_
 rintro e w1 ⟨rfl,hb⟩
 have HB:=Lib.hid (below_step hb HB0.out)
 clear hb
 go_wp2_with fail
 go_ret3
 exact⟨rfl,HB.out⟩
set_option maxRecDepth 100000 in
theorem All_nil (w:World) (i:Int):Calls Tryz.prog 20 #[.pointer none, .int .i64 i] w fun e w'=>e= .returned (.tuple #[.slice none 0 0, .int .i64 1])∧Below w.heap.size w w':=by
 go_enter Tryz.func20,Tryz.ntmps20
 go_wp2_with fail
 refine(whole_nil w i).mono ?_
 rintro e w1 ⟨rfl,hb⟩
 have HB:=Lib.hid hb
 clear hb
 go_wp2_with fail
 go_ret2
 exact⟨rfl,HB.out⟩
set_option maxRecDepth 100000 in
theorem Pages_nil (w:World) (i:Int):Calls Tryz.prog 32 #[.pointer none, .int .i64 i] w fun e w'=>e= .returned (.tuple #[.slice none 0 0, .int .i64 1])∧Below w.heap.size w w':=by
 go_enter Tryz.func32,Tryz.ntmps32
 go_wp2_with fail
 refine(whole_nil w i).mono ?_
 rintro e w1 ⟨rfl,hb⟩
 have HB:=Lib.hid hb
 clear hb
 go_wp2_with fail
 refine(Tryz.slices_Sort_int_none none 0 w1).mono ?_
 rintro e w2 ⟨rfl,rfl⟩
 go_wp2_with fail
 go_ret2
 exact⟨rfl,HB.out⟩
set_option maxRecDepth 100000 in
theorem Put_nil (w:World) (i key val:Int):Calls Tryz.prog 14 #[.pointer none, .int .i64 i, .int .u64 key, .int .u64 val] w fun e w'=>e= .returned (.int .i64 1)∧Below w.heap.size w w':=by
 go_enter Tryz.func14,Tryz.ntmps14
 go_wp2_with fail
 refine(top_nil w i).mono ?_
 rintro e w1 ⟨rfl,hb⟩
 have HB:=Lib.hid hb
 clear hb
 go_wp2_with fail
 go_ret
 exact⟨rfl,HB.out⟩
set_option maxRecDepth 100000 in
theorem Del_nil (w:World) (i key:Int):Calls Tryz.prog 16 #[.pointer none, .int .i64 i, .int .u64 key] w fun e w'=>e= .returned (.int .i64 1)∧Below w.heap.size w w':=by
 go_enter Tryz.func16,Tryz.ntmps16
 go_wp2_with fail
 refine(Get_nil w i key).mono ?_
 rintro e w1 ⟨rfl,hb⟩
 have HB:=Lib.hid hb
 clear hb
 go_wp2_with fail
 go_ret
 exact⟨rfl,HB.out⟩
theorem top_off {M:PM} {root:Int} (h:root<0∨8≤root):topB M root=(0,1):=by
 unfold topB rootP
 rw[if_pos h]
 simp
set_option maxRecDepth 100000 in
set_option maxHeartbeats 4000000 in
theorem btreeNil_walk {w:World} (root key val:Int) (k0:0≤key) (k1:key≤18446744073709551615) (v0:0≤val) (v1:val≤18446744073709551615):
  Calls Tryz.prog 7 #[.int .i64 root, .int .u64 key, .int .u64 val] w fun e w'=>e= .returned (.bool true)∧Below w.heap.size w w':=by
 have HAW:=Lib.hid (fun W=>awake13_any W)
 by_cases hr:root<0∨8≤root
 ·have ht: ∀M,topB M root=(0,1):=fun M=>top_off hr
  have HG:=Lib.hid (fun(M:PM)=>show getB M root key=(0,1) by unfold getB;rw[ht];rfl)
  have HD:=Lib.hid (fun(M:PM)=>show deepB M root=(0,1) by unfold deepB;rw[ht];rfl)
  have HW:=Lib.hid (fun(M:PM)=>show wholeB M root=([],[],1) by unfold wholeB;rw[ht];rfl)
  have HP:=Lib.hid (fun(M:PM)=>show putB M root key val=(1,M) by unfold putB;rw[ht];rfl)
  have HL:=Lib.hid (fun(M:PM)=>show delB M root key=(1,M) by unfold delB;rw[HG.out];rfl)
  clear ht
  by_cases hn:root<0
  ·have z1: ¬(0:Int)≤root:=by omega
   clear hr hn
   go_enter Tryz.func7,Tryz.ntmps7
   go_wp2_with fail
   refine(made13_any w).mono ?_
   rintro e w1 ⟨p,M,rfl,⟨nd,hp⟩, -⟩
   have HC:=Lib.hid (Get_any hp (by omega) root key)
   rw[HG.out] at HC
   clear hp
   go_wp2_with fail
   refine HC.out.mono ?_
   rintro e w2 ⟨rfl,hp, -⟩
   have HC2:=Lib.hid (All_any hp (by omega) root)
   rw[HW.out] at HC2
   clear hp HC
   go_wp2_with fail
   refine HC2.out.mono ?_
   rintro e w3 ⟨vo,rfl, -,hp, -⟩
   have HC:=Lib.hid (Deep_any hp (by omega) root)
   rw[HD.out] at HC
   clear hp HC2
   go_wp2_with fail
   refine HC.out.mono ?_
   rintro e w4 ⟨rfl,hp, -⟩
   have HC2:=Lib.hid (Pages_any hp (by omega) root)
   rw[HW.out] at HC2
   clear hp HC
   go_wp2_with fail
   refine HC2.out.mono ?_
   rintro e w5 ⟨vp,rfl, -,hp, -⟩
   have HP5:=Lib.hid hp
   clear hp HC2
   go_wp2_with fail
   refine(HAW.out _).mono ?_
   rintro e w6 ⟨rfl,hb⟩
   have HC:=Lib.hid (Put_any (HP5.out.moveX hb) (by omega) root key val ⟨k0,k1⟩ ⟨v0,v1⟩)
   rw[HP.out] at HC
   clear hb HP5
   go_wp2_with fail
   refine HC.out.mono ?_
   rintro e w7 ⟨rfl,hp, -⟩
   have HC2:=Lib.hid (Del_any hp (by omega) root key ⟨k0,k1⟩)
   rw[HL.out] at HC2
   clear hp HC
   go_wp2_with fail
   refine HC2.out.mono ?_
   rintro e w8 ⟨rfl,hp, -⟩
   have HB:=Lib.hid (below_atD hp.below)
   clear hp HC2
   go_wp2_with fail
   go_ret
   exact⟨rfl,HB.out⟩
  ·have z1:(0:Int)≤root:=by omega
   have z2: ¬root<(8:Int):=by omega
   clear hr hn
   go_enter Tryz.func7,Tryz.ntmps7
   go_wp2_with fail
   refine(made13_any w).mono ?_
   rintro e w1 ⟨p,M,rfl,⟨nd,hp⟩, -⟩
   have HC:=Lib.hid (Get_any hp (by omega) root key)
   rw[HG.out] at HC
   clear hp
   go_wp2_with fail
   refine HC.out.mono ?_
   rintro e w2 ⟨rfl,hp, -⟩
   have HC2:=Lib.hid (All_any hp (by omega) root)
   rw[HW.out] at HC2
   clear hp HC
   go_wp2_with fail
   refine HC2.out.mono ?_
   rintro e w3 ⟨vo,rfl, -,hp, -⟩
   have HC:=Lib.hid (Deep_any hp (by omega) root)
   rw[HD.out] at HC
   clear hp HC2
   go_wp2_with fail
   refine HC.out.mono ?_
   rintro e w4 ⟨rfl,hp, -⟩
   have HC2:=Lib.hid (Pages_any hp (by omega) root)
   rw[HW.out] at HC2
   clear hp HC
   go_wp2_with fail
   refine HC2.out.mono ?_
   rintro e w5 ⟨vp,rfl, -,hp, -⟩
   have HP5:=Lib.hid hp
   clear hp HC2
   go_wp2_with fail
   refine(HAW.out _).mono ?_
   rintro e w6 ⟨rfl,hb⟩
   have HC:=Lib.hid (Put_any (HP5.out.moveX hb) (by omega) root key val ⟨k0,k1⟩ ⟨v0,v1⟩)
   rw[HP.out] at HC
   clear hb HP5
   go_wp2_with fail
   refine HC.out.mono ?_
   rintro e w7 ⟨rfl,hp, -⟩
   have HC2:=Lib.hid (Del_any hp (by omega) root key ⟨k0,k1⟩)
   rw[HL.out] at HC2
   clear hp HC
   go_wp2_with fail
   refine HC2.out.mono ?_
   rintro e w8 ⟨rfl,hp, -⟩
   have HB:=Lib.hid (below_atD hp.below)
   clear hp HC2
   go_wp2_with fail
   go_ret
   exact⟨rfl,HB.out⟩
 ·have z1:(0:Int)≤root:=by omega
  have z2:root<(8:Int):=by omega
  clear hr
  go_enter Tryz.func7,Tryz.ntmps7
  go_wp2_with fail
  refine(made13_any w).mono ?_
  rintro e w1 ⟨p,M,rfl,⟨nd,hp⟩, -⟩
  have HB:=Lib.hid (below_atD hp.below)
  clear hp
  go_wp2_with fail
  refine((Get_nil _ root key)).mono ?_
  rintro e w1 ⟨rfl,hb⟩
  have HB:=Lib.hid (below_step hb HB.out)
  clear hb
  go_wp2_with fail
  refine((All_nil _ root)).mono ?_
  rintro e w1 ⟨rfl,hb⟩
  have HB:=Lib.hid (below_step hb HB.out)
  clear hb
  go_wp2_with fail
  refine((Deep_nil _ root)).mono ?_
  rintro e w1 ⟨rfl,hb⟩
  have HB:=Lib.hid (below_step hb HB.out)
  clear hb
  go_wp2_with fail
  refine((Pages_nil _ root)).mono ?_
  rintro e w1 ⟨rfl,hb⟩
  have HB:=Lib.hid (below_step hb HB.out)
  clear hb
  go_wp2_with fail
  refine((HAW.out _)).mono ?_
  rintro e w1 ⟨rfl,hb⟩
  have HB:=Lib.hid (below_step hb HB.out)
  clear hb
  go_wp2_with fail
  refine((Put_nil _ root key val)).mono ?_
  rintro e w1 ⟨rfl,hb⟩
  have HB:=Lib.hid (below_step hb HB.out)
  clear hb
  go_wp2_with fail
  refine((Del_nil _ root key)).mono ?_
  rintro e w1 ⟨rfl,hb⟩
  have HB:=Lib.hid (below_step hb HB.out)
  clear hb
  go_wp2_with fail
  go_ret
  exact⟨rfl,HB.out⟩
end Go.Proofs.YtjgkegkinnlcoaaGreatDoor
