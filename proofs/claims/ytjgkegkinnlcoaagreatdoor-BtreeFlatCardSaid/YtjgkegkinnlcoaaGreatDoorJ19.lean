/- Lemmas on the way to the statement: Shelf, Pager9. -/
import Derived.Test.YtjgkegkinnlcoaaGreatDoorJ5
set_option linter.unusedSimpArgs false
set_option linter.unusedVariables false
namespace Go.Proofs
open Go.Shelf
def Tryz.lays189_ren:Go.Shelf.Ren:=⟨fun|189=>96|125=>171|257=>170|128=>208|129=>209|294=>199|295=>200|296=>201|297=>202|298=>203|299=>204|216=>205|300=>206|301=>207|328=>227|329=>228|330=>229|331=>230|332=>231|215=>232|343=>243|n=>n,fun|28=>67|3=>3|46=>178|0=>0|51=>225|53=>28|4=>4|183=>276|182=>275|131=>118|5=>5|9=>9|218=>299|222=>302|228=>314|229=>123|n=>n,fun|n=>n⟩
theorem Tryz.lays189:Go.Proofs.Lays.n189 Tryz.prog Tryz.lays189_ren:= {
 mixed:=by kernel_rfl
 f125:=Tryz.func171.trans (congrArg some (by kernel_rfl))
 f128:=Tryz.func208.trans (congrArg some (by kernel_rfl))
 f129:=Tryz.func209.trans (congrArg some (by kernel_rfl))
 f189:=Tryz.func96.trans (congrArg some (by kernel_rfl))
 f215:=Tryz.func232.trans (congrArg some (by kernel_rfl))
 f216:=Tryz.func205.trans (congrArg some (by kernel_rfl))
 f257:=Tryz.func170.trans (congrArg some (by kernel_rfl))
 f294:=Tryz.func199.trans (congrArg some (by kernel_rfl))
 f295:=Tryz.func200.trans (congrArg some (by kernel_rfl))
 f296:=Tryz.func201.trans (congrArg some (by kernel_rfl))
 f297:=Tryz.func202.trans (congrArg some (by kernel_rfl))
 f298:=Tryz.func203.trans (congrArg some (by kernel_rfl))
 f299:=Tryz.func204.trans (congrArg some (by kernel_rfl))
 f300:=Tryz.func206.trans (congrArg some (by kernel_rfl))
 f301:=Tryz.func207.trans (congrArg some (by kernel_rfl))
 f328:=Tryz.func227.trans (congrArg some (by kernel_rfl))
 f329:=Tryz.func228.trans (congrArg some (by kernel_rfl))
 f330:=Tryz.func229.trans (congrArg some (by kernel_rfl))
 f331:=Tryz.func230.trans (congrArg some (by kernel_rfl))
 f332:=Tryz.func231.trans (congrArg some (by kernel_rfl))
 f343:=Tryz.func243.trans (congrArg some (by kernel_rfl))
 t0:=Tryz.underlying0
 a0:=Tryz.isAgg0
 z0:=Tryz.sizeOf0
 v0:=Tryz.zeroValue0
 t3:=Tryz.underlying3
 a3:=Tryz.isAgg3
 z3:=Tryz.sizeOf3
 v3:=Tryz.zeroValue3
 t4:=Tryz.underlying4
 a4:=Tryz.isAgg4
 z4:=Tryz.sizeOf4
 v4:=Tryz.zeroValue4
 t5:=Tryz.underlying5
 a5:=Tryz.isAgg5
 z5:=Tryz.sizeOf5
 v5:=Tryz.zeroValue5
 t9:=Tryz.underlying9
 a9:=Tryz.isAgg9
 z9:=Tryz.sizeOf9
 v9:=Tryz.zeroValue9
 t28:=Tryz.underlying67
 a28:=Tryz.isAgg67
 z28:=Tryz.sizeOf67
 v28:=Tryz.zeroValue67
 t46:=Tryz.underlying178
 a46:=Tryz.isAgg178
 z46:=Tryz.sizeOf178
 v46:=Tryz.zeroValue178
 t51:=Tryz.underlying225
 a51:=Tryz.isAgg225
 z51:=Tryz.sizeOf225
 v51:=Tryz.zeroValue225
 t53:=Tryz.underlying28
 a53:=Tryz.isAgg28
 z53:=Tryz.sizeOf28
 v53:=Tryz.zeroValue28
 t131:=Tryz.underlying118
 a131:=Tryz.isAgg118
 z131:=Tryz.sizeOf118
 v131:=Tryz.zeroValue118
 t182:=Tryz.underlying275
 a182:=Tryz.isAgg275
 z182:=Tryz.sizeOf275
 v182:=Tryz.zeroValue275
 t183:=Tryz.underlying276
 a183:=Tryz.isAgg276
 z183:=Tryz.sizeOf276
 v183:=Tryz.zeroValue276
 t218:=Tryz.underlying299
 a218:=Tryz.isAgg299
 z218:=Tryz.sizeOf299
 v218:=Tryz.zeroValue299
 t222:=Tryz.underlying302
 a222:=Tryz.isAgg302
 z222:=Tryz.sizeOf302
 v222:=Tryz.zeroValue302
 t228:=Tryz.underlying314
 a228:=Tryz.isAgg314
 z228:=Tryz.sizeOf314
 v228:=Tryz.zeroValue314
 t229:=Tryz.underlying123
 a229:=Tryz.isAgg123
 z229:=Tryz.sizeOf123
 v229:=Tryz.zeroValue123 }
open Go.Sort Go.RowKit in
theorem Tryz.slices_Sort_int (blk off cap:Nat) (zs:List Int) (w:World) (hH:Holds (Value.int .i64) w blk off zs.toArray) (hblk:blk<w.heap.size) (hsz:zs.length<4611686018427387904):
  Calls Tryz.prog 96 #[.slice (some ⟨blk,off,none⟩) zs.length cap] w fun e w'=>
   e= .returned (.tuple #[])∧ ∃n os,w'=grow (putRow (Value.int .i64) (Sort.ahead w n) blk off (zs.mergeSort fun x y=>decide (x≤y)).toArray) os:=Any.slices_Sort_int Tryz.lays189 blk off cap zs w hH hblk hsz
open Go.RowKit Go.Sort in
theorem Tryz.slices_Sort_int_none (p:Option Addr) (cap:Nat) (w:World):
  Calls Tryz.prog 96 #[.slice p 0 cap] w fun e w'=>e= .returned (.tuple #[])∧w'=w:=Any.slices_Sort_int_none Tryz.lays189 p cap w
end Go.Proofs
namespace Go.Proofs.YtjgkegkinnlcoaaGreatDoor
open Go.RowKit Go.Maps Go.Joins
theorem sort_row {w:World} {base:Nat} {v:Value} {l:List Int} (h:w.ownsRow base 3 1 v l.length (l.map (Value.int .i64))) (hl:l.length≤1000000):
  Calls Tryz.prog 96 #[v] w fun e w'=>e= .returned (.tuple #[])∧w'.ownsRow base 3 1 v l.length ((l.mergeSort fun x y=>decide (x≤y)).map (Value.int .i64))∧w.grownBy w' v.ownBlock:=by
 rcases h.2 with ⟨hv,h0⟩|⟨g,cap,cur,hv,hg,hgb,h1,h2,h3,ht⟩
 ·have hl0:l=[]:=List.eq_nil_of_length_eq_zero h0
  subst hv hl0
  refine(Tryz.slices_Sort_int_none none 0 w).mono ?_
  rintro e w' ⟨rfl,rfl⟩
  exact⟨rfl,by rw[List.mergeSort_nil];exact World.ownsRow_nil _ _ _ _,⟨rfl,rfl,rfl,Nat.le_refl _,fun _ _ _=>rfl⟩⟩
 ·subst hv
  rw[Nat.mul_one] at ht
  have hgl:g<w.heap.size:=(Array.getElem?_eq_some_iff.1 hgb).1
  refine(Tryz.slices_Sort_int g 0 cap l w (holds_of_blockI hgb ht) hgl (by omega)).mono ?_
  rintro e w' ⟨rfl,n,os,rfl⟩
  exact⟨rfl,ownsRow_sortedI (ts:=l.mergeSort fun x y=>decide (x≤y)) (List.length_mergeSort l) hg hgb h1 h2 h3,grownBy_sortedI _⟩
end Go.Proofs.YtjgkegkinnlcoaaGreatDoor
