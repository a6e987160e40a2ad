/- Lemmas on the way to the statement: Insert, Pos, Slices, BtGet, Mid, Mid2, StoreAt, RelAt, BtStore. -/
import Derived.Test.YtjgkegkinnlcoaaGreatDoorJ8
import Derived.Laws.CopyRow
import Derived.Laws.Externs
import Derived.Lib.AppendZerosOnto
import Derived.Lib.JoinLaws
import Derived.Lib.Overlaps
import Derived.Lib.RowBridge
import Derived.Lib.SliceRun
import Derived.Lib.Walk
import Derived.Shelf.RegionOpenPlain
set_option linter.unusedSimpArgs false
set_option linter.unusedVariables false
namespace Go.Proofs.YtjgkegkinnlcoaaGreatDoor
open Go.RowKit Go.Maps Go.Joins
open Go.Lib
section
variable {P:Program}
theorem wpList_copy_at (w:World) {ops:Array Oper} {rest:List Oper} {o:Oper} {a:Act} {Q:Exit→Act→World→Prop} (hgd:o.guard=none) (d s:Operand) (t t':TypeId)
  (ho:o.op= .call { callee:= .builtin .copy,args:= #[d,s],argTypes:= #[t,t'] }) (v u:Value) (hd:a.eval d=v) (hs:a.eval s=u) {v':Value} {w':World}
  (hr:(Builtin.copy_ #[t,t'] o.type #[v,u]).run P w= .ok v' w') (h:wpList P ops Q rest (a.put o.dst v') w'):wpList P ops Q (o::rest) a w:=
 wpList_plain hgd fun _ hK=>by
  unfold Oper.wp execOp
  simp only[ho,resolve,invoke,builtin,Sem.run_bind,Sem.run_pure,Result.andThen_ok,List.map_toArray,List.map_cons,List.map_nil,hd,hs,hr]
  exact hK _ _ h
theorem step_copy_at {ops:Array Oper} {o:Oper} {a:Act} {w:World} {K:Act→World→Prop} {Q:Exit→Act→World→Prop} {E:Prop}
  (hg:o.guard=none) (d x:Operand) (dT sT:TypeId) (hop:o.op=Op.call { callee:=Callee.builtin Builtin.copy,args:= #[d,x],argTypes:= #[dT,sT] })
  (v u:Value) (hd:a.eval d=v) (hx:a.eval x=u) {v':Value} {w':World} (hr:(Builtin.copy_ #[dT,sT] o.type #[v,u]).run P w= .ok v' w') (hK:K (a.put o.dst v') w'):
  if Region.wanted o (yielded ops a.tmps)=true then Oper.wp P o a w K Q else E:=by
 have hw:Region.wanted o (yielded ops a.tmps)=true:=by simp[Region.wanted,hg]
 rw[if_pos hw]
 unfold Oper.wp
 simp[execOp,hop,resolve,invoke,builtin,hd,hx,hr,Result.andThen]
 exact hK
end
theorem insertIdx_at {l:List Int} {i j:Nat} {x:Int} (hi:i≤l.length) (hj:j≤l.length):(l.insertIdx i x)[j]? =some (if j<i then l.getD j 0 else if j=i then x else l.getD (j - 1) 0):=by
 rw[List.getElem?_insertIdx]
 by_cases h1:j<i
 ·rw[if_pos h1,if_pos h1,getElem?_getD (by omega)]
 ·rw[if_neg h1,if_neg h1]
  by_cases h2:j=i
  ·rw[if_pos h2,if_pos h2,if_pos (by omega)]
  ·rw[if_neg h2,if_neg h2,getElem?_getD (by omega)]
theorem rowIs_shape {w:World} {g n:Nat} {e:TypeId} {f:Nat→Value} (h:w.rowIs g e n f):w.shape? g=some (e,n):=by
 obtain⟨cur,hg,hs, -⟩:=h
 simp[World.shape?,hg,hs]
theorem Tryz.infoU:(Tryz.prog.info? 28).map (fun i=>(i.zero,i.size,i.bytes))=some (some (.int .u64 0),1,8):=by kernel_rfl
theorem Tryz.sizeU (w:World):(Go.sizeOf 28).run Tryz.prog w= .ok 1 w:=by kernel_rfl
set_option maxHeartbeats 4000000 in
set_option maxRecDepth 100000 in
theorem insU_shift (b n c i vb:Nat) (cs:List Value) (x:Value) (w:World) (hi:i<n) (hroom:n+1≤c) (hc63:c≤9223372036854775807) (hvb:vb≠b)
  (hcl:cs.length=n) (hcs: ∀j v,cs[j]? =some v→w.cell? ⟨b,j,none⟩=some v) (hsp: ∀j,j<n+1→(w.cell? ⟨b,j,none⟩).isSome=true) (hfz: ∀j,j<n+1→w.frozen? ⟨b,j,none⟩=false)
  (hvs:w.cell? ⟨vb,0,none⟩=some x) (h1c: ∀v∈cs,v.oneCell'=true) (h1v:x.oneCell'=true)
  (tA tB:TypeId) (kA kB:Nat) (hsa:w.shape? vb=some (tA,kA)) (hsb:w.shape? b=some (tB,kB)) (hkB:kB≠0) (hfa:w.frozen? ⟨vb,0,none⟩=false) (hfe:w.frozen? ⟨vb,kA,none⟩=false):
  Calls Tryz.prog 128 #[.slice (some ⟨b,0,none⟩) n c, .int .i64 i, .slice (some ⟨vb,0,none⟩) 1 1] w fun e w'=>
   e= .returned (.slice (some ⟨b,0,none⟩) (n+1) c)∧w'=(w.drew.setCells b (i+1) (cs.drop i)).setCells b i [x]:=by
 have hz2: ¬((i:Int)=(n:Int)):=by omega
 have hsz:(Tryz.prog.info? 28).map (·.size)=some 1:=by
  obtain⟨i0,hi0,h0,h1,h2⟩:=info_parts Tryz.infoU
  rw[hi0];simp[h1]
 have hov: ∀lb cb,(callFunc 182 #[.slice (some ⟨vb,0,none⟩) 1 1, .slice (some ⟨b,i+1,none⟩) lb cb]).run Tryz.prog w= .ok (.value (.bool false)) w:=fun lb cb=>by
  rw[run_callFunc_extern Tryz.func182 (by kernel_rfl) (by kernel_rfl) (by kernel_rfl) (e:=Extern.SlicesOverlaps.overlaps #[57,57] #[4]) (by kernel_rfl),
   Lib.run_overlaps_apart w 57 4 28 Tryz.underlying57 1 Tryz.sizeU ⟨vb,0,none⟩ ⟨b,i+1,none⟩ 1 1 lb cb hvb tA tB kA kB hsa hsb hkB hfa hfe]
  rfl
 have hdl:(cs.drop i).length=n - i:=by rw[List.length_drop,hcl]
 have mixed:Tryz.prog.follows .mixedOrders=true:=by kernel_rfl
 have hw1:IntKind.i64.wrap ((i:Int)+1)=(i:Int)+1:=by rw[IntKind.wrap_i64];omega
 have hb1:(0:Int)≤(i:Int)+1:=by omega
 have hin:i≤n:=by omega
 have htn:((i:Int)+1).toNat=i+1:=by omega
 have hb2: ¬(c=i+1):=by omega
 have hb3:(i:Int)≤(n:Int)+1:=by omega
 have hb4: ¬(c=i):=by omega
 have hcp1: ∀ty dc sc,(Builtin.copy_ #[57,57] ty #[.slice (some ⟨b,i+1,none⟩) (n+1 - (i+1)) dc, .slice (some ⟨b,i,none⟩) (n+1 - i) sc]).run Tryz.prog w.drew= .ok (goInt (cs.drop i).length) (w.drew.setCells b (i+1) (cs.drop i)):=fun ty dc sc=>
  run_copy_cells w.drew _ _ ty 28 b (i+1) (n+1 - (i+1)) dc ⟨b,i,none⟩ (n+1 - i) sc (cs.drop i) Tryz.underlying57 hsz (by rw[hdl];simp only[Nat.min_def];split<;>omega)
   (fun j v hj=>by rw[Addr.add_lit];exact hcs (i+j) v (by rwa [List.getElem?_drop] at hj))
   (fun j hj=>by exact hsp _ (by omega)) (fun j hj=>by exact hfz _ (by omega)) (fun v hv=>h1c v (List.mem_of_mem_drop hv))
 obtain⟨W1,hW1⟩: ∃W1,W1=w.drew.setCells b (i+1) (cs.drop i):=⟨_,rfl⟩
 have hsp1: ∀k,k<n+1→(W1.cell? ⟨b,k,none⟩).isSome=true:=fun k hk=>by
  rw[hW1]
  exact World.isSome_setCells b _ _ _ _ (hsp k hk)
 have hcp2: ∀(W:World),(∀x,W.cell? x=W1.cell? x)→(∀x,W.frozen? x=W1.frozen? x)→ ∀ty dc,(Builtin.copy_ #[57,57] ty #[.slice (some ⟨b,i,none⟩) (n+1 - i) dc, .slice (some ⟨vb,0,none⟩) 1 1]).run Tryz.prog W= .ok (goInt [x].length) (W.setCells b i [x]):=fun W hWc hWf ty dc=>
  run_copy_cells W _ _ ty 28 b i (n+1 - i) dc ⟨vb,0,none⟩ 1 1 [x] Tryz.underlying57 hsz (by simp only[List.length_singleton,Nat.min_def];split<;>omega)
   (fun j v hj=>by
    rw[Addr.add_lit,hWc,hW1,World.cell?_setCells_out b _ _ _ _ (fun h _=>absurd h hvb)]
    rcases j with _|j
    ·simp at hj;subst hj;exact hvs
    ·simp at hj)
   (fun j hj=>by rw[hWc];simp at hj;exact hsp1 _ (by omega)) (fun j hj=>by rw[hWf,hW1,World.frozen?_setCells];simp at hj;exact hfz _ (by omega)) (fun v hv=>by simp at hv;subst hv;exact h1v)
 rw[←hW1] at hcp1
 go_enter Tryz.func128,Tryz.ntmps128
 go_wp2_with (simp only[hov])
 go_region_law_o (refine step_copy_at rfl _ _ 57 57 rfl (.slice (some ⟨b,i+1,none⟩) (n+1 - (i+1)) (c - (i+1))) (.slice (some ⟨b,i,none⟩) (n+1 - i) (c - i)) (by simp[Act.eval,Act.put]) (by simp[Act.eval,Act.put]) (hcp1 3 (c - (i+1)) (c - i)) ?_)
 go_wp2_with (at_builtin;refine wpList_copy_at _ rfl _ _ 57 57 rfl _ _ rfl rfl (hcp2 _ (fun _=>rfl) (fun _=>rfl) _ _) ?_)
 go_ret
 first|exact⟨rfl,rfl⟩|exact⟨rfl,by rw[hW1]⟩
set_option maxHeartbeats 4000000 in
set_option maxRecDepth 100000 in
theorem insU_grow (b n c i vb:Nat) (cs:List Value) (x:Value) (w:World) (hi:i<n) (hnc:n≤c) (hroom:c<n+1) (hbig:(n+1)*8≤140737488355328)
  (hcl:cs.length=n) (hcs: ∀j v,cs[j]? =some v→w.cell? ⟨b,j,none⟩=some v) (hvs:w.cell? ⟨vb,0,none⟩=some x) (h1c: ∀v∈cs,v.oneCell'=true) (h1v:x.oneCell'=true):
  Calls Tryz.prog 128 #[.slice (some ⟨b,0,none⟩) n c, .int .i64 i, .slice (some ⟨vb,0,none⟩) 1 1] w fun e w'=>
   e= .returned (.slice (some ⟨w.heap.size,0,none⟩) (n+1) (grownCap w (n+1) c 28))∧
   w'=(((w.alloc (.cells ((cs.take i).toArray++Builtin.zeroCells (Value.int .u64 0).cells (n+1 - i)++Builtin.zeroCells (Value.int .u64 0).cells (grownCap w (n+1) c 28 - (n+1))) 28)).drew.setCells w.heap.size i [x]).drew).setCells w.heap.size (i+1) (cs.drop i):=by
 have mixed:Tryz.prog.follows .mixedOrders=true:=by kernel_rfl
 obtain⟨i0,hi0,hz0,hzs,hzb⟩:=info_parts Tryz.infoU
 have hz2: ¬((i:Int)=(n:Int)):=by omega
 have hz3:(c:Int)<(n:Int)+1:=by omega
 have hsz:(Tryz.prog.info? 28).map (·.size)=some 1:=by rw[hi0];simp[hzs]
 have hbw:b<w.heap.size:=cell_lt (hcs 0 _ (List.getElem?_eq_getElem (by omega)))
 have hvw:vb<w.heap.size:=cell_lt hvs
 have hkk:(n:Int)+1 - (i:Int)=((n+1 - i:Nat):Int):=by omega
 have hik:i+(n+1 - i)=n+1:=by omega
 have hold:(Builtin.firstCells i0.size i (.slice (some ⟨b,0,none⟩) i c)).run Tryz.prog w.drew= .ok (cs.take i).toArray w.drew:=by
  rw[hzs]
  exact run_firstCells_some w.drew 1 i ⟨b,0,none⟩ i c (cs.take i) (by rw[List.length_take];omega) (fun j v hj=>by
   rw[Addr.add_lit]
   rw[List.getElem?_take] at hj
   split at hj
   ·rw[Nat.zero_add];exact hcs j v hj
   ·cases hj)
 have hrz: ∀ty,(Builtin.append_ #[57,3] ty #[.slice (some ⟨b,0,none⟩) i c, .int .i64 ((n:Int)+1 - (i:Int))]).run Tryz.prog w=
   .ok (.slice (some ⟨w.heap.size,0,none⟩) (n+1) (grownCap w (n+1) c 28)) (w.drew.alloc (.cells ((cs.take i).toArray++Builtin.zeroCells (Value.int .u64 0).cells (n+1 - i)++Builtin.zeroCells (Value.int .u64 0).cells (grownCap w (n+1) c 28 - (n+1))) 28)):=fun ty=>by
  have h:=Lib.run_append_grow_zeros w 57 3 ty 28 i0 _ .i64 .i64 Tryz.underlying57 Tryz.underlying3 hi0 hz0 (some ⟨b,0,none⟩) i c (cs.take i) hold (n+1 - i) (by omega) (by omega) (by omega) (by omega) (by rw[hzb];omega) (by rw[hzb,hik];exact growslice_fits hroom hbig)
  rw[hik] at h
  rw[hkk]
  exact h
 obtain⟨G,hG⟩: ∃G,G=grownCap w (n+1) c 28:=⟨_,rfl⟩
 obtain⟨ROW,hROW⟩: ∃ROW:Array Value,ROW=(cs.take i).toArray++Builtin.zeroCells (Value.int .u64 0).cells (n+1 - i)++Builtin.zeroCells (Value.int .u64 0).cells (G - (n+1)):=⟨_,rfl⟩
 rw[←hG] at hrz ⊢
 rw[←hROW] at hrz ⊢
 have hRl:n+1≤ROW.size:=by
  rw[hROW]
  simp[Builtin.zeroCells,Value.cells]
  omega
 obtain⟨W1,hW1⟩: ∃W1,W1=w.drew.alloc (.cells ROW 28):=⟨_,rfl⟩
 rw[←hW1] at hrz
 have hN: ∀j,j<n+1→(W1.cell? ⟨w.heap.size,j,none⟩).isSome=true:=fun j hj=>by
  rw[hW1,World.cell?_alloc_at (w:=w.drew) ROW _ w.heap.size j rfl,Array.getElem?_eq_getElem (by omega)];rfl
 have hNf: ∀j,W1.frozen? ⟨w.heap.size,j,none⟩=false:=fun j=>by rw[hW1];exact World.frozen?_alloc_at (w:=w.drew) ROW _ w.heap.size j rfl
 have hOb: ∀j v,w.cell? ⟨b,j,none⟩=some v→W1.cell? ⟨b,j,none⟩=some v:=fun j v h=>by rw[hW1,World.cell?_alloc_past (w:=w.drew) _ b j hbw];exact h
 have hOv: ∀j v,w.cell? ⟨vb,j,none⟩=some v→W1.cell? ⟨vb,j,none⟩=some v:=fun j v h=>by rw[hW1,World.cell?_alloc_past (w:=w.drew) _ vb j hvw];exact h
 have hcpA: ∀(W:World),(∀x,W.cell? x=W1.cell? x)→(∀x,W.frozen? x=W1.frozen? x)→ ∀ty dc,(Builtin.copy_ #[57,57] ty #[.slice (some ⟨w.heap.size,i,none⟩) (n+1 - i) dc, .slice (some ⟨vb,0,none⟩) 1 1]).run Tryz.prog W= .ok (goInt [x].length) (W.setCells w.heap.size i [x]):=fun W hWc hWf ty dc=>
  run_copy_cells W _ _ ty 28 w.heap.size i (n+1 - i) dc ⟨vb,0,none⟩ 1 1 [x] Tryz.underlying57 hsz (by simp only[List.length_singleton,Nat.min_def];split<;>omega)
   (fun j v hj=>by
    rw[Addr.add_lit,hWc]
    rcases j with _|j
    ·simp at hj;subst hj;exact hOv _ _ hvs
    ·simp at hj)
   (fun j hj=>by rw[hWc];simp at hj;exact hN _ (by omega)) (fun j hj=>by rw[hWf];exact hNf _) (fun v hv=>by simp at hv;subst hv;exact h1v)
 have hGn:n+1≤G:=by rw[hG];exact grownCap_ge w _ _ _
 have hG63:G≤9223372036854775807:=by
  have:=grownCap_le_maxLen w (n+1) c 28 (by unfold maxLen;omega)
  rw[←hG] at this
  unfold maxLen at this
  omega
 have hGi: ¬(G=i):=by omega
 have hGim: ¬(G=i+1):=by omega
 have hci: ¬(c=i):=by omega
 have hbN:b≠w.heap.size:=by omega
 have hdl:(cs.drop i).length=n - i:=by rw[List.length_drop,hcl]
 have hcpB: ∀(W:World),(∀y,W.cell? y=(W1.setCells w.heap.size i [x]).cell? y)→(∀y,W.frozen? y=(W1.setCells w.heap.size i [x]).frozen? y)→ ∀ty dc sc,(Builtin.copy_ #[57,57] ty #[.slice (some ⟨w.heap.size,i+1,none⟩) (n+1 - (i+1)) dc, .slice (some ⟨b,i,none⟩) (n - i) sc]).run Tryz.prog W= .ok (goInt (cs.drop i).length) (W.setCells w.heap.size (i+1) (cs.drop i)):=fun W hWc hWf ty dc sc=>
  run_copy_cells W _ _ ty 28 w.heap.size (i+1) (n+1 - (i+1)) dc ⟨b,i,none⟩ (n - i) sc (cs.drop i) Tryz.underlying57 hsz (by rw[hdl];simp only[Nat.min_def];split<;>omega)
   (fun j v hj=>by
    rw[Addr.add_lit,hWc,World.cell?_setCells_out _ _ _ _ _ (fun h _=>absurd h hbN)]
    exact hOb _ v (hcs (i+j) v (by rwa [List.getElem?_drop] at hj)))
   (fun j hj=>by rw[hWc];exact World.isSome_setCells _ _ _ _ _ (hN _ (by omega)))
   (fun j hj=>by rw[hWf,World.frozen?_setCells];exact hNf _) (fun v hv=>h1c v (List.mem_of_mem_drop hv))
 subst hW1
 have hE1: ∀y,((w.alloc (.cells ROW 28)).drew).cell? y=(w.drew.alloc (.cells ROW 28)).cell? y:=fun y=>rfl
 have hE2: ∀y,((w.alloc (.cells ROW 28)).drew).frozen? y=(w.drew.alloc (.cells ROW 28)).frozen? y:=fun y=>rfl
 have hF1: ∀y,(((w.alloc (.cells ROW 28)).drew.setCells w.heap.size i [x]).drew).cell? y=((w.drew.alloc (.cells ROW 28)).setCells w.heap.size i [x]).cell? y:=fun y=>rfl
 have hF2: ∀y,(((w.alloc (.cells ROW 28)).drew.setCells w.heap.size i [x]).drew).frozen? y=((w.drew.alloc (.cells ROW 28)).setCells w.heap.size i [x]).frozen? y:=fun y=>rfl
 have hw1:IntKind.i64.wrap ((i:Int)+1)=(i:Int)+1:=by rw[IntKind.wrap_i64];omega
 have hb1:(0:Int)≤(i:Int)+1:=by omega
 have hin:i≤n:=by omega
 have htn:((i:Int)+1).toNat=i+1:=by omega
 have hb3:(i:Int)≤(n:Int):=by omega
 clear hkk hik hold hROW hG hRl
 go_enter Tryz.func128,Tryz.ntmps128
 go_wp2_with (first
  |(at_builtin;refine Lib.wpList_append_run _ rfl _ _ _ _ rfl _ _ rfl rfl _ _ (hrz _) ?_)
  |(at_builtin;refine wpList_copy_at _ rfl _ _ 57 57 rfl _ _ rfl rfl (hcpA _ hE1 hE2 _ _) ?_)
  |(at_builtin;refine wpList_copy_at _ rfl _ _ 57 57 rfl _ _ rfl rfl (hcpB _ (fun _=>rfl) (fun _=>rfl) _ _ _) ?_))
 go_region_law_o (refine step_copy_at rfl _ _ 57 57 rfl (.slice (some ⟨w.heap.size,i+1,none⟩) (n+1 - (i+1)) (G - (i+1))) (.slice (some ⟨b,i,none⟩) (n - i) (c - i)) (by simp[Act.eval,Act.put]) (by simp[Act.eval,Act.put]) (hcpB _ hF1 hF2 3 (G - (i+1)) (c - i)) ?_)
 go_wp2
 go_ret
 exact⟨rfl,rfl⟩
set_option maxHeartbeats 1000000 in
set_option maxRecDepth 100000 in
theorem insU_any {w:World} {B:Nat} {v:Value} {l:List Int} {i vb:Nat} {x:Int} (h:w.ownsRow B 28 1 v l.length (l.map (Value.int .u64))) (hB:B≤w.heap.size) (hi:i≤l.length) (hn:l.length≤1000000)
  {tA:TypeId} (hx:w.heap[vb]? =some (.cells #[.int .u64 x] tA (0,0))) (hne:v.ownBlock≠some vb):
  Calls Tryz.prog 128 #[v, .int .i64 i, .slice (some ⟨vb,0,none⟩) 1 1] w fun e w'=> ∃v',e= .returned v'∧w'.ownsRow B 28 1 v' (l.length+1) ((l.insertIdx i x).map (Value.int .u64))∧Touch (blkOf v) w w'∧ ∀g∈blkOf v',g∈blkOf v∨w.heap.size≤g:=by
 have hbo:=blkOf_own h
 have hcx:w.cell? ⟨vb,0,none⟩=some (.int .u64 x):=by rw[Lib.cell_of_heap hx];rfl
 have hvw:=cell_lt hcx
 have h1m: ∀u∈l.map (Value.int .u64),u.oneCell'=true:=fun u hu=>by
  obtain⟨y, -,rfl⟩:=List.mem_map.1 hu
  rfl
 by_cases hin:i=l.length
 ·subst hin
  obtain⟨i0,hi0,hz0,hz1,hz2⟩:=info_parts Tryz.infoU
  have hid:(l.insertIdx l.length x).map (Value.int .u64)=l.map (Value.int .u64)++[.int .u64 x]:=by
   have:l.insertIdx l.length x=l++[x]:=by
    have:=insertIdx_app (A:=l) (B:=[]) (x:=x) rfl
    rwa [List.append_nil] at this
   rw[this];simp
  have hcap:l.length+1≤maxLen:=by unfold maxLen;omega
  have hnews: ∀(j:Nat) (u:Value),[Value.int .u64 x][j]? =some u→w.cell? ((⟨vb,0,none⟩:Addr).add j)=some u:=fun j u hj=>by
   rcases j with _|j
   ·simp at hj;subst hj;exact hcx
   ·simp at hj
  rw[hid]
  obtain⟨a,c,hv⟩: ∃a c,v= .slice a l.length c:=by
   rcases ownsRow_forms h with ⟨rfl,e⟩|⟨g,c,rfl⟩
   ·exact⟨_,_,by rw[e]⟩
   ·exact⟨_,_,rfl⟩
  have H:=Lib.hid h
  have HB:=Lib.hid hbo
  clear h hbo
  subst hv
  go_enter Tryz.func128,Tryz.ntmps128
  go_wp2_with (at_builtin;refine wpList_append_near _ rfl _ _ 57 rfl B 28 i0 (.int .u64 0) 1 8 Tryz.underlying57 hi0 hz0 hz1 hz2 rfl (by decide) _ l.length (l.map (Value.int .u64)) rfl H.out ⟨vb,0,none⟩ 1 1 [.int .u64 x] rfl (by decide) rfl hnews (by intro u hu;simp at hu;subst hu;rfl) hcap (by omega) hB ?_;intro g cap w5 hown hgr hat)
  all_goals (
   go_ret
   refine⟨_,rfl,hown, ?_,fun g' hg'=> ?_⟩
   ·have t:=Touch.of_grown hgr
    rcases a with _|a
    ·exact t
    ·exact t
   ·simp[blkOf] at hg'
    subst hg'
    rcases a with _|a
    ·exact hat.imp (fun h=>by cases h) id
    ·exact hat.imp (fun h=>by simp[blkOf];injection h with h;exact h.symm) id)
 ·have hlt:i<l.length:=by omega
  obtain⟨g,c,rfl⟩:=ownsRow_form h (by omega)
  obtain⟨hgB,hnc,hcm,hl',f,hf,hfx⟩:=ownsRow_rowIs h
  have hgw:=World.rowIs.lt hf
  have hcell: ∀j v,(l.map (Value.int .u64))[j]? =some v→w.cell? ⟨g,j,none⟩=some v:=fun j v hj=>by
   have hj':=(List.getElem?_eq_some_iff.1 hj).1
   rw[List.length_map] at hj'
   rw[World.rowIs.cell hf (by omega), ←hfx j hj']
   exact hj
  have hne':vb≠g:=fun e=>hne (by rw[e];rfl)
  by_cases hroom:l.length+1≤c
  ·refine(insU_shift g l.length c i vb (l.map (Value.int .u64)) (.int .u64 x) w hlt hroom (by unfold maxLen at hcm;omega) hne' (List.length_map _) hcell (fun j hj=>by rw[World.rowIs.cell hf (by omega)];rfl) (fun j hj=>World.rowIs.frozen hf j) hcx h1m rfl tA 28 1 c (by simp[World.shape?,hx]) (rowIs_shape hf) (by omega) (by simp[World.frozen?,hx]) (by simp[World.frozen?,hx])).mono ?_
   rintro e w' ⟨rfl,rfl⟩
   refine⟨_,rfl, ?_, ?_,fun g' hg'=> .inl hg'⟩
   ·refine ownsRow_of_rowIs (rowIs_setCells _ _ _ _ (rowIs_setCells _ _ _ _ (rowIs_drew hf))) hgB hroom hcm (by rw[List.length_map,List.length_insertIdx_of_le_length (by omega)]) (fun j hj=> ?_)
    rw[List.getElem?_map,insertIdx_at (by omega) (by omega)]
    have hd: ∀k,k<l.length→(l.map (Value.int .u64))[k]? =some (.int .u64 (l.getD k 0)):=fun k hk=>by rw[List.getElem?_map,getElem?_getD hk];rfl
    by_cases h1:j<i
    ·rw[if_pos h1,if_neg (by simp;omega),if_neg (by simp;omega), ←hfx j (by omega),hd j (by omega)];rfl
    ·rw[if_neg h1]
     by_cases h2:j=i
     ·subst h2
      rw[if_pos rfl,if_pos (by simp)]
      simp
     ·rw[if_neg h2,if_neg (by simp;omega),if_pos (by simp;omega),List.getElem?_drop,show i+(j - (i+1))=j - 1 by omega,hd (j - 1) (by omega)]
      rfl
   ·have t1:=(setCells_touch g ((l.map (Value.int .u64)).drop i) (i+1) w.drew)
    have t2:=setCells_touch g [Value.int .u64 x] i (w.drew.setCells g (i+1) ((l.map (Value.int .u64)).drop i))
    exact((Touch.refl [g] w).drew.trans t1 (fun b hb=> .inl hb)).trans t2 (fun b hb=> .inl hb)
  ·refine(insU_grow g l.length c i vb (l.map (Value.int .u64)) (.int .u64 x) w hlt hnc (by omega) (by omega) (List.length_map _) hcell hcx h1m rfl).mono ?_
   rintro e w' ⟨rfl,rfl⟩
   have hG1:=grownCap_ge w (l.length+1) c 28
   have hG2:=grownCap_le_maxLen w (l.length+1) c 28 (by unfold maxLen;omega)
   generalize grownCap w (l.length+1) c 28=G at hG1 hG2
   refine⟨_,rfl, ?_, ?_,fun g' hg'=> .inr (by simp[blkOf] at hg';omega)⟩
   ·have hrow: ∃f0:Nat→Value,(w.alloc (.cells (((l.map (Value.int .u64)).take i).toArray++Builtin.zeroCells (Value.int .u64 0).cells (l.length+1 - i)++Builtin.zeroCells (Value.int .u64 0).cells (G - (l.length+1))) 28)).rowIs w.heap.size 28 G f0∧ ∀j,j<i→(l.map (Value.int .u64))[j]? =some (f0 j):=by
     refine⟨fun j=>(((l.map (Value.int .u64)).take i).toArray++Builtin.zeroCells (Value.int .u64 0).cells (l.length+1 - i)++Builtin.zeroCells (Value.int .u64 0).cells (G - (l.length+1))).getD j (.int .i64 0),⟨_,heap_alloc_new w _, ?_,fun j hj=> ?_⟩,fun j hj=> ?_⟩
     ·simp[Builtin.zeroCells,Value.cells];omega
     ·show _=some (Array.getD _ _ _)
      rw[Array.getD_eq_getD_getElem?]
      rw[Array.getElem?_eq_getElem (by simp[Builtin.zeroCells,Value.cells];omega)]
      rfl
     ·show _=some (Array.getD _ _ _)
      rw[Array.getD_eq_getD_getElem?,Array.append_assoc,Array.getElem?_append_left (by simp;omega)]
      rw[List.getElem?_toArray,List.getElem?_take_of_lt hj,List.getElem?_eq_getElem (by rw[List.length_map];omega)]
      rfl
    obtain⟨f0,hf0,hx0⟩:=hrow
    refine ownsRow_of_rowIs (rowIs_setCells _ _ _ _ (rowIs_drew (rowIs_setCells _ _ _ _ (rowIs_drew hf0)))) hB hG1 hG2 (by rw[List.length_map,List.length_insertIdx_of_le_length (by omega)]) (fun j hj=> ?_)
    rw[List.getElem?_map,insertIdx_at (by omega) (by omega)]
    have hd: ∀k,k<l.length→(l.map (Value.int .u64))[k]? =some (.int .u64 (l.getD k 0)):=fun k hk=>by rw[List.getElem?_map,getElem?_getD hk];rfl
    by_cases h1:j<i
    ·rw[if_pos h1,if_neg (by simp;omega),if_neg (by simp;omega), ←hx0 j h1,hd j (by omega)];rfl
    ·rw[if_neg h1]
     by_cases h2:j=i
     ·subst h2
      rw[if_pos rfl,if_neg (by rintro ⟨h, -⟩;omega),if_pos (by simp)]
      simp
     ·rw[if_neg h2,if_pos (by simp;omega),List.getElem?_drop,show i+(j - (i+1))=j - 1 by omega,hd (j - 1) (by omega)]
      rfl
   ·have t1:=((Touch.refl (blkOf (.slice (some ⟨g,0,none⟩) l.length c)) w).alloc (.cells (((l.map (Value.int .u64)).take i).toArray++Builtin.zeroCells (Value.int .u64 0).cells (l.length+1 - i)++Builtin.zeroCells (Value.int .u64 0).cells (G - (l.length+1))) 28)).drew
    have t2:=t1.trans (setCells_touch w.heap.size [Value.int .u64 x] i _) (fun b hb=> .inr (by simp at hb;omega))
    exact t2.drew.trans (setCells_touch w.heap.size ((l.map (Value.int .u64)).drop i) (i+1) _) (fun b hb=> .inr (by simp at hb;omega))
theorem Tryz.infoI:(Tryz.prog.info? 3).map (fun i=>(i.zero,i.size,i.bytes))=some (some (.int .i64 0),1,8):=by kernel_rfl
theorem Tryz.sizeI (w:World):(Go.sizeOf 3).run Tryz.prog w= .ok 1 w:=by kernel_rfl
set_option maxHeartbeats 4000000 in
set_option maxRecDepth 100000 in
theorem insI_shift (b n c i vb:Nat) (cs:List Value) (x:Value) (w:World) (hi:i<n) (hroom:n+1≤c) (hc63:c≤9223372036854775807) (hvb:vb≠b)
  (hcl:cs.length=n) (hcs: ∀j v,cs[j]? =some v→w.cell? ⟨b,j,none⟩=some v) (hsp: ∀j,j<n+1→(w.cell? ⟨b,j,none⟩).isSome=true) (hfz: ∀j,j<n+1→w.frozen? ⟨b,j,none⟩=false)
  (hvs:w.cell? ⟨vb,0,none⟩=some x) (h1c: ∀v∈cs,v.oneCell'=true) (h1v:x.oneCell'=true)
  (tA tB:TypeId) (kA kB:Nat) (hsa:w.shape? vb=some (tA,kA)) (hsb:w.shape? b=some (tB,kB)) (hkB:kB≠0) (hfa:w.frozen? ⟨vb,0,none⟩=false) (hfe:w.frozen? ⟨vb,kA,none⟩=false):
  Calls Tryz.prog 130 #[.slice (some ⟨b,0,none⟩) n c, .int .i64 i, .slice (some ⟨vb,0,none⟩) 1 1] w fun e w'=>
   e= .returned (.slice (some ⟨b,0,none⟩) (n+1) c)∧w'=(w.drew.setCells b (i+1) (cs.drop i)).setCells b i [x]:=by
 have hz2: ¬((i:Int)=(n:Int)):=by omega
 have hsz:(Tryz.prog.info? 3).map (·.size)=some 1:=by
  obtain⟨i0,hi0,h0,h1,h2⟩:=info_parts Tryz.infoI
  rw[hi0];simp[h1]
 have hov: ∀lb cb,(callFunc 186 #[.slice (some ⟨vb,0,none⟩) 1 1, .slice (some ⟨b,i+1,none⟩) lb cb]).run Tryz.prog w= .ok (.value (.bool false)) w:=fun lb cb=>by
  rw[run_callFunc_extern Tryz.func186 (by kernel_rfl) (by kernel_rfl) (by kernel_rfl) (e:=Extern.SlicesOverlaps.overlaps #[67,67] #[4]) (by kernel_rfl),
   Lib.run_overlaps_apart w 67 4 3 Tryz.underlying67 1 Tryz.sizeI ⟨vb,0,none⟩ ⟨b,i+1,none⟩ 1 1 lb cb hvb tA tB kA kB hsa hsb hkB hfa hfe]
  rfl
 have hdl:(cs.drop i).length=n - i:=by rw[List.length_drop,hcl]
 have mixed:Tryz.prog.follows .mixedOrders=true:=by kernel_rfl
 have hw1:IntKind.i64.wrap ((i:Int)+1)=(i:Int)+1:=by rw[IntKind.wrap_i64];omega
 have hb1:(0:Int)≤(i:Int)+1:=by omega
 have hin:i≤n:=by omega
 have htn:((i:Int)+1).toNat=i+1:=by omega
 have hb2: ¬(c=i+1):=by omega
 have hb3:(i:Int)≤(n:Int)+1:=by omega
 have hb4: ¬(c=i):=by omega
 have hcp1: ∀ty dc sc,(Builtin.copy_ #[67,67] ty #[.slice (some ⟨b,i+1,none⟩) (n+1 - (i+1)) dc, .slice (some ⟨b,i,none⟩) (n+1 - i) sc]).run Tryz.prog w.drew= .ok (goInt (cs.drop i).length) (w.drew.setCells b (i+1) (cs.drop i)):=fun ty dc sc=>
  run_copy_cells w.drew _ _ ty 3 b (i+1) (n+1 - (i+1)) dc ⟨b,i,none⟩ (n+1 - i) sc (cs.drop i) Tryz.underlying67 hsz (by rw[hdl];simp only[Nat.min_def];split<;>omega)
   (fun j v hj=>by rw[Addr.add_lit];exact hcs (i+j) v (by rwa [List.getElem?_drop] at hj))
   (fun j hj=>by exact hsp _ (by omega)) (fun j hj=>by exact hfz _ (by omega)) (fun v hv=>h1c v (List.mem_of_mem_drop hv))
 obtain⟨W1,hW1⟩: ∃W1,W1=w.drew.setCells b (i+1) (cs.drop i):=⟨_,rfl⟩
 have hsp1: ∀k,k<n+1→(W1.cell? ⟨b,k,none⟩).isSome=true:=fun k hk=>by
  rw[hW1]
  exact World.isSome_setCells b _ _ _ _ (hsp k hk)
 have hcp2: ∀(W:World),(∀x,W.cell? x=W1.cell? x)→(∀x,W.frozen? x=W1.frozen? x)→ ∀ty dc,(Builtin.copy_ #[67,67] ty #[.slice (some ⟨b,i,none⟩) (n+1 - i) dc, .slice (some ⟨vb,0,none⟩) 1 1]).run Tryz.prog W= .ok (goInt [x].length) (W.setCells b i [x]):=fun W hWc hWf ty dc=>
  run_copy_cells W _ _ ty 3 b i (n+1 - i) dc ⟨vb,0,none⟩ 1 1 [x] Tryz.underlying67 hsz (by simp only[List.length_singleton,Nat.min_def];split<;>omega)
   (fun j v hj=>by
    rw[Addr.add_lit,hWc,hW1,World.cell?_setCells_out b _ _ _ _ (fun h _=>absurd h hvb)]
    rcases j with _|j
    ·simp at hj;subst hj;exact hvs
    ·simp at hj)
   (fun j hj=>by rw[hWc];simp at hj;exact hsp1 _ (by omega)) (fun j hj=>by rw[hWf,hW1,World.frozen?_setCells];simp at hj;exact hfz _ (by omega)) (fun v hv=>by simp at hv;subst hv;exact h1v)
 rw[←hW1] at hcp1
 go_enter Tryz.func130,Tryz.ntmps130
 go_wp2_with (simp only[hov])
 go_region_law_o (refine step_copy_at rfl _ _ 67 67 rfl (.slice (some ⟨b,i+1,none⟩) (n+1 - (i+1)) (c - (i+1))) (.slice (some ⟨b,i,none⟩) (n+1 - i) (c - i)) (by simp[Act.eval,Act.put]) (by simp[Act.eval,Act.put]) (hcp1 3 (c - (i+1)) (c - i)) ?_)
 go_wp2_with (at_builtin;refine wpList_copy_at _ rfl _ _ 67 67 rfl _ _ rfl rfl (hcp2 _ (fun _=>rfl) (fun _=>rfl) _ _) ?_)
 go_ret
 first|exact⟨rfl,rfl⟩|exact⟨rfl,by rw[hW1]⟩
set_option maxHeartbeats 4000000 in
set_option maxRecDepth 100000 in
theorem insI_grow (b n c i vb:Nat) (cs:List Value) (x:Value) (w:World) (hi:i<n) (hnc:n≤c) (hroom:c<n+1) (hbig:(n+1)*8≤140737488355328)
  (hcl:cs.length=n) (hcs: ∀j v,cs[j]? =some v→w.cell? ⟨b,j,none⟩=some v) (hvs:w.cell? ⟨vb,0,none⟩=some x) (h1c: ∀v∈cs,v.oneCell'=true) (h1v:x.oneCell'=true):
  Calls Tryz.prog 130 #[.slice (some ⟨b,0,none⟩) n c, .int .i64 i, .slice (some ⟨vb,0,none⟩) 1 1] w fun e w'=>
   e= .returned (.slice (some ⟨w.heap.size,0,none⟩) (n+1) (grownCap w (n+1) c 3))∧
   w'=(((w.alloc (.cells ((cs.take i).toArray++Builtin.zeroCells (Value.int .i64 0).cells (n+1 - i)++Builtin.zeroCells (Value.int .i64 0).cells (grownCap w (n+1) c 3 - (n+1))) 3)).drew.setCells w.heap.size i [x]).drew).setCells w.heap.size (i+1) (cs.drop i):=by
 have mixed:Tryz.prog.follows .mixedOrders=true:=by kernel_rfl
 obtain⟨i0,hi0,hz0,hzs,hzb⟩:=info_parts Tryz.infoI
 have hz2: ¬((i:Int)=(n:Int)):=by omega
 have hz3:(c:Int)<(n:Int)+1:=by omega
 have hsz:(Tryz.prog.info? 3).map (·.size)=some 1:=by rw[hi0];simp[hzs]
 have hbw:b<w.heap.size:=cell_lt (hcs 0 _ (List.getElem?_eq_getElem (by omega)))
 have hvw:vb<w.heap.size:=cell_lt hvs
 have hkk:(n:Int)+1 - (i:Int)=((n+1 - i:Nat):Int):=by omega
 have hik:i+(n+1 - i)=n+1:=by omega
 have hold:(Builtin.firstCells i0.size i (.slice (some ⟨b,0,none⟩) i c)).run Tryz.prog w.drew= .ok (cs.take i).toArray w.drew:=by
  rw[hzs]
  exact run_firstCells_some w.drew 1 i ⟨b,0,none⟩ i c (cs.take i) (by rw[List.length_take];omega) (fun j v hj=>by
   rw[Addr.add_lit]
   rw[List.getElem?_take] at hj
   split at hj
   ·rw[Nat.zero_add];exact hcs j v hj
   ·cases hj)
 have hrz: ∀ty,(Builtin.append_ #[67,3] ty #[.slice (some ⟨b,0,none⟩) i c, .int .i64 ((n:Int)+1 - (i:Int))]).run Tryz.prog w=
   .ok (.slice (some ⟨w.heap.size,0,none⟩) (n+1) (grownCap w (n+1) c 3)) (w.drew.alloc (.cells ((cs.take i).toArray++Builtin.zeroCells (Value.int .i64 0).cells (n+1 - i)++Builtin.zeroCells (Value.int .i64 0).cells (grownCap w (n+1) c 3 - (n+1))) 3)):=fun ty=>by
  have h:=Lib.run_append_grow_zeros w 67 3 ty 3 i0 _ .i64 .i64 Tryz.underlying67 Tryz.underlying3 hi0 hz0 (some ⟨b,0,none⟩) i c (cs.take i) hold (n+1 - i) (by omega) (by omega) (by omega) (by omega) (by rw[hzb];omega) (by rw[hzb,hik];exact growslice_fits hroom hbig)
  rw[hik] at h
  rw[hkk]
  exact h
 obtain⟨G,hG⟩: ∃G,G=grownCap w (n+1) c 3:=⟨_,rfl⟩
 obtain⟨ROW,hROW⟩: ∃ROW:Array Value,ROW=(cs.take i).toArray++Builtin.zeroCells (Value.int .i64 0).cells (n+1 - i)++Builtin.zeroCells (Value.int .i64 0).cells (G - (n+1)):=⟨_,rfl⟩
 rw[←hG] at hrz ⊢
 rw[←hROW] at hrz ⊢
 have hRl:n+1≤ROW.size:=by
  rw[hROW]
  simp[Builtin.zeroCells,Value.cells]
  omega
 obtain⟨W1,hW1⟩: ∃W1,W1=w.drew.alloc (.cells ROW 3):=⟨_,rfl⟩
 rw[←hW1] at hrz
 have hN: ∀j,j<n+1→(W1.cell? ⟨w.heap.size,j,none⟩).isSome=true:=fun j hj=>by
  rw[hW1,World.cell?_alloc_at (w:=w.drew) ROW _ w.heap.size j rfl,Array.getElem?_eq_getElem (by omega)];rfl
 have hNf: ∀j,W1.frozen? ⟨w.heap.size,j,none⟩=false:=fun j=>by rw[hW1];exact World.frozen?_alloc_at (w:=w.drew) ROW _ w.heap.size j rfl
 have hOb: ∀j v,w.cell? ⟨b,j,none⟩=some v→W1.cell? ⟨b,j,none⟩=some v:=fun j v h=>by rw[hW1,World.cell?_alloc_past (w:=w.drew) _ b j hbw];exact h
 have hOv: ∀j v,w.cell? ⟨vb,j,none⟩=some v→W1.cell? ⟨vb,j,none⟩=some v:=fun j v h=>by rw[hW1,World.cell?_alloc_past (w:=w.drew) _ vb j hvw];exact h
 have hcpA: ∀(W:World),(∀x,W.cell? x=W1.cell? x)→(∀x,W.frozen? x=W1.frozen? x)→ ∀ty dc,(Builtin.copy_ #[67,67] ty #[.slice (some ⟨w.heap.size,i,none⟩) (n+1 - i) dc, .slice (some ⟨vb,0,none⟩) 1 1]).run Tryz.prog W= .ok (goInt [x].length) (W.setCells w.heap.size i [x]):=fun W hWc hWf ty dc=>
  run_copy_cells W _ _ ty 3 w.heap.size i (n+1 - i) dc ⟨vb,0,none⟩ 1 1 [x] Tryz.underlying67 hsz (by simp only[List.length_singleton,Nat.min_def];split<;>omega)
   (fun j v hj=>by
    rw[Addr.add_lit,hWc]
    rcases j with _|j
    ·simp at hj;subst hj;exact hOv _ _ hvs
    ·simp at hj)
   (fun j hj=>by rw[hWc];simp at hj;exact hN _ (by omega)) (fun j hj=>by rw[hWf];exact hNf _) (fun v hv=>by simp at hv;subst hv;exact h1v)
 have hGn:n+1≤G:=by rw[hG];exact grownCap_ge w _ _ _
 have hG63:G≤9223372036854775807:=by
  have:=grownCap_le_maxLen w (n+1) c 3 (by unfold maxLen;omega)
  rw[←hG] at this
  unfold maxLen at this
  omega
 have hGi: ¬(G=i):=by omega
 have hGim: ¬(G=i+1):=by omega
 have hci: ¬(c=i):=by omega
 have hbN:b≠w.heap.size:=by omega
 have hdl:(cs.drop i).length=n - i:=by rw[List.length_drop,hcl]
 have hcpB: ∀(W:World),(∀y,W.cell? y=(W1.setCells w.heap.size i [x]).cell? y)→(∀y,W.frozen? y=(W1.setCells w.heap.size i [x]).frozen? y)→ ∀ty dc sc,(Builtin.copy_ #[67,67] ty #[.slice (some ⟨w.heap.size,i+1,none⟩) (n+1 - (i+1)) dc, .slice (some ⟨b,i,none⟩) (n - i) sc]).run Tryz.prog W= .ok (goInt (cs.drop i).length) (W.setCells w.heap.size (i+1) (cs.drop i)):=fun W hWc hWf ty dc sc=>
  run_copy_cells W _ _ ty 3 w.heap.size (i+1) (n+1 - (i+1)) dc ⟨b,i,none⟩ (n - i) sc (cs.drop i) Tryz.underlying67 hsz (by rw[hdl];simp only[Nat.min_def];split<;>omega)
   (fun j v hj=>by
    rw[Addr.add_lit,hWc,World.cell?_setCells_out _ _ _ _ _ (fun h _=>absurd h hbN)]
    exact hOb _ v (hcs (i+j) v (by rwa [List.getElem?_drop] at hj)))
   (fun j hj=>by rw[hWc];exact World.isSome_setCells _ _ _ _ _ (hN _ (by omega)))
   (fun j hj=>by rw[hWf,World.frozen?_setCells];exact hNf _) (fun v hv=>h1c v (List.mem_of_mem_drop hv))
 subst hW1
 have hE1: ∀y,((w.alloc (.cells ROW 3)).drew).cell? y=(w.drew.alloc (.cells ROW 3)).cell? y:=fun y=>rfl
 have hE2: ∀y,((w.alloc (.cells ROW 3)).drew).frozen? y=(w.drew.alloc (.cells ROW 3)).frozen? y:=fun y=>rfl
 have hF1: ∀y,(((w.alloc (.cells ROW 3)).drew.setCells w.heap.size i [x]).drew).cell? y=((w.drew.alloc (.cells ROW 3)).setCells w.heap.size i [x]).cell? y:=fun y=>rfl
 have hF2: ∀y,(((w.alloc (.cells ROW 3)).drew.setCells w.heap.size i [x]).drew).frozen? y=((w.drew.alloc (.cells ROW 3)).setCells w.heap.size i [x]).frozen? y:=fun y=>rfl
 have hw1:IntKind.i64.wrap ((i:Int)+1)=(i:Int)+1:=by rw[IntKind.wrap_i64];omega
 have hb1:(0:Int)≤(i:Int)+1:=by omega
 have hin:i≤n:=by omega
 have htn:((i:Int)+1).toNat=i+1:=by omega
 have hb3:(i:Int)≤(n:Int):=by omega
 clear hkk hik hold hROW hG hRl
 go_enter Tryz.func130,Tryz.ntmps130
 go_wp2_with (first
  |(at_builtin;refine Lib.wpList_append_run _ rfl _ _ _ _ rfl _ _ rfl rfl _ _ (hrz _) ?_)
  |(at_builtin;refine wpList_copy_at _ rfl _ _ 67 67 rfl _ _ rfl rfl (hcpA _ hE1 hE2 _ _) ?_)
  |(at_builtin;refine wpList_copy_at _ rfl _ _ 67 67 rfl _ _ rfl rfl (hcpB _ (fun _=>rfl) (fun _=>rfl) _ _ _) ?_))
 go_region_law_o (refine step_copy_at rfl _ _ 67 67 rfl (.slice (some ⟨w.heap.size,i+1,none⟩) (n+1 - (i+1)) (G - (i+1))) (.slice (some ⟨b,i,none⟩) (n - i) (c - i)) (by simp[Act.eval,Act.put]) (by simp[Act.eval,Act.put]) (hcpB _ hF1 hF2 3 (G - (i+1)) (c - i)) ?_)
 go_wp2
 go_ret
 exact⟨rfl,rfl⟩
set_option maxHeartbeats 1000000 in
set_option maxRecDepth 100000 in
theorem insI_any {w:World} {B:Nat} {v:Value} {l:List Int} {i vb:Nat} {x:Int} (h:w.ownsRow B 3 1 v l.length (l.map (Value.int .i64))) (hB:B≤w.heap.size) (hi:i≤l.length) (hn:l.length≤1000000)
  {tA:TypeId} (hx:w.heap[vb]? =some (.cells #[.int .i64 x] tA (0,0))) (hne:v.ownBlock≠some vb):
  Calls Tryz.prog 130 #[v, .int .i64 i, .slice (some ⟨vb,0,none⟩) 1 1] w fun e w'=> ∃v',e= .returned v'∧w'.ownsRow B 3 1 v' (l.length+1) ((l.insertIdx i x).map (Value.int .i64))∧Touch (blkOf v) w w'∧ ∀g∈blkOf v',g∈blkOf v∨w.heap.size≤g:=by
 have hbo:=blkOf_own h
 have hcx:w.cell? ⟨vb,0,none⟩=some (.int .i64 x):=by rw[Lib.cell_of_heap hx];rfl
 have hvw:=cell_lt hcx
 have h1m: ∀u∈l.map (Value.int .i64),u.oneCell'=true:=fun u hu=>by
  obtain⟨y, -,rfl⟩:=List.mem_map.1 hu
  rfl
 by_cases hin:i=l.length
 ·subst hin
  obtain⟨i0,hi0,hz0,hz1,hz2⟩:=info_parts Tryz.infoI
  have hid:(l.insertIdx l.length x).map (Value.int .i64)=l.map (Value.int .i64)++[.int .i64 x]:=by
   have:l.insertIdx l.length x=l++[x]:=by
    have:=insertIdx_app (A:=l) (B:=[]) (x:=x) rfl
    rwa [List.append_nil] at this
   rw[this];simp
  have hcap:l.length+1≤maxLen:=by unfold maxLen;omega
  have hnews: ∀(j:Nat) (u:Value),[Value.int .i64 x][j]? =some u→w.cell? ((⟨vb,0,none⟩:Addr).add j)=some u:=fun j u hj=>by
   rcases j with _|j
   ·simp at hj;subst hj;exact hcx
   ·simp at hj
  rw[hid]
  obtain⟨a,c,hv⟩: ∃a c,v= .slice a l.length c:=by
   rcases ownsRow_forms h with ⟨rfl,e⟩|⟨g,c,rfl⟩
   ·exact⟨_,_,by rw[e]⟩
   ·exact⟨_,_,rfl⟩
  have H:=Lib.hid h
  have HB:=Lib.hid hbo
  clear h hbo
  subst hv
  go_enter Tryz.func130,Tryz.ntmps130
  go_wp2_with (at_builtin;refine wpList_append_near _ rfl _ _ 67 rfl B 3 i0 (.int .i64 0) 1 8 Tryz.underlying67 hi0 hz0 hz1 hz2 rfl (by decide) _ l.length (l.map (Value.int .i64)) rfl H.out ⟨vb,0,none⟩ 1 1 [.int .i64 x] rfl (by decide) rfl hnews (by intro u hu;simp at hu;subst hu;rfl) hcap (by omega) hB ?_;intro g cap w5 hown hgr hat)
  all_goals (
   go_ret
   refine⟨_,rfl,hown, ?_,fun g' hg'=> ?_⟩
   ·have t:=Touch.of_grown hgr
    rcases a with _|a
    ·exact t
    ·exact t
   ·simp[blkOf] at hg'
    subst hg'
    rcases a with _|a
    ·exact hat.imp (fun h=>by cases h) id
    ·exact hat.imp (fun h=>by simp[blkOf];injection h with h;exact h.symm) id)
 ·have hlt:i<l.length:=by omega
  obtain⟨g,c,rfl⟩:=ownsRow_form h (by omega)
  obtain⟨hgB,hnc,hcm,hl',f,hf,hfx⟩:=ownsRow_rowIs h
  have hgw:=World.rowIs.lt hf
  have hcell: ∀j v,(l.map (Value.int .i64))[j]? =some v→w.cell? ⟨g,j,none⟩=some v:=fun j v hj=>by
   have hj':=(List.getElem?_eq_some_iff.1 hj).1
   rw[List.length_map] at hj'
   rw[World.rowIs.cell hf (by omega), ←hfx j hj']
   exact hj
  have hne':vb≠g:=fun e=>hne (by rw[e];rfl)
  by_cases hroom:l.length+1≤c
  ·refine(insI_shift g l.length c i vb (l.map (Value.int .i64)) (.int .i64 x) w hlt hroom (by unfold maxLen at hcm;omega) hne' (List.length_map _) hcell (fun j hj=>by rw[World.rowIs.cell hf (by omega)];rfl) (fun j hj=>World.rowIs.frozen hf j) hcx h1m rfl tA 3 1 c (by simp[World.shape?,hx]) (rowIs_shape hf) (by omega) (by simp[World.frozen?,hx]) (by simp[World.frozen?,hx])).mono ?_
   rintro e w' ⟨rfl,rfl⟩
   refine⟨_,rfl, ?_, ?_,fun g' hg'=> .inl hg'⟩
   ·refine ownsRow_of_rowIs (rowIs_setCells _ _ _ _ (rowIs_setCells _ _ _ _ (rowIs_drew hf))) hgB hroom hcm (by rw[List.length_map,List.length_insertIdx_of_le_length (by omega)]) (fun j hj=> ?_)
    rw[List.getElem?_map,insertIdx_at (by omega) (by omega)]
    have hd: ∀k,k<l.length→(l.map (Value.int .i64))[k]? =some (.int .i64 (l.getD k 0)):=fun k hk=>by rw[List.getElem?_map,getElem?_getD hk];rfl
    by_cases h1:j<i
    ·rw[if_pos h1,if_neg (by simp;omega),if_neg (by simp;omega), ←hfx j (by omega),hd j (by omega)];rfl
    ·rw[if_neg h1]
     by_cases h2:j=i
     ·subst h2
      rw[if_pos rfl,if_pos (by simp)]
      simp
     ·rw[if_neg h2,if_neg (by simp;omega),if_pos (by simp;omega),List.getElem?_drop,show i+(j - (i+1))=j - 1 by omega,hd (j - 1) (by omega)]
      rfl
   ·have t1:=(setCells_touch g ((l.map (Value.int .i64)).drop i) (i+1) w.drew)
    have t2:=setCells_touch g [Value.int .i64 x] i (w.drew.setCells g (i+1) ((l.map (Value.int .i64)).drop i))
    exact((Touch.refl [g] w).drew.trans t1 (fun b hb=> .inl hb)).trans t2 (fun b hb=> .inl hb)
  ·refine(insI_grow g l.length c i vb (l.map (Value.int .i64)) (.int .i64 x) w hlt hnc (by omega) (by omega) (List.length_map _) hcell hcx h1m rfl).mono ?_
   rintro e w' ⟨rfl,rfl⟩
   have hG1:=grownCap_ge w (l.length+1) c 3
   have hG2:=grownCap_le_maxLen w (l.length+1) c 3 (by unfold maxLen;omega)
   generalize grownCap w (l.length+1) c 3=G at hG1 hG2
   refine⟨_,rfl, ?_, ?_,fun g' hg'=> .inr (by simp[blkOf] at hg';omega)⟩
   ·have hrow: ∃f0:Nat→Value,(w.alloc (.cells (((l.map (Value.int .i64)).take i).toArray++Builtin.zeroCells (Value.int .i64 0).cells (l.length+1 - i)++Builtin.zeroCells (Value.int .i64 0).cells (G - (l.length+1))) 3)).rowIs w.heap.size 3 G f0∧ ∀j,j<i→(l.map (Value.int .i64))[j]? =some (f0 j):=by
     refine⟨fun j=>(((l.map (Value.int .i64)).take i).toArray++Builtin.zeroCells (Value.int .i64 0).cells (l.length+1 - i)++Builtin.zeroCells (Value.int .i64 0).cells (G - (l.length+1))).getD j (.int .i64 0),⟨_,heap_alloc_new w _, ?_,fun j hj=> ?_⟩,fun j hj=> ?_⟩
     ·simp[Builtin.zeroCells,Value.cells];omega
     ·show _=some (Array.getD _ _ _)
      rw[Array.getD_eq_getD_getElem?]
      rw[Array.getElem?_eq_getElem (by simp[Builtin.zeroCells,Value.cells];omega)]
      rfl
     ·show _=some (Array.getD _ _ _)
      rw[Array.getD_eq_getD_getElem?,Array.append_assoc,Array.getElem?_append_left (by simp;omega)]
      rw[List.getElem?_toArray,List.getElem?_take_of_lt hj,List.getElem?_eq_getElem (by rw[List.length_map];omega)]
      rfl
    obtain⟨f0,hf0,hx0⟩:=hrow
    refine ownsRow_of_rowIs (rowIs_setCells _ _ _ _ (rowIs_drew (rowIs_setCells _ _ _ _ (rowIs_drew hf0)))) hB hG1 hG2 (by rw[List.length_map,List.length_insertIdx_of_le_length (by omega)]) (fun j hj=> ?_)
    rw[List.getElem?_map,insertIdx_at (by omega) (by omega)]
    have hd: ∀k,k<l.length→(l.map (Value.int .i64))[k]? =some (.int .i64 (l.getD k 0)):=fun k hk=>by rw[List.getElem?_map,getElem?_getD hk];rfl
    by_cases h1:j<i
    ·rw[if_pos h1,if_neg (by simp;omega),if_neg (by simp;omega), ←hx0 j h1,hd j (by omega)];rfl
    ·rw[if_neg h1]
     by_cases h2:j=i
     ·subst h2
      rw[if_pos rfl,if_neg (by rintro ⟨h, -⟩;omega),if_pos (by simp)]
      simp
     ·rw[if_neg h2,if_pos (by simp;omega),List.getElem?_drop,show i+(j - (i+1))=j - 1 by omega,hd (j - 1) (by omega)]
      rfl
   ·have t1:=((Touch.refl (blkOf (.slice (some ⟨g,0,none⟩) l.length c)) w).alloc (.cells (((l.map (Value.int .i64)).take i).toArray++Builtin.zeroCells (Value.int .i64 0).cells (l.length+1 - i)++Builtin.zeroCells (Value.int .i64 0).cells (G - (l.length+1))) 3)).drew
    have t2:=t1.trans (setCells_touch w.heap.size [Value.int .i64 x] i _) (fun b hb=> .inr (by simp at hb;omega))
    exact t2.drew.trans (setCells_touch w.heap.size ((l.map (Value.int .i64)).drop i) (i+1) _) (fun b hb=> .inr (by simp at hb;omega))
end Go.Proofs.YtjgkegkinnlcoaaGreatDoor
namespace Go.Proofs.YtjgkegkinnlcoaaGreatDoor
open Go.RowKit
theorem posL_of {l:List Int} {x:Int} {i:Nat} (hi:i≤l.length) (h1: ∀k,k<i→l.getD k 0<x) (h2: ∀k,i≤k→k<l.length→x≤l.getD k 0):posL l x=i:=by
 unfold posL
 rw[←List.take_append_drop i l,List.filter_append,List.length_append]
 have e1:(l.take i).filter (fun k=>decide (k<x))=l.take i:=filter_all (fun a ha=>by
  obtain⟨k,hk,rfl⟩:=List.mem_iff_getElem.1 ha
  rw[List.length_take] at hk
  have:=h1 k (by omega)
  rw[List.getD_eq_getElem?_getD,List.getElem?_eq_getElem (by omega)] at this
  simpa using this)
 have e2:(l.drop i).filter (fun k=>decide (k<x))=[]:=filter_no (fun a ha=>by
  obtain⟨k,hk,rfl⟩:=List.mem_iff_getElem.1 ha
  rw[List.length_drop] at hk
  have:=h2 (i+k) (by omega) (by omega)
  rw[List.getD_eq_getElem?_getD,List.getElem?_eq_getElem (by omega)] at this
  simpa using this)
 rw[e1,e2,List.length_take]
 simp
 omega
theorem hasL_of {l:List Int} {x:Int} {i:Nat} (hs:l.Pairwise (· < ·)) (hi:i≤l.length) (h1: ∀k,k<i→l.getD k 0<x) (h2: ∀k,i≤k→k<l.length→x≤l.getD k 0):hasL l x=decide (i<l.length∧l.getD i 0=x):=by
 unfold hasL
 rw[Bool.eq_iff_iff,decide_eq_true_iff,List.contains_iff_mem]
 constructor
 ·intro hm
  obtain⟨k,hk,e⟩:=List.mem_iff_getElem.1 hm
  have ek:l.getD k 0=x:=by rw[List.getD_eq_getElem?_getD,List.getElem?_eq_getElem hk];exact e
  have hik:i≤k:=by
   by_cases h:k<i
   ·have:=h1 k h;omega
   ·omega
  have hil:i<l.length:=by omega
  refine⟨hil, ?_⟩
  by_cases hne:i=k
  ·rw[hne];exact ek
  ·have h3:=h2 i (by omega) hil
   have h4:l[i]<l[k]:=List.pairwise_iff_getElem.1 hs i k hil hk (by omega)
   rw[List.getD_eq_getElem?_getD,List.getElem?_eq_getElem hil] at h3
   simp at h3
   omega
 ·rintro ⟨h,e⟩
  rw[List.getD_eq_getElem?_getD,List.getElem?_eq_getElem h] at e
  exact List.mem_iff_getElem.2 ⟨i,h,e⟩
theorem ris_getD {l:List Int} (hs:l.Pairwise (· < ·)) {i j:Nat} (h:i<j) (hj:j<l.length):l.getD i 0<l.getD j 0:=by
 have:=List.pairwise_iff_getElem.1 hs i j (by omega) hj h
 rw[List.getD_eq_getElem?_getD,List.getElem?_eq_getElem (by omega),List.getD_eq_getElem?_getD,List.getElem?_eq_getElem hj]
 exact this
theorem risL_at {l:List Int}: ∀ {i:Nat},(∀k,0<k→k<i→l.getD (k - 1) 0<l.getD k 0)→l.length≤i→risL l=true:=fun {i} h hl=>by
 rw[risL_iff,List.pairwise_iff_getElem]
 have key: ∀(d a:Nat),a+d+1<l.length→l.getD a 0<l.getD (a+d+1) 0:=by
  intro d
  induction d with
  |zero=>intro a ha;have:=h (a+1) (by omega) (by omega);simpa using this
  |succ d ih=>
   intro a ha
   have h1:=ih a (by omega)
   have h2:=h (a+d+2) (by omega) (by omega)
   rw[show a+d+2 - 1=a+d+1 by omega] at h2
   rw[show a+(d+1)+1=a+d+2 by omega]
   omega
 intro a b ha hb hab
 have:=key (b - a - 1) a (by omega)
 rw[show a+(b - a - 1)+1=b by omega,List.getD_eq_getElem?_getD,List.getElem?_eq_getElem ha,List.getD_eq_getElem?_getD,List.getElem?_eq_getElem hb] at this
 exact this
theorem risL_not {l:List Int} {i:Nat} (h0:0<i) (h1:i<l.length) (h:l.getD i 0≤l.getD (i - 1) 0):risL l=false:=by
 rw[Bool.eq_false_iff]
 intro hr
 have:=ris_getD (risL_iff.1 hr) (i:=i - 1) (j:=i) (by omega) h1
 omega
end Go.Proofs.YtjgkegkinnlcoaaGreatDoor
namespace Go.Proofs.YtjgkegkinnlcoaaGreatDoor
open Go.RowKit Go.Maps Go.Joins
set_option maxHeartbeats 1000000 in
theorem isNaN_u (x:Int) (w:World):Calls Tryz.prog 138 #[.int .u64 x] w fun e w'=>e= .returned (.bool false)∧w'=w:=by
 go_enter Tryz.func138,Tryz.ntmps138
 go_wp2
 go_ret
 exact⟨by simp,rfl⟩
set_option maxHeartbeats 1000000 in
theorem isNaN_c (x:Int) (w:World):Calls Tryz.prog 191 #[.int .u64 x] w fun e w'=>e= .returned (.bool false)∧w'=w:=by
 go_enter Tryz.func191,Tryz.ntmps191
 go_wp2
 go_ret
 exact⟨by simp,rfl⟩
set_option maxHeartbeats 1000000 in
theorem less_u (x y:Int) (w:World):Calls Tryz.prog 137 #[.int .u64 x, .int .u64 y] w fun e w'=>e= .returned (.bool (decide (x<y)))∧w'=w:=by
 go_enter Tryz.func137,Tryz.ntmps137
 go_wp2_with (go_at_call 191;refine(isNaN_c _ _).mono ?_;rintro e w' ⟨rfl,rfl⟩)
 go_ret
 exact⟨rfl,rfl⟩
structure BsLoop (w wr:World) (l:List Int) (x:Int) (v7 v8:Value):Prop where
 ex: ∃a b:Nat,v7= .int .i64 a∧v8= .int .i64 b∧a≤b∧b≤l.length∧(∀k,k<a→l.getD k 0<x)∧(∀k,b≤k→k<l.length→x≤l.getD k 0)∧Drawn w wr
set_option maxRecDepth 100000 in
set_option maxHeartbeats 2000000 in
theorem bsearch_any {w:World} {v:Value} {l:List Int} (x:Int) (h:IsI w .u64 v l) (hs:l.Pairwise (· < ·)) (hn:l.length≤1000000):
  Calls Tryz.prog 60 #[v, .int .u64 x] w fun e w'=>e= .returned (.tuple #[.int .i64 (posL l x), .bool (hasL l x)])∧Drawn w w':=by
 obtain⟨a0,c0,rfl⟩:=h.form
 have HI:=Lib.hid h
 have HS:=Lib.hid hs
 clear h hs
 go_enter Tryz.func60,Tryz.ntmps60
 go_wp2_with fail
 go_loopw [7,8,9] (fun v7 v8 _ wr=>BsLoop w wr l x v7 v8) (fun v7 v8 _ _=>(intOf v8).toNat - (intOf v7).toNat)
 case atStart=>exact⟨⟨0,l.length,rfl,rfl,Nat.zero_le _,Nat.le_refl _,fun k hk=>absurd hk (Nat.not_lt_zero _),fun k h1 h2=>absurd h2 (by omega),Drawn.refl _⟩⟩
 case round=>
  obtain⟨⟨i,j,rfl,rfl,hij,hjl,hlo,hhi,hdr⟩⟩:=hrel
  have HLO:=Lib.hid hlo
  have HHI:=Lib.hid hhi
  have HDR:=Lib.hid hdr
  clear hlo hhi hdr
  have q0:IntKind.u64.wrap ((i:Int)+(j:Int))=((i+j:Nat):Int):=by rw[IntWalk.u64_in _ (by omega)];omega
  by_cases hlt:i<j
  ·obtain⟨m,hm⟩: ∃m:Nat,m=(i+j) / 2:=⟨_,rfl⟩
   have hm1:i≤m∧m<j:=by omega
   obtain⟨g,o,c,hv,hc1,hc2,hg,hcells⟩:=HI.out.at_ (by omega)
   cases hv
   obtain⟨q,hq⟩:=HDR.out
   have hcm:wr.cell? ⟨g,o+(i+j) / 2,none⟩=some (.int .u64 (l.getD m 0)):=by rw[hq, ←hm];exact hcells m (by omega)
   obtain⟨X,hX⟩: ∃X,X=l.getD m 0:=⟨_,rfl⟩
   rw[←hX] at hcm
   have HX:=Lib.hid hX
   have HM:=Lib.hid hm
   have HQ:=Lib.hid hq
   clear hX hcells hq
   have q5:((i+j:Nat):Int) / 2=(m:Int):=by have:=HM.out;omega
   have q6:IntKind.i64.wrap (m:Int)=(m:Int):=IntWalk.i64_in _ (by omega)
   have q7:IntKind.u64.wrap (m:Int)=(m:Int):=IntWalk.u64_in _ (by omega)
   have q8:((i:Int)+(j:Int)).fdiv (2 ^ min (Int.toNat 1) IntKind.u64.bits)=(m:Int):=by
    rw[show(2:Int) ^ min (Int.toNat 1) IntKind.u64.bits=2 from rfl,Int.fdiv_eq_ediv_of_nonneg _ (by omega)]
    have:=HM.out;omega
   by_cases hX:X<x
   ·have e1:decide (X<x)=true:=by simpa using hX
    go_wp2_with (go_at_call 137;refine(less_u _ _ _).mono ?_;rintro e w' ⟨rfl,rfl⟩)
    go_roundw
    case rel=>exact⟨⟨m+1,j,(by have:=HM.out;congr 1;omega),rfl,by omega,hjl,fun k hk=>by
     by_cases hk2:k=m
     ·subst hk2;rw[←HX.out];exact hX
     ·have:=ris_getD HS.out (i:=k) (j:=m) (by omega) (by omega)
      rw[←HX.out] at this
      omega,HHI.out,HDR.out⟩⟩
    case measure=>simp[intOf];omega
   ·have e1:decide (X<x)=false:=by simpa using hX
    go_wp2_with (go_at_call 137;refine(less_u _ _ _).mono ?_;rintro e w' ⟨rfl,rfl⟩)
    go_roundw
    case rel=>exact⟨⟨i,m,rfl,(by first|rfl|(have:=HM.out;congr 1;omega)|(rw[HM.out];rfl)),by omega,by omega,HLO.out,fun k h1 h2=>by
     by_cases hk2:k=m
     ·subst hk2;rw[←HX.out];omega
     ·have:=ris_getD HS.out (i:=m) (j:=k) (by omega) h2
      rw[←HX.out] at this
      omega,HDR.out⟩⟩
    case measure=>simp[intOf];omega
  ·obtain rfl:i=j:=by omega
   have hp:=posL_of hjl HLO.out HHI.out
   have hh:=hasL_of HS.out hjl HLO.out HHI.out
   have HP:=Lib.hid hp
   have HH:=Lib.hid hh
   clear hp hh
   by_cases hil:i<l.length
   ·obtain⟨g,o,c,hv,hc1,hc2,hg,hcells⟩:=HI.out.at_ (by omega)
    cases hv
    obtain⟨q,hq⟩:=HDR.out
    have hci:wr.cell? ⟨g,o+i,none⟩=some (.int .u64 (l.getD i 0)):=by rw[hq];exact hcells i hil
    obtain⟨X,hX⟩: ∃X,X=l.getD i 0:=⟨_,rfl⟩
    rw[←hX] at hci
    have HQ:=Lib.hid hq
    have HX:=Lib.hid hX
    clear hcells hX hq
    by_cases hx:X=x
    ·subst hx
     go_wp2_with fail
     go_ret2
     exact⟨by rw[HP.out,HH.out, ←HX.out,show decide (i<l.length∧X=X)=true by simp[hil]];rfl,HDR.out⟩
    ·have e1:(X==x)=false:=by simpa using hx
     go_wp2_with (go_at_call 138;refine(isNaN_u _ _).mono ?_;rintro e w' ⟨rfl,rfl⟩)
     go_ret2
     exact⟨by rw[HP.out,HH.out, ←HX.out,show decide (i<l.length∧X=x)=false by simp[hx]];rfl,HDR.out⟩
   ·go_wp2_with fail
    go_ret2
    exact⟨by rw[HP.out,HH.out,show decide (i<l.length∧l.getD i 0=x)=false by simp[hil]];rfl,HDR.out⟩
end Go.Proofs.YtjgkegkinnlcoaaGreatDoor
namespace Go.Proofs.YtjgkegkinnlcoaaGreatDoor
open Go.RowKit Go.Maps Go.Joins
set_option maxRecDepth 100000 in
set_option maxHeartbeats 1000000 in
theorem getC_any {w:World} {rb:Nat} {r:ByteArray} (hc:w.cell? ⟨rb,0,none⟩=some (.string r)) (hr:r.size=496) (a k:Nat) (hk:k≤8) (ha:a+k≤496):
  Calls Tryz.prog 134 #[.int .i64 a, .int .i64 k, .pointer (some ⟨rb,0,none⟩)] w fun e w'=>e= .returned (.int .u64 (leN (cut r a k)))∧w=w':=by
 go_enter Tryz.func134,Tryz.ntmps134
 go_wp2_with fail
 refine(get_any r a k w hk (by omega) (by omega)).mono ?_
 rintro e w1 ⟨rfl,rfl⟩
 go_wp2_with fail
 go_ret
 exact⟨rfl,rfl⟩
structure RiLoop (w wr:World) (l:List Int) (v:Value):Prop where
 ex: ∃i:Nat,v= .int .i64 i∧1≤i∧(i≤l.length∨i=1)∧(∀k,0<k→k<i→l.getD (k - 1) 0<l.getD k 0)∧Drawn w wr
set_option maxRecDepth 100000 in
set_option maxHeartbeats 1000000 in
theorem rising_any {w:World} {v:Value} {l:List Int} (h:IsI w .u64 v l) (hn:l.length≤1000000):
  Calls Tryz.prog 136 #[v] w fun e w'=>e= .returned (.bool (risL l))∧Drawn w w':=by
 obtain⟨a0,c0,rfl⟩:=h.form
 have HI:=Lib.hid h
 clear h
 go_enter Tryz.func136,Tryz.ntmps136
 go_wp2_with fail
 go_loopw [3] (fun v wr=>RiLoop w wr l v) (fun v _=>l.length+1 - (intOf v).toNat)
 case atStart=>exact⟨⟨1,rfl,Nat.le_refl _, .inr rfl,fun k h1 h2=>by omega,Drawn.refl _⟩⟩
 case round=>
  obtain⟨⟨i,rfl,hi1,hil,hup,hdr⟩⟩:=hrel
  have HUP:=Lib.hid hup
  have HDR:=Lib.hid hdr
  clear hup hdr
  by_cases hlt:i<l.length
  ·obtain⟨g,o,c,hv,hc1,hc2,hg,hcells⟩:=HI.out.at_ (by omega)
   cases hv
   obtain⟨q,hq⟩:=HDR.out
   subst hq
   obtain⟨j,rfl⟩: ∃j,i=j+1:=⟨i - 1,by omega⟩
   have x0: ∀q',(w.drewN q').cell? ⟨g,o+j,none⟩=some (.int .u64 (l.getD j 0)):=fun q'=>hcells j (by omega)
   have x1: ∀q',(w.drewN q').cell? ⟨g,o+(j+1),none⟩=some (.int .u64 (l.getD (j+1) 0)):=fun q'=>hcells (j+1) (by omega)
   obtain⟨X,hX⟩: ∃X,X=l.getD j 0:=⟨_,rfl⟩
   obtain⟨Y,hY⟩: ∃Y,Y=l.getD (j+1) 0:=⟨_,rfl⟩
   rw[←hX] at x0
   rw[←hY] at x1
   have HX:=Lib.hid (And.intro hX hY)
   have q1:IntKind.i64.wrap (((j+1:Nat):Int) - 1)=(j:Int):=by rw[IntWalk.i64_in _ (by omega)];omega
   have q2:IntKind.i64.wrap ((j:Int)+1 - 1)=(j:Int):=by rw[IntWalk.i64_in _ (by omega)];omega
   have q3:((j:Int)+1).toNat=j+1:=by omega
   have q4:(j:Int)<(l.length:Int):=by omega
   have q5:(j:Int)+1<(l.length:Int):=by omega
   have q6:(0:Int)≤(j:Int)+1:=by omega
   clear hcells hX hY
   by_cases hge:Y≤X
   ·have hrf:risL l=false:=risL_not (i:=j+1) (by omega) hlt (by rw[Nat.add_sub_cancel, ←HX.out.2, ←HX.out.1];exact hge)
    have HR:=Lib.hid hrf
    clear hrf
    go_wp2_with fail
    go_quiet (fail)
    go_wp2_with fail
    go_ret
    exact⟨(by rw[HR.out];rfl),Drawn.twice _ _ _⟩
   ·have hlt2:X<Y:=by omega
    go_wp2_with fail
    go_quiet (fail)
    go_wp2_with fail
    go_roundw
    case rel=>exact⟨⟨j+1+1,by go_num,by omega,by omega,fun k h1 h2=>by
     by_cases e:k=j+1
     ·subst e;rw[Nat.add_sub_cancel, ←HX.out.1, ←HX.out.2];exact hlt2
     ·exact HUP.out k h1 (by omega),⟨_,rfl⟩⟩⟩
    case measure=>simp[intOf];omega
  ·have hrt:risL l=true:=risL_at HUP.out (by omega)
   have HR:=Lib.hid hrt
   clear hrt
   go_wp2_with fail
   go_ret
   exact⟨(by rw[HR.out];rfl),HDR.out⟩
theorem containsZ {w:World} {v:Value} {l:List Int} (h:IsI w .i64 v l) (hn:l.length≤1000000):
  Calls Tryz.prog 135 #[v, .int .i64 0] w fun e w'=>e= .returned (.bool (l.contains 0))∧w'=w:=by
 rcases h with ⟨rfl,a,c,rfl⟩|⟨g,o,c,rfl, -, -, -,hc⟩
 ·exact(Tryz.slices_Contains_empty (α:=Int) a c (.int .i64 0) w).mono fun e w' ⟨h1,h2⟩=>⟨h1,h2⟩
 ·refine(Tryz.slices_Contains (Value.int .i64) _ (EqlAt.int _ _ _) g o l.length c l 0 w (Nat.le_refl _) (by omega) (fun j hj=>by
   rw[hc j hj,getElem!_pos l j hj,List.getD_eq_getElem?_getD,List.getElem?_eq_getElem hj];rfl)).mono ?_
  rintro e w' ⟨rfl,rfl⟩
  refine⟨?_,rfl⟩
  rw[List.take_length]
  congr 2
  rw[Bool.eq_iff_iff,List.any_eq_true,List.contains_iff_mem]
  constructor
  ·rintro ⟨x,hx,he⟩
   simp at he
   subst he
   exact hx
  ·intro hx
   exact⟨0,hx,by simp⟩
end Go.Proofs.YtjgkegkinnlcoaaGreatDoor
namespace Go.Proofs.YtjgkegkinnlcoaaGreatDoor
open Go.RowKit
section
variable {P:Program} {md:Region.Mode} {ops:Array Oper} {Q:Exit→Act→World→Prop} {S:World→Prop}
def wpAny2 (P:Program) (md:Region.Mode) (ops:Array Oper) (Q:Exit→Act→World→Prop) (S:World→Prop) (m:Nat):Nat→Array Bool→Act→World→Prop
 |0,listed,a,w=>Region.ready md ops listed=[]∧Q .normal a w
 |f+1,listed,a,w=>(Region.ready md ops listed=[]→Q .normal a w)∧
  ∀i∈Region.ready md ops listed,wpOp P ops Q i (fun a' w'=>(i<m→S w')∧wpAny2 P md ops Q S m f (listed.setIfInBounds i true) a' w') a w
theorem wpAny_of_2 {m:Nat}: ∀(f:Nat) (listed:Array Bool) (a:Act) (w:World),wpAny2 P md ops Q S m f listed a w→wpAny P md ops Q f listed a w
 |0,_,_,_,h=>h
 |f+1,_,_,_,h=>⟨h.1,fun i hi=>wpOp_mono (fun a' w' h'=>wpAny_of_2 f _ a' w' h'.2) (h.2 i hi)⟩
theorem wpAny2_first {m i:Nat} {oi:Oper} {v:Value} (T:TailOk md ops m) (hi:ops[i]? =some oi) (him:i<m) (hQ: ∀c a w,Q (.panic c) (a.put oi.dst v) w→Q (.panic c) a w) (f:Nat):
  ∀(listed:Array Bool) (a:Act) (w:World),HeadInv md ops m listed→Apart md ops i oi listed→i∈Region.ready md ops listed→YieldsIf P ops S oi v a→S w→
   wpAny2 P md ops Q S m f (listed.setIfInBounds i true) (a.put oi.dst v) w→wpAny2 P md ops Q S m (f+1) listed a w:=by
 induction f with
 |zero=>
  intro listed a w inv hap hr hy hS H
  refine⟨fun h=>absurd hr (by rw[h];simp),fun j hj=> ?_⟩
  rcases Decidable.em (j=i) with rfl|hne
  ·exact hy.wpOp hi hS ⟨fun _=>hS,H⟩
  ·have:=ready_mono hj hne
   rw[H.1] at this
   cases this
 |succ f ih=>
  intro listed a w inv hap hr hy hS H
  refine⟨fun h=>absurd hr (by rw[h];simp),fun j hj=> ?_⟩
  have hjm:=T.head inv him hr hj
  rcases Decidable.em (j=i) with rfl|hne
  ·exact hy.wpOp hi hS ⟨fun _=>hS,H⟩
  ·have h1:=H.2 j (ready_mono hj hne)
   obtain⟨hjun,oj,hoj,hall⟩:=mem_ready.1 hj
   have hw: ∀e∈oj.after,Region.binds md e=true→e.on≠i:=by
    intro e he hb h
    have:=hall e he hb
    rw[h,getD_both (mem_ready.1 hr).1] at this
    cases this
   have h2:=wpOp_putIf hoj (hap j oj hoj hne hjun hw) (fun cs b=>T.sel i oi cs b hi) (fun cs b=>T.sel j oj cs b hoj) hQ hy h1
   refine wpOp_mono (fun a' w' h3=>⟨h3.2.1,ih _ a' w' (inv.set hj hjm) (hap.set hjun) (ready_mono hr (Ne.symm hne)) h3.1 (h3.2.1 hjm) ?_⟩) h2
   rw[Array.setIfInBounds_comm _ _ hne]
   exact h3.2.2
theorem wpAny2_of_seq {m:Nat}: ∀(l:List Oper) (k:Nat) (listed:Array Bool) (a:Act) (w:World),m≤k→(∀j,l[j]? =ops[k+j]?)→Region.seqB md ops l.length k listed=true→wpList P ops Q l a w→wpAny2 P md ops Q S m l.length listed a w
 | [],_,_,_,_,_,_,hB,h=>⟨by simpa[Region.seqB] using hB,h⟩
 |o::l,k,listed,a,w,hm,hl,hB,h=>by
  have h0:ops[k]? =some o:=by simpa using (hl 0).symm
  simp only[List.length_cons,Region.seqB,Bool.and_eq_true,decide_eq_true_eq] at hB
  refine⟨fun h1=>(by rw[hB.1] at h1;cases h1),fun i hi=> ?_⟩
  rw[hB.1] at hi
  have hik:i=k:=by simpa using hi
  subst hik
  have hw:wpOp P ops Q i (wpList P ops Q l) a w:=by unfold wpOp;simp only[h0];exact h
  exact wpOp_mono (fun a' w' h'=>⟨fun hlt=>absurd hlt (by omega),wpAny2_of_seq l (i+1) _ a' w' (by omega) (fun j=>by have:=hl (j+1);simpa[Nat.add_assoc,Nat.add_comm 1 j] using this) hB.2 h'⟩) hw
def wpYield (P:Program) (ops:Array Oper) (S:World→Prop) (L:Act→Prop):List Oper→Act→Prop
 | [],a=>L a
 |o::l,a=> ∃v,YieldsIf P ops S o v a∧wpYield P ops S L l (a.put o.dst v)
theorem wpYield_cons {L:Act→Prop} {o:Oper} {l:List Oper} {a:Act} {v:Value} (h:YieldsIf P ops S o v a) (k:wpYield P ops S L l (a.put o.dst v)):wpYield P ops S L (o::l) a:=⟨v,h,k⟩
theorem wpYield_nil {L:Act→Prop} {a:Act} (h:L a):wpYield P ops S L [] a:=h
theorem wpAny2_lex {m n g:Nat} {L:Act→Prop} (T:TailOk md ops m) (hnm:n≤m) (hQ: ∀d v c a w,Q (.panic c) (Act.put a d v) w→Q (.panic c) a w)
  {w:World} (hS:S w) (hL: ∀listed a,Region.seqB md ops g n listed=true→L a→wpAny2 P md ops Q S m g listed a w) (l:List Oper):
  ∀(k:Nat) (listed:Array Bool) (a:Act),(∀j,j<l.length→l[j]? =ops[k+j]?)→k+l.length=n→HeadInv md ops m listed→
   Region.lexHead md ops g l.length k listed=true→wpYield P ops S L l a→wpAny2 P md ops Q S m (g+l.length) listed a w:=by
 induction l with
 |nil=>
  intro k listed a _ hk _ hB h
  obtain rfl:k=n:=by simpa using hk
  exact hL listed a (by simpa[Region.lexHead] using hB) h
 |cons o l ih=>
  intro k listed a hl hk inv hB h
  have h0:ops[k]? =some o:=by simpa using (hl 0 (by simp)).symm
  rw[List.length_cons] at hk
  simp only[List.length_cons,Region.lexHead,Bool.and_eq_true] at hB
  have hr:k∈Region.ready md ops listed:=by simpa using hB.1.1
  obtain⟨v,hy,hK⟩:=h
  refine wpAny2_first T h0 (by omega) (fun c a w=>hQ _ _ c a w) (g+l.length) listed a w inv (Region.free_spec h0 hB.1.2) hr hy hS (ih (k+1) _ _ ?_ (by omega) (inv.set hr (by omega)) hB.2 hK)
  intro j hj
  have:=hl (j+1) (by simp;omega)
  rw[List.getElem?_cons_succ] at this
  rw[this];congr 1;omega
end
end Go.Proofs.YtjgkegkinnlcoaaGreatDoor
namespace Go.Proofs.YtjgkegkinnlcoaaGreatDoor
open Go.RowKit
section
variable {P:Program} {md:Region.Mode} {ops:Array Oper} {Q:Exit→Act→World→Prop} {S:World→Prop}
def wpMids (P:Program) (ops:Array Oper) (Q:Exit→Act→World→Prop) (S:World→Prop) (K:Act→World→Prop):List Oper→Act→World→Prop
 | [],a,w=>K a w
 |o::l,a,w=>Region.wanted o (yielded ops a.tmps)=true∧o.wp P a w (fun a' w'=>S w'∧wpMids P ops Q S K l a' w') Q
theorem wpMids_nil {K:Act→World→Prop} {a:Act} {w:World} (h:K a w):wpMids P ops Q S K [] a w:=h
theorem wpMids_val {K:Act→World→Prop} {a:Act} {w w1:World} {o:Oper} {l:List Oper} {v:Value} (h1:Region.wanted o (yielded ops a.tmps)=true) (h2:(execOp a.eval o).run P w= .ok (.value v) w1) (h3:S w1) (h4:wpMids P ops Q S K l (a.put o.dst v) w1):wpMids P ops Q S K (o::l) a w:=by
 refine⟨h1, ?_⟩
 unfold Oper.wp
 simp only[h2,Oper.upon]
 exact⟨h3,h4⟩
theorem wpMids_call {K:Act→World→Prop} {a:Act} {w:World} {o:Oper} {l:List Oper} {f:FuncId} {args:Array Value} {v:Value} (h1:Region.wanted o (yielded ops a.tmps)=true) (h2:(execOp a.eval o).run P w= .ok (.enter f args) w)
  (h3:Calls P f args w fun e w'=>e= .returned v∧S w'∧wpMids P ops Q S K l (a.put o.dst v) w'):wpMids P ops Q S K (o::l) a w:=by
 refine⟨h1, ?_⟩
 unfold Oper.wp
 simp only[h2,Oper.upon]
 exact h3.mono fun e w' ⟨he,h4,h5⟩=>by subst he;exact⟨h4,h5⟩
theorem wpAny2_of_mids {m:Nat} (tl:List Oper) (htl: ∀j,tl[j]? =ops[m+j]?): ∀(l:List Oper) (k:Nat) (listed:Array Bool) (a:Act) (w:World),k+l.length=m→(∀j,j<l.length→l[j]? =ops[k+j]?)→Region.seqB md ops (l.length+tl.length) k listed=true→
  wpMids P ops Q S (fun a' w'=>wpList P ops Q tl a' w') l a w→wpAny2 P md ops Q S m (l.length+tl.length) listed a w
 | [],k,listed,a,w,hk,_,hB,h=>by
  obtain rfl:k=m:=by simpa using hk
  rw[List.length_nil,Nat.zero_add] at hB ⊢
  exact wpAny2_of_seq tl k listed a w (Nat.le_refl _) htl hB h
 |o::l,k,listed,a,w,hk,hl,hB,h=>by
  have h0:ops[k]? =some o:=by simpa using (hl 0 (by simp)).symm
  rw[List.length_cons] at hk
  rw[List.length_cons,Nat.add_right_comm] at hB ⊢
  simp only[Region.seqB,Bool.and_eq_true,decide_eq_true_eq] at hB
  refine⟨fun h1=>(by rw[hB.1] at h1;cases h1),fun i hi=> ?_⟩
  rw[hB.1] at hi
  have hik:i=k:=by simpa using hi
  subst hik
  obtain⟨h1,h2⟩:=h
  have hw:wpOp P ops Q i (fun a' w'=>S w'∧wpMids P ops Q S (fun a' w'=>wpList P ops Q tl a' w') l a' w') a w:=by
   unfold wpOp
   simp only[h0,h1,if_true]
   exact .inl h2
  exact wpOp_mono (fun a' w' h'=>⟨fun _=>h'.1,wpAny2_of_mids tl htl l (i+1) _ a' w' (by omega) (fun j hj=>by
   have:=hl (j+1) (by simp;omega)
   rw[List.getElem?_cons_succ] at this
   rw[this];congr 1;omega) hB.2 h'.2⟩) hw
theorem wp_region_mids {id:Nat} {a:Act} {w:World} {l:List Oper} (n m:Nat) (hm:P.follows .mixedOrders=true) (hsel:Region.noSelect l.toArray=true) (hnm:n≤m) (hn:m<l.length) (hs:Region.sinkB .any l.toArray m=true) (hc:Region.chainB .any l.toArray m=true)
  (hlex:Region.lexHead .any l.toArray (l.length - n) n 0 (Array.replicate l.toArray.size false)=true) (hQ: ∀d v c a w,Q (.panic c) (Act.put a d v) w→Q (.panic c) a w) (S:World→Prop) (hS:S w.drew)
  (h:wpYield P l.toArray S (fun a'=>wpMids P l.toArray Q S (fun a'' w''=>wpList P l.toArray Q (l.drop m) a'' w'') ((l.take m).drop n) a' w.drew) (l.take n) a):(Code.region id l.toArray true).wp P Q a w:=by
 have T:TailOk .any l.toArray m:=⟨Region.noSelect_spec hsel,hs,hc,by simpa using hn⟩
 have htk:(l.take n).length=n:=by simp;omega
 have inv0:HeadInv .any l.toArray m (Array.replicate l.toArray.size false):=
  ⟨by simp,fun j oj _ hj=>(by rw[getD_replicate_false] at hj;cases hj),fun t _ ht=>getD_in (by simpa using ht) (getD_replicate_false _ _)⟩
 refine wp_region_any hm (wpAny_of_2 (S:=S) (m:=m) _ _ _ _ ?_)
 have hgl:l.length - n=((l.take m).drop n).length+(l.drop m).length:=by simp;omega
 have K:=wpAny2_lex (md:= .any) (g:=l.length - n) (L:=fun a'=>wpMids P l.toArray Q S (fun a'' w''=>wpList P l.toArray Q (l.drop m) a'' w'') ((l.take m).drop n) a' w.drew) (w:=w.drew) (n:=n) T hnm hQ hS (fun listed a' hB hM=>by
  rw[hgl] at hB ⊢
  exact wpAny2_of_mids (l.drop m) (fun j=>by simp[List.getElem?_drop]) ((l.take m).drop n) n listed a' w.drew (by simp;omega) (fun j hj=>by
   simp at hj
   rw[List.getElem?_drop,List.getElem?_take_of_lt (by omega),List.getElem?_toArray]) hB hM) (l.take n) 0 _ a (fun j hj=>by
  rw[htk] at hj
  simp[hj]) (by simpa using htk) inv0 (by rw[htk];exact hlex) h
 rw[htk,show l.length - n+n=l.toArray.size by simp;omega] at K
 exact K
end
end Go.Proofs.YtjgkegkinnlcoaaGreatDoor
namespace Go.Proofs.YtjgkegkinnlcoaaGreatDoor
open Go.RowKit
theorem setRow_block {w:World} {g:Nat} {old cs:Array Value} {t:TypeId} (h:w.heap[g]? =some (.cells old t (0,0))):(w.setRow g cs).heap[g]? =some (.cells cs t (0,0)):=by
 simp[World.setRow,Array.getElem?_modify,h]
theorem setRow_touch (w:World) (g:Nat) (cs:Array Value):Touch [g] w (w.setRow g cs):=
 ⟨rfl,rfl,rfl,by simp[World.setRow],fun b hb hF=>by
  have:g≠b:=fun e=>hF (by simp[e])
  simp[World.setRow,Array.getElem?_modify,this]⟩
def partF (G:Nat→Value) (o:Nat) (cells:Array Value):Nat→Value:=fun i=>if i<o then G i else if i<o+cells.size then cells.getD (i - o) (.int .i64 0) else G i
theorem part_row {w:World} {g o n:Nat} {t:TypeId} {G:Nat→Value} {cells old:Array Value} (hg:w.heap[g]? =some (.cells old t (0,0))) (hs:old.size=n) (hc: ∀i,i<n→old[i]? =some (G i)) (hl:o+cells.size≤n):
  (w.setRow g (old.toList.take o++cells.toList++old.toList.drop (o+cells.size)).toArray).rowIs g t n (partF G o cells):=by
 refine⟨_,setRow_block hg, ?_,fun i hi=> ?_⟩
 ·simp
  omega
 ·have ho:(old.toList.take o).length=o:=by simp;omega
  rw[List.getElem?_toArray,List.append_assoc]
  unfold partF
  by_cases h1:i<o
  ·rw[List.getElem?_append_left (by omega),if_pos h1,List.getElem?_take_of_lt h1,Array.getElem?_toList]
   exact hc i hi
  ·rw[List.getElem?_append_right (by omega),ho,if_neg h1]
   by_cases h2:i<o+cells.size
   ·rw[List.getElem?_append_left (by simp;omega),if_pos h2,Array.getElem?_toList,Array.getD_eq_getD_getElem?,Array.getElem?_eq_getElem (by omega)]
    rfl
   ·rw[List.getElem?_append_right (by simp;omega),if_neg h2,List.getElem?_drop,Array.length_toList,show o+cells.size+(i - o - cells.size)=i by omega,Array.getElem?_toList]
    exact hc i hi
theorem wpList_store_at {P:Program} {ops:Array Oper} {rest:List Oper} {o:Oper} {a:Act} {w:World} {Q:Exit→Act→World→Prop} (hgd:o.guard=none) (ty:TypeId) (x y:Operand) (ho:o.op= .store ty x y)
  (g off n:Nat) (cells:Array Value) (hx:a.eval x= .pointer (some ⟨g,off,none⟩)) (hy:a.eval y= .agg cells)
  (t:TypeId) (G:Nat→Value) (hr:w.rowIs g t n G) (hi:(P.info? ty).map (·.size)=some cells.size) (hl:off+cells.size≤n) (h1:cells.all (·.oneCell')=true)
  (h: ∀w',w'.rowIs g t n (partF G off cells)→Touch [g] w w'→wpList P ops Q rest (a.put o.dst undef) w'):wpList P ops Q (o::rest) a w:=by
 obtain⟨old,hg,hs,hc⟩:=hr
 have hrun:=run_storeCells_at (P:=P) g off t cells.toList 0 old w hg (by simp;omega) (fun v hv=>(Array.all_eq_true_iff_forall_mem.1 h1) v (by simpa using hv))
 have hw:wpList P ops Q rest (a.put o.dst undef) (w.setRow g (old.toList.take off++cells.toList++old.toList.drop (off+cells.size)).toArray):=h _ (part_row hg hs hc hl) (setRow_touch _ _ _)
 refine wpList_plain hgd fun _ hK=> ?_
 have hv:(storeVar ty ⟨g,off,none⟩ (.agg cells)).run P w= .ok () (w.setRow g (old.toList.take off++cells.toList++old.toList.drop (off+cells.size)).toArray):=by
  cases hq:P.info? ty with
  |none=>simp[hq] at hi
  |some i=>
   have hs:cells.size=i.size:=by simp[hq] at hi;omega
   simp only[Nat.add_zero,Array.length_toList] at hrun
   simp[storeVar,sizeOf,typeInfo,hq,Value.cells,hs]
   rw[←hs]
   simpa using hrun
 unfold Oper.wp execOp
 simp only[ho,hx,hy,Instr.storeAt,Instr.sureAddr,Sem.run_bind,Sem.run_pure,Result.andThen_ok,hv]
 exact hK _ _ hw
end Go.Proofs.YtjgkegkinnlcoaaGreatDoor
namespace Go.Proofs.YtjgkegkinnlcoaaGreatDoor
open Go.RowKit Go.Maps Go.Joins
section
variable {w0 w w' W W':World} {b d lb pb hb K k N:Nat} {FD FP:List Nat} {M:PM} {R:RM} {G:Int}
theorem Rel.readAt (h:Rel M R N G) {i:Nat} (hi:i<R.way.kinds.length):readP M i=(R.way.kinds.getD i 0,R.way.rooms.getD i ⟨#[]⟩,0):=by
 have hl:lenR R=R.way.kinds.length:=rfl
 have hr:i<R.way.rooms.length:=by rw[h.way.lr];exact hi
 unfold readP
 rw[if_neg (by omega),h.rd0,if_neg (by simp)]
 simp only
 rw[h.used,if_neg (by rw[hl];omega)]
 refine h.rd ?_ ?_
 ·rw[List.getD_eq_getElem?_getD,List.getElem?_eq_getElem hi];rfl
 ·rw[List.getD_eq_getElem?_getD,List.getElem?_eq_getElem hr];rfl
theorem Rel.rootAt (h:Rel M R N G) {i:Nat} (hi:i<8):rootP M i=(R.way.roots.getD i 0,0):=by
 have h8:=h.way.r8
 have hx:R.way.roots[i]? =some (R.way.roots.getD i 0):=by rw[List.getD_eq_getElem?_getD,List.getElem?_eq_getElem (by omega)];rfl
 have hb:=h.way.rb _ (List.mem_of_getElem? hx)
 unfold rootP
 rw[if_neg (by omega),h.rd0,if_neg (by simp)]
 simp only
 rw[Int.toNat_natCast,headS_root h8 hx hb.1 hb.2]
end
end Go.Proofs.YtjgkegkinnlcoaaGreatDoor
namespace Go.Proofs.YtjgkegkinnlcoaaGreatDoor
open Go.RowKit
def pgC (R:RM) (no:Int):Int × ByteArray:=(R.way.kinds.getD no.toNat 0,R.way.rooms.getD no.toNat ⟨#[]⟩)
def Live (R:RM) (no:Int):Prop:=1≤no∧no<lenR R∧(pgC R no).1≠255
structure StpC (R R':RM) (no:Int):Prop where
 room:R'.room=R.room
 most:R'.most=R.most
 len:lenR R≤lenR R'
 oth: ∀q,1≤q→q<lenR R→q≠no→pgC R' q=pgC R q
section
variable {M:PM} {R:RM} {N:Nat} {G:Int}
theorem Rel.readC (h:Rel M R N G) {no:Int} (h0:0≤no) (h1:no<lenR R):readP M no=((pgC R no).1,(pgC R no).2,0):=by
 obtain⟨i,rfl⟩:=Int.eq_ofNat_of_zero_le h0
 have hl:lenR R=R.way.kinds.length:=rfl
 rw[h.readAt (i:=i) (by omega)]
 unfold pgC
 rw[Int.toNat_natCast]
theorem Rel.nobig1 (h:Rel M R N G) (hr:R.most≤R.room) {no:Nat} (hn:no<R.most):bigR R [(no:Int)]=false:=by
 rw[bigR_one,decide_eq_false_iff_not]
 have h1:=cnt_set R.dirty no (by rw[h.dl];exact hn)
 have h2:=List.length_filter_le id (R.dirty.set no true)
 rw[List.length_set,h.dl] at h2
 unfold cntR
 omega
theorem Rel.nobig2 (h:Rel M R N G) (hr:R.most≤R.room) {no:Nat} (hn:no<R.most) (h0:no≠0):bigR R [(no:Int),0]=false:=by
 rw[bigR_two,decide_eq_false_iff_not]
 have h1:=cnt_set R.dirty no (by rw[h.dl];exact hn)
 have h3:=cnt_set (R.dirty.set no true) 0 (by rw[List.length_set,h.dl];omega)
 have h2:=List.length_filter_le id ((R.dirty.set no true).set 0 true)
 rw[List.length_set,List.length_set,h.dl] at h2
 have e:(R.dirty.set no true).getD 0 false=R.dirty.getD 0 false:=by
  rw[List.getD_eq_getElem?_getD,List.getD_eq_getElem?_getD,set_other (by omega)]
 rw[e] at h3
 unfold cntR
 omega
theorem getD_set_same {α:Type} {l:List α} {i:Nat} {x d:α} (h:i<l.length):(l.set i x).getD i d=x:=by
 rw[List.getD_eq_getElem?_getD,set_same h];rfl
theorem getD_set_oth {α:Type} {l:List α} {i j:Nat} {x d:α} (h:j≠i):(l.set i x).getD j d=l.getD j d:=by
 rw[List.getD_eq_getElem?_getD,set_other h, ←List.getD_eq_getElem?_getD]
theorem live_kind (h:Rel M R N G) {no:Int} (hl:Live R no):R.way.kinds[no.toNat]? ≠some 255:=by
 obtain⟨a,b,c⟩:=hl
 intro e
 apply c
 unfold pgC
 rw[List.getD_eq_getElem?_getD,e];rfl
theorem Rel.stWrite (h:Rel M R N G) (hr:R.most≤R.room) {no kind:Int} {room:ByteArray} (hl:Live R no) (k1:2≤kind) (k2:kind≤254) (hs:room.size≤496):
  ∃M' R',writeP M no kind room=(0,M')∧Rel M' R' N G∧StpC R R' no∧lenR R'=lenR R∧R'.way.free=R.way.free∧R'.way.roots=R.way.roots∧pgC R' no=(kind,fillR room 496):=by
 obtain⟨a,b,c⟩:=hl
 obtain⟨i,rfl⟩:=Int.eq_ofNat_of_zero_le (show 0≤no by omega)
 have hlen:lenR R=R.way.kinds.length:=rfl
 have hle:=h.way.le
 have hlr:=h.way.lr
 obtain⟨e1,e2⟩:=h.write i kind room (live_kind h ⟨a,b,c⟩)
 have e3:writeR R i kind room=(0, { R with way:= { R.way with kinds:=R.way.kinds.set i kind,rooms:=R.way.rooms.set i (fillR room 496) },dirty:=markR R.dirty [(i:Int)] }):=by
  unfold writeR
  rw[if_neg (by omega),if_neg (by omega),h.nobig1 hr (by omega),if_neg (by decide),Int.toNat_natCast]
 rw[e3] at e1 e2
 refine⟨(writeP M i kind room).2,_,Prod.ext e1 rfl,e2,⟨rfl,rfl, ?_,fun q q1 q2 q3=> ?_⟩, ?_,rfl,rfl, ?_⟩
 ·show lenR R≤((R.way.kinds.set i kind).length:Int)
  rw[List.length_set];exact Int.le_refl _
 ·unfold pgC
  simp only
  rw[getD_set_oth (by omega),getD_set_oth (by omega)]
 ·show((R.way.kinds.set i kind).length:Int)=_
  rw[List.length_set];rfl
 ·unfold pgC
  simp only
  rw[Int.toNat_natCast,getD_set_same (by omega),getD_set_same (by omega)]
theorem fix_pg {s:SM} {R:RM} {q:Int} (hq:1≤q) {d:List Bool}:pgC { R with way:=fixS s,dirty:=d } q=(s.kinds.getD q.toNat 0,s.rooms.getD q.toNat ⟨#[]⟩):=by
 unfold pgC fixS
 simp only
 rw[getD_set_oth (by omega)]
theorem Rel.stAlloc (h:Rel M R N G) (hr:R.most≤R.room) {kind:Int} (k1:2≤kind) (k2:kind≤254) (hroom:R.way.kinds.length<R.most+R.way.free.length):
  ∃no M' R',allocP M kind=(no,0,M')∧Rel M' R' N G∧StpC R R' no∧ ¬Live R no∧Live R' no∧lenR R'+R.way.free.length=lenR R+R'.way.free.length+1∧R'.way.roots=R.way.roots∧pgC R' no=(kind,fillR ⟨#[]⟩ 496):=by
 obtain⟨e1,e2,e3, -⟩:=h.alloc kind
 have hlen:lenR R=R.way.kinds.length:=rfl
 have hle:=h.way.le
 have hlr:=h.way.lr
 have h1:=h.way.one
 have hn: ¬(kind<2∨254<kind):=by omega
 cases hf:R.way.free.getLast? with
 |some f=>
  obtain⟨l,hfree⟩:=List.getLast?_eq_some_iff.1 hf
  obtain⟨f1,f2,f3⟩:=h.way.fr f (by rw[hfree];simp)
  obtain⟨i,rfl⟩:=Int.eq_ofNat_of_zero_le (show 0≤f by omega)
  have hi:i<R.way.kinds.length:=by omega
  have e:allocR R kind=((i:Int),0, { R with way:=takeS R.way i kind,dirty:=markR R.dirty [(i:Int),0] }):=by
   unfold allocR
   rw[if_neg hn,hf]
   simp only
   rw[h.nobig2 hr (by omega) (by omega),if_neg (by decide)]
  rw[e] at e1 e2 e3
  have hq: ∀q,1≤q→pgC { R with way:=takeS R.way i kind,dirty:=markR R.dirty [(i:Int),0] } q=((R.way.kinds.set i kind).getD q.toNat 0,(R.way.rooms.set i (fillR ⟨#[]⟩ 496)).getD q.toNat ⟨#[]⟩):=fun q q1=>by
   have:=fix_pg (s:= { R.way with free:=R.way.free.dropLast,kinds:=R.way.kinds.set i kind,rooms:=R.way.rooms.set i (fillR ⟨#[]⟩ 496) }) (R:=R) q1 (d:=markR R.dirty [(i:Int),0])
   exact this
  refine⟨i,(allocP M kind).2.2,_,Prod.ext e1 (Prod.ext e2 rfl),e3 (by simp),⟨rfl,rfl, ?_,fun q q1 q2 q3=> ?_⟩, ?_,⟨by omega, ?_, ?_⟩, ?_,rfl, ?_⟩
  ·show lenR R≤((R.way.kinds.set i kind).length:Int)
   rw[List.length_set];exact Int.le_refl _
  ·rw[hq q q1,getD_set_oth (by omega),getD_set_oth (by omega)];rfl
  ·rintro ⟨-, -,c⟩
   apply c
   unfold pgC
   rw[List.getD_eq_getElem?_getD,f3];rfl
  ·show(i:Int)<((R.way.kinds.set i kind).length:Int)
   rw[List.length_set];omega
  ·rw[hq _ (by omega),Int.toNat_natCast]
   simp only
   rw[getD_set_same hi];omega
  ·show((R.way.kinds.set i kind).length:Int)+R.way.free.length=lenR R+(R.way.free.dropLast.length:Int)+1
   rw[List.length_set,hlen,hfree];simp;omega
  ·rw[hq _ (by omega),Int.toNat_natCast,getD_set_same hi,getD_set_same (by omega)]
 |none=>
  have hfree:R.way.free=[]:=List.getLast?_eq_none_iff.1 hf
  have hlt:R.way.kinds.length<R.most:=by rw[hfree] at hroom;simpa using hroom
  have e:allocR R kind=(lenR R,0, { R with way:=growS R.way kind,dirty:=markR R.dirty [lenR R,0] }):=by
   unfold allocR
   rw[if_neg hn,hf]
   simp only
   rw[if_neg (by omega),hlen,h.nobig2 hr (by omega) (by omega),if_neg (by decide)]
  rw[e] at e1 e2 e3
  have hq: ∀q,1≤q→pgC { R with way:=growS R.way kind,dirty:=markR R.dirty [lenR R,0] } q=((R.way.kinds++[kind]).getD q.toNat 0,(R.way.rooms++[fillR ⟨#[]⟩ 496]).getD q.toNat ⟨#[]⟩):=fun q q1=>by
   have:=fix_pg (s:= { R.way with kinds:=R.way.kinds++[kind],rooms:=R.way.rooms++[fillR ⟨#[]⟩ 496] }) (R:=R) q1 (d:=markR R.dirty [lenR R,0])
   exact this
  have gl: ∀ {α:Type} (l:List α) (x d:α) (j:Nat),j<l.length→(l++[x]).getD j d=l.getD j d:=fun l x d j hj=>by
   rw[List.getD_eq_getElem?_getD,List.getElem?_append_left hj, ←List.getD_eq_getElem?_getD]
  have gr: ∀ {α:Type} (l:List α) (x d:α) (j:Nat),j=l.length→(l++[x]).getD j d=x:=fun l x d j hj=>by
   subst hj
   rw[List.getD_eq_getElem?_getD,List.getElem?_append_right (Nat.le_refl _)];simp
  refine⟨lenR R,(allocP M kind).2.2,_,Prod.ext e1 (Prod.ext e2 rfl),e3 (by simp),⟨rfl,rfl, ?_,fun q q1 q2 q3=> ?_⟩, ?_,⟨by omega, ?_, ?_⟩, ?_,rfl, ?_⟩
  ·show lenR R≤((R.way.kinds++[kind]).length:Int)
   rw[List.length_append,hlen];simp;omega
  ·rw[hq q q1,gl _ _ _ _ (by omega),gl _ _ _ _ (by omega)];rfl
  ·rintro ⟨-,b, -⟩;omega
  ·show lenR R<((R.way.kinds++[kind]).length:Int)
   rw[List.length_append,hlen];simp;omega
  ·rw[hq _ (by omega)]
   simp only
   rw[gr _ _ _ _ (by omega)];omega
  ·show((R.way.kinds++[kind]).length:Int)+R.way.free.length=lenR R+(R.way.free.length:Int)+1
   rw[List.length_append,hlen];simp;omega
  ·rw[hq _ (by omega),gr _ _ _ _ (by omega),gr _ _ _ _ (by omega)]
theorem Rel.stFree (h:Rel M R N G) (hr:R.most≤R.room) {no:Int} (hl:Live R no):
  ∃M' R',freeP M no=(0,M')∧Rel M' R' N G∧StpC R R' no∧ ¬Live R' no∧lenR R'=lenR R∧R'.way.free.length=R.way.free.length+1∧R'.way.roots=R.way.roots:=by
 have hk:=live_kind h hl
 obtain⟨a,b,c⟩:=hl
 obtain⟨i,rfl⟩:=Int.eq_ofNat_of_zero_le (show 0≤no by omega)
 rw[Int.toNat_natCast] at hk
 have hlen:lenR R=R.way.kinds.length:=rfl
 have hle:=h.way.le
 have hlr:=h.way.lr
 obtain⟨e1,e2, -⟩:=h.give i
 have e3:giveR R i=(0, { R with way:=backS R.way i,dirty:=markR R.dirty [(i:Int),0] }):=by
  unfold giveR
  rw[if_neg (by omega),if_neg,h.nobig2 hr (by omega) (by omega),if_neg (by decide)]
  rw[Int.toNat_natCast]
  intro e
  apply hk
  rw[List.getElem?_eq_getElem (by omega)]
  rw[List.getD_eq_getElem?_getD,List.getElem?_eq_getElem (by omega)] at e
  simpa using e
 rw[e3] at e1 e2
 have hq: ∀q,1≤q→pgC { R with way:=backS R.way i,dirty:=markR R.dirty [(i:Int),0] } q=((R.way.kinds.set i 255).getD q.toNat 0,(R.way.rooms.set i (fillR (S (leB (firstF R.way) 4)) 496)).getD q.toNat ⟨#[]⟩):=fun q q1=>by
  have:=fix_pg (s:= { R.way with kinds:=R.way.kinds.set i 255,rooms:=R.way.rooms.set i (fillR (S (leB (firstF R.way) 4)) 496),free:=R.way.free++[(i:Int)] }) (R:=R) q1 (d:=markR R.dirty [(i:Int),0])
  exact this
 refine⟨(freeP M i).2,_,Prod.ext e1 rfl,e2 (by simp),⟨rfl,rfl, ?_,fun q q1 q2 q3=> ?_⟩, ?_, ?_, ?_,rfl⟩
 ·show lenR R≤((R.way.kinds.set i 255).length:Int)
  rw[List.length_set];exact Int.le_refl _
 ·rw[hq q q1,getD_set_oth (by omega),getD_set_oth (by omega)];rfl
 ·rintro ⟨-, -,c'⟩
  apply c'
  rw[hq _ (by omega),Int.toNat_natCast]
  simp only
  rw[getD_set_same (by omega)]
 ·show((R.way.kinds.set i 255).length:Int)=_
  rw[List.length_set];rfl
 ·show(R.way.free++[(i:Int)]).length=_
  simp
theorem Rel.stRoot (h:Rel M R N G) (hr:R.most≤R.room) {i:Nat} {n:Int} (hi:i<8) (n0:0≤n) (n1:n≤18446744073709551615):
  ∃M' R',setRootP M i n=(0,M')∧Rel M' R' N G∧R'.room=R.room∧R'.most=R.most∧lenR R'=lenR R∧R'.way.free=R.way.free∧R'.way.roots=R.way.roots.set i n∧ ∀q,1≤q→pgC R' q=pgC R q:=by
 have h1:=h.way.one
 have hle:=h.way.le
 obtain⟨e1,e2⟩:=h.setRoot i n n0 n1
 have e3:setRootR R i n=(0, { R with way:=rootS R.way i n,dirty:=markR R.dirty [(0:Int)] }):=by
  unfold setRootR
  have:=h.nobig1 hr (no:=0) (by omega)
  rw[if_neg (by omega),show([(0:Int)]:List Int)=[((0:Nat):Int)] from rfl,this,if_neg (by decide),Int.toNat_natCast]
 rw[e3] at e1 e2
 refine⟨(setRootP M i n).2,_,Prod.ext e1 rfl,e2,rfl,rfl,rfl,rfl,rfl,fun q q1=> ?_⟩
 have:=fix_pg (s:= { R.way with roots:=R.way.roots.set i n }) (R:=R) q1 (d:=markR R.dirty [(0:Int)])
 exact this
end
end Go.Proofs.YtjgkegkinnlcoaaGreatDoor
