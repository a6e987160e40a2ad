/- Lemmas on the way to the statement. -/
import Derived.Test.YthopjhifepijiaaJ8
import Derived.BigRegion
import Derived.Deep.DeepCutAuto
import Derived.Laws.Externs
import Derived.RegionTactic
set_option linter.unusedSimpArgs false
set_option linter.unusedVariables false
namespace Go.Proofs.Ythopjhifepijiaa
open Go.RowKit
def wrd (n:Int):Nat→Int
 |0=>n % 18446744073709551616
 |1=>n / 18446744073709551616 % 18446744073709551616
 |2=>n / 340282366920938463463374607431768211456 % 18446744073709551616
 |_=>n / 6277101735386680763835789423207666416102355444464034512896 % 18446744073709551616
def Fits (n:Int):Prop:= -57896044618658097711785492504343953926634992332820282019728792003956564819968≤n∧n<57896044618658097711785492504343953926634992332820282019728792003956564819968
theorem wrd_bd (n:Int) (j:Nat):0≤wrd n j∧wrd n j<18446744073709551616:=by
 rcases j with _|_|_|j<;>(simp only[wrd];omega)
theorem wrd_neg {n:Int} (h:Fits n):9223372036854775808≤wrd n 3↔n<0:=by unfold Fits at h;show 9223372036854775808≤n / _ % _↔_;omega
theorem wrd_zero {n:Int} (h:Fits n) (h0:wrd n 0=0) (h1:wrd n 1=0) (h2:wrd n 2=0) (h3:wrd n 3=0):n=0:=by
 unfold Fits at h
 simp only[wrd] at h0 h1 h2 h3
 omega
set_option maxRecDepth 100000 in
theorem of_any (n:Int) (w:World) (h0: -9223372036854775808≤n) (h1:n≤9223372036854775807):Calls Try.prog 37 #[.int .i64 n] w fun e w'=>e= .returned (.agg #[.int .u64 (wrd n 0), .int .u64 (wrd n 1), .int .u64 (wrd n 2), .int .u64 (wrd n 3)])∧Below w.heap.size w w':=by
 have hd:(n / 18446744073709551616= -1∧n / 340282366920938463463374607431768211456= -1∧n / 6277101735386680763835789423207666416102355444464034512896= -1∧n / 9223372036854775808= -1)∨
   (n / 18446744073709551616=0∧n / 340282366920938463463374607431768211456=0∧n / 6277101735386680763835789423207666416102355444464034512896=0∧n / 9223372036854775808=0):=by
  rcases(show n<0∨0≤n by omega) with h|h
  ·exact .inl ⟨by omega,by omega,by omega,by omega⟩
  ·exact .inr ⟨by omega,by omega,by omega,by omega⟩
 have e1:wrd n 1=wrd n 3:=by simp only[wrd];rcases hd with ⟨a,b,c,d⟩|⟨a,b,c,d⟩<;>rw[a,c]
 have e2:wrd n 2=wrd n 3:=by simp only[wrd];rcases hd with ⟨a,b,c,d⟩|⟨a,b,c,d⟩<;>rw[b,c]
 have q0:IntKind.u64.wrap n=wrd n 0:=by rw[IntKind.wrap_u64];rfl
 have q1:IntKind.u64.wrap (n / 9223372036854775808)=wrd n 3:=by rw[IntKind.wrap_u64];simp only[wrd];rcases hd with ⟨a,b,c,d⟩|⟨a,b,c,d⟩<;>rw[d,c]
 clear hd
 rw[e1,e2]
 clear e1 e2
 generalize wrd n 0=a at*
 generalize wrd n 3=b at*
 go_enter Try.func37,Try.ntmps37
 go_wp2_with fail
 exact bodyPost_ret (v:= .agg #[.int .u64 a, .int .u64 b, .int .u64 b, .int .u64 b]) (by simp[results,Try.results37,go_sem]) rfl ⟨rfl,below_alloc (Below.refl _ _)⟩
set_option maxRecDepth 100000 in
theorem belowW_any (n:Int) (w:World) (h:Fits n):Calls Try.prog 45 #[.agg #[.int .u64 (wrd n 0), .int .u64 (wrd n 1), .int .u64 (wrd n 2), .int .u64 (wrd n 3)]] w fun e w'=>e= .returned (.bool (decide (n<0)))∧Below w.heap.size w w':=by
 have hb:=wrd_bd n 3
 have hn:=wrd_neg h
 generalize wrd n 0=a0 at*
 generalize wrd n 1=a1 at*
 generalize wrd n 2=a2 at*
 generalize wrd n 3=a3 at*
 by_cases hx:n<0
 ·rw[decide_eq_true hx]
  have hq:(a3 / 9223372036854775808==1)=true:=by have:=hn.2 hx;rw[beq_iff_eq];omega
  clear hn hx
  go_enter Try.func45,Try.ntmps45
  go_wp2_with fail
  go_ret
  exact⟨rfl,below_alloc (Below.refl _ _)⟩
 ·rw[decide_eq_false hx]
  have hq:(a3 / 9223372036854775808==1)=false:=by have:=fun h=>hx (hn.1 h);rw[beq_eq_false_iff_ne];omega
  clear hn hx
  go_enter Try.func45,Try.ntmps45
  go_wp2_with fail
  go_ret
  exact⟨rfl,below_alloc (Below.refl _ _)⟩
abbrev wdC (n:Int):Obj:= .cells #[.int .u64 (wrd n 0), .int .u64 (wrd n 1), .int .u64 (wrd n 2), .int .u64 (wrd n 3)] 36
theorem wd_cells (w:World) (n:Int) {W:World} (hb:Below (w.alloc (wdC n)).heap.size (w.alloc (wdC n)) W):W.cell? ⟨w.heap.size,0,none⟩=some (.int .u64 (wrd n 0))∧W.cell? ⟨w.heap.size,1,none⟩=some (.int .u64 (wrd n 1))∧W.cell? ⟨w.heap.size,2,none⟩=some (.int .u64 (wrd n 2))∧W.cell? ⟨w.heap.size,3,none⟩=some (.int .u64 (wrd n 3)):=by
 refine⟨(hb.cell (p:=⟨w.heap.size,0,none⟩) (by simp)).trans ?_,(hb.cell (p:=⟨w.heap.size,1,none⟩) (by simp)).trans ?_,(hb.cell (p:=⟨w.heap.size,2,none⟩) (by simp)).trans ?_,(hb.cell (p:=⟨w.heap.size,3,none⟩) (by simp)).trans ?_⟩
 all_goals simp[World.cell?_alloc_new]
theorem eq_wd (a0 a1 a2 a3 b0 b1 b2 b3:Int) (w:World):(binOp .eql 36 (.agg #[.int .u64 a0, .int .u64 a1, .int .u64 a2, .int .u64 a3]) (.agg #[.int .u64 b0, .int .u64 b1, .int .u64 b2, .int .u64 b3])).run Try.prog w= .ok (.bool ([a0,a1,a2,a3]== [b0,b1,b2,b3])) w:=
 eql_ints w 36 34 4 .u64 Try.underlying36 Try.underlying34 (fun _=>by kernel_rfl) [a0,a1,a2,a3] [b0,b1,b2,b3] rfl rfl
set_option maxRecDepth 100000 in
set_option maxHeartbeats 1000000 in
theorem signW_any (n:Int) (w:World) (h:Fits n):Calls Try.prog 14 #[.agg #[.int .u64 (wrd n 0), .int .u64 (wrd n 1), .int .u64 (wrd n 2), .int .u64 (wrd n 3)]] w fun e w'=>e= .returned (.int .i64 n.sign)∧Below w.heap.size w w':=by
 have H1:=fun w=>Lib.hid (belowW_any n w h)
 have HW:=fun(W:World) hb=>Lib.hid (wd_cells w n (W:=W) hb)
 have hz:=wrd_zero h
 rcases sign_cases n with ⟨h0,e⟩|⟨h0,e⟩|⟨h0,e⟩
 ·rw[e]
  rw[decide_eq_true h0] at H1
  clear e h0 hz
  go_enter Try.func14,Try.ntmps14
  go_wp2_with fail
  refine(H1 _).out.mono ?_
  rintro e w1 ⟨rfl,hb1⟩
  have HB:=Lib.hid (below_step hb1 (below_alloc (Below.refl _ _)))
  clear hb1
  go_wp2_with fail
  go_ret
  exact⟨rfl,HB.out⟩
 ·rw[e]
  subst h0
  rw[decide_eq_false (by decide)] at H1
  have r1:=fun w=>(eq_wd (wrd 0 0) (wrd 0 1) (wrd 0 2) (wrd 0 3) 0 0 0 0 w).trans (by rw[show([wrd 0 0,wrd 0 1,wrd 0 2,wrd 0 3]== [0,0,0,0])=true by decide])
  clear e hz
  go_enter Try.func14,Try.ntmps14
  go_wp2_with fail
  refine(H1 _).out.mono ?_
  rintro e w1 ⟨rfl,hb1⟩
  have HB:=Lib.hid (below_step hb1 (below_alloc (Below.refl _ _)))
  obtain⟨q0,q1,q2,q3⟩:=(HW _ hb1).out
  clear hb1
  go_wp2_with fail
  go_ret
  exact⟨rfl,HB.out⟩
 ·rw[e]
  rw[decide_eq_false (by omega)] at H1
  clear e
  have hne: ¬(wrd n 0=0∧wrd n 1=0∧wrd n 2=0∧wrd n 3=0):=fun hh=>by have:=hz hh.1 hh.2.1 hh.2.2.1 hh.2.2.2;omega
  have r1:=fun w=>(eq_wd (wrd n 0) (wrd n 1) (wrd n 2) (wrd n 3) 0 0 0 0 w).trans (by rw[show([wrd n 0,wrd n 1,wrd n 2,wrd n 3]== [0,0,0,0])=false by rw[beq_eq_false_iff_ne];intro hh;injection hh with x0 hh;injection hh with x1 hh;injection hh with x2 hh;injection hh with x3 hh;exact hne ⟨x0,x1,x2,x3⟩])
  clear h0 hz hne
  go_enter Try.func14,Try.ntmps14
  go_wp2_with fail
  refine(H1 _).out.mono ?_
  rintro e w1 ⟨rfl,hb1⟩
  have HB:=Lib.hid (below_step hb1 (below_alloc (Below.refl _ _)))
  obtain⟨q0,q1,q2,q3⟩:=(HW _ hb1).out
  clear hb1
  go_wp2_with fail
  go_ret
  exact⟨rfl,HB.out⟩
end Go.Proofs.Ythopjhifepijiaa
namespace Go.Proofs.Ythopjhifepijiaa
open Go.RowKit
def cry (a b:Int):Nat→Int
 |0=>0
 |1=>(a % 18446744073709551616+b % 18446744073709551616) / 18446744073709551616
 |2=>(a % 340282366920938463463374607431768211456+b % 340282366920938463463374607431768211456) / 340282366920938463463374607431768211456
 |_=>(a % 6277101735386680763835789423207666416102355444464034512896+b % 6277101735386680763835789423207666416102355444464034512896) / 6277101735386680763835789423207666416102355444464034512896
theorem add_run (x y c:Int) (hx:0≤x) (hy:0≤y) (hc0:0≤c) (hc:c≤1) (w:World):(callFunc 46 #[.int .u64 x, .int .u64 y, .int .u64 c]).run Try.prog w=
  .ok (.value (.tuple #[.int .u64 ((x+y+c) % 18446744073709551616), .int .u64 ((x+y+c) / 18446744073709551616)])) w:=by
 rw[run_callFunc_extern Try.func46 (by kernel_rfl) (by kernel_rfl) (by kernel_rfl) (e:=add64Entry) (by kernel_rfl),run_add64 x y c hx hy hc0 hc]
 rfl
theorem cry_bd (a b:Int) (j:Nat):0≤cry a b j∧cry a b j≤1:=by
 rcases j with _|_|_|j<;>(simp only[cry];omega)
theorem cry_word (a b:Int) (j:Nat) (hj:j<4):(wrd a j+wrd b j+cry a b j) % 18446744073709551616=wrd (a+b) j:=by
 rcases j with _|_|_|_|j
 ·simp only[wrd,cry];omega
 ·simp only[wrd,cry];omega
 ·simp only[wrd,cry];omega
 ·simp only[wrd,cry];omega
 ·omega
theorem cry_next (a b:Int) (j:Nat) (hj:j<3):(wrd a j+wrd b j+cry a b j) / 18446744073709551616=cry a b (j+1):=by
 rcases j with _|_|_|j
 ·simp only[wrd,cry];omega
 ·simp only[wrd,cry];omega
 ·simp only[wrd,cry];omega
 ·omega
def wdF (n:Int) (j:Nat):Value:= .int .u64 (wrd n j)
def sumF (n:Int) (k j:Nat):Value:=if j<k then .int .u64 (wrd n j) else .int .u64 0
structure AddIn (w wr:World) (a b:Int) (k:Nat):Prop where
 ra:wr.rowIs w.heap.size 36 4 (wdF a)
 rb:wr.rowIs (w.heap.size+1) 36 4 (wdF b)
 rr:wr.rowIs (w.heap.size+1+1) 36 4 (fun _=> .int .u64 0)
 ro:wr.rowIs (w.heap.size+1+1+1) 36 4 (sumF (a+b) k)
 below:Below w.heap.size w wr
theorem addIn_start (w:World) (a b:Int):AddIn w ((((w.alloc (wdC a)).alloc (wdC b)).alloc (.cells #[.int .u64 0, .int .u64 0, .int .u64 0, .int .u64 0] 36)).alloc (.cells #[.int .u64 0, .int .u64 0, .int .u64 0, .int .u64 0] 36)) a b 0:=by
 have f (n:Int): ∀i,i<4→(#[Value.int .u64 (wrd n 0), .int .u64 (wrd n 1), .int .u64 (wrd n 2), .int .u64 (wrd n 3)]:Array Value)[i]? =some (wdF n i):=fun i hi=>by
  rcases i with _|_|_|_|i<;>first|rfl|omega
 have z: ∀i,i<4→(#[Value.int .u64 0, .int .u64 0, .int .u64 0, .int .u64 0]:Array Value)[i]? =some (.int .u64 0):=fun i hi=>by
  rcases i with _|_|_|_|i<;>first|rfl|omega
 have h1:=World.rowIs_alloc w #[Value.int .u64 (wrd a 0), .int .u64 (wrd a 1), .int .u64 (wrd a 2), .int .u64 (wrd a 3)] 36 (wdF a) (f a)
 have h2:=World.rowIs_alloc (w.alloc (wdC a)) #[Value.int .u64 (wrd b 0), .int .u64 (wrd b 1), .int .u64 (wrd b 2), .int .u64 (wrd b 3)] 36 (wdF b) (f b)
 have h3:=World.rowIs_alloc ((w.alloc (wdC a)).alloc (wdC b)) #[Value.int .u64 0, .int .u64 0, .int .u64 0, .int .u64 0] 36 (fun _=> .int .u64 0) z
 have h4:=World.rowIs_alloc (((w.alloc (wdC a)).alloc (wdC b)).alloc (.cells #[.int .u64 0, .int .u64 0, .int .u64 0, .int .u64 0] 36)) #[Value.int .u64 0, .int .u64 0, .int .u64 0, .int .u64 0] 36 (fun _=> .int .u64 0) z
 refine⟨?_, ?_, ?_, ?_, ?_⟩
 ·exact World.rowIs.alloc (World.rowIs.alloc (World.rowIs.alloc h1 _) _) _
 ·have e:(w.alloc (wdC a)).heap.size=w.heap.size+1:=by simp
  rw[e] at h2
  exact World.rowIs.alloc (World.rowIs.alloc h2 _) _
 ·have e:((w.alloc (wdC a)).alloc (wdC b)).heap.size=w.heap.size+1+1:=by simp
  rw[e] at h3
  exact World.rowIs.alloc h3 _
 ·have e:(((w.alloc (wdC a)).alloc (wdC b)).alloc (.cells #[.int .u64 0, .int .u64 0, .int .u64 0, .int .u64 0] 36)).heap.size=w.heap.size+1+1+1:=by simp
  rw[e] at h4
  exact World.rowIs.congr h4 (fun i _=>by simp[sumF])
 ·exact below_alloc (below_alloc (below_alloc (below_alloc (Below.refl _ _))))
theorem AddIn.step {w wr:World} {a b:Int} {k:Nat} (h:AddIn w wr a b k) (hk:k<4):AddIn w (wr.setCell ⟨w.heap.size+1+1+1,k,none⟩ (.int .u64 (wrd (a+b) k))).drew a b (k+1):=by
 refine⟨World.rowIs.setOther h.ra (by simp;omega) _,World.rowIs.setOther h.rb (by simp) _,World.rowIs.setOther h.rr (by simp) _,World.rowIs.congr (World.rowIs.set h.ro k _) (fun i hi=> ?_),below_drew (h.below.setCell (by simp;omega) _)⟩
 unfold sumF
 by_cases e:i=k
 ·subst e;simp
 ·simp only[e,if_false]
  by_cases h':i<k
  ·rw[if_pos h',if_pos (by omega)]
  ·rw[if_neg h',if_neg (by omega)]
theorem AddIn.later {w wr:World} {a b:Int} {k:Nat} (h:AddIn w wr a b k) (x:Later wr):AddIn w x.1 a b k:=
 ⟨rowIs_touch (F:=[]) h.ra (Touch.of_below x.2) List.not_mem_nil,rowIs_touch (F:=[]) h.rb (Touch.of_below x.2) List.not_mem_nil,rowIs_touch (F:=[]) h.rr (Touch.of_below x.2) List.not_mem_nil,rowIs_touch (F:=[]) h.ro (Touch.of_below x.2) List.not_mem_nil,below_step x.2 h.below⟩
set_option maxRecDepth 100000 in
set_option maxHeartbeats 4000000 in
theorem addW_any (a b:Int) (w:World) (ha:Fits a) (hb:Fits b) (hab:Fits (a+b)):
  Calls Try.prog 16 #[.agg #[.int .u64 (wrd a 0), .int .u64 (wrd a 1), .int .u64 (wrd a 2), .int .u64 (wrd a 3)], .agg #[.int .u64 (wrd b 0), .int .u64 (wrd b 1), .int .u64 (wrd b 2), .int .u64 (wrd b 3)]] w
   fun e w'=>e= .returned (.tuple #[.agg #[.int .u64 (wrd (a+b) 0), .int .u64 (wrd (a+b) 1), .int .u64 (wrd (a+b) 2), .int .u64 (wrd (a+b) 3)], .int .i64 0])∧Below w.heap.size w w':=by
 have HS:=Lib.hid (addIn_start w a b)
 go_enter Try.func16,Try.ntmps16
 go_wp2_with fail
 go_loopw [7,9] (fun c i wr=> ∃(k:Nat) (u:Int),k≤4∧i= .int .i64 k∧c= .int .u64 u∧(k<4→u=cry a b k)∧AddIn w wr a b k) (fun _ i _=>4 - (intOf i).toNat)
 case atStart=>exact⟨0,0,Nat.zero_le _,rfl,rfl,fun _=>rfl,HS.out⟩
 case round=>
  clear HS
  obtain⟨k,u,hk,rfl,rfl,hu,hA⟩:=hrel
  by_cases hlt:k<4
  ·obtain rfl:=hu hlt
   clear hu
   have ca:=World.rowIs.cell hA.ra hlt
   have cb:=World.rowIs.cell hA.rb hlt
   have co:=World.rowIs.cell hA.ro hlt
   have fo:=World.rowIs.frozen hA.ro k
   have hcb:=cry_bd a b k
   have b1:=wrd_bd a k
   have b2:=wrd_bd b k
   have HA:=Lib.hid hA
   have hr: ∀w,(callFunc 46 #[.int .u64 (wrd a k), .int .u64 (wrd b k), .int .u64 (cry a b k)]).run Try.prog w=
    .ok (.value (.tuple #[.int .u64 (wrd (a+b) k), .int .u64 ((wrd a k+wrd b k+cry a b k) / 18446744073709551616)])) w:=fun w=>by rw[add_run _ _ _ b1.1 b2.1 hcb.1 hcb.2,cry_word a b k hlt]
   unfold wdF at ca cb
   clear hA hcb b1 b2
   go_wp2_with fail
   go_region
   go_wp2_with fail
   go_roundw
   case rel=>exact⟨k+1,_,by omega,by go_num,rfl,fun h=>cry_next a b k (by omega),HA.out.step hlt⟩
   case measure=>simp[intOf];omega
  ·obtain rfl:k=4:=by omega
   clear hu
   have HA:=fun(x:Later wr)=>Lib.hid (AddIn.later hA x)
   have HBE:=Lib.hid hA.below
   have H1:=fun w=>Lib.hid (belowW_any a w ha)
   have H2:=fun w=>Lib.hid (belowW_any b w hb)
   have H3:=fun w=>Lib.hid (belowW_any (a+b) w hab)
   have y0:=fun(x:Later wr)=>World.rowIs.cell (HA x).out.ra (i:=0) (by decide)
   have y1:=fun(x:Later wr)=>World.rowIs.cell (HA x).out.ra (i:=1) (by decide)
   have y2:=fun(x:Later wr)=>World.rowIs.cell (HA x).out.ra (i:=2) (by decide)
   have y3:=fun(x:Later wr)=>World.rowIs.cell (HA x).out.ra (i:=3) (by decide)
   have z0:=fun(x:Later wr)=>World.rowIs.cell (HA x).out.rb (i:=0) (by decide)
   have z1:=fun(x:Later wr)=>World.rowIs.cell (HA x).out.rb (i:=1) (by decide)
   have z2:=fun(x:Later wr)=>World.rowIs.cell (HA x).out.rb (i:=2) (by decide)
   have z3:=fun(x:Later wr)=>World.rowIs.cell (HA x).out.rb (i:=3) (by decide)
   have o0:=fun(x:Later wr)=>World.rowIs.cell (HA x).out.ro (i:=0) (by decide)
   have o1:=fun(x:Later wr)=>World.rowIs.cell (HA x).out.ro (i:=1) (by decide)
   have o2:=fun(x:Later wr)=>World.rowIs.cell (HA x).out.ro (i:=2) (by decide)
   have o3:=fun(x:Later wr)=>World.rowIs.cell (HA x).out.ro (i:=3) (by decide)
   simp only[wdF,sumF] at y0 y1 y2 y3 z0 z1 z2 z3 o0 o1 o2 o3
   simp only[show(0:Nat)<4 by decide,show(1:Nat)<4 by decide,show(2:Nat)<4 by decide,show(3:Nat)<4 by decide,if_true] at o0 o1 o2 o3
   have hsg:(decide (a<0)=decide (b<0))→decide (a+b<0)=decide (a<0):=by
    intro h
    rw[decide_eq_decide] at h ⊢
    omega
   generalize decide (a<0)=v1 at*
   generalize decide (b<0)=v2 at*
   generalize decide (a+b<0)=v3 at*
   have hv:(v1=true∧v2=true∧v3=true)∨(v1=false∧v2=false∧v3=false)∨(v1=true∧v2=false)∨(v1=false∧v2=true):=by
    cases v1<;>cases v2<;>simp_all
   clear hsg hA ha hb hab
   rcases hv with ⟨rfl,rfl,rfl⟩|⟨rfl,rfl,rfl⟩|⟨rfl,rfl⟩|⟨rfl,rfl⟩
   all_goals
    go_wp2_with fail
    refine wp_region_later (by kernel_rfl) (by kernel_rfl) ?_
    repeat (first|go_big_quiet_step ((first|(go_at_call 45;with_reducible refine Later.call (H1 _).out)|(go_at_call 45;with_reducible refine Later.call (H2 _).out)|(go_at_call 45;with_reducible refine Later.call (H3 _).out)))|quiet_step ((first|(go_at_call 45;with_reducible refine Later.call (H1 _).out)|(go_at_call 45;with_reducible refine Later.call (H2 _).out)|(go_at_call 45;with_reducible refine Later.call (H3 _).out))))
    refine wpQuiet_nil ?_
    intro w1 hw
    obtain⟨x,hx⟩:=hw
    have hb1:Below wr.heap.size wr w1:=hx▸x.2
    clear hx x
    have HB1:=Lib.hid hb1
    have p0:=o0 ⟨w1,hb1⟩
    have p1:=o1 ⟨w1,hb1⟩
    have p2:=o2 ⟨w1,hb1⟩
    have p3:=o3 ⟨w1,hb1⟩
    have fr:=fun j=>World.rowIs.frozen ((HA ⟨w1,hb1⟩).out.rr) j
    have c0:=World.rowIs.cell ((HA ⟨w1,hb1⟩).out.rr) (i:=0) (by decide)
    have c1:=World.rowIs.cell ((HA ⟨w1,hb1⟩).out.rr) (i:=1) (by decide)
    have c2:=World.rowIs.cell ((HA ⟨w1,hb1⟩).out.rr) (i:=2) (by decide)
    have c3:=World.rowIs.cell ((HA ⟨w1,hb1⟩).out.rr) (i:=3) (by decide)
    simp only at p0 p1 p2 p3 fr c0 c1 c2 c3
    clear y0 y1 y2 y3 z0 z1 z2 z3 o0 o1 o2 o3 hb1
    go_wp2_with fail
    exact bodyPost_ret (v:= .tuple #[.agg #[.int .u64 (wrd (a+b) 0), .int .u64 (wrd (a+b) 1), .int .u64 (wrd (a+b) 2), .int .u64 (wrd (a+b) 3)], .int .i64 0]) (by simp[results,Try.results16,go_sem,c0,c1,c2,c3]) rfl
     ⟨rfl,((((below_step HB1.out HBE.out).setCell (by simp;omega) _).setCell (by simp;omega) _).setCell (by simp;omega) _).setCell (by simp;omega) _⟩
end Go.Proofs.Ythopjhifepijiaa
namespace Go.Proofs.Ythopjhifepijiaa
open Go.RowKit
def cmpI (a b:Int):Int:=if a<b then -1 else if b<a then 1 else 0
theorem cmp_word {a b:Int} {k:Nat} (hk:k<4) (ha:Fits a) (hb:Fits b) (hs:a<0↔b<0) (he: ∀j,k<j→j<4→wrd a j=wrd b j) (hlt:wrd a k<wrd b k):a<b:=by
 unfold Fits at ha hb
 rcases k with _|_|_|_|k
 ·have h1:=he 1 (by omega) (by omega)
  have h2:=he 2 (by omega) (by omega)
  have h3:=he 3 (by omega) (by omega)
  simp only[wrd] at*
  omega
 ·have h2:=he 2 (by omega) (by omega)
  have h3:=he 3 (by omega) (by omega)
  simp only[wrd] at*
  omega
 ·have h3:=he 3 (by omega) (by omega)
  simp only[wrd] at*
  omega
 ·simp only[wrd] at*
  omega
 ·omega
theorem cmp_same {a b:Int} (ha:Fits a) (hb:Fits b) (hs:a<0↔b<0) (he: ∀j,j<4→wrd a j=wrd b j):a=b:=by
 unfold Fits at ha hb
 have h0:=he 0 (by omega)
 have h1:=he 1 (by omega)
 have h2:=he 2 (by omega)
 have h3:=he 3 (by omega)
 simp only[wrd] at*
 omega
structure CmpIn (w wr:World) (a b:Int):Prop where
 ra:wr.rowIs w.heap.size 36 4 (wdF a)
 rb:wr.rowIs (w.heap.size+1) 36 4 (wdF b)
 below:Below w.heap.size w wr
theorem wdF_get (n:Int): ∀i,i<4→(#[Value.int .u64 (wrd n 0), .int .u64 (wrd n 1), .int .u64 (wrd n 2), .int .u64 (wrd n 3)]:Array Value)[i]? =some (wdF n i):=fun i hi=>by
 rcases i with _|_|_|_|i<;>first|rfl|omega
theorem cmpIn_start (w:World) (a b:Int):CmpIn w ((w.alloc (wdC a)).alloc (wdC b)) a b:=by
 have h1:=World.rowIs_alloc w #[Value.int .u64 (wrd a 0), .int .u64 (wrd a 1), .int .u64 (wrd a 2), .int .u64 (wrd a 3)] 36 (wdF a) (wdF_get a)
 have h2:=World.rowIs_alloc (w.alloc (wdC a)) #[Value.int .u64 (wrd b 0), .int .u64 (wrd b 1), .int .u64 (wrd b 2), .int .u64 (wrd b 3)] 36 (wdF b) (wdF_get b)
 have e:(w.alloc (wdC a)).heap.size=w.heap.size+1:=by simp
 rw[e] at h2
 exact⟨World.rowIs.alloc h1 _,h2,below_alloc (below_alloc (Below.refl _ _))⟩
theorem CmpIn.later {w wr:World} {a b:Int} (h:CmpIn w wr a b) {w1:World} (x:Below wr.heap.size wr w1):CmpIn w w1 a b:=
 ⟨rowIs_touch (F:=[]) h.ra (Touch.of_below x) List.not_mem_nil,rowIs_touch (F:=[]) h.rb (Touch.of_below x) List.not_mem_nil,below_step x h.below⟩
set_option maxRecDepth 100000 in
set_option maxHeartbeats 4000000 in
theorem cmpW_any (a b:Int) (w:World) (ha:Fits a) (hb:Fits b):
  Calls Try.prog 89 #[.agg #[.int .u64 (wrd a 0), .int .u64 (wrd a 1), .int .u64 (wrd a 2), .int .u64 (wrd a 3)], .agg #[.int .u64 (wrd b 0), .int .u64 (wrd b 1), .int .u64 (wrd b 2), .int .u64 (wrd b 3)]] w
   fun e w'=>e= .returned (.int .i64 (cmpI a b))∧Below w.heap.size w w':=by
 have HS:=cmpIn_start w a b
 obtain⟨W,hW⟩: ∃W,W=(w.alloc (wdC a)).alloc (wdC b):=⟨_,rfl⟩
 have HX:=fun(W':World) (h:Below W.heap.size W W')=>Lib.hid (CmpIn.later (hW▸HS) h)
 have H1:=fun w=>Lib.hid (belowW_any a w ha)
 have H2:=fun w=>Lib.hid (belowW_any b w hb)
 have y:=fun(x:Later W) (i:Nat) (hi:i<4)=>World.rowIs.cell (HX x.1 x.2).out.ra hi
 have z:=fun(x:Later W) (i:Nat) (hi:i<4)=>World.rowIs.cell (HX x.1 x.2).out.rb hi
 have y0:=fun x=>y x 0 (by decide)
 have y1:=fun x=>y x 1 (by decide)
 have y2:=fun x=>y x 2 (by decide)
 have y3:=fun x=>y x 3 (by decide)
 have z0:=fun x=>z x 0 (by decide)
 have z1:=fun x=>z x 1 (by decide)
 have z2:=fun x=>z x 2 (by decide)
 have z3:=fun x=>z x 3 (by decide)
 unfold wdF at y0 y1 y2 y3 z0 z1 z2 z3
 clear y z HS
 by_cases h1:a<0
 ·by_cases h2:b<0
  ·have hs:=Lib.hid (show a<0↔b<0 by omega)
   rw[decide_eq_true h1] at H1
   rw[decide_eq_true h2] at H2
   have ha:=Lib.hid ha
   have hb:=Lib.hid hb
   clear h1 h2
   go_enter Try.func89,Try.ntmps89
   go_wp2_with fail
   rw[←hW]
   clear hW
   refine wp_region_later (by kernel_rfl) (by kernel_rfl) ?_
   repeat (first|go_big_quiet_step ((first|(go_at_call 45;with_reducible refine Later.call (H1 _).out)|(go_at_call 45;with_reducible refine Later.call (H2 _).out)))|quiet_step ((first|(go_at_call 45;with_reducible refine Later.call (H1 _).out)|(go_at_call 45;with_reducible refine Later.call (H2 _).out))))
   refine wpQuiet_nil ?_
   intro w1 hw
   obtain⟨x,hx⟩:=hw
   have hb1:Below W.heap.size W w1:=hx▸x.2
   have p0:=y0 ⟨w1,hb1⟩
   have p1:=y1 ⟨w1,hb1⟩
   have p2:=y2 ⟨w1,hb1⟩
   have p3:=y3 ⟨w1,hb1⟩
   simp only at p0 p1 p2 p3
   have HA:=Lib.hid (HX _ hb1).out
   clear hx x y0 y1 y2 y3 z0 z1 z2 z3 hb1
   go_wp2_with fail
   go_loopw [5] (fun i wr=>CmpIn w wr a b∧((∃k:Nat,k<4∧i= .int .i64 k∧ ∀j,k<j→j<4→wrd a j=wrd b j)∨(i= .int .i64 (-1)∧ ∀j,j<4→wrd a j=wrd b j))) (fun i _=>(intOf i+1).toNat)
   case atStart=>exact⟨HA.out, .inl ⟨3,by omega,rfl,fun j h1 h2=>absurd h1 (by omega)⟩⟩
   case round=>
    clear HA p0 p1 p2 p3
    obtain⟨hA,⟨k,hk,rfl,he⟩|⟨rfl,he⟩⟩:=hrel
    ·have ca:=World.rowIs.cell hA.ra hk
     have cb:=World.rowIs.cell hA.rb hk
     unfold wdF at ca cb
     have HE:=Lib.hid he
     have HA:=Lib.hid hA
     clear he hA
     rcases Int.lt_trichotomy (wrd a k) (wrd b k) with hlt|heq|hgt
     ·have hl:=cmp_word hk ha.out hb.out hs.out HE.out hlt
      have d1:=decide_eq_true hlt
      have HC:Hid (cmpI a b= -1):=Lib.hid (by unfold cmpI;rw[if_pos hl])
      generalize wrd a k=u at*
      generalize wrd b k=v at*
      clear hl
      go_wp2_with fail
      go_quiet (fail)
      go_wp2_with fail
      go_ret
      exact⟨by rw[HC.out];rfl,below_drewN HA.out.below _⟩
     ·have d1:decide (wrd a k<wrd b k)=false:=decide_eq_false (by omega)
      have d2:decide (wrd b k<wrd a k)=false:=decide_eq_false (by omega)
      have HQ:=Lib.hid heq
      clear heq
      go_wp2_with fail
      go_quiet (fail)
      go_wp2_with fail
      go_quiet (fail)
      go_wp2_with fail
      go_roundw
      case rel=>
       refine⟨HA.out.later (below_drewN (Below.refl _ _) _), ?_⟩
       by_cases hk0:k=0
       ·subst hk0
        exact .inr ⟨by go_num,fun j hj=>by
         by_cases e:j=0
         ·subst e;exact HQ.out
         ·exact HE.out j (by omega) hj⟩
       ·exact .inl ⟨k - 1,by omega,by go_num,fun j h1 h2=>by
         by_cases e:j=k
         ·subst e;exact HQ.out
         ·exact HE.out j (by omega) h2⟩
      case measure=>first|(simp[intOf];done)|(simp[intOf];omega)
     ·have hl:=cmp_word hk hb.out ha.out hs.out.symm (fun j h1 h2=>(HE.out j h1 h2).symm) hgt
      have d1:decide (wrd a k<wrd b k)=false:=decide_eq_false (by omega)
      have d2:=decide_eq_true hgt
      have HC:Hid (cmpI a b=1):=Lib.hid (by unfold cmpI;rw[if_neg (by omega),if_pos hl])
      generalize wrd a k=u at*
      generalize wrd b k=v at*
      clear hl
      go_wp2_with fail
      go_quiet (fail)
      go_wp2_with fail
      go_quiet (fail)
      go_wp2_with fail
      go_ret
      exact⟨by rw[HC.out];rfl,below_drewN (below_drewN HA.out.below _) _⟩
    ·have HC:Hid (cmpI a b=0):=Lib.hid (by rw[cmp_same ha.out hb.out hs.out he];unfold cmpI;rw[if_neg (by omega),if_neg (by omega)])
     have HA:=Lib.hid hA
     clear he hA
     go_wp2_with fail
     go_ret
     exact⟨by rw[HC.out];rfl,HA.out.below⟩
  ·have e:cmpI a b= -1:=by unfold cmpI;rw[if_pos (by omega)]
   rw[e]
   rw[decide_eq_true h1] at H1
   rw[decide_eq_false h2] at H2
   clear e h1 h2 ha hb
   go_enter Try.func89,Try.ntmps89
   go_wp2_with fail
   rw[←hW]
   clear hW
   refine wp_region_later (by kernel_rfl) (by kernel_rfl) ?_
   repeat (first|go_big_quiet_step ((first|(go_at_call 45;with_reducible refine Later.call (H1 _).out)|(go_at_call 45;with_reducible refine Later.call (H2 _).out)))|quiet_step ((first|(go_at_call 45;with_reducible refine Later.call (H1 _).out)|(go_at_call 45;with_reducible refine Later.call (H2 _).out))))
   refine wpQuiet_nil ?_
   intro w1 hw
   obtain⟨x,hx⟩:=hw
   have hb1:Below W.heap.size W w1:=hx▸x.2
   have p0:=y0 ⟨w1,hb1⟩
   have p1:=y1 ⟨w1,hb1⟩
   have p2:=y2 ⟨w1,hb1⟩
   have p3:=y3 ⟨w1,hb1⟩
   simp only at p0 p1 p2 p3
   have HA:=Lib.hid (HX _ hb1).out
   clear hx x y0 y1 y2 y3 z0 z1 z2 z3 hb1
   go_wp2_with fail
   refine(H1 _).out.mono ?_
   rintro e w2 ⟨rfl,hb2⟩
   have HB:=Lib.hid (below_step hb2 HA.out.below)
   clear hb2
   go_wp2_with fail
   go_ret
   exact⟨rfl,HB.out⟩
 ·by_cases h2:b<0
  ·have e:cmpI a b=1:=by unfold cmpI;rw[if_neg (by omega),if_pos (by omega)]
   rw[e]
   rw[decide_eq_false h1] at H1
   rw[decide_eq_true h2] at H2
   clear e h1 h2 ha hb
   go_enter Try.func89,Try.ntmps89
   go_wp2_with fail
   rw[←hW]
   clear hW
   refine wp_region_later (by kernel_rfl) (by kernel_rfl) ?_
   repeat (first|go_big_quiet_step ((first|(go_at_call 45;with_reducible refine Later.call (H1 _).out)|(go_at_call 45;with_reducible refine Later.call (H2 _).out)))|quiet_step ((first|(go_at_call 45;with_reducible refine Later.call (H1 _).out)|(go_at_call 45;with_reducible refine Later.call (H2 _).out))))
   refine wpQuiet_nil ?_
   intro w1 hw
   obtain⟨x,hx⟩:=hw
   have hb1:Below W.heap.size W w1:=hx▸x.2
   have p0:=y0 ⟨w1,hb1⟩
   have p1:=y1 ⟨w1,hb1⟩
   have p2:=y2 ⟨w1,hb1⟩
   have p3:=y3 ⟨w1,hb1⟩
   simp only at p0 p1 p2 p3
   have HA:=Lib.hid (HX _ hb1).out
   clear hx x y0 y1 y2 y3 z0 z1 z2 z3 hb1
   go_wp2_with fail
   refine(H1 _).out.mono ?_
   rintro e w2 ⟨rfl,hb2⟩
   have HB:=Lib.hid (below_step hb2 HA.out.below)
   clear hb2
   go_wp2_with fail
   go_ret
   exact⟨rfl,HB.out⟩
  ·have hs:=Lib.hid (show a<0↔b<0 by omega)
   rw[decide_eq_false h1] at H1
   rw[decide_eq_false h2] at H2
   have ha:=Lib.hid ha
   have hb:=Lib.hid hb
   clear h1 h2
   go_enter Try.func89,Try.ntmps89
   go_wp2_with fail
   rw[←hW]
   clear hW
   refine wp_region_later (by kernel_rfl) (by kernel_rfl) ?_
   repeat (first|go_big_quiet_step ((first|(go_at_call 45;with_reducible refine Later.call (H1 _).out)|(go_at_call 45;with_reducible refine Later.call (H2 _).out)))|quiet_step ((first|(go_at_call 45;with_reducible refine Later.call (H1 _).out)|(go_at_call 45;with_reducible refine Later.call (H2 _).out))))
   refine wpQuiet_nil ?_
   intro w1 hw
   obtain⟨x,hx⟩:=hw
   have hb1:Below W.heap.size W w1:=hx▸x.2
   have p0:=y0 ⟨w1,hb1⟩
   have p1:=y1 ⟨w1,hb1⟩
   have p2:=y2 ⟨w1,hb1⟩
   have p3:=y3 ⟨w1,hb1⟩
   simp only at p0 p1 p2 p3
   have HA:=Lib.hid (HX _ hb1).out
   clear hx x y0 y1 y2 y3 z0 z1 z2 z3 hb1
   go_wp2_with fail
   go_loopw [5] (fun i wr=>CmpIn w wr a b∧((∃k:Nat,k<4∧i= .int .i64 k∧ ∀j,k<j→j<4→wrd a j=wrd b j)∨(i= .int .i64 (-1)∧ ∀j,j<4→wrd a j=wrd b j))) (fun i _=>(intOf i+1).toNat)
   case atStart=>exact⟨HA.out, .inl ⟨3,by omega,rfl,fun j h1 h2=>absurd h1 (by omega)⟩⟩
   case round=>
    clear HA p0 p1 p2 p3
    obtain⟨hA,⟨k,hk,rfl,he⟩|⟨rfl,he⟩⟩:=hrel
    ·have ca:=World.rowIs.cell hA.ra hk
     have cb:=World.rowIs.cell hA.rb hk
     unfold wdF at ca cb
     have HE:=Lib.hid he
     have HA:=Lib.hid hA
     clear he hA
     rcases Int.lt_trichotomy (wrd a k) (wrd b k) with hlt|heq|hgt
     ·have hl:=cmp_word hk ha.out hb.out hs.out HE.out hlt
      have d1:=decide_eq_true hlt
      have HC:Hid (cmpI a b= -1):=Lib.hid (by unfold cmpI;rw[if_pos hl])
      generalize wrd a k=u at*
      generalize wrd b k=v at*
      clear hl
      go_wp2_with fail
      go_quiet (fail)
      go_wp2_with fail
      go_ret
      exact⟨by rw[HC.out];rfl,below_drewN HA.out.below _⟩
     ·have d1:decide (wrd a k<wrd b k)=false:=decide_eq_false (by omega)
      have d2:decide (wrd b k<wrd a k)=false:=decide_eq_false (by omega)
      have HQ:=Lib.hid heq
      clear heq
      go_wp2_with fail
      go_quiet (fail)
      go_wp2_with fail
      go_quiet (fail)
      go_wp2_with fail
      go_roundw
      case rel=>
       refine⟨HA.out.later (below_drewN (Below.refl _ _) _), ?_⟩
       by_cases hk0:k=0
       ·subst hk0
        exact .inr ⟨by go_num,fun j hj=>by
         by_cases e:j=0
         ·subst e;exact HQ.out
         ·exact HE.out j (by omega) hj⟩
       ·exact .inl ⟨k - 1,by omega,by go_num,fun j h1 h2=>by
         by_cases e:j=k
         ·subst e;exact HQ.out
         ·exact HE.out j (by omega) h2⟩
      case measure=>first|(simp[intOf];done)|(simp[intOf];omega)
     ·have hl:=cmp_word hk hb.out ha.out hs.out.symm (fun j h1 h2=>(HE.out j h1 h2).symm) hgt
      have d1:decide (wrd a k<wrd b k)=false:=decide_eq_false (by omega)
      have d2:=decide_eq_true hgt
      have HC:Hid (cmpI a b=1):=Lib.hid (by unfold cmpI;rw[if_neg (by omega),if_pos hl])
      generalize wrd a k=u at*
      generalize wrd b k=v at*
      clear hl
      go_wp2_with fail
      go_quiet (fail)
      go_wp2_with fail
      go_quiet (fail)
      go_wp2_with fail
      go_ret
      exact⟨by rw[HC.out];rfl,below_drewN (below_drewN HA.out.below _) _⟩
    ·have HC:Hid (cmpI a b=0):=Lib.hid (by rw[cmp_same ha.out hb.out hs.out he];unfold cmpI;rw[if_neg (by omega),if_neg (by omega)])
     have HA:=Lib.hid hA
     clear he hA
     go_wp2_with fail
     go_ret
     exact⟨by rw[HC.out];rfl,HA.out.below⟩
end Go.Proofs.Ythopjhifepijiaa
namespace Go.Proofs.Ythopjhifepijiaa
open Go.RowKit Go.Joins
open Go.Maps (Keyed)
theorem area_snoc (l:List (Pt × Pt)) (x:Pt × Pt):areaL (l++[x])=areaL l+(x.1.x*x.2.y - x.2.x*x.1.y):=by unfold areaL;rw[List.foldl_append];rfl
def inL (l:List (Pt × Pt)):Prop:= ∀x∈l,inB x.1=true∧inB x.2=true
theorem mul_in {a b:Int} (ha: -268435456≤a∧a≤268435456) (hb: -268435456≤b∧b≤268435456): -72057594037927936≤a*b∧a*b≤72057594037927936:=by
 have:=mul_bd (M:=268435456) (N:=268435456) ha.1 ha.2 hb.1 hb.2
 omega
theorem area_go: ∀(l:List (Pt × Pt)) (s:Int),inL l→s - 144115188075855872*(l.length:Int)≤l.foldl (fun s x=>s+(x.1.x*x.2.y - x.2.x*x.1.y)) s∧l.foldl (fun s x=>s+(x.1.x*x.2.y - x.2.x*x.1.y)) s≤s+144115188075855872*(l.length:Int)
 | [],s,_=>by simp
 |x::l,s,h=>by
  have h1:=area_go l (s+(x.1.x*x.2.y - x.2.x*x.1.y)) (fun y hy=>h y (by simp[hy]))
  have h2:=h x (by simp)
  have a:=inB_iff.1 h2.1
  have b:=inB_iff.1 h2.2
  have m1:=mul_in ⟨a.1,a.2.1⟩ ⟨b.2.2.1,b.2.2.2⟩
  have m2:=mul_in ⟨b.1,b.2.1⟩ ⟨a.2.2.1,a.2.2.2⟩
  rw[List.foldl_cons,List.length_cons]
  generalize x.1.x*x.2.y=P at*
  generalize x.2.x*x.1.y=Q at*
  generalize List.foldl _ _ l=Z at*
  omega
theorem area_bd {l:List (Pt × Pt)} (h:inL l): -144115188075855872*(l.length:Int)≤areaL l∧areaL l≤144115188075855872*(l.length:Int):=by
 have:=area_go l 0 h
 unfold areaL
 omega
theorem area_fits {l:List (Pt × Pt)} (h:inL l) (hl:l.length≤100000):Fits (areaL l):=by
 have:=area_bd h
 unfold Fits
 omega
structure SumS (w wr:World) (l:List (Pt × Pt)) (k:Nat):Prop where
 res:wr.rowIs w.heap.size 36 4 (wdF 0)
 all:wr.rowIs (w.heap.size+1) 36 4 (wdF (areaL (l.take k)))
 below:Below w.heap.size w wr
theorem SumS.later {w wr w2:World} {l:List (Pt × Pt)} {k:Nat} (h:SumS w wr l k) (b:Below wr.heap.size wr w2):SumS w w2 l k:=
 ⟨rowIs_touch (F:=[]) h.res (Touch.of_below b) (by simp),rowIs_touch (F:=[]) h.all (Touch.of_below b) (by simp),below_step b h.below⟩
theorem SumS.put {w wr:World} {l:List (Pt × Pt)} {k:Nat} (h:SumS w wr l k) {k':Nat}:SumS w ((((wr.setCell ⟨w.heap.size+1,0,none⟩ (.int .u64 (wrd (areaL (l.take k')) 0))).setCell ⟨w.heap.size+1,1,none⟩ (.int .u64 (wrd (areaL (l.take k')) 1))).setCell ⟨w.heap.size+1,2,none⟩ (.int .u64 (wrd (areaL (l.take k')) 2))).setCell ⟨w.heap.size+1,3,none⟩ (.int .u64 (wrd (areaL (l.take k')) 3))) l k':=by
 refine⟨?_, ?_, ?_⟩
 ·exact World.rowIs.setOther (World.rowIs.setOther (World.rowIs.setOther (World.rowIs.setOther h.res (by simp) _) (by simp) _) (by simp) _) (by simp) _
 ·refine World.rowIs.congr (World.rowIs.set (World.rowIs.set (World.rowIs.set (World.rowIs.set h.all 0 _) 1 _) 2 _) 3 _) (fun i hi=> ?_)
  rcases i with _|_|_|_|i<;>first|rfl|omega
 ·exact(((h.below.setCell (by simp) _).setCell (by simp) _).setCell (by simp) _).setCell (by simp) _
set_option maxRecDepth 100000 in
set_option maxHeartbeats 4000000 in
theorem sum_any {w:World} {B n c:Nat} {a:Option Addr} {l:List (Pt × Pt)} (hl:LnIn w B a n l) (hB:B≤w.heap.size) (hi:inL l) (hn:n≤100000):
  Calls Try.prog 44 #[.slice a n c] w fun e w'=>e= .returned (.agg #[.int .u64 (wrd (areaL l) 0), .int .u64 (wrd (areaL l) 1), .int .u64 (wrd (areaL l) 2), .int .u64 (wrd (areaL l) 3)])∧Below w.heap.size w w':=by
 have HL:=fun(W:World) (hb:Below w.heap.size w W)=>Lib.hid (hl.below (hb.mono hB))
 have HN:=Lib.hid hl.1
 have HI:=Lib.hid hi
 clear hl hi
 have z0:(Value.int .u64 0)=wdF 0 0:=rfl
 have z1:(Value.int .u64 0)=wdF 0 1:=rfl
 have z2:(Value.int .u64 0)=wdF 0 2:=rfl
 have z3:(Value.int .u64 0)=wdF 0 3:=rfl
 have HS0:Hid (SumS w ((w.alloc (.cells #[.int .u64 0, .int .u64 0, .int .u64 0, .int .u64 0] 36)).alloc (.cells #[.int .u64 0, .int .u64 0, .int .u64 0, .int .u64 0] 36)) l 0):=Lib.hid (by
  refine⟨World.rowIs.alloc (World.rowIs_alloc w #[.int .u64 0, .int .u64 0, .int .u64 0, .int .u64 0] 36 (wdF 0) (fun i hi=>by rcases i with _|_|_|_|i<;>first|rfl|(simp at hi;omega))) _, ?_,below_alloc (below_alloc (Below.refl _ _))⟩
  have:=World.rowIs_alloc (w.alloc (.cells #[.int .u64 0, .int .u64 0, .int .u64 0, .int .u64 0] 36)) #[.int .u64 0, .int .u64 0, .int .u64 0, .int .u64 0] 36 (wdF 0) (fun i hi=>by rcases i with _|_|_|_|i<;>first|rfl|(simp at hi;omega))
  have e9:(w.alloc (.cells #[.int .u64 0, .int .u64 0, .int .u64 0, .int .u64 0] 36)).heap.size=w.heap.size+1:=by simp
  rw[e9] at this
  exact this)
 clear z0 z1 z2 z3
 go_enter Try.func44,Try.ntmps44
 go_wp2_with fail
 go_loopw [10] (fun i wr=> ∃k:Nat,k≤n∧i= .int .i64 k∧SumS w wr l k) (fun i _=>n - (intOf i).toNat)
 case atStart=>exact⟨0,Nat.zero_le _,rfl,HS0.out⟩
 case round=>
  clear HS0
  obtain⟨k,hk,rfl,hI⟩:=hrel
  have HS:=Lib.hid hI
  have a0:=World.rowIs.cell hI.all (i:=0) (by decide)
  have a1:=World.rowIs.cell hI.all (i:=1) (by decide)
  have a2:=World.rowIs.cell hI.all (i:=2) (by decide)
  have a3:=World.rowIs.cell hI.all (i:=3) (by decide)
  have fa:=fun i=>World.rowIs.frozen hI.all i
  have hal:=World.rowIs.lt hI.all
  simp only[wdF] at a0 a1 a2 a3
  clear hI
  by_cases hlt:k<n
  ·obtain⟨lb,loff,⟨⟨ax,ay⟩,⟨bx,by_⟩⟩,rfl,hlb,hx,c0,c1,c2,c3⟩:=(HL _ HS.out.below).out.at_ hlt
   have hbw:lb<wr.heap.size:=by have:=HS.out.below.size;omega
   have h2:=HI.out _ (List.mem_of_getElem? hx)
   have ha:=inB_iff.1 h2.1
   have hb:=inB_iff.1 h2.2
   have hTK:=take_snoc' hx
   have HAR:=Lib.hid (show areaL (l.take (k+1))=areaL (l.take k)+(ax*by_ - bx*ay) from by rw[hTK];exact area_snoc _ _)
   have HF1:=Lib.hid (show Fits (areaL (l.take k)) from area_fits (fun y hy=>HI.out y (List.mem_of_mem_take hy)) (by rw[List.length_take];have:=HN.out;omega))
   have HF2:=Lib.hid (show Fits (areaL (l.take (k+1))) from area_fits (fun y hy=>HI.out y (List.mem_of_mem_take hy)) (by rw[List.length_take];have:=HN.out;omega))
   simp only at ha hb c0 c1 c2 c3
   have m1:=mul_in ⟨ha.1,ha.2.1⟩ ⟨hb.2.2.1,hb.2.2.2⟩
   have m2:=mul_in ⟨hb.1,hb.2.1⟩ ⟨ha.2.2.1,ha.2.2.2⟩
   obtain⟨P,hP⟩: ∃P,P=ax*by_:=⟨_,rfl⟩
   obtain⟨Q,hQ⟩: ∃Q,Q=bx*ay:=⟨_,rfl⟩
   rw[←hP] at m1
   rw[←hQ] at m2
   rw[←hP, ←hQ] at HAR
   have v1:IntKind.i64.wrap (ax*by_)=P:=by rw[←hP];exact IntWalk.i64_in _ (by omega)
   have v2:IntKind.i64.wrap (bx*ay)=Q:=by rw[←hQ];exact IntWalk.i64_in _ (by omega)
   have u1:wrap64 (ax*by_)=P:=by rw[←hP];exact IntWalk.wrap64_in _ ⟨by omega,by omega⟩
   have u2:wrap64 (bx*ay)=Q:=by rw[←hQ];exact IntWalk.wrap64_in _ ⟨by omega,by omega⟩
   have HOF:=fun W=>Lib.hid (of_any (P - Q) W (by omega) (by omega))
   have HAD:=fun W=>Lib.hid (addW_any (areaL (l.take k)) (P - Q) W HF1.out (by unfold Fits;omega) (by rw[←HAR.out];exact HF2.out))
   rw[←HAR.out] at HAD
   obtain⟨A,hA⟩: ∃A,A=areaL (l.take k):=⟨_,rfl⟩
   rw[←hA] at HAD a0 a1 a2 a3
   have HAA:=Lib.hid hA
   clear hA
   obtain⟨A',hA'⟩: ∃A',A'=areaL (l.take (k+1)):=⟨_,rfl⟩
   rw[←hA'] at HAD
   have HA':=Lib.hid hA'
   clear hA' hP hQ hx h2 ha hb hTK HAR HF1 HF2
   generalize wrd (P - Q) 0=q0 at HOF HAD
   obtain⟨y0,hy0⟩: ∃y,y=wrd A' 0:=⟨_,rfl⟩
   rw[←hy0] at HAD
   obtain⟨p0,hp0⟩: ∃y,y=wrd A 0:=⟨_,rfl⟩
   rw[←hp0] at HAD a0
   generalize wrd (P - Q) 1=q1 at HOF HAD
   obtain⟨y1,hy1⟩: ∃y,y=wrd A' 1:=⟨_,rfl⟩
   rw[←hy1] at HAD
   obtain⟨p1,hp1⟩: ∃y,y=wrd A 1:=⟨_,rfl⟩
   rw[←hp1] at HAD a1
   generalize wrd (P - Q) 2=q2 at HOF HAD
   obtain⟨y2,hy2⟩: ∃y,y=wrd A' 2:=⟨_,rfl⟩
   rw[←hy2] at HAD
   obtain⟨p2,hp2⟩: ∃y,y=wrd A 2:=⟨_,rfl⟩
   rw[←hp2] at HAD a2
   generalize wrd (P - Q) 3=q3 at HOF HAD
   obtain⟨y3,hy3⟩: ∃y,y=wrd A' 3:=⟨_,rfl⟩
   rw[←hy3] at HAD
   obtain⟨p3,hp3⟩: ∃y,y=wrd A 3:=⟨_,rfl⟩
   rw[←hp3] at HAD a3
   have HYY:=Lib.hid (show y0=wrd A' 0∧y1=wrd A' 1∧y2=wrd A' 2∧y3=wrd A' 3 from⟨hy0,hy1,hy2,hy3⟩)
   have HPP:=Lib.hid (show p0=wrd A 0∧p1=wrd A 1∧p2=wrd A 2∧p3=wrd A 3 from⟨hp0,hp1,hp2,hp3⟩)
   clear hy0 hy1 hy2 hy3 hp0 hp1 hp2 hp3
   go_wp2_with fail
   refine(HOF _).out.mono ?_
   rintro e w3 ⟨rfl,hb3⟩
   have S3:=Lib.hid (HS.out.later (below_step hb3 (below_alloc (Below.refl wr.heap.size wr))))
   clear hb3 a0 a1 a2 a3 fa hal
   have a0:=World.rowIs.cell S3.out.all (i:=0) (by decide)
   have a1:=World.rowIs.cell S3.out.all (i:=1) (by decide)
   have a2:=World.rowIs.cell S3.out.all (i:=2) (by decide)
   have a3:=World.rowIs.cell S3.out.all (i:=3) (by decide)
   have hal:=World.rowIs.lt S3.out.all
   simp only[wdF, ←HAA.out] at a0 a1 a2 a3
   rw[←HPP.out.1] at a0
   rw[←HPP.out.2.1] at a1
   rw[←HPP.out.2.2.1] at a2
   rw[←HPP.out.2.2.2] at a3
   go_wp2_with fail
   refine(HAD _).out.mono ?_
   rintro e w4 ⟨rfl,hb4⟩
   have S4:=Lib.hid (S3.out.later (below_step hb4 (below_alloc (Below.refl w3.heap.size w3))))
   clear hb4 a0 a1 a2 a3 hal
   have a0:=World.rowIs.cell S4.out.all (i:=0) (by decide)
   have a1:=World.rowIs.cell S4.out.all (i:=1) (by decide)
   have a2:=World.rowIs.cell S4.out.all (i:=2) (by decide)
   have a3:=World.rowIs.cell S4.out.all (i:=3) (by decide)
   have fa:=fun i=>World.rowIs.frozen S4.out.all i
   simp only[wdF] at a0 a1 a2 a3
   go_wp2_with fail
   go_roundw
   case rel=>exact⟨k+1,by omega,by go_num,by obtain⟨e0,e1,e2,e3⟩:=HYY.out;rw[e0,e1,e2,e3,HA'.out];exact S4.out.put⟩
   case measure=>simp[intOf];omega
  ·obtain rfl:k=n:=by omega
   have HA:=Lib.hid (show areaL (l.take k)=areaL l from by rw[List.take_of_length_le (by have:=HN.out;omega)])
   rw[HA.out] at a0 a1 a2 a3
   have r0:=World.rowIs.cell HS.out.res (i:=0) (by decide)
   have r1:=World.rowIs.cell HS.out.res (i:=1) (by decide)
   have r2:=World.rowIs.cell HS.out.res (i:=2) (by decide)
   have r3:=World.rowIs.cell HS.out.res (i:=3) (by decide)
   have fr:=fun i=>World.rowIs.frozen HS.out.res i
   simp only[wdF] at r0 r1 r2 r3
   obtain⟨A,hA⟩: ∃A,A=areaL l:=⟨_,rfl⟩
   rw[←hA] at a0 a1 a2 a3
   have HAL:=Lib.hid hA
   clear hA HA
   go_wp2_with fail
   refine bodyPost_ret (v:= .agg #[.int .u64 (wrd A 0), .int .u64 (wrd A 1), .int .u64 (wrd A 2), .int .u64 (wrd A 3)]) (by simp[results,Try.results44,go_sem, *]) rfl ⟨by rw[HAL.out], ?_⟩
   exact(((HS.out.below.setCell (by simp) _).setCell (by simp) _).setCell (by simp) _).setCell (by simp) _
end Go.Proofs.Ythopjhifepijiaa
namespace Go.Proofs.Ythopjhifepijiaa
open Go.RowKit Go.Joins
open Go.Maps (Keyed)
def ptF (q:Pt):Nat→Value
 |0=> .int .i64 q.x
 |_=> .int .i64 q.y
theorem ptF_get (q:Pt): ∀i,i<2→(#[Value.int .i64 q.x, .int .i64 q.y]:Array Value)[i]? =some (ptF q i):=fun i hi=>by
 rcases i with _|_|i<;>first|rfl|omega
def TwoPt (wr wx:World) (p8 p9:Value) (a b:Pt):Prop:= ∃b8 b9,p8= .pointer (some ⟨b8,0,none⟩)∧p9= .pointer (some ⟨b9,0,none⟩)∧b8≠b9∧wr.heap.size≤b8∧wr.heap.size≤b9∧wx.rowIs b8 51 2 (ptF a)∧wx.rowIs b9 51 2 (ptF b)∧Below wr.heap.size wr wx
theorem par3_nm {P:Program} {ops:Array Oper} {Q:Exit→Act→World→Prop} {S:World→Prop} {n b f:Nat} {listed:Array Bool} {a:Act} {w:World} (h: ∀W,W=w→wpPar3 P ops Q S n b f listed a W):wpPar3 P ops Q S n b f listed a w:=h w rfl
theorem two_of (W:World) (a b:Pt):((W.alloc (ptC a)).alloc (ptC b)).rowIs W.heap.size 51 2 (ptF a)∧((W.alloc (ptC a)).alloc (ptC b)).rowIs (W.heap.size+1) 51 2 (ptF b):=by
 refine⟨World.rowIs.alloc (World.rowIs_alloc W #[.int .i64 a.x, .int .i64 a.y] 51 (ptF a) (ptF_get a)) _, ?_⟩
 have:=World.rowIs_alloc (W.alloc (ptC a)) #[.int .i64 b.x, .int .i64 b.y] 51 (ptF b) (ptF_get b)
 have e:(W.alloc (ptC a)).heap.size=W.heap.size+1:=by simp
 rw[e] at this
 exact this
def oddS (l:List (Pt × Pt)) (q:Pt):Bool:=l.foldl (fun o x=>if rayPr x.1 x.2 q=true then !o else o) false
theorem oddS_snoc (l:List (Pt × Pt)) (x:Pt × Pt) (q:Pt):oddS (l++[x]) q=if rayPr x.1 x.2 q=true then !oddS l q else oddS l q:=by unfold oddS;rw[List.foldl_append];rfl
set_option maxRecDepth 100000 in
set_option maxHeartbeats 4000000 in
theorem odd_any {w:World} {B n c:Nat} {a:Option Addr} {l:List (Pt × Pt)} {q:Pt} (hl:LnIn w B a n l) (hB:B≤w.heap.size) (hi:inL l) (hq:inB q=true) (hn:n≤100000):
  Calls Try.prog 49 #[.slice a n c, .agg #[.int .i64 q.x, .int .i64 q.y]] w fun e w'=>e= .returned (.bool (oddB l q))∧Below w.heap.size w w':=by
 rw[←odd_pr,show(l.foldl (fun o x=>if rayPr x.1 x.2 q=true then !o else o) false)=oddS l q from rfl]
 have HL:=fun(W:World) (hb:Below w.heap.size w W)=>Lib.hid (hl.below (hb.mono hB))
 have HN:=Lib.hid hl.1
 have HI:=Lib.hid hi
 have HQ:=Lib.hid hq
 clear hl hi hq
 go_enter Try.func49,Try.ntmps49
 go_wp2_with fail
 first|refine wp_name (fun W hW=> ?_)|refine calls_name (fun W hW=> ?_)
 have HW:Hid (Below w.heap.size w W):=Lib.hid (by rw[←hW];repeat (first|exact Below.refl _ _|refine below_alloc ?_))
 have HWs:Hid (W.heap.size=w.heap.size+1):=Lib.hid (by rw[←hW];simp)
 have HBW:Hid (W.heap.size≤W.heap.size):=Lib.hid (by have:=HWs.out;omega)
 have HC:=fun(W1:World) (hb:Below (W.heap.size) W W1)=>Lib.hid (show W1.cell? ⟨w.heap.size,0,none⟩=some (.int .i64 q.x)∧W1.cell? ⟨w.heap.size,1,none⟩=some (.int .i64 q.y) from by exact⟨(hb.cell (p:=⟨w.heap.size,0,none⟩) (by show w.heap.size<W.heap.size;have:=HWs.out;omega)).trans (by rw[←hW];clear hW;go_simp),(hb.cell (p:=⟨w.heap.size,1,none⟩) (by show w.heap.size<W.heap.size;have:=HWs.out;omega)).trans (by rw[←hW];clear hW;go_simp)⟩)
 have HB:=Lib.hid (Below.refl (W.heap.size) W)
 clear hW
 obtain⟨q1_0,q1_1⟩:=(HC _ HB.out).out
 have r1_0:=Nat.lt_of_lt_of_le (show w.heap.size<W.heap.size by have:=HWs.out;omega) HB.out.size
 clear q1_0 q1_1 r1_0
 go_loopw [5,12] (fun o i wr=> ∃k:Nat,k≤n∧i= .int .i64 k∧o= .bool (oddS (l.take k) q)∧Below W.heap.size W wr) (fun _ i _=>n - (intOf i).toNat)
 case atStart=>exact⟨0,Nat.zero_le _,rfl,rfl,HB.out⟩
 case round=>
  clear HB
  obtain⟨k,hk,rfl,rfl,hb⟩:=hrel
  have HB:=Lib.hid hb
  clear hb
  obtain⟨q2_0,q2_1⟩:=(HC _ HB.out).out
  have r2_0:=Nat.lt_of_lt_of_le (show w.heap.size<W.heap.size by have:=HWs.out;omega) HB.out.size
  by_cases hlt:k<n
  ·have HXW:=Lib.hid (HW.out.trans (HB.out.mono HW.out.size))
   obtain⟨lb,loff,⟨A,C⟩,rfl,hlb,hx,c0,c1,c2,c3⟩:=(HL _ HXW.out).out.at_ hlt
   have hbw:lb<wr.heap.size:=by have:=HXW.out.size;omega
   have HIN:=Lib.hid (HI.out _ (List.mem_of_getElem? hx))
   have HSN:=Lib.hid (show oddS (l.take (k+1)) q=if rayPr A C q=true then !oddS (l.take k) q else oddS (l.take k) q from by rw[take_snoc' hx];exact oddS_snoc _ _ _)
   have T1:=fun W=>Lib.hid (turn_any A C q W)
   have T2:=fun W=>Lib.hid (turn_any C A q W)
   simp only at HIN
   rw[HIN.out.1,HIN.out.2,HQ.out] at T1 T2
   simp only[Bool.and_self,if_true] at T1 T2
   clear hx
   unfold rayPr at HSN
   obtain⟨ax,ay⟩:=A
   obtain⟨bx,by_⟩:=C
   simp only at c0 c1 c2 c3 HSN T1 T2
   obtain⟨o,ho⟩: ∃o,o=oddS (l.take k) q:=⟨_,rfl⟩
   rw[←ho] at HSN ⊢
   clear ho
   have HBR:=Lib.hid (show W.heap.size≤wr.heap.size from HB.out.size)
   go_upto_region 5 with fail
   go_cut [8,9] (fun p8 p9 wx=>TwoPt wr wx p8 p9 ⟨ax,ay⟩ ⟨bx,by_⟩)
   case first=>
    go_wp2_with fail
    refine wp_name (fun c hc=> ?_)
    have HCB:=Lib.hid (show Below wr.heap.size wr c from by rw[←hc];exact below_alloc (Below.refl _ _))
    have HCS:=Lib.hid (show wr.heap.size<c.heap.size from by rw[←hc];simp)
    have hcc:c.cell? ⟨wr.heap.size,0,none⟩=some (.int .i64 ax)∧c.cell? ⟨wr.heap.size,0+1,none⟩=some (.int .i64 ay)∧c.cell? ⟨wr.heap.size,0+1+1,none⟩=some (.int .i64 bx)∧c.cell? ⟨wr.heap.size,0+1+1+1,none⟩=some (.int .i64 by_):=by
     rw[←hc]
     clear hc
     simp[World.cell?_alloc_new]
    simp only[Nat.zero_add,Nat.reduceAdd] at hcc
    have HY:=fun(w':World) (t:Below c.heap.size c w')=>Lib.hid (show w'.cell? ⟨wr.heap.size,0,none⟩=some (.int .i64 ax)∧w'.cell? ⟨wr.heap.size,1,none⟩=some (.int .i64 ay)∧w'.cell? ⟨wr.heap.size,2,none⟩=some (.int .i64 bx)∧w'.cell? ⟨wr.heap.size,3,none⟩=some (.int .i64 by_) from
     ⟨(t.cell (p:=⟨wr.heap.size,_,none⟩) HCS.out).trans hcc.1,(t.cell (p:=⟨wr.heap.size,_,none⟩) HCS.out).trans hcc.2.1,(t.cell (p:=⟨wr.heap.size,_,none⟩) HCS.out).trans hcc.2.2.1,(t.cell (p:=⟨wr.heap.size,_,none⟩) HCS.out).trans hcc.2.2.2⟩)
    have HS0:=Lib.hid (Below.refl c.heap.size c).drew
    clear hc hcc c0 c1 c2 c3
    refine wp_region_noPanic ?_
    refine wp_region_par3 7 7 (by kernel_rfl) (by kernel_rfl) (by simp) (by omega) (by kernel_rfl) (by kernel_rfl) (fun w':World=>Below c.heap.size c w') ?_
    refine par3_move (v:= ?_) 0 (by simp only[zga,zgb,zgc];rfl) (by kernel_rfl) (by rfl) ?_ (fun _ _ _ h=>h) ?_
    rotate_left
    ·(intro w9;go_simp;try with_reducible rfl)
    simp only[Act.put,zpa,zpb,zpc]
    refine par3_read (v:= ?_) 1 (by simp only[zga,zgb,zgc];rfl) (by kernel_rfl) (by rfl) HS0.out ?_ (fun _ _ _ h=>h) ?_
    rotate_left
    ·(intro w9 hSw;obtain⟨y0,y1,y2,y3⟩:=(HY w9 hSw).out;clear hSw;go_simp;try with_reducible rfl)
    simp only[Act.put,zpa,zpb,zpc]
    refine par3_move (v:= ?_) 2 (by simp only[zga,zgb,zgc];rfl) (by kernel_rfl) (by rfl) ?_ (fun _ _ _ h=>h) ?_
    rotate_left
    ·(intro w9;go_simp;try with_reducible rfl)
    simp only[Act.put,zpa,zpb,zpc]
    refine par3_read (v:= ?_) 3 (by simp only[zga,zgb,zgc];rfl) (by kernel_rfl) (by rfl) HS0.out ?_ (fun _ _ _ h=>h) ?_
    rotate_left
    ·(intro w9 hSw;obtain⟨y0,y1,y2,y3⟩:=(HY w9 hSw).out;clear hSw;go_simp;try with_reducible rfl)
    simp only[Act.put,zpa,zpb,zpc]
    refine par3_nm (fun W8 hW8=> ?_)
    rw[←hW8] at HS0
    have HWZ:=Lib.hid (show W8.heap.size=c.heap.size from by rw[hW8];rfl)
    clear hW8
    refine par3_two 4 5 (by simp only[zga,zgb,zgc];rfl) (by simp only[zga,zgb,zgc];rfl) (by kernel_rfl) (by rfl) (by rfl) ?_ ?_
    ·refine owp_val (v:= ?_) (w1:= ?_) ?_ ?_
     rotate_left 2
     ·(go_simp;constructor<;>rfl)
     refine⟨fun s _=>s.alloc s.size _, ?_⟩
     simp only[Act.put,zpa,zpb,zpc]
     refine par3_one 5 (by simp only[zga,zgb,zgc];rfl) (by kernel_rfl) (by rfl) ?_
     refine owp_val (v:= ?_) (w1:= ?_) ?_ ?_
     rotate_left 2
     ·(go_simp;constructor<;>rfl)
     refine⟨fun s _=>s.alloc s.size _, ?_⟩
     simp only[Act.put,zpa,zpb,zpc]
     refine par3_one 6 (by simp only[zga,zgb,zgc];rfl) (by kernel_rfl) (by rfl) ?_
     have hwz:=HWZ.out
     refine owp_skip (w1:= ?_) ?_ ?_
     rotate_left
     ·(go_simp;first|rfl|(constructor<;>rfl))
     refine⟨fun s _=>by first|exact(HS0.out.alloc HS0.out.size _).alloc (HS0.out.alloc HS0.out.size _).size _|exact(s.setCell (by simp;omega) _).setCell (by simp;omega) _, ?_⟩
     simp only[Act.put,zpa,zpb,zpc]
     refine par3_tail _ (by simp only[List.drop_succ_cons,List.drop_zero];rfl) (by kernel_rfl) ?_
     go_wp2_with fail
     refine NoPanic.normal ?_
     go_step
     go_step
     go_meet
     have hws:=HCS.out
     have HFIN:=Lib.hid (show Below wr.heap.size wr ((W8.alloc (ptC ⟨ax,ay⟩)).alloc (ptC ⟨bx,by_⟩)) from(HCB.out.trans (HS0.out.mono HCB.out.size)).trans (below_alloc (below_alloc (Below.refl _ _)) |>.mono (by omega)))
     exact⟨_,_,rfl,rfl,by omega,by omega,by omega,(two_of W8 ⟨ax,ay⟩ ⟨bx,by_⟩).1,(two_of W8 ⟨ax,ay⟩ ⟨bx,by_⟩).2,HFIN.out⟩
    ·refine owp_val (v:= ?_) (w1:= ?_) ?_ ?_
     rotate_left 2
     ·(go_simp;constructor<;>rfl)
     refine⟨fun s _=>s.alloc s.size _, ?_⟩
     simp only[Act.put,zpa,zpb,zpc]
     refine par3_one 4 (by simp only[zga,zgb,zgc];rfl) (by kernel_rfl) (by rfl) ?_
     refine owp_val (v:= ?_) (w1:= ?_) ?_ ?_
     rotate_left 2
     ·(go_simp;constructor<;>rfl)
     refine⟨fun s _=>s.alloc s.size _, ?_⟩
     simp only[Act.put,zpa,zpb,zpc]
     refine par3_one 6 (by simp only[zga,zgb,zgc];rfl) (by kernel_rfl) (by rfl) ?_
     have hwz:=HWZ.out
     refine owp_skip (w1:= ?_) ?_ ?_
     rotate_left
     ·(go_simp;first|rfl|(constructor<;>rfl))
     refine⟨fun s _=>by first|exact(HS0.out.alloc HS0.out.size _).alloc (HS0.out.alloc HS0.out.size _).size _|exact(s.setCell (by simp;omega) _).setCell (by simp;omega) _, ?_⟩
     simp only[Act.put,zpa,zpb,zpc]
     refine par3_tail _ (by simp only[List.drop_succ_cons,List.drop_zero];rfl) (by kernel_rfl) ?_
     go_wp2_with fail
     refine NoPanic.normal ?_
     go_step
     go_step
     go_meet
     have hws:=HCS.out
     have HFIN:=Lib.hid (show Below wr.heap.size wr ((W8.alloc (ptC ⟨bx,by_⟩)).alloc (ptC ⟨ax,ay⟩)) from(HCB.out.trans (HS0.out.mono HCB.out.size)).trans (below_alloc (below_alloc (Below.refl _ _)) |>.mono (by omega)))
     exact⟨_,_,rfl,rfl,by omega,by omega,by omega,(two_of W8 ⟨bx,by_⟩ ⟨ax,ay⟩).2,(two_of W8 ⟨bx,by_⟩ ⟨ax,ay⟩).1,HFIN.out⟩
   case rest=>
    obtain⟨b8,b9,rfl,rfl,hne,h8,h9,r8,r9,hbc⟩:=hcut
    have HB:=Lib.hid (below_next HB.out (Nat.le_trans HBW.out HB.out.size) hbc)
    have HR8:=Lib.hid r8
    have HR9:=Lib.hid r9
    have HWB:=Lib.hid (show W.heap.size≤b8∧W.heap.size≤b9 from by have:=HXW.out;have h1:=HWs.out;have h2:=hbw;exact⟨Nat.le_trans HBR.out h8,Nat.le_trans HBR.out h9⟩)
    have HCX:=Lib.hid hbc.size
    clear hbc c0 c1 c2 c3 hbw
    obtain⟨a0,a1⟩:wc.cell? ⟨b8,0,none⟩=some (.int .i64 ax)∧wc.cell? ⟨b8,1,none⟩=some (.int .i64 ay):=⟨World.rowIs.cell r8 (i:=0) (by decide),World.rowIs.cell r8 (i:=1) (by decide)⟩
    obtain⟨d0,d1⟩:wc.cell? ⟨b9,0,none⟩=some (.int .i64 bx)∧wc.cell? ⟨b9,1,none⟩=some (.int .i64 by_):=⟨World.rowIs.cell r9 (i:=0) (by decide),World.rowIs.cell r9 (i:=1) (by decide)⟩
    have l8:=World.rowIs.lt r8
    have l9:=World.rowIs.lt r9
    have f8:=fun i=>World.rowIs.frozen r8 i
    have f9:=fun i=>World.rowIs.frozen r9 i
    clear r8 r9 h8 h9
    clear q2_0 q2_1 r2_0
    obtain⟨q3_0,q3_1⟩:=(HC _ HB.out).out
    have r3_0:=Nat.lt_of_lt_of_le (show w.heap.size<W.heap.size by have:=HWs.out;omega) HB.out.size
    have HNE:=Lib.hid hne
    have hne':=Ne.symm hne
    obtain⟨t1,ht1⟩: ∃t,t=trn ⟨ax,ay⟩ ⟨bx,by_⟩ q:=⟨_,rfl⟩
    obtain⟨t2,ht2⟩: ∃t,t=trn ⟨bx,by_⟩ ⟨ax,ay⟩ q:=⟨_,rfl⟩
    rw[←ht1] at HSN T1
    rw[←ht2] at HSN T2
    clear ht1 ht2
    have hq8:w.heap.size≠b8:=by have:=HWB.out;have:=HWs.out;omega
    have hq9:w.heap.size≠b9:=by have:=HWB.out;have:=HWs.out;omega
    have hq8':=Ne.symm hq8
    have hq9':=Ne.symm hq9
    by_cases h1:q.y<ay
    ·by_cases h2:q.y<by_
     ·have HV:=Lib.hid (show oddS (l.take (k+1)) q=o from HSN.out.trans (by simp[h1,h2]))
      go_wp2_with fail
      go_roundw
      case rel=>exact⟨k+1,by omega,by go_num,by rw[HV.out],HB.out⟩
      case measure=>simp[intOf];omega
     ·have h3:by_<ay:=by omega
      by_cases h4:0<t2
      ·have HV:=Lib.hid (show oddS (l.take (k+1)) q=(!o) from HSN.out.trans (by simp[h1,h2,h3,h4]))
       go_wp2_with fail
       refine(T2 _).out.mono ?_
       rintro e w3 ⟨rfl,hb3⟩
       have HB3:=hb3
       go_wp2_with fail
       go_roundw
       case rel=>
        refine⟨k+1,by omega,by go_num,by rw[HV.out], ?_⟩
        refine below_next ?_ ?_ HB3
        ·repeat (first|exact HB.out|refine Below.setCell ?_ (by first|exact HWB.out.1|exact HWB.out.2) _)
        ·try simp
         exact Nat.le_trans HBR.out HCX.out
       case measure=>simp[intOf];omega
      ·have HV:=Lib.hid (show oddS (l.take (k+1)) q=o from HSN.out.trans (by simp[h1,h2,h3,h4]))
       go_wp2_with fail
       refine(T2 _).out.mono ?_
       rintro e w3 ⟨rfl,hb3⟩
       have HB3:=hb3
       go_wp2_with fail
       go_roundw
       case rel=>
        refine⟨k+1,by omega,by go_num,by rw[HV.out], ?_⟩
        refine below_next ?_ ?_ HB3
        ·repeat (first|exact HB.out|refine Below.setCell ?_ (by first|exact HWB.out.1|exact HWB.out.2) _)
        ·try simp
         exact Nat.le_trans HBR.out HCX.out
       case measure=>simp[intOf];omega
    ·by_cases h2:q.y<by_
     ·have h3: ¬by_<ay:=by omega
      by_cases h4:0<t1
      ·have HV:=Lib.hid (show oddS (l.take (k+1)) q=(!o) from HSN.out.trans (by simp[h1,h2,h3,h4]))
       go_wp2_with fail
       refine(T1 _).out.mono ?_
       rintro e w3 ⟨rfl,hb3⟩
       have HB3:=hb3
       go_wp2_with fail
       go_roundw
       case rel=>
        refine⟨k+1,by omega,by go_num,by rw[HV.out], ?_⟩
        refine below_next ?_ ?_ HB3
        ·repeat (first|exact HB.out|refine Below.setCell ?_ (by first|exact HWB.out.1|exact HWB.out.2) _)
        ·try simp
         exact Nat.le_trans HBR.out HCX.out
       case measure=>simp[intOf];omega
      ·have HV:=Lib.hid (show oddS (l.take (k+1)) q=o from HSN.out.trans (by simp[h1,h2,h3,h4]))
       go_wp2_with fail
       refine(T1 _).out.mono ?_
       rintro e w3 ⟨rfl,hb3⟩
       have HB3:=hb3
       go_wp2_with fail
       go_roundw
       case rel=>
        refine⟨k+1,by omega,by go_num,by rw[HV.out], ?_⟩
        refine below_next ?_ ?_ HB3
        ·repeat (first|exact HB.out|refine Below.setCell ?_ (by first|exact HWB.out.1|exact HWB.out.2) _)
        ·try simp
         exact Nat.le_trans HBR.out HCX.out
       case measure=>simp[intOf];omega
     ·have HV:=Lib.hid (show oddS (l.take (k+1)) q=o from HSN.out.trans (by simp[h1,h2]))
      go_wp2_with fail
      go_roundw
      case rel=>exact⟨k+1,by omega,by go_num,by rw[HV.out],HB.out⟩
      case measure=>simp[intOf];omega
  ·obtain rfl:k=n:=by omega
   have F:=Lib.hid (show oddS (l.take k) q=oddS l q from by rw[List.take_of_length_le (by have:=HN.out;omega)])
   go_wp2_with fail
   go_ret
   exact⟨by rw[←F.out];rfl,(HW.out.trans (HB.out.mono (by have:=HWs.out;omega)))⟩
end Go.Proofs.Ythopjhifepijiaa
namespace Go.Proofs.Ythopjhifepijiaa
open Go.RowKit Go.Joins Go.Shelf Go.Lib
open Go.Maps (Keyed)
def tchP (q:Pt) (x:Pt × Pt):Bool:=decide (q=x.1)||(decide (q=x.2)||onB q x.1 x.2)
set_option maxRecDepth 100000 in
set_option maxHeartbeats 4000000 in
theorem touch1_any (q:Pt) (x:Pt × Pt) (W:World) {b:Nat} (h0:W.cell? ⟨b,0,none⟩=some (.int .i64 q.x)) (h1:W.cell? ⟨b,1,none⟩=some (.int .i64 q.y)) (hb:b<W.heap.size):
  Calls Try.prog 79 (#[.agg (lnC x).toArray]++ #[.pointer (some ⟨b,0,none⟩)]) W fun e w'=>e= .returned (.bool (tchP q x))∧Below W.heap.size W w':=by
 obtain⟨u,v⟩:=x
 have HON:=fun W=>Lib.hid (on_any q u v W)
 show Calls Try.prog 79 #[.agg #[.int .i64 u.x, .int .i64 u.y, .int .i64 v.x, .int .i64 v.y], .pointer (some ⟨b,0,none⟩)] W _
 unfold tchP
 simp only
 cases h3:decide (q=u)
 ·have r1:=eq_pt_f h3
  cases h4:decide (q=v)
  ·have r2:=eq_pt_f h4
   generalize onB q u v=o at*
   clear h3 h4
   go_enter Try.func79,Try.ntmps79
   go_wp2_with fail
   refine(HON _).out.mono ?_
   rintro e w3 ⟨rfl,hb3⟩
   go_wp2_with fail
   go_ret
   exact⟨by simp,below_step hb3 (below_alloc (Below.refl _ _))⟩
  ·have r2:=eq_pt_t h4
   clear h3 h4
   go_enter Try.func79,Try.ntmps79
   go_wp2_with fail
   go_ret
   exact⟨by simp,below_alloc (Below.refl _ _)⟩
 ·have r1:=eq_pt_t h3
  clear h3
  go_enter Try.func79,Try.ntmps79
  go_wp2_with fail
  go_ret
  exact⟨by simp,below_alloc (Below.refl _ _)⟩
set_option maxRecDepth 100000 in
set_option maxHeartbeats 2000000 in
theorem cont_nil (a:Option Addr) (c:Nat) (fv:Value) (w:World):Calls Try.prog 78 #[.slice a 0 c,fv] w fun e w'=>e= .returned (.bool false)∧Below w.heap.size w w':=by
 have hi: ∀W,Calls Try.prog 96 #[.slice a 0 c,fv] W fun e w'=>e= .returned (.int .i64 (-1))∧Below W.heap.size W w':=fun W=>by
  go_enter Try.func96,Try.ntmps96
  go_wp2_with fail
  refine wp_loop_rounds 1 ?_
  rw[rounds_succ]
  go_wp2_with fail
  go_ret
  exact⟨rfl,Below.refl _ _⟩
 go_enter Try.func78,Try.ntmps78
 go_wp2_with fail
 refine(hi _).mono ?_
 rintro e w3 ⟨rfl,hb3⟩
 go_wp2_with fail
 go_ret
 exact⟨rfl,hb3⟩
instance:Inhabited (Pt × Pt):=⟨(⟨0,0⟩,⟨0,0⟩)⟩
set_option maxRecDepth 100000 in
set_option maxHeartbeats 2000000 in
theorem touches_any {w:World} {B n c:Nat} {a:Option Addr} {l:List (Pt × Pt)} (q:Pt) (hl:LnIn w B a n l) (hB:B≤w.heap.size) (hn:n≤100000):
  Calls Try.prog 48 #[.slice a n c, .agg #[.int .i64 q.x, .int .i64 q.y]] w fun e w'=>e= .returned (.bool (touchB l q))∧Below w.heap.size w w':=by
 have hmf: ∀(a:Value) (w:World),(Instr.makeFunc (Fn.func 79) #[] #[a]).run Try.prog w= .ok (.func (Fn.func 79) #[] #[a]) w:=fun a w=>by kernel_rfl
 have HC:Hid (Calls Try.prog 78 #[.slice a n c, .func (.func 79) #[] #[.pointer (some ⟨w.heap.size,0,none⟩)]] (w.alloc (ptC q)) fun e w'=>e= .returned (.bool (touchB l q))∧Below (w.alloc (ptC q)).heap.size (w.alloc (ptC q)) w'):=Lib.hid (by
  obtain⟨h1,h2|⟨b,off,e,hb,hs⟩⟩:=hl
  ·have e:l=[]:=List.eq_nil_of_length_eq_zero (by omega)
   subst e h2
   exact cont_nil _ _ _ _
  ·subst e
   have eg: ∀args w,(callFunc 79 args).run Try.prog w= .ok (.enter 79 args) w:=enters_of Try.func79 (by kernel_rfl) rfl
   have ho:=ptc_new w q
   have hcon:=AnyQ.slices_ContainsFunc Try.contPp 4 Try.isAgg156 Try.sizeOf156 lnC (fun _=>rfl) (tchP q) 79 #[.pointer (some ⟨w.heap.size,0,none⟩)] eg b off n c l (w.alloc (ptC q))
    (fun W x hb=>(touch1_any q x W ((hb.cell (p:=⟨w.heap.size,0,none⟩) (by simp)).trans ho.1) ((hb.cell (p:=⟨w.heap.size,1,none⟩) (by simp)).trans ho.2) (by have:=hb.size;simp at this;omega)).mono (fun e w' h=>⟨h.1,below_step h.2 hb⟩)) (by omega) (by omega) (by simp;omega)
    (fun j hj i v hi=>by
     have hx:=hs j l[j] (List.getElem?_eq_getElem hj)
     rw[getElem!_pos l j hj] at hi
     refine((below_alloc (o:=ptC q) (Below.refl w.heap.size w)).cell (p:=⟨b,_,none⟩) (show b<w.heap.size by omega)).trans ?_
     rcases i with _|_|_|_|i
     ·cases hi;exact hx.1
     ·cases hi;exact hx.2.1
     ·cases hi;exact hx.2.2.1
     ·cases hi;exact hx.2.2.2
     ·simp[lnC] at hi)
   rw[List.take_of_length_le (by omega)] at hcon
   exact hcon)
 clear hl
 go_enter Try.func48,Try.ntmps48
 go_wp2_with fail
 refine HC.out.mono ?_
 rintro e w3 ⟨rfl,hb3⟩
 go_wp2_with fail
 go_ret
 exact⟨rfl,below_step hb3 (below_alloc (Below.refl _ _))⟩
theorem findV_pt (vs:List Vx) (id:Int):(findV vs id).at_=ptZ vs id:=by
 unfold findV ptZ ptOf
 show((vs.find? (fun v=>v.id==id)).getD ⟨0,⟨0,0⟩⟩).at_=_
 cases vs.find? (fun v=>v.id==id)<;>rfl
theorem endsP_line {p:PL} {h:Hf} (hk:hasE p.es h.edge=true):endsP p h=lineH p h:=by
 unfold endsP lineH ptH
 rw[findV_pt,findV_pt]
 unfold hasE findE at*
 have e1:edgeOf p.es h.edge=p.es.find? (isE h.edge):=rfl
 unfold fromH
 rw[show(twinH h).edge=h.edge from rfl,show(twinH h).back= !h.back from rfl,e1]
 cases e:p.es.find? (isE h.edge) with
 |none=>rw[e] at hk;cases hk
 |some f=>cases h.back<;>simp
theorem known_mem {p:PL} {h:Hf} (hk:hasE p.es h.edge=true):h∈halvesE p.es:=by
 unfold hasE at hk
 obtain⟨e,he⟩:=Option.isSome_iff_exists.1 hk
 exact mem_halves.2 ⟨e,List.mem_of_find?_eq_some he,by have:=List.find?_some he;simpa[isE] using this⟩
theorem mem_known {p:PL} {h:Hf} (hm:h∈halvesE p.es):hasE p.es h.edge=true:=by
 obtain⟨e,he,e1⟩:=mem_halves.1 hm
 unfold hasE
 rw[List.find?_isSome]
 exact⟨e,he,by simpa[isE] using e1⟩
theorem known_lines {p:PL} {R:List Hf} (hk:knownB p R=true):R.map (endsP p)=R.map (lineH p):=List.map_congr_left (fun h hh=>endsP_line (List.all_eq_true.1 hk h hh))
theorem known_of {p:PL} {R:List Hf} (h: ∀x∈R,x∈halvesE p.es):knownB p R=true:=List.all_eq_true.2 (fun x hx=>mem_known (h x hx))
theorem RightP.lines_in {p:PL} (r:RightP p) {R:List Hf} (h: ∀x∈R,x∈halvesE p.es):inL (R.map (lineH p)):=fun x hx=>by
 obtain⟨y,hy,rfl⟩:=List.mem_map.1 hx
 have:=r.half_pts (h y hy)
 exact⟨this.1,this.2.1⟩
noncomputable def withinPr (p:PL) (R:List Hf) (q:Pt):Bool:=(rightB p&&knownB p R)&&(inB q&&(!touchB (R.map (lineH p)) q&&oddB (R.map (lineH p)) q))
set_option maxRecDepth 100000 in
set_option maxHeartbeats 4000000 in
theorem within_any {w:World} {B vn vc en ec n c:Nat} {va ea a:Option Addr} {p:PL} {R:List Hf} (q:Pt) (hv:VsIn w B va vn p.vs) (he:EsIn w B ea en p.es) (hr:HsIn w B a n R) (hB:B≤w.heap.size) (hn:vn≤100000) (hm:en≤100000) (hec:en≤ec) (hfit:FitPL p) (hl:n≤100000):
  Calls Try.prog 20 #[.agg #[.slice va vn vc, .slice ea en ec], .slice a n c, .agg #[.int .i64 q.x, .int .i64 q.y]] w fun e w'=>e= .returned (.bool (withinPr p R q))∧Below w.heap.size w w':=by
 have HPT:=fun(W:World) (hb:Below w.heap.size w W)=>Lib.hid (points_any (w:=W) (vc:=vc) (c:=c) (hv.below (hb.mono hB)) (he.below (hb.mono hB)) (hr.below (hb.mono hB)) (Nat.le_trans hB hb.size) hn hm hec hfit hl)
 have HRL:=Lib.hid hr.1
 have HIN:=fun W=>Lib.hid (in_any q W)
 clear hv he hr hfit
 go_enter Try.func20,Try.ntmps20
 go_wp2_with fail
 first|refine wp_name (fun W hW=> ?_)|refine calls_name (fun W hW=> ?_)
 have HW:Hid (Below w.heap.size w W):=Lib.hid (by rw[←hW];repeat (first|exact Below.refl _ _|refine below_alloc ?_))
 have HWs:Hid (W.heap.size=w.heap.size+1+1):=Lib.hid (by rw[←hW];simp)
 have HBW:Hid (W.heap.size≤W.heap.size):=Lib.hid (by have:=HWs.out;omega)
 have HC:=fun(W1:World) (hb:Below (W.heap.size) W W1)=>Lib.hid (show W1.cell? ⟨w.heap.size,0,none⟩=some (.slice va vn vc)∧W1.cell? ⟨w.heap.size,1,none⟩=some (.slice ea en ec)∧W1.cell? ⟨w.heap.size+1,0,none⟩=some (.int .i64 q.x)∧W1.cell? ⟨w.heap.size+1,1,none⟩=some (.int .i64 q.y) from by exact⟨(hb.cell (p:=⟨w.heap.size,0,none⟩) (by show w.heap.size<W.heap.size;have:=HWs.out;omega)).trans (by rw[←hW];clear hW;go_simp),(hb.cell (p:=⟨w.heap.size,1,none⟩) (by show w.heap.size<W.heap.size;have:=HWs.out;omega)).trans (by rw[←hW];clear hW;go_simp),(hb.cell (p:=⟨w.heap.size+1,0,none⟩) (by show w.heap.size+1<W.heap.size;have:=HWs.out;omega)).trans (by rw[←hW];clear hW;go_simp),(hb.cell (p:=⟨w.heap.size+1,1,none⟩) (by show w.heap.size+1<W.heap.size;have:=HWs.out;omega)).trans (by rw[←hW];clear hW;go_simp)⟩)
 have HB:=Lib.hid (Below.refl (W.heap.size) W)
 clear hW
 obtain⟨q1_0,q1_1,q1_2,q1_3⟩:=(HC _ HB.out).out
 have r1_0:=Nat.lt_of_lt_of_le (show w.heap.size<W.heap.size by have:=HWs.out;omega) HB.out.size
 have r1_1:=Nat.lt_of_lt_of_le (show w.heap.size+1<W.heap.size by have:=HWs.out;omega) HB.out.size
 refine(HPT _ HW.out).out.mono ?_
 rintro e w1 (⟨a1,c1,hr1,hr2,rfl,hlo,hb1⟩|⟨hno,rfl,hb1⟩)
 ·have HB:=Lib.hid (below_next HB.out (Nat.le_trans HBW.out HB.out.size) hb1)
  have HKN:=Lib.hid hr2
  have HRR:=Lib.hid (rightB_iff.1 hr1)
  have hln:=lnIn_of_own hlo (by simp)
  rw[known_lines hr2] at hln
  clear hlo
  have HLN:=Lib.hid hln
  have HLI:=Lib.hid (HRR.out.lines_in (fun x hx=>known_mem (List.all_eq_true.1 hr2 x hx)))
  have HV:=Lib.hid (show withinPr p R q=(inB q&&(!touchB (R.map (lineH p)) q&&oddB (R.map (lineH p)) q)) from by unfold withinPr;rw[hr1,hr2];rfl)
  clear q1_0 q1_1 q1_2 q1_3 r1_0 r1_1
  obtain⟨q2_0,q2_1,q2_2,q2_3⟩:=(HC _ HB.out).out
  have r2_0:=Nat.lt_of_lt_of_le (show w.heap.size<W.heap.size by have:=HWs.out;omega) HB.out.size
  have r2_1:=Nat.lt_of_lt_of_le (show w.heap.size+1<W.heap.size by have:=HWs.out;omega) HB.out.size
  clear hb1 hr1 hr2 hln
  have HTC:=fun(W:World) (hb:Below w1.heap.size w1 W)=>Lib.hid (touches_any (c:=c1) q (HLN.out.below hb) hb.size (by have:=HRL.out;omega))
  cases hq:inB q
  ·rw[hq] at HIN
   rw[hq] at HV
   clear hq
   go_wp2_with fail
   refine((HIN _).out).mono ?_
   rintro e w3 ⟨rfl,hb3⟩
   have HB:=Lib.hid (below_next (below_next HB.out (Nat.le_trans HBW.out HB.out.size) (by repeat (first|exact Below.refl _ _|refine below_alloc ?_))) (by first|exact(Nat.le_trans HBW.out HB.out.size)|(simp;done)|(have h1:=HBW.out;have h2:=HB.out.size;simp;omega)) hb3)
   clear q2_0 q2_1 q2_2 q2_3 r2_0 r2_1
   obtain⟨q3_0,q3_1,q3_2,q3_3⟩:=(HC _ HB.out).out
   clear hb3
   have r3_0:=Nat.lt_of_lt_of_le (show w.heap.size<W.heap.size by have:=HWs.out;omega) HB.out.size
   have r3_1:=Nat.lt_of_lt_of_le (show w.heap.size+1<W.heap.size by have:=HWs.out;omega) HB.out.size
   go_wp2_with fail
   go_ret
   exact⟨by rw[HV.out];simp,(HW.out.trans (HB.out.mono (by have:=HWs.out;omega)))⟩
  ·rw[hq] at HIN HV
   have HOD:=fun(W:World) (hb:Below w1.heap.size w1 W)=>Lib.hid (odd_any (c:=c1) (HLN.out.below hb) hb.size HLI.out hq (by have:=HRL.out;omega))
   clear hq
   generalize oddB (R.map (lineH p)) q=o at HOD HV
   cases ht:touchB (R.map (lineH p)) q
   ·rw[ht] at HTC HV
    clear ht
    go_wp2_with fail
    refine(HIN _).out.mono ?_
    rintro e w3 ⟨rfl,hb3⟩
    have HB3:=Lib.hid hb3
    have HB:=Lib.hid (below_next HB.out (Nat.le_trans HBW.out HB.out.size) hb3)
    clear hb3
    clear q2_0 q2_1 q2_2 q2_3 r2_0 r2_1
    obtain⟨q5_0,q5_1,q5_2,q5_3⟩:=(HC _ HB.out).out
    have r5_0:=Nat.lt_of_lt_of_le (show w.heap.size<W.heap.size by have:=HWs.out;omega) HB.out.size
    have r5_1:=Nat.lt_of_lt_of_le (show w.heap.size+1<W.heap.size by have:=HWs.out;omega) HB.out.size
    go_wp2_with fail
    refine(HTC _ HB3.out).out.mono ?_
    rintro e w4 ⟨rfl,hb4⟩
    have HB4:=Lib.hid (below_step hb4 HB3.out)
    have HB:=Lib.hid (below_next HB.out (Nat.le_trans HBW.out HB.out.size) hb4)
    clear hb4
    clear q5_0 q5_1 q5_2 q5_3 r5_0 r5_1
    obtain⟨q6_0,q6_1,q6_2,q6_3⟩:=(HC _ HB.out).out
    have r6_0:=Nat.lt_of_lt_of_le (show w.heap.size<W.heap.size by have:=HWs.out;omega) HB.out.size
    have r6_1:=Nat.lt_of_lt_of_le (show w.heap.size+1<W.heap.size by have:=HWs.out;omega) HB.out.size
    go_wp2_with fail
    refine(HOD _ HB4.out).out.mono ?_
    rintro e w5 ⟨rfl,hb5⟩
    have HB:=Lib.hid (below_next HB.out (Nat.le_trans HBW.out HB.out.size) hb5)
    clear hb5
    go_wp2_with fail
    go_ret
    exact⟨by rw[HV.out];simp,(HW.out.trans (HB.out.mono (by have:=HWs.out;omega)))⟩
   ·rw[ht] at HTC HV
    clear ht
    go_wp2_with fail
    refine(HIN _).out.mono ?_
    rintro e w3 ⟨rfl,hb3⟩
    have HB3:=Lib.hid hb3
    have HB:=Lib.hid (below_next HB.out (Nat.le_trans HBW.out HB.out.size) hb3)
    clear hb3
    clear q2_0 q2_1 q2_2 q2_3 r2_0 r2_1
    obtain⟨q8_0,q8_1,q8_2,q8_3⟩:=(HC _ HB.out).out
    have r8_0:=Nat.lt_of_lt_of_le (show w.heap.size<W.heap.size by have:=HWs.out;omega) HB.out.size
    have r8_1:=Nat.lt_of_lt_of_le (show w.heap.size+1<W.heap.size by have:=HWs.out;omega) HB.out.size
    go_wp2_with fail
    refine(HTC _ HB3.out).out.mono ?_
    rintro e w4 ⟨rfl,hb4⟩
    have HB:=Lib.hid (below_next HB.out (Nat.le_trans HBW.out HB.out.size) hb4)
    clear hb4
    go_wp2_with fail
    go_ret
    exact⟨by rw[HV.out];simp,(HW.out.trans (HB.out.mono (by have:=HWs.out;omega)))⟩
 ·have HB:=Lib.hid (below_next HB.out (Nat.le_trans HBW.out HB.out.size) hb1)
  have HV:=Lib.hid (show withinPr p R q=false from by unfold withinPr;rcases hno with h|h<;>simp[h])
  clear hb1 hno
  clear q1_0 q1_1 q1_2 q1_3 r1_0 r1_1
  obtain⟨q10_0,q10_1,q10_2,q10_3⟩:=(HC _ HB.out).out
  have r10_0:=Nat.lt_of_lt_of_le (show w.heap.size<W.heap.size by have:=HWs.out;omega) HB.out.size
  have r10_1:=Nat.lt_of_lt_of_le (show w.heap.size+1<W.heap.size by have:=HWs.out;omega) HB.out.size
  go_wp2_with fail
  go_ret
  exact⟨by rw[HV.out];rfl,(HW.out.trans (HB.out.mono (by have:=HWs.out;omega)))⟩
noncomputable def areaPr (p:PL) (R:List Hf):Int:=if (rightB p&&knownB p R)=true then areaL (R.map (lineH p)) else 0
set_option maxRecDepth 100000 in
set_option maxHeartbeats 4000000 in
theorem area_any {w:World} {B vn vc en ec n c:Nat} {va ea a:Option Addr} {p:PL} {R:List Hf} (hv:VsIn w B va vn p.vs) (he:EsIn w B ea en p.es) (hr:HsIn w B a n R) (hB:B≤w.heap.size) (hn:vn≤100000) (hm:en≤100000) (hec:en≤ec) (hfit:FitPL p) (hl:n≤100000):
  Calls Try.prog 13 #[.agg #[.slice va vn vc, .slice ea en ec], .slice a n c] w fun e w'=>e= .returned (.agg #[.int .u64 (wrd (areaPr p R) 0), .int .u64 (wrd (areaPr p R) 1), .int .u64 (wrd (areaPr p R) 2), .int .u64 (wrd (areaPr p R) 3)])∧Below w.heap.size w w':=by
 have HPT:=fun(W:World) (hb:Below w.heap.size w W)=>Lib.hid (points_any (w:=W) (vc:=vc) (c:=c) (hv.below (hb.mono hB)) (he.below (hb.mono hB)) (hr.below (hb.mono hB)) (Nat.le_trans hB hb.size) hn hm hec hfit hl)
 have HRL:=Lib.hid hr.1
 clear hv he hr hfit
 go_enter Try.func13,Try.ntmps13
 go_wp2_with fail
 first|refine wp_name (fun W hW=> ?_)|refine calls_name (fun W hW=> ?_)
 have HW:Hid (Below w.heap.size w W):=Lib.hid (by rw[←hW];repeat (first|exact Below.refl _ _|refine below_alloc ?_))
 have HWs:Hid (W.heap.size=w.heap.size+1+1):=Lib.hid (by rw[←hW];simp)
 have HBW:Hid (W.heap.size≤W.heap.size):=Lib.hid (by have:=HWs.out;omega)
 have HC:=fun(W1:World) (hb:Below (W.heap.size) W W1)=>Lib.hid (show W1.cell? ⟨w.heap.size,0,none⟩=some (.slice va vn vc)∧W1.cell? ⟨w.heap.size,1,none⟩=some (.slice ea en ec)∧W1.cell? ⟨w.heap.size+1,0,none⟩=some (.int .u64 0)∧W1.cell? ⟨w.heap.size+1,1,none⟩=some (.int .u64 0)∧W1.cell? ⟨w.heap.size+1,2,none⟩=some (.int .u64 0)∧W1.cell? ⟨w.heap.size+1,3,none⟩=some (.int .u64 0) from by exact⟨(hb.cell (p:=⟨w.heap.size,0,none⟩) (by show w.heap.size<W.heap.size;have:=HWs.out;omega)).trans (by rw[←hW];clear hW;go_simp),(hb.cell (p:=⟨w.heap.size,1,none⟩) (by show w.heap.size<W.heap.size;have:=HWs.out;omega)).trans (by rw[←hW];clear hW;go_simp),(hb.cell (p:=⟨w.heap.size+1,0,none⟩) (by show w.heap.size+1<W.heap.size;have:=HWs.out;omega)).trans (by rw[←hW];clear hW;go_simp),(hb.cell (p:=⟨w.heap.size+1,1,none⟩) (by show w.heap.size+1<W.heap.size;have:=HWs.out;omega)).trans (by rw[←hW];clear hW;go_simp),(hb.cell (p:=⟨w.heap.size+1,2,none⟩) (by show w.heap.size+1<W.heap.size;have:=HWs.out;omega)).trans (by rw[←hW];clear hW;go_simp),(hb.cell (p:=⟨w.heap.size+1,3,none⟩) (by show w.heap.size+1<W.heap.size;have:=HWs.out;omega)).trans (by rw[←hW];clear hW;go_simp)⟩)
 have HB:=Lib.hid (Below.refl (W.heap.size) W)
 obtain⟨q12_0,q12_1,q12_2,q12_3,q12_4,q12_5⟩:=(HC _ HB.out).out
 have r12_0:=Nat.lt_of_lt_of_le (show w.heap.size<W.heap.size by have:=HWs.out;omega) HB.out.size
 have r12_1:=Nat.lt_of_lt_of_le (show w.heap.size+1<W.heap.size by have:=HWs.out;omega) HB.out.size
 have HFZ:=fun(W1:World) (hb:Below W.heap.size W W1)=>Lib.hid (show∀j,W1.frozen? ⟨w.heap.size+1,j,none⟩=false from fun j=>(hb.frozen (p:=⟨w.heap.size+1,j,none⟩) (by show w.heap.size+1<W.heap.size;have:=HWs.out;omega)).trans (by rw[←hW];clear hW;go_simp))
 clear hW
 refine(HPT _ HW.out).out.mono ?_
 rintro e w1 (⟨a1,c1,hr1,hr2,rfl,hlo,hb1⟩|⟨hno,rfl,hb1⟩)
 ·have HB:=Lib.hid (below_next HB.out (Nat.le_trans HBW.out HB.out.size) hb1)
  have HRR:=Lib.hid (rightB_iff.1 hr1)
  have hln:=lnIn_of_own hlo (by simp)
  rw[known_lines hr2] at hln
  clear hlo
  have HLI:=Lib.hid (HRR.out.lines_in (fun x hx=>known_mem (List.all_eq_true.1 hr2 x hx)))
  have HV:=Lib.hid (show areaPr p R=areaL (R.map (lineH p)) from by unfold areaPr;rw[hr1,hr2];rfl)
  have HSM:=Lib.hid (sum_any (c:=c1) hln (Nat.le_refl _) HLI.out (by have:=HRL.out;omega))
  clear hb1 hr1 hr2 hln
  clear q12_0 q12_1 q12_2 q12_3 q12_4 q12_5 r12_0 r12_1
  obtain⟨q13_0,q13_1,q13_2,q13_3,q13_4,q13_5⟩:=(HC _ HB.out).out
  have r13_0:=Nat.lt_of_lt_of_le (show w.heap.size<W.heap.size by have:=HWs.out;omega) HB.out.size
  have r13_1:=Nat.lt_of_lt_of_le (show w.heap.size+1<W.heap.size by have:=HWs.out;omega) HB.out.size
  generalize hA:areaL (R.map (lineH p))=A at HSM HV
  clear hA
  generalize hy0:wrd A 0=y0 at HSM
  generalize hy1:wrd A 1=y1 at HSM
  generalize hy2:wrd A 2=y2 at HSM
  generalize hy3:wrd A 3=y3 at HSM
  have HYY:=Lib.hid (show wrd A 0=y0∧wrd A 1=y1∧wrd A 2=y2∧wrd A 3=y3 from⟨hy0,hy1,hy2,hy3⟩)
  clear hy0 hy1 hy2 hy3
  go_wp2_with fail
  refine HSM.out.mono ?_
  rintro e w3 ⟨rfl,hb3⟩
  have HB:=Lib.hid (below_next HB.out (Nat.le_trans HBW.out HB.out.size) hb3)
  clear hb3
  clear q13_0 q13_1 q13_2 q13_3 q13_4 q13_5 r13_0 r13_1
  obtain⟨q14_0,q14_1,q14_2,q14_3,q14_4,q14_5⟩:=(HC _ HB.out).out
  have r14_0:=Nat.lt_of_lt_of_le (show w.heap.size<W.heap.size by have:=HWs.out;omega) HB.out.size
  have r14_1:=Nat.lt_of_lt_of_le (show w.heap.size+1<W.heap.size by have:=HWs.out;omega) HB.out.size
  have fz:=(HFZ _ HB.out).out
  go_wp2_with fail
  refine bodyPost_ret (v:= .agg #[.int .u64 y0, .int .u64 y1, .int .u64 y2, .int .u64 y3]) (by simp[results,Try.results13,go_sem, *]) rfl ⟨by obtain⟨e0,e1,e2,e3⟩:=HYY.out;rw[HV.out,e0,e1,e2,e3], ?_⟩
  have h3:Below w.heap.size w w3:=HW.out.trans (HB.out.mono HW.out.size)
  exact(((h3.setCell (by simp) _).setCell (by simp) _).setCell (by simp) _).setCell (by simp) _
 ·have HB:=Lib.hid (below_next HB.out (Nat.le_trans HBW.out HB.out.size) hb1)
  have HV:=Lib.hid (show areaPr p R=0 from by unfold areaPr;rcases hno with h|h<;>simp[h])
  clear hb1 hno
  clear q12_0 q12_1 q12_2 q12_3 q12_4 q12_5 r12_0 r12_1
  obtain⟨q15_0,q15_1,q15_2,q15_3,q15_4,q15_5⟩:=(HC _ HB.out).out
  have r15_0:=Nat.lt_of_lt_of_le (show w.heap.size<W.heap.size by have:=HWs.out;omega) HB.out.size
  have r15_1:=Nat.lt_of_lt_of_le (show w.heap.size+1<W.heap.size by have:=HWs.out;omega) HB.out.size
  have fz:=(HFZ _ HB.out).out
  go_wp2_with fail
  refine bodyPost_ret (v:= .agg #[.int .u64 0, .int .u64 0, .int .u64 0, .int .u64 0]) (by simp[results,Try.results13,go_sem, *]) rfl ⟨by rw[HV.out];rfl, ?_⟩
  have h3:Below w.heap.size w w1:=HW.out.trans (HB.out.mono HW.out.size)
  exact(((h3.setCell (by simp) _).setCell (by simp) _).setCell (by simp) _).setCell (by simp) _
end Go.Proofs.Ythopjhifepijiaa
