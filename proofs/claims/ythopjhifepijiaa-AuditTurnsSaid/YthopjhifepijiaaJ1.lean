/- Lemmas on the way to the statement. -/
import Derived.ArgAppend
import Derived.Below
import Derived.BigQuiet
import Derived.ChangeSame
import Derived.Deep.Draws
import Derived.Deep.OwnRows
import Derived.Deep.Quiet
import Derived.Deep.QuietTactic
import Derived.DeepKeys4
import Derived.Laws.StructEq
import Derived.Lib.Hide
import Derived.Lib.SmallJoins
import Derived.Maps.Own
import Derived.Maps.OwnSet
import Derived.Maps.RangeWalk
import Derived.ProofKit
import Derived.StillTail
import Derived.Test.YthopjhifepijiaaRows
import Derived.WalkKit
import Derived.WalkSpells
set_option linter.unusedSimpArgs false
set_option linter.unusedVariables false
namespace Go.Proofs.Ythopjhifepijiaa
theorem zpa {α:Type} (l:List α) (i:Nat) (v:α):l.toArray.setIfInBounds i v=(l.set i v).toArray:=List.setIfInBounds_toArray ..
theorem zpb {α:Type} (x:α) (l:List α) (v:α):(x::l).set 0 v=v::l:=rfl
theorem zpc {α:Type} (x:α) (l:List α) (i:Nat) (v:α):(x::l).set (i+1) v=x::l.set i v:=rfl
theorem zga {α:Type} (l:List α) (i:Nat):l.toArray[i]? =l[i]? :=List.getElem?_toArray ..
theorem zgb {α:Type} (x:α) (l:List α) (i:Nat):(x::l)[i+1]? =l[i]? :=List.getElem?_cons_succ ..
theorem zgc {α:Type} (x:α) (l:List α):(x::l)[0]? =some x:=List.getElem?_cons_zero ..
end Go.Proofs.Ythopjhifepijiaa
namespace Go.Proofs.Ythopjhifepijiaa
theorem all_range_ints: ∀(xs ys:List Int),xs.length=ys.length→((List.range xs.length).all fun i=>xs.getD i 0==ys.getD i 0)=(xs==ys)
 | [],[],_=>rfl
 |x::xs,y::ys,h=>by
  have ih:=all_range_ints xs ys (by simpa using h)
  rw[List.length_cons,List.range_succ_eq_map,List.all_cons,List.all_map]
  simp only[List.getD_cons_zero,Function.comp_def,List.getD_cons_succ,ih]
  simp[List.cons_beq_cons]
 | [],_::_,h=>by simp at h
 |_::_,[],h=>by simp at h
section
variable {P:Program} (w:World)
theorem equalIn_ints (d:Nat) (t e:TypeId) (n:Nat) (q:IntKind) (ht:P.underlying t=some (.array n e)) (he:P.underlying e=some (.int q)) (hsz: ∀w,(sizeOf e).run P w= .ok 1 w)
  (xs ys:List Int) (hx:xs.length=n) (hy:ys.length=n):
  (Op.equalIn (d+2) t (.agg (xs.map (Value.int q)).toArray) (.agg (ys.map (Value.int q)).toArray)).run P w= .ok (xs==ys) w:=by
 rw[←all_range_ints xs ys (hx.trans hy.symm),hx,List.range_eq_range',Op.equalIn]
 simp only[Sem.run_bind,run_underlying ht,Result.andThen_ok,hsz,Std.Legacy.Range.forIn_eq_forIn_range',Std.Legacy.Range.size,Nat.sub_zero,Nat.add_sub_cancel,Nat.div_one]
 have hl: ∀i∈List.range' 0 n 1,i<n:=fun i hi=>by simpa using (List.mem_range'_1.1 hi).2
 generalize List.range' 0 n 1=l at hl ⊢
 induction l with
 |nil=>simp
 |cons i l ih=>
  have hi:i<n:=hl i (by simp)
  have px:(part e (xs.map (Value.int q)).toArray (i*1)).run P w= .ok (.int q (xs.getD i 0)) w:=by
   simp[part,isAgg,run_underlying he,List.getD,List.getElem?_eq_getElem (show i<xs.length by omega)]
  have py:(part e (ys.map (Value.int q)).toArray (i*1)).run P w= .ok (.int q (ys.getD i 0)) w:=by
   simp[part,isAgg,run_underlying he,List.getD,List.getElem?_eq_getElem (show i<ys.length by omega)]
  have pe:(Op.equalIn (d+1) e (.int q (xs.getD i 0)) (.int q (ys.getD i 0))).run P w= .ok (xs.getD i 0==ys.getD i 0) w:=run_equalIn_int w d e q q _ _ he
  simp only[List.forIn_cons,Sem.run_bind,px,py,pe,Result.andThen_ok,List.all_cons]
  cases hb:(xs.getD i 0==ys.getD i 0)
  ·simp
  ·simp only[Bool.not_true,Bool.false_eq_true,if_false,Sem.run_pure,Result.andThen_ok,Bool.true_and]
   exact ih fun j hj=>hl j (by simp[hj])
theorem eql_ints (t e:TypeId) (n:Nat) (q:IntKind) (ht:P.underlying t=some (.array n e)) (he:P.underlying e=some (.int q)) (hsz: ∀w,(sizeOf e).run P w= .ok 1 w)
  (xs ys:List Int) (hx:xs.length=n) (hy:ys.length=n):
  (binOp .eql t (.agg (xs.map (Value.int q)).toArray) (.agg (ys.map (Value.int q)).toArray)).run P w= .ok (.bool (xs==ys)) w:=by
 rw[run_eql_struct,equalIn_ints w 9998 t e n q ht he hsz xs ys hx hy]
 rfl
end
end Go.Proofs.Ythopjhifepijiaa
namespace Go.Proofs.Ythopjhifepijiaa
open Go.RowKit Go.WideShapes Go.ChangeShapes
section
variable {H:Type} {enc:TypeId × Value→H} {P:Program}
theorem post_of_below {f:Func} {s:ChangeSpec} {apart fresh handsOn again:Bool} {W W':World} {args:Array Value} {v:Value} {ds gs:List (DataW H)} {before pa pv:List MemPlace}
  (hW:DataW.Whole enc P f.params.toList s.vars apart W args.toList ds gs before)
  (hres: ∀(b:Nat) (sp:Nat→Bool) (hd:Bool),DataW.TrodAll enc P W' b sp hd f.resultTypes.toList (v.resultList f.resultTypes.size) (s.fn H (ds++gs)).results [])
  (hargs: ∀sp:Nat→Bool,(∀p∈before,sp p.block=true)→DataW.TrodAll enc P W' 0 sp true f.params.toList args.toList (s.fn H (ds++gs)).args pa)
  (hvars: ∀sp:Nat→Bool,(∀p∈before,sp p.block=true)→DataW.TrodVars enc P W' sp s.vars (s.fn H (ds++gs)).vars pv)
  (hps:before=pa++pv) (hb:Below W.heap.size W W')
  (hok: ∀(j:Nat) (t:TypeId) (r:Value),f.resultTypes[j]? =some t→(v.resultList f.resultTypes.size)[j]? =some r→Value.okWide P W' .any 0 t r):
  s.post enc P f apart fresh handsOn again W args v W':=by
 have hlt: ∀p∈before,p.block<W.heap.size:=fun p hp=>hW.lt p hp
 have hold: ∀p∈before,(fun b=>decide (b<W.heap.size)) p.block=true:=fun p hp=>by simpa using hlt p hp
 refine⟨ds,gs,before,[],pa,pv,hW,hres _ _ _,hargs _ hold,hvars _ hold,World.keptBut_mono (fun p hp=>⟨hp, ?_⟩) (hb.frame (· ∈before)),fun _=> ?_⟩
 ·rw[hps,List.mem_append] at hp
  exact Or.inr hp
 ·obtain⟨_,_,_,_,_,hz,hn⟩:=hW
  refine⟨hok,_,_,([]++pa)++pv,⟨[]++pa,pv,trodAll_append (hargs _ (fun _ _=>rfl)) (hres _ _ _),hvars _ (fun _ _=>rfl),rfl, ?_, ?_⟩, ?_⟩
  ·intro b off hp
   have hin:MemPlace.cell b off∈before:=by rw[hps];simpa using hp
   rw[hb.frozen (hlt _ hin)]
   exact hz b off hin
  ·intro ha
   have:=hn ha
   rw[hps] at this
   simpa using this
  ·intro p hp _
   rw[hps]
   simpa using hp
end
theorem bcell {W w1:World} {B:Nat} (hb:Below B W w1):(∀b o,b<B→w1.cell? ⟨b,o,none⟩=W.cell? ⟨b,o,none⟩)∧(∀b o,b<B→w1.frozen? ⟨b,o,none⟩=W.frozen? ⟨b,o,none⟩):=
 ⟨fun b o h=>hb.cell (p:=⟨b,o,none⟩) h,fun b o h=>hb.frozen (p:=⟨b,o,none⟩) h⟩
theorem below_next {B:Nat} {a b c:World} (h:Below B a b) (hB:B≤b.heap.size) (k:Below b.heap.size b c):Below B a c:=h.trans (k.mono hB)
theorem cell_lt {w:World} {b o:Nat} {v:Value} (h:w.cell? ⟨b,o,none⟩=some v):b<w.heap.size:=by
 rcases Nat.lt_or_ge b w.heap.size with h'|h'
 ·exact h'
 ·simp[World.cell?,Array.getElem?_eq_none h'] at h
theorem below_step {a b c:World} (k:Below b.heap.size b c) (h:Below a.heap.size a b):Below a.heap.size a c:=h.trans (k.mono h.size)
theorem below_alloc {a b:World} {o:Obj} (h:Below a.heap.size a b):Below a.heap.size a (b.alloc o):=h.alloc h.size o
theorem below_drew {B:Nat} {a b:World} (h:Below B a b):Below B a b.drew:=h.drew
end Go.Proofs.Ythopjhifepijiaa
namespace Go.Proofs.Ythopjhifepijiaa
open Go.RowKit
section
variable (w:World)
theorem equal_half (d:Nat) (e f:Int) (a b:Bool):(Op.equalIn (d+2) 45 (.agg #[.int .i64 e, .bool a]) (.agg #[.int .i64 f, .bool b])).run Try.prog w= .ok (e==f&&a==b) w:=by
 simp[go_sem]
 by_cases h1:e=f<;>by_cases h2:a=b<;>simp[h1,h2]
theorem equal_pair (d:Nat) (a b c e:Int):(Op.equalIn (d+2) 79 (.agg #[.int .i64 a, .int .i64 b]) (.agg #[.int .i64 c, .int .i64 e])).run Try.prog w= .ok (a==c&&b==e) w:=by
 have:=equalIn_ints (P:=Try.prog) w d 79 3 2 .i64 Try.underlying79 Try.underlying3 (fun _=>by kernel_rfl) [a,b] [c,e] rfl rfl
 simp only[List.map_cons,List.map_nil] at this
 rw[this]
 have:([a,b]== [c,e])=(a==c&&b==e):=by
  by_cases h1:a=c<;>by_cases h2:b=e<;>simp[h1,h2]
 rw[this]
theorem equal_halves (d:Nat) (a0 a1 b0 b1:Int) (x0 x1 y0 y1:Bool):(Op.equalIn (d+3) 78 (.agg #[.int .i64 a0, .bool x0, .int .i64 a1, .bool x1]) (.agg #[.int .i64 b0, .bool y0, .int .i64 b1, .bool y1])).run Try.prog w= .ok ((a0==b0&&x0==y0)&&(a1==b1&&x1==y1)) w:=by
 have hsz: ∀w,(sizeOf 45).run Try.prog w= .ok 2 w:=fun _=>by kernel_rfl
 rw[Op.equalIn]
 simp only[Sem.run_bind,run_underlying Try.underlying78,Result.andThen_ok,hsz,Std.Legacy.Range.forIn_eq_forIn_range',Std.Legacy.Range.size,Nat.sub_zero,Nat.add_sub_cancel,Nat.div_one]
 rw[show List.range' 0 2=[0,1] from rfl]
 have pt (e f:Int) (a b:Bool): ∀w,(part 45 #[Value.int .i64 e, .bool a, .int .i64 f, .bool b] (0*2)).run Try.prog w= .ok (.agg #[.int .i64 e, .bool a]) w:=fun _=>by kernel_rfl
 have pu (e f:Int) (a b:Bool): ∀w,(part 45 #[Value.int .i64 e, .bool a, .int .i64 f, .bool b] (1*2)).run Try.prog w= .ok (.agg #[.int .i64 f, .bool b]) w:=fun _=>by kernel_rfl
 have pt' (e f:Int) (a b:Bool): ∀w,(part 45 #[Value.int .i64 e, .bool a, .int .i64 f, .bool b] 0).run Try.prog w= .ok (.agg #[.int .i64 e, .bool a]) w:=fun _=>by kernel_rfl
 have pu' (e f:Int) (a b:Bool): ∀w,(part 45 #[Value.int .i64 e, .bool a, .int .i64 f, .bool b] 2).run Try.prog w= .ok (.agg #[.int .i64 f, .bool b]) w:=fun _=>by kernel_rfl
 simp only[List.forIn_cons,List.forIn_nil,Sem.run_bind,pt,pu,equal_half,Result.andThen_ok]
 cases h1:(a0==b0&&x0==y0)
 ·simp
 ·simp only[Bool.not_true,Bool.false_eq_true,if_false,Sem.run_pure,Result.andThen_ok,Bool.true_and]
  cases h2:(a1==b1&&x1==y1)
  ·simp[pu',equal_half,h2]
  ·simp[pu',equal_half,h2]
structure ER where
 id:Int
 a:Int
 b:Int
 n0:Int
 m0:Bool
 n1:Int
 m1:Bool
 p0:Int
 q0:Bool
 p1:Int
 q1:Bool
 f0:Int
 f1:Int
deriving DecidableEq
def erB (x y:ER):Bool:=(x.id==y.id&&(x.a==y.a&&(x.b==y.b&&(((x.n0==y.n0&&x.m0==y.m0)&&(x.n1==y.n1&&x.m1==y.m1))&&(((x.p0==y.p0&&x.q0==y.q0)&&(x.p1==y.p1&&x.q1==y.q1))&&(x.f0==y.f0&&x.f1==y.f1))))))
set_option maxRecDepth 100000 in
set_option maxHeartbeats 2000000 in
theorem equal_erow (x y:ER):(binOp .eql 81 (.agg #[.int .i64 x.id, .int .i64 x.a, .int .i64 x.b, .int .i64 x.n0, .bool x.m0, .int .i64 x.n1, .bool x.m1, .int .i64 x.p0, .bool x.q0, .int .i64 x.p1, .bool x.q1, .int .i64 x.f0, .int .i64 x.f1])
  (.agg #[.int .i64 y.id, .int .i64 y.a, .int .i64 y.b, .int .i64 y.n0, .bool y.m0, .int .i64 y.n1, .bool y.m1, .int .i64 y.p0, .bool y.q0, .int .i64 y.p1, .bool y.q1, .int .i64 y.f0, .int .i64 y.f1])).run Try.prog w= .ok (.bool (erB x y)) w:=by
 have h78: ∀(d:Nat) (a0 a1 b0 b1:Int) (x0 x1 y0 y1:Bool),(Op.equalIn (d+3) 78 (.agg #[.int .i64 a0, .bool x0, .int .i64 a1, .bool x1]) (.agg #[.int .i64 b0, .bool y0, .int .i64 b1, .bool y1])).run Try.prog w= .ok ((a0==b0&&x0==y0)&&(a1==b1&&x1==y1)) w:=fun d=>equal_halves w d
 have h79:=fun d=>equal_pair w d
 simp[go_sem,h78,h79]
 by_cases h0:x.id=y.id
 rotate_left
 ·simp[erB,h0]
 by_cases h1:x.a=y.a
 rotate_left
 ·simp[erB,h0,h1]
 by_cases h2:x.b=y.b
 rotate_left
 ·simp[erB,h0,h1,h2]
 by_cases h3:x.n0=y.n0
 rotate_left
 ·simp[erB,h0,h1,h2,h3]
 by_cases h4:x.m0=y.m0
 rotate_left
 ·simp[erB,h0,h1,h2,h3,h4]
 by_cases h5:x.n1=y.n1
 rotate_left
 ·simp[erB,h0,h1,h2,h3,h4,h5]
 by_cases h6:x.m1=y.m1
 rotate_left
 ·simp[erB,h0,h1,h2,h3,h4,h5,h6]
 by_cases h7:x.p0=y.p0
 rotate_left
 ·simp[erB,h0,h1,h2,h3,h4,h5,h6,h7]
 by_cases h8:x.q0=y.q0
 rotate_left
 ·simp[erB,h0,h1,h2,h3,h4,h5,h6,h7,h8]
 by_cases h9:x.p1=y.p1
 rotate_left
 ·simp[erB,h0,h1,h2,h3,h4,h5,h6,h7,h8,h9]
 by_cases h10:x.q1=y.q1
 rotate_left
 ·simp[erB,h0,h1,h2,h3,h4,h5,h6,h7,h8,h9,h10]
 by_cases h11:x.f0=y.f0
 rotate_left
 ·simp[erB,h0,h1,h2,h3,h4,h5,h6,h7,h8,h9,h10,h11]
 by_cases h12:x.f1=y.f1
 rotate_left
 ·simp[erB,h0,h1,h2,h3,h4,h5,h6,h7,h8,h9,h10,h11,h12]
 simp[erB,h0,h1,h2,h3,h4,h5,h6,h7,h8,h9,h10,h11,h12]
theorem erB_iff {x y:ER}:erB x y=true↔x=y:=by
 cases x
 cases y
 simp[erB,and_assoc]
structure VR where
 id:Int
 x:Int
 y:Int
 f:Int
deriving DecidableEq
end
end Go.Proofs.Ythopjhifepijiaa
namespace Go.Proofs.Ythopjhifepijiaa
open Go.RowKit
theorem below_drewN {B:Nat} {a w:World} (h:Below B a w) (q:Nat):Below B a (w.drewN q):=⟨h.os,h.tape,h.output,h.size,h.block⟩
def S (l:List UInt8):ByteArray:=⟨l.toArray⟩
def cut (s:ByteArray) (a k:Nat):List UInt8:=(s.data.toList.drop a).take k
end Go.Proofs.Ythopjhifepijiaa
namespace Go.Proofs.Ythopjhifepijiaa
structure Pt where
 x:Int
 y:Int
deriving DecidableEq,Inhabited
def inB (p:Pt):Bool:=decide (-268435456≤p.x∧p.x≤268435456∧ -268435456≤p.y∧p.y≤268435456)
theorem inB_iff {p:Pt}:inB p=true↔(-268435456≤p.x∧p.x≤268435456∧ -268435456≤p.y∧p.y≤268435456):=by simp[inB]
def fitP (p:Pt):Prop:= -9223372036854775808≤p.x∧p.x≤9223372036854775807∧ -9223372036854775808≤p.y∧p.y≤9223372036854775807
def lessB (a b:Pt):Bool:=decide (a.x<b.x∨(a.x=b.x∧a.y<b.y))
def crs (a b c:Pt):Int:=(b.x - a.x)*(c.y - a.y) - (b.y - a.y)*(c.x - a.x)
def trn (a b c:Pt):Int:=(crs a b c).sign
def btwB (p a b:Pt):Bool:=(lessB a p&&lessB p b)||(lessB b p&&lessB p a)
def onB (p a b:Pt):Bool:=(inB p&&inB a&&inB b)&&(decide (trn a b p=0)&&btwB p a b)
def meetB (a b c d:Pt):Bool:=
 if !(inB a&&inB b&&inB c&&inB d)||a=b||c=d then false
 else if onB a c d||onB b c d||onB c a b||onB d a b then true
 else if (a=c&&b=d)||(a=d&&b=c) then true
 else decide (trn a b c*trn a b d<0)&&decide (trn c d a*trn c d b<0)
def halfI (o a:Pt):Int:=if o.y<a.y∨(a.y=o.y∧o.x<a.x) then 0 else 1
def arnd (o a b:Pt):Int:=
 if !(inB o&&inB a&&inB b)||a=o||b=o then 0
 else if halfI o a - halfI o b≠0 then halfI o a - halfI o b else - trn o a b
theorem mul_bd {x y M N:Int} (h1: -M≤x) (h2:x≤M) (h3: -N≤y) (h4:y≤N): -(M*N)≤x*y∧x*y≤M*N:=by
 have hM:0≤M:=by omega
 have hN:0≤N:=by omega
 have a1:=Int.mul_nonneg (show 0≤M - x by omega) (show 0≤N+y by omega)
 have a2:=Int.mul_nonneg (show 0≤M+x by omega) (show 0≤N - y by omega)
 have a3:=Int.mul_nonneg (show 0≤M - x by omega) (show 0≤N - y by omega)
 have a4:=Int.mul_nonneg (show 0≤M+x by omega) (show 0≤N+y by omega)
 simp only[Int.sub_mul,Int.add_mul,Int.mul_add,Int.mul_sub] at a1 a2 a3 a4
 omega
theorem crs_bd {a b c:Pt} (ha:inB a=true) (hb:inB b=true) (hc:inB c=true):
  (-288230376151711744≤(b.x - a.x)*(c.y - a.y)∧(b.x - a.x)*(c.y - a.y)≤288230376151711744)∧(-288230376151711744≤(b.y - a.y)*(c.x - a.x)∧(b.y - a.y)*(c.x - a.x)≤288230376151711744):=by
 rw[inB_iff] at ha hb hc
 have h1:=mul_bd (x:=b.x - a.x) (y:=c.y - a.y) (M:=536870912) (N:=536870912) (by omega) (by omega) (by omega) (by omega)
 have h2:=mul_bd (x:=b.y - a.y) (y:=c.x - a.x) (M:=536870912) (N:=536870912) (by omega) (by omega) (by omega) (by omega)
 omega
theorem sign_cases (n:Int):(n<0∧n.sign= -1)∨(n=0∧n.sign=0)∨(0<n∧n.sign=1):=by
 rcases Int.lt_trichotomy n 0 with h|h|h
 ·exact .inl ⟨h,Int.sign_eq_neg_one_of_neg h⟩
 ·exact .inr (.inl ⟨h,by rw[h];rfl⟩)
 ·exact .inr (.inr ⟨h,Int.sign_eq_one_of_pos h⟩)
theorem trn_cases (a b c:Pt):trn a b c= -1∨trn a b c=0∨trn a b c=1:=by
 unfold trn
 rcases sign_cases (crs a b c) with h|h|h<;>omega
theorem trn_bd (a b c:Pt): -1≤trn a b c∧trn a b c≤1:=by rcases trn_cases a b c with h|h|h<;>omega
theorem half_bd (o a:Pt):0≤halfI o a∧halfI o a≤1:=by unfold halfI;split<;>omega
end Go.Proofs.Ythopjhifepijiaa
namespace Go.Proofs.Ythopjhifepijiaa
open Go.RowKit
set_option maxRecDepth 100000 in
theorem in_any (p:Pt) (w:World):Calls Try.prog 39 #[.agg #[.int .i64 p.x, .int .i64 p.y]] w fun e w'=>e= .returned (.bool (inB p))∧Below w.heap.size w w':=by
 obtain⟨v,hv⟩: ∃v,v=inB p:=⟨_,rfl⟩
 rw[←hv]
 have hc:(v=true∧ -268435456≤p.x∧p.x≤268435456∧ -268435456≤p.y∧p.y≤268435456)∨(v=false∧ ¬ -268435456≤p.x)∨(v=false∧ -268435456≤p.x∧ ¬p.x≤268435456)∨(v=false∧ -268435456≤p.x∧p.x≤268435456∧ ¬ -268435456≤p.y)∨
   (v=false∧ -268435456≤p.x∧p.x≤268435456∧ -268435456≤p.y∧ ¬p.y≤268435456):=by
  cases v
  ·have:=hv.symm
   rw[Bool.eq_false_iff,ne_eq,inB_iff] at this
   simp only[true_and,Bool.false_eq_true,false_and,false_or]
   omega
  ·exact .inl ⟨rfl,inB_iff.1 hv.symm⟩
 clear hv
 rcases hc with ⟨rfl,h1,h2,h3,h4⟩|⟨rfl,h1⟩|⟨rfl,h1,h2⟩|⟨rfl,h1,h2,h3⟩|⟨rfl,h1,h2,h3,h4⟩
 all_goals
  go_enter Try.func39,Try.ntmps39
  go_wp2_with fail
  go_ret
  exact⟨rfl,below_alloc (Below.refl _ _)⟩
set_option maxRecDepth 100000 in
theorem less_any (a b:Pt) (w:World):Calls Try.prog 72 #[.agg #[.int .i64 a.x, .int .i64 a.y], .agg #[.int .i64 b.x, .int .i64 b.y]] w fun e w'=>e= .returned (.bool (lessB a b))∧Below w.heap.size w w':=by
 obtain⟨v,hv⟩: ∃v,v=lessB a b:=⟨_,rfl⟩
 rw[←hv]
 have hc:(v=true∧a.x<b.x)∨(v=true∧ ¬a.x<b.x∧(a.x==b.x)=true∧a.y<b.y)∨(v=false∧ ¬a.x<b.x∧(a.x==b.x)=true∧ ¬a.y<b.y)∨(v=false∧ ¬a.x<b.x∧(a.x==b.x)=false):=by
  rw[hv]
  simp only[lessB,decide_eq_true_eq,decide_eq_false_iff_not,beq_iff_eq,beq_eq_false_iff_ne];omega
 clear hv
 rcases hc with ⟨rfl,h1⟩|⟨rfl,h1,h2,h3⟩|⟨rfl,h1,h2,h3⟩|⟨rfl,h1,h2⟩
 all_goals
  go_enter Try.func72,Try.ntmps72
  go_wp2_with fail
  go_ret
  exact⟨rfl,below_alloc (below_alloc (Below.refl _ _))⟩
set_option maxRecDepth 100000 in
theorem sign_any (n:Int) (w:World):Calls Try.prog 97 #[.int .i64 n] w fun e w'=>e= .returned (.int .i64 n.sign)∧w=w':=by
 rcases sign_cases n with ⟨h,e⟩|⟨h,e⟩|⟨h,e⟩
 all_goals
  rw[e]
  clear e
  try subst h
  go_enter Try.func97,Try.ntmps97
  go_wp2_with fail
  go_ret
  exact⟨rfl,rfl⟩
set_option maxRecDepth 100000 in
theorem turn_in (a b c:Pt) (w:World) (ha:inB a=true) (hb:inB b=true) (hc:inB c=true):
  Calls Try.prog 87 #[.agg #[.int .i64 a.x, .int .i64 a.y], .agg #[.int .i64 b.x, .int .i64 b.y], .agg #[.int .i64 c.x, .int .i64 c.y]] w fun e w'=>e= .returned (.int .i64 (trn a b c))∧Below w.heap.size w w':=by
 obtain⟨h1,h2⟩:=crs_bd ha hb hc
 have hd:=inB_iff.1 ha
 have he:=inB_iff.1 hb
 have hf:=inB_iff.1 hc
 rw[show trn a b c=((b.x - a.x)*(c.y - a.y) - (b.y - a.y)*(c.x - a.x)).sign from rfl]
 generalize hP:(b.x - a.x)*(c.y - a.y)=X at*
 generalize hQ:(b.y - a.y)*(c.x - a.x)=Y at*
 have w1:wrap64 ((b.x - a.x)*(c.y - a.y))=X:=by rw[hP];exact IntWalk.wrap64_in _ ⟨by omega,by omega⟩
 have w2:wrap64 ((b.y - a.y)*(c.x - a.x))=Y:=by rw[hQ];exact IntWalk.wrap64_in _ ⟨by omega,by omega⟩
 clear hP hQ ha hb hc
 go_enter Try.func87,Try.ntmps87
 go_wp2_with fail
 refine(sign_any _ _).mono ?_
 rintro e w' ⟨rfl,rfl⟩
 go_wp2_with fail
 go_ret
 exact⟨rfl,below_alloc (below_alloc (below_alloc (Below.refl _ _)))⟩
end Go.Proofs.Ythopjhifepijiaa
namespace Go.Proofs.Ythopjhifepijiaa
open Go.RowKit
theorem below_alloc' {B:Nat} {a b:World} {o:Obj} (h:Below B a b) (hB:B≤a.heap.size):Below B a (b.alloc o):=h.alloc (Nat.le_trans hB h.size) o
def PtsAt (w:World) (b off:Nat) (l:List Pt):Prop:= ∀(i:Nat) (p:Pt),l[i]? =some p→w.cell? ⟨b,off+i*2,none⟩=some (.int .i64 p.x)∧w.cell? ⟨b,off+i*2+1,none⟩=some (.int .i64 p.y)
theorem PtsAt.below {w w':World} {b off:Nat} {l:List Pt} (h:PtsAt w b off l) {B:Nat} (hb:Below B w w') (hB:b<B):PtsAt w' b off l:=fun i p hp=>
 ⟨(hb.cell (p:=⟨b,off+i*2,none⟩) hB).trans (h i p hp).1,(hb.cell (p:=⟨b,off+i*2+1,none⟩) hB).trans (h i p hp).2⟩
set_option maxRecDepth 100000 in
theorem all_any {w:World} {b off n c:Nat} {l:List Pt} (h:PtsAt w b off l) (hn:n=l.length) (hl:l.length≤1000) (hb:b<w.heap.size):
  Calls Try.prog 86 #[.slice (some ⟨b,off,none⟩) n c] w fun e w'=>e= .returned (.bool (l.all inB))∧Below w.heap.size w w':=by
 have H:=Lib.hid h
 have HN:=Lib.hid hn
 have hn1:n≤1000:=by omega
 clear h hn hl
 go_enter Try.func86,Try.ntmps86
 go_wp2_with fail
 go_loopw [7] (fun v wr=> ∃k:Nat,k≤n∧v= .int .i64 k∧(∀(j:Nat) (p:Pt),j<k→l[j]? =some p→inB p=true)∧Below w.heap.size w wr) (fun v _=>n - (intOf v).toNat)
 case atStart=>exact⟨0,Nat.zero_le _,rfl,fun j p hj=>absurd hj (by omega),Below.refl _ _⟩
 case round=>
  obtain⟨k,hk,rfl,hall,hbw⟩:=hrel
  have HA:=Lib.hid hall
  have HB:=Lib.hid hbw
  by_cases hlt:k<n
  ·obtain⟨p,hp⟩: ∃p,l[k]? =some p:=⟨l[k]'(by rw[←HN.out];exact hlt),List.getElem?_eq_getElem _⟩
   obtain⟨c0,c1⟩:=(H.out.below hbw hb) k p hp
   have HP:=Lib.hid hp
   clear hp hall hbw
   cases hv:inB p
   ·have F:=Lib.hid (show l.all inB=false by rw[List.all_eq_false];exact⟨p,List.mem_of_getElem? HP.out,by rw[hv];decide⟩)
    have HC:=fun(w:World)=>Lib.hid (hv▸in_any p w)
    clear hv
    go_wp2_with fail
    refine(HC _).out.mono ?_
    rintro e w' ⟨rfl,hb1⟩
    go_wp2_with fail
    go_ret
    exact⟨by rw[F.out];rfl,below_next (below_alloc' HB.out (Nat.le_refl _)) (by have:=HB.out.size;simp;omega) hb1⟩
   ·have HC:=fun(w:World)=>Lib.hid (hv▸in_any p w)
    have HV:=Lib.hid hv
    clear hv
    go_wp2_with fail
    refine(HC _).out.mono ?_
    rintro e w' ⟨rfl,hb1⟩
    have HB1:=Lib.hid (below_next (below_alloc' HB.out (Nat.le_refl _)) (by have:=HB.out.size;simp;omega) hb1)
    clear hb1
    go_wp2_with fail
    go_roundw
    case rel=>
     refine⟨k+1,by omega,by go_num,fun j q hj hq=> ?_,HB1.out⟩
     by_cases e:j=k
     ·subst e;rw[HP.out] at hq;cases hq;exact HV.out
     ·exact HA.out j q (by omega) hq
    case measure=>simp[intOf];omega
  ·obtain rfl:k=n:=by omega
   have F:=Lib.hid (show l.all inB=true by
    rw[List.all_eq_true]
    intro p hp
    obtain⟨j,hj⟩:=List.mem_iff_getElem?.1 hp
    exact hall j p (by have:=(List.getElem?_eq_some_iff.1 hj).1;have:=HN.out;omega) hj)
   clear hall hbw
   go_wp2_with fail
   go_ret
   exact⟨by rw[F.out];rfl,HB.out⟩
theorem pts3 (w:World) (a b c:Pt) {blk:Nat} (h:blk=w.heap.size):PtsAt (w.alloc (.cells #[.int .i64 a.x, .int .i64 a.y, .int .i64 b.x, .int .i64 b.y, .int .i64 c.x, .int .i64 c.y] 51)) blk 0 [a,b,c]:=by
 subst h
 intro i p hp
 rcases i with _|_|_|i
 ·cases hp;simp[World.cell?_alloc_new]
 ·cases hp;simp[World.cell?_alloc_new]
 ·cases hp;simp[World.cell?_alloc_new]
 ·simp at hp
theorem pts4 (w:World) (a b c d:Pt) {blk:Nat} (h:blk=w.heap.size):PtsAt (w.alloc (.cells #[.int .i64 a.x, .int .i64 a.y, .int .i64 b.x, .int .i64 b.y, .int .i64 c.x, .int .i64 c.y, .int .i64 d.x, .int .i64 d.y] 51)) blk 0 [a,b,c,d]:=by
 subst h
 intro i p hp
 rcases i with _|_|_|_|i
 ·cases hp;simp[World.cell?_alloc_new]
 ·cases hp;simp[World.cell?_alloc_new]
 ·cases hp;simp[World.cell?_alloc_new]
 ·cases hp;simp[World.cell?_alloc_new]
 ·simp at hp
set_option maxRecDepth 100000 in
set_option maxHeartbeats 2000000 in
theorem btw_any (p a b:Pt) (w:World):Calls Try.prog 88 #[.agg #[.int .i64 p.x, .int .i64 p.y], .agg #[.int .i64 a.x, .int .i64 a.y], .agg #[.int .i64 b.x, .int .i64 b.y]] w fun e w'=>e= .returned (.bool (btwB p a b))∧Below w.heap.size w w':=by
 have H1:=fun w=>Lib.hid (less_any a p w)
 have H2:=fun w=>Lib.hid (less_any p b w)
 have H3:=fun w=>Lib.hid (less_any b p w)
 have H4:=fun w=>Lib.hid (less_any p a w)
 unfold btwB
 generalize lessB a p=v1 at*
 generalize lessB p b=v2 at*
 generalize lessB b p=v3 at*
 generalize lessB p a=v4 at*
 cases v1<;>cases v2<;>cases v3<;>cases v4
 all_goals
  go_enter Try.func88,Try.ntmps88
  go_wp2_with fail
  have HB:=Lib.hid (below_alloc (below_alloc (below_alloc (o:= .cells #[.int .i64 p.x, .int .i64 p.y] 51) (Below.refl w.heap.size w)) (o:= .cells #[.int .i64 a.x, .int .i64 a.y] 51)) (o:= .cells #[.int .i64 b.x, .int .i64 b.y] 51))
  refine((H1 _).out).mono ?_
  rintro e w1 ⟨rfl,hb1⟩
  have HB:=Lib.hid (below_next HB.out HB.out.size hb1)
  obtain⟨hc1,hf1⟩:=bcell hb1
  have hz1:=hb1.size
  try simp at hz1
  clear hb1
  have hz1_0:w.heap.size<w1.heap.size:=by omega
  have hz1_1:w.heap.size+1<w1.heap.size:=by omega
  have hz1_2:w.heap.size+1+1<w1.heap.size:=by omega
  go_wp2_with fail
  repeat
   first|with_reducible refine((H2 _).out).mono ?_|with_reducible refine((H3 _).out).mono ?_|with_reducible refine((H4 _).out).mono ?_
   rintro e w2 ⟨rfl,hb2⟩
   have HB:=Lib.hid (below_next HB.out HB.out.size hb2)
   obtain⟨hc2,hf2⟩:=bcell hb2
   have hz2:=hb2.size
   try simp at hz2
   clear hb2
   have hz2_0:w.heap.size<w2.heap.size:=by omega
   have hz2_1:w.heap.size+1<w2.heap.size:=by omega
   have hz2_2:w.heap.size+1+1<w2.heap.size:=by omega
   go_wp2_with fail
  go_ret
  exact⟨rfl,HB.out⟩
theorem below33 (w:World) (a b c a' b' c':Pt):Below w.heap.size w ((((w.alloc (.cells #[.int .i64 a.x, .int .i64 a.y] 51)).alloc (.cells #[.int .i64 b.x, .int .i64 b.y] 51)).alloc (.cells #[.int .i64 c.x, .int .i64 c.y] 51)).alloc
  (.cells #[.int .i64 a'.x, .int .i64 a'.y, .int .i64 b'.x, .int .i64 b'.y, .int .i64 c'.x, .int .i64 c'.y] 51)):=below_alloc (below_alloc (below_alloc (below_alloc (Below.refl _ _))))
set_option maxRecDepth 100000 in
set_option maxHeartbeats 1000000 in
theorem turn_any (a b c:Pt) (w:World):Calls Try.prog 80 #[.agg #[.int .i64 a.x, .int .i64 a.y], .agg #[.int .i64 b.x, .int .i64 b.y], .agg #[.int .i64 c.x, .int .i64 c.y]] w fun e w'=>e= .returned (.int .i64 (if inB a&&inB b&&inB c then trn a b c else 0))∧Below w.heap.size w w':=by
 have HALL:=fun(W:World) (blk:Nat) (h:PtsAt W blk 0 [a,b,c]) (hb:blk<W.heap.size)=>Lib.hid (all_any (c:=3) h (n:=3) rfl (by simp) hb)
 have e:[a,b,c].all inB=(inB a&&inB b&&inB c):=by simp[Bool.and_assoc]
 rw[e] at HALL
 cases hv:inB a&&inB b&&inB c
 case' true=>
  have ⟨⟨i1,i2⟩,i3⟩:=(by simpa only[Bool.and_eq_true] using hv:(inB a=true∧inB b=true)∧inB c=true)
  have HT:=fun w=>Lib.hid (turn_in a b c w i1 i2 i3)
  clear i1 i2 i3
 all_goals
  rw[hv] at HALL
  clear hv e
  go_enter Try.func80,Try.ntmps80
  go_wp2_with fail
  have HB:=Lib.hid (below33 w a b c a b c)
  refine((HALL _ _ (pts3 _ a b c (by simp)) (by simp)).out).mono ?_
  rintro e w4 ⟨rfl,hb4⟩
  have HB:=Lib.hid (below_next HB.out HB.out.size hb4)
  obtain⟨hc4,hf4⟩:=bcell hb4
  have hz4:=hb4.size
  try simp at hz4
  clear hb4
  have hz4_0:w.heap.size<w4.heap.size:=by omega
  have hz4_1:w.heap.size+1<w4.heap.size:=by omega
  have hz4_2:w.heap.size+1+1<w4.heap.size:=by omega
  go_wp2_with fail
  try
   refine((HT _).out).mono ?_
   rintro e w5 ⟨rfl,hb5⟩
   have HB:=Lib.hid (below_next HB.out HB.out.size hb5)
   obtain⟨hc5,hf5⟩:=bcell hb5
   have hz5:=hb5.size
   try simp at hz5
   clear hb5
   have hz5_0:w.heap.size<w5.heap.size:=by omega
   have hz5_1:w.heap.size+1<w5.heap.size:=by omega
   have hz5_2:w.heap.size+1+1<w5.heap.size:=by omega
   go_wp2_with fail
  go_ret
  exact⟨rfl,HB.out⟩
set_option maxRecDepth 100000 in
set_option maxHeartbeats 1000000 in
theorem on_any (p a b:Pt) (w:World):Calls Try.prog 59 #[.agg #[.int .i64 p.x, .int .i64 p.y], .agg #[.int .i64 a.x, .int .i64 a.y], .agg #[.int .i64 b.x, .int .i64 b.y]] w fun e w'=>e= .returned (.bool (onB p a b))∧Below w.heap.size w w':=by
 have HALL:=fun(W:World) (blk:Nat) (h:PtsAt W blk 0 [p,a,b]) (hb:blk<W.heap.size)=>Lib.hid (all_any (c:=3) h (n:=3) rfl (by simp) hb)
 have e:[p,a,b].all inB=(inB p&&inB a&&inB b):=by simp[Bool.and_assoc]
 rw[e] at HALL
 unfold onB
 cases hv:inB p&&inB a&&inB b
 case' true=>
  have ⟨⟨i1,i2⟩,i3⟩:=(by simpa only[Bool.and_eq_true] using hv:(inB p=true∧inB a=true)∧inB b=true)
  have HT:=fun w=>Lib.hid (turn_in a b p w i2 i3 i1)
  have HW:=fun w=>Lib.hid (btw_any p a b w)
  generalize trn a b p=t at*
  generalize btwB p a b=u at*
  clear i1 i2 i3
  by_cases ht:t=0
  case' pos=>subst ht
  case' neg=>
   have hz:(t==0)=false:=by simpa using ht
   rw[show decide (t=0)=false by simpa using ht]
   clear ht
 all_goals
  rw[hv] at HALL
  clear hv e
  go_enter Try.func59,Try.ntmps59
  go_wp2_with fail
  have HB:=Lib.hid (below33 w p a b p a b)
  refine((HALL _ _ (pts3 _ p a b (by simp)) (by simp)).out).mono ?_
  rintro e w7 ⟨rfl,hb7⟩
  have HB:=Lib.hid (below_next HB.out HB.out.size hb7)
  obtain⟨hc7,hf7⟩:=bcell hb7
  have hz7:=hb7.size
  try simp at hz7
  clear hb7
  have hz7_0:w.heap.size<w7.heap.size:=by omega
  have hz7_1:w.heap.size+1<w7.heap.size:=by omega
  have hz7_2:w.heap.size+1+1<w7.heap.size:=by omega
  go_wp2_with fail
  repeat
   first|with_reducible refine((HT _).out).mono ?_|with_reducible refine((HW _).out).mono ?_
   rintro e w8 ⟨rfl,hb8⟩
   have HB:=Lib.hid (below_next HB.out HB.out.size hb8)
   obtain⟨hc8,hf8⟩:=bcell hb8
   have hz8:=hb8.size
   try simp at hz8
   clear hb8
   have hz8_0:w.heap.size<w8.heap.size:=by omega
   have hz8_1:w.heap.size+1<w8.heap.size:=by omega
   have hz8_2:w.heap.size+1+1<w8.heap.size:=by omega
   go_wp2_with fail
  go_ret
  exact⟨rfl,HB.out⟩
end Go.Proofs.Ythopjhifepijiaa
namespace Go.Proofs.Ythopjhifepijiaa
open Go.RowKit
section
variable {P:Program} {md:Region.Mode} {ops:Array Oper} {C:World→Prop}
def wpHead (P:Program) (md:Region.Mode) (ops:Array Oper) (C:World→Prop) (n:Nat) (L:Array Bool→Act→Prop):Nat→Array Bool→Act→Prop
 |0,listed,a=>L listed a
 |f+1,listed,a=>Region.ready md ops listed≠ []∧ ∀i∈Region.ready md ops listed,i<n∧qOp P ops C i (wpHead P md ops C n L f (listed.setIfInBounds i true)) a
theorem wpHead_any {n g:Nat} {L:Array Bool→Act→Prop} {Q':Exit→Act→World→Prop} (hL: ∀listed a w,C w→L listed a→wpAny P md ops Q' g listed a w) (f:Nat):
  ∀(listed:Array Bool) (a:Act) (w:World),C w→wpHead P md ops C n L f listed a→wpAny P md ops Q' (g+f) listed a w:=by
 induction f with
 |zero=>exact fun listed a w hw h=>hL listed a w hw h
 |succ f ih=>exact fun listed a w hw h=>⟨fun h0=>absurd h0 h.1,fun i hi=>wpOp_of_qOp hw (fun a' w' hw' h'=>ih _ a' w' hw' h') (h.2 i hi).2⟩
structure TailOk (md:Region.Mode) (ops:Array Oper) (n:Nat):Prop where
 sel: ∀(j:Nat) (o:Oper) cs b,ops[j]? =some o→o.op≠ .select cs b
 sink:Region.sinkB md ops n=true
 chain:Region.chainB md ops n=true
 lt:n<ops.size
theorem TailOk.head {n i:Nat} {listed:Array Bool} (T:TailOk md ops n) (inv:HeadInv md ops n listed) (hi:i<n) (hr:i∈Region.ready md ops listed) {j:Nat} (hj:j∈Region.ready md ops listed):j<n:=
 Nat.lt_of_not_le fun h=>tail_waits T.sink T.chain T.lt inv _ i rfl hi (mem_ready.1 hr).1 j h hj
def Apart (md:Region.Mode) (ops:Array Oper) (i:Nat) (oi:Oper) (listed:Array Bool):Prop:=
 ∀j oj,ops[j]? =some oj→j≠i→listed.getD j true=false→(∀e∈oj.after,Region.binds md e=true→e.on≠i)→oi.apart ops oj=true
theorem Apart.set {i j:Nat} {oi:Oper} {listed:Array Bool} (h:Apart md ops i oi listed) (hj:listed.getD j true=false):Apart md ops i oi (listed.setIfInBounds j true):=by
 intro k ok hk hki hun hno
 refine h k ok hk hki ?_ hno
 by_cases e:k=j
 ·rw[e];exact hj
 ·rwa [getD_set_ne true (Ne.symm e)] at hun
theorem wpHead_first {n i:Nat} {oi:Oper} {v:Value} {L:Array Bool→Act→Prop} (T:TailOk md ops n) (hi:ops[i]? =some oi) (hin:i<n)
  (hL: ∀listed a,L listed a→ ∀j∈Region.ready md ops listed,n≤j) (f:Nat):
  ∀(listed:Array Bool) (a:Act),HeadInv md ops n listed→Apart md ops i oi listed→i∈Region.ready md ops listed→YieldsIn P ops C oi v a→
   wpHead P md ops C n L f (listed.setIfInBounds i true) (a.put oi.dst v)→wpHead P md ops C n L (f+1) listed a:=by
 induction f with
 |zero=>
  intro listed a inv hap hr hy H
  refine⟨List.ne_nil_of_mem hr,fun j hj=> ?_⟩
  have hjn:=T.head inv hin hr hj
  refine⟨hjn, ?_⟩
  rcases Decidable.em (j=i) with rfl|hne
  ·exact hy.qOp hi H
  ·exact absurd (hL _ _ H j (ready_mono hj hne)) (by omega)
 |succ f ih=>
  intro listed a inv hap hr hy H
  refine⟨List.ne_nil_of_mem hr,fun j hj=> ?_⟩
  have hjn:=T.head inv hin hr hj
  refine⟨hjn, ?_⟩
  rcases Decidable.em (j=i) with rfl|hne
  ·exact hy.qOp hi H
  ·obtain⟨hjun,oj,hoj,hall⟩:=mem_ready.1 hj
   have hw: ∀e∈oj.after,Region.binds md e=true→e.on≠i:=by
    intro e he hb h
    have:=hall e he hb
    rw[h,getD_both (mem_ready.1 hr).1] at this
    cases this
   have step:=qOp_put hoj (hap j oj hoj hne hjun hw) (fun cs b=>T.sel i oi cs b hi) (fun cs b=>T.sel j oj cs b hoj) hy (H.2 j (ready_mono hj hne)).2
   refine qOp_mono (fun a' ha'=>ih _ a' (inv.set hj hjn) (hap.set hjun) (ready_mono hr (Ne.symm hne)) ha'.1 ?_) step
   rw[Array.setIfInBounds_comm _ _ hne]
   exact ha'.2
theorem wpHead_lex {n g:Nat} {Lq:Act→Prop} (T:TailOk md ops n) (l:List Oper):
  ∀(k:Nat) (listed:Array Bool) (a:Act),(∀j,j<l.length→l[j]? =ops[k+j]?)→k+l.length=n→HeadInv md ops n listed→
   Region.lexHead md ops g l.length k listed=true→wpQuiet P ops C Lq l a→wpHead P md ops C n (fun listed' a'=>Region.seqB md ops g n listed'=true∧Lq a') l.length listed a:=by
 induction l with
 |nil=>
  intro k listed a _ hk _ hB h
  obtain rfl:k=n:=by simpa using hk
  exact⟨by simpa[Region.lexHead] using hB,h⟩
 |cons o l ih=>
  intro k listed a hl hk inv hB h
  have h0:ops[k]? =some o:=by simpa using (hl 0 (by simp)).symm
  rw[List.length_cons] at hk
  simp only[List.length_cons,Region.lexHead,Bool.and_eq_true] at hB
  have hr:k∈Region.ready md ops listed:=by simpa using hB.1.1
  have hkn:k<n:=by omega
  have hq:qOp P ops C k (wpQuiet P ops C Lq l) a:=by unfold qOp;rw[h0];exact h
  obtain⟨v,hy,hK⟩:=yieldsIn_of_qOp h0 hq
  refine wpHead_first T h0 hkn (fun _ _ hh=>seqB_ready hh.1) l.length listed a inv (Region.free_spec h0 hB.1.2) hr hy (ih (k+1) _ _ ?_ (by omega) (inv.set hr hkn) hB.2 hK)
  intro j hj
  have:=hl (j+1) (by simp;omega)
  rw[List.getElem?_cons_succ] at this
  rw[this];congr 1;omega
theorem wp_region_tail {id:Nat} {Q:Exit→Act→World→Prop} {a:Act} {w:World} {l:List Oper} (n:Nat) (hm:P.follows .mixedOrders=true) (hB:Region.lexTailB .any l.toArray n=true) (hC:C { w with drawn:=w.drawn+1 })
  (h:wpQuiet P l.toArray C (fun a'=> ∀w',C w'→wpList P l.toArray Q (l.drop n) a' w') (l.take n) a):(Code.region id l.toArray true).wp P Q a w:=by
 simp only[Region.lexTailB,Bool.and_eq_true,decide_eq_true_eq] at hB
 obtain⟨⟨⟨⟨hsel,hn⟩,hs⟩,hc⟩,hlex⟩:=hB
 have T:TailOk .any l.toArray n:=⟨Region.noSelect_spec hsel,hs,hc,hn⟩
 have hnl:n<l.length:=by simpa using hn
 have htk:(l.take n).length=n:=by simp;omega
 have inv0:HeadInv .any l.toArray n (Array.replicate l.toArray.size false):=
  ⟨by simp,fun j oj _ hj=>(by rw[getD_replicate_false] at hj;cases hj),fun t _ ht=>getD_in (by simpa using ht) (getD_replicate_false _ _)⟩
 have H:=wpHead_lex (C:=C) (md:= .any) (g:=l.toArray.size - n) T (l.take n) 0 _ a (fun j hj=>by
  rw[htk] at hj
  simp[hj]) (by simpa using htk) inv0 (by rw[htk];exact hlex) h
 refine wp_region_any hm ?_
 have hg:(l.drop n).length=l.toArray.size - n:=by simp
 have K:=wpHead_any (Q':=Q) (g:=l.toArray.size - n) (fun listed a' w' hw' hL=>by
  have:=wpAny_of_seq (md:= .any) (Q':=Q) (ops:=l.toArray) (l.drop n) n listed a' w' (fun j=>by simp[List.getElem?_drop]) (by rw[hg];exact hL.1) (hL.2 w' hw')
  rwa [hg] at this) _ _ _ _ hC H
 rw[htk,show l.toArray.size - n+n=l.toArray.size by omega] at K
 exact K
def Later (w:World):= { w':World // Below w.heap.size w w' }
instance laterSome (w:World):Nonempty (Later w):=⟨⟨w,Below.refl _ _⟩⟩
theorem Later.cell {w:World} (x:Later w) {b o:Nat} (h:b<w.heap.size):x.1.cell? ⟨b,o,none⟩=w.cell? ⟨b,o,none⟩:=x.2.cell (p:=⟨b,o,none⟩) h
theorem Later.frozen {w:World} (x:Later w) {b o:Nat} (h:b<w.heap.size):x.1.frozen? ⟨b,o,none⟩=w.frozen? ⟨b,o,none⟩:=x.2.frozen (p:=⟨b,o,none⟩) h
theorem Later.self (w:World): ∃x:Later w, { w with drawn:=w.drawn+1 }=x.1:=⟨⟨w.drew,(Below.refl _ _).drew⟩,rfl⟩
theorem Later.call {f:FuncId} {args:Array Value} {w:World} {x:Later w} {v:Value} (h:Calls P f args x.1 fun e w'=>e= .returned v∧Below x.1.heap.size x.1 w'):
  Calls P f args x.1 fun e w'=>e= .returned v∧ ∃y:Later w,w'=y.1:=h.mono fun e w' ⟨he,hb⟩=>⟨he,⟨w',x.2.trans (hb.mono x.2.size)⟩,rfl⟩
theorem wp_region_later {id:Nat} {Q:Exit→Act→World→Prop} {a:Act} {w:World} {l:List Oper} (hm:P.follows .mixedOrders=true) (hB:Region.lexB .any l.toArray=true)
  (h:wpQuiet P l.toArray (fun w'=> ∃x:Later w,w'=x.1) (fun a'=> ∀w',(∃x:Later w,w'=x.1)→Q .normal a' w') l a):(Code.region id l.toArray true).wp P Q a w:=
 wp_region_quiet (C:=fun w'=> ∃x:Later w,w'=x.1) hm hB (Later.self w) (by simpa using h)
theorem wp_region_later_tail {id:Nat} {Q:Exit→Act→World→Prop} {a:Act} {w:World} {l:List Oper} (n:Nat) (hm:P.follows .mixedOrders=true) (hB:Region.lexTailB .any l.toArray n=true)
  (h:wpQuiet P l.toArray (fun w'=> ∃x:Later w,w'=x.1) (fun a'=> ∀w',(∃x:Later w,w'=x.1)→wpList P l.toArray Q (l.drop n) a' w') (l.take n) a):(Code.region id l.toArray true).wp P Q a w:=
 wp_region_tail n hm hB (Later.self w) h
end
end Go.Proofs.Ythopjhifepijiaa
namespace Go.Proofs.Ythopjhifepijiaa
open Go.RowKit
open Go.ChangeMaps (setBlock heap_setBlock_same heap_setBlock_other)
def Touch (F:List Nat) (w w':World):Prop:=
 w'.os=w.os∧w'.tape=w.tape∧w'.output=w.output∧w.heap.size≤w'.heap.size∧ ∀b,b<w.heap.size→b∉F→w'.heap[b]? =w.heap[b]?
theorem Touch.refl (F:List Nat) (w:World):Touch F w w:=⟨rfl,rfl,rfl,Nat.le_refl _,fun _ _ _=>rfl⟩
theorem Touch.size {F:List Nat} {w w':World} (h:Touch F w w'):w.heap.size≤w'.heap.size:=h.2.2.2.1
theorem Touch.block {F:List Nat} {w w':World} (h:Touch F w w') {b:Nat} (hb:b<w.heap.size) (hF:b∉F):w'.heap[b]? =w.heap[b]? :=h.2.2.2.2 b hb hF
theorem Touch.trans {F G:List Nat} {w w1 w2:World} (h:Touch F w w1) (k:Touch G w1 w2) (hG: ∀b∈G,b∈F∨w.heap.size≤b):Touch F w w2:=
 ⟨k.1.trans h.1,k.2.1.trans h.2.1,k.2.2.1.trans h.2.2.1,Nat.le_trans h.size k.size,fun b hb hF=>
  (k.block (Nat.lt_of_lt_of_le hb h.size) (fun hm=>(hG b hm).elim hF (fun h'=>absurd hb (by omega)))).trans (h.block hb hF)⟩
theorem Touch.mono {F G:List Nat} {w w':World} (h:Touch F w w') (hG: ∀b∈F,b∈G∨w.heap.size≤b):Touch G w w':=
 ⟨h.1,h.2.1,h.2.2.1,h.size,fun b hb hF=>h.block hb (fun hm=>(hG b hm).elim hF (fun h'=>absurd hb (by omega)))⟩
theorem Touch.drewN {F:List Nat} {w w':World} (h:Touch F w w') (q:Nat):Touch F w (w'.drewN q):=h
theorem Touch.drew {F:List Nat} {w w':World} (h:Touch F w w'):Touch F w w'.drew:=h
theorem Touch.alloc {F:List Nat} {w w':World} (h:Touch F w w') (o:Obj):Touch F w (w'.alloc o):=
 ⟨h.1,h.2.1,h.2.2.1,Nat.le_trans h.size (by simp),fun b hb hF=>(Below.heap_alloc w' o b (Nat.lt_of_lt_of_le hb h.size)).trans (h.block hb hF)⟩
theorem Touch.setCell {F:List Nat} {w w':World} (h:Touch F w w') {p:Addr} (hp:p.block∈F∨w.heap.size≤p.block) (u:Value):Touch F w (w'.setCell p u):=
 ⟨h.1,h.2.1,h.2.2.1,by simpa[World.setCell] using h.size,fun b hb hF=>(Below.heap_setCell w' p u b (by
  rintro rfl
  rcases hp with hp|hp
  ·exact hF hp
  ·omega)).trans (h.block hb hF)⟩
theorem Touch.of_grown {w w':World} {row:Option Nat} (h:w.grownBy w' row):Touch row.toList w w':=
 ⟨h.os,h.tape,h.output,h.size,fun b hb hF=>h.block b hb (fun e=>hF (by rw[←e];simp))⟩
theorem Touch.of_below {F:List Nat} {w w':World} (h:Below w.heap.size w w'):Touch F w w':=⟨h.os,h.tape,h.output,h.size,fun b hb _=>h.block b hb⟩
theorem Touch.below {F:List Nat} {w w':World} {B:Nat} (h:Touch F w w') (hB:B≤w.heap.size) (hF: ∀b∈F,B≤b):Below B w w':=
 ⟨h.1,h.2.1,h.2.2.1,h.size,fun b hb=>h.block (Nat.lt_of_lt_of_le hb hB) (fun hm=>by have:=hF b hm;omega)⟩
theorem Touch.cell {F:List Nat} {w w':World} (h:Touch F w w') {p:Addr} (hp:p.block<w.heap.size) (hF:p.block∉F):w'.cell? p=w.cell? p:=World.cell?_of_block (h.block hp hF)
theorem Touch.frozen {F:List Nat} {w w':World} (h:Touch F w w') {p:Addr} (hp:p.block<w.heap.size) (hF:p.block∉F):w'.frozen? p=w.frozen? p:=World.frozen?_of_block (h.block hp hF)
theorem rowIs_touch {F:List Nat} {w w':World} {b n:Nat} {t:TypeId} {f:Nat→Value} (h:w.rowIs b t n f) (k:Touch F w w') (hF:b∉F):w'.rowIs b t n f:=World.rowIs.of_block h (k.block (World.rowIs.lt h) hF)
theorem ownsRow_touch {F:List Nat} {w w':World} {base n size:Nat} {e:TypeId} {v:Value} {xs:List Value} (h:w.ownsRow base e size v n xs) (k:Touch F w w') (hF: ∀g,v.ownBlock=some g→g∉F):w'.ownsRow base e size v n xs:=by
 refine⟨h.1, ?_⟩
 rcases h.2 with h0|⟨g,cap,cur,hv,hb,hg,hnc,hcm,hcs,htake⟩
 ·exact .inl h0
 ·refine .inr ⟨g,cap,cur,hv,hb, ?_,hnc,hcm,hcs,htake⟩
  have hlt:g<w.heap.size:=(Array.getElem?_eq_some_iff.1 hg).1
  rw[k.block hlt (hF g (by rw[hv];rfl)),hg]
theorem ownsMap_touch {H:Type} {P:Program} {F:List Nat} {w w':World} {k:TypeId} {R:Value→Option (DataW H × List MemPlace)} {b n:Nat} {D:DataW H} (h:w.ownsMap P k R b n D) (t:Touch F w w') (hF:b∉F):w'.ownsMap P k R b n D:=by
 have hlt:=h.lt
 obtain⟨es,clock,hb,r⟩:=h
 exact⟨es,clock,by rw[t.block hlt hF,hb],r⟩
theorem wpList_append_near {P:Program} (w:World) {ops:Array Oper} {rest:List Oper} {o:Oper} {a:Act} {Q:Exit→Act→World→Prop}
  (hg:o.guard=none) (s x:Operand) (t:TypeId) (hop:o.op=Op.call { callee:=Callee.builtin Builtin.append,args:= #[s,x],argTypes:= #[t,t] })
  (base:Nat) (e:TypeId) (i:TypeInfo) (z:Value) (size bytes:Nat) (h1:P.underlying t=some (.slice e)) (h2:P.info? e=some i) (h3:i.zero=some z) (h4:i.size=size) (h5:i.bytes=bytes) (h6:z.cells.size=size) (h7:0<size)
  (v:Value) (n:Nat) (xs:List Value) (hs:a.eval s=v) (hown:w.ownsRow base e size v n xs)
  (ad:Addr) (m c:Nat) (news:List Value) (hx:a.eval x= .slice (some ad) m c) (hm:0<m) (hn:news.length=m*size) (hc: ∀j u,news[j]? =some u→w.cell? (ad.add j)=some u) (h1c: ∀u∈news,u.oneCell'=true)
  (b1:n+m≤maxLen) (b2:(n+m)*bytes≤140737488355328) (hbase:base≤w.heap.size)
  (hK: ∀g cap w',w'.ownsRow base e size (.slice (some ⟨g,0,none⟩) (n+m) cap) (n+m) (xs++news)→w.grownBy w' v.ownBlock→(v.ownBlock=some g∨w.heap.size≤g)→wpList P ops Q rest (a.put o.dst (.slice (some ⟨g,0,none⟩) (n+m) cap)) w'):
  wpList P ops Q (o::rest) a w:=by
 have wide: ∀ {w':World} {row:Option Nat},w.grownBy w' none→w.grownBy w' row:=fun h=>⟨h.os,h.tape,h.output,h.size,fun b hb _=>h.block b hb (by simp)⟩
 rcases Go.Joins.ownsRow_forms hown with ⟨rfl,rfl⟩|⟨g,cap,rfl⟩
 ·have hx0:xs=[]:=List.eq_nil_of_length_eq_zero (by simpa using hown.1)
  subst hx0
  refine wpList_append_grows w hg s x t hop e i z size bytes h1 h2 h3 h4 h5 h6 h7 none 0 0 [] hs (fun _=>⟨rfl,rfl⟩) (by simp) (fun b h=>by cases h) ad m c news hx hn hc h1c (by omega) b1 b2 ?_
  intro v' w' ho hgr
  obtain⟨g',cap',rfl⟩:=Go.Joins.ownsRow_form ho (by omega)
  exact hK g' cap' w' (Go.Joins.ownsRow_le ho hbase) hgr (.inr (ho.lt g' rfl).1)
 ·by_cases hcap:n+m≤cap
  ·refine wpList_append_fits w hg s x t hop base e i size h1 h2 h4 g n cap xs hs hown ad m c news hx hn hc h1c hcap ?_
   intro w' ho hgr
   exact hK g cap w' ho hgr (.inl rfl)
  ·refine wpList_append_grows w hg s x t hop e i z size bytes h1 h2 h3 h4 h5 h6 h7 (some ⟨g,0,none⟩) n cap xs hs (fun h=>by cases h) hown.1 (fun b hb=>by cases hb;exact hown.cells rfl) ad m c news hx hn hc h1c (by omega) b1 b2 ?_
   intro v' w' ho hgr
   obtain⟨g',cap',rfl⟩:=Go.Joins.ownsRow_form ho (by omega)
   exact hK g' cap' w' (Go.Joins.ownsRow_le ho hbase) (wide hgr) (.inr (ho.lt g' rfl).1)
end Go.Proofs.Ythopjhifepijiaa
namespace Go.Proofs.Ythopjhifepijiaa
open Go.RowKit
theorem wp_name {P:Program} {c:Code} {Q:Exit→Act→World→Prop} {a:Act} {w:World} (h: ∀W,w=W→c.wp P Q a W):c.wp P Q a w:=h w rfl
theorem calls_name {P:Program} {f:FuncId} {args:Array Value} {w:World} {Q:Ending→World→Prop} (h: ∀W,w=W→Calls P f args W Q):Calls P f args w Q:=h w rfl
theorem bnx {a:Nat} {W w1 w2 w3:World} (h:Hid (Below a W w1)) (s:Hid (a≤W.heap.size)) (hb:Below w2.heap.size w2 w3) (k:Below w1.heap.size w1 w2:=by repeat (first|exact Below.refl _ _|refine below_alloc ?_)):Hid (Below a W w3):=
 below_next (below_next h (Nat.le_trans s h.size) k) (Nat.le_trans (Nat.le_trans s h.size) k.size) hb
theorem bnm {a:Nat} {W w1 w2 w3:World} (h:Hid (Below a W w1)) (s:Hid (a≤W.heap.size)) (e:w2=w3) (k:Below w1.heap.size w1 w2:=by repeat (first|exact Below.refl _ _|refine below_alloc ?_)):Hid (Below a W w3):=
 e▸below_next h (Nat.le_trans s h.size) k
theorem bnl {a:Nat} {W w1 w2:World} (h:Hid (Below a W w1)) (s:Hid (a≤W.heap.size)) (hb:Below w1.heap.size w1 w2):Below a W w2:=below_next h (Nat.le_trans s h.size) hb
theorem bfn {w W w':World} (h:Hid (Below w.heap.size w W)) (k:Hid (Below W.heap.size W w')):Below w.heap.size w w':=below_step k h
theorem box_end {w W W':World} (hb:Below W.heap.size W W') (h:Below w.heap.size w W):Below w.heap.size w W':=below_step hb h
theorem touch_cell {F:List Nat} {w w':World} {b o:Nat} (h:Touch F w w') (hb:b<w.heap.size) (hF:b∉F):w'.cell? ⟨b,o,none⟩=w.cell? ⟨b,o,none⟩:=World.cell?_of_block (w:=w) (h.block hb hF)
theorem touch_in {F G:List Nat} {W wr W2 W1:World} (h:Touch F W wr) (h2:Below wr.heap.size wr W2) (h3:Touch G W2 W1) (hG: ∀b∈G,b∈F∨W.heap.size≤b):Touch F W W1:=(h.trans (Touch.of_below (F:=F) h2) (fun b hb=> .inl hb)).trans h3 hG
theorem touch_next {F:List Nat} {W a b c:World} (h:Touch F W a) (k:Below a.heap.size a b) (hb:Below b.heap.size b c):Touch F W c:=(h.trans (Touch.of_below (F:=F) k) (fun b hb=> .inl hb)).trans (Touch.of_below (F:=F) hb) (fun b hb=> .inl hb)
theorem touch_name {F:List Nat} {W a b c:World} (h:Touch F W a) (k:Below a.heap.size a b) (e:b=c):Touch F W c:=e▸h.trans (Touch.of_below (F:=F) k) (fun b hb=> .inl hb)
theorem touch_later {F:List Nat} {W a b:World} (h:Touch F W a) (hb:Below a.heap.size a b):Touch F W b:=h.trans (Touch.of_below (F:=F) hb) (fun b hb=> .inl hb)
theorem touch_grown {F:List Nat} {W a b c:World} {r:Nat} (h:Touch F W a) (k:Below a.heap.size a b) (hg:b.grownBy c (some r)) (hr:r∈F):Touch F W c:=
 (h.trans (Touch.of_below (F:=F) k) (fun b hb=> .inl hb)).trans (Touch.of_grown hg) (fun b hb=> .inl (by simp at hb;subst hb;exact hr))
theorem args_touch {B:Nat} {F:List Nat} {w W W1:World} (hW:Below w.heap.size w W) (hb:Touch F W W1) (hF: ∀b∈F,w.heap.size≤b) (h1:B≤w.heap.size):Below B w W1:=(hW.trans (Touch.below hb hW.size hF)).mono h1
theorem in_of {B B2:Nat} {W wr W2 W1:World} (h:Below B W wr) (h2:Below wr.heap.size wr W2) (h3:Below B2 W2 W1) (s1:B≤wr.heap.size) (s2:B≤B2):Below B W W1:=(h.trans (h2.mono s1)).trans (h3.mono s2)
theorem later_below {w w':World} (h: ∃x:Later w,w'=x.1):Below w.heap.size w w':=h.elim fun x e=>e▸x.2
theorem args_below {B B0:Nat} {w W W1:World} (hW:Below w.heap.size w W) (hb:Below B0 W W1) (h1:B≤w.heap.size) (h2:w.heap.size≤B0):Below B w W1:=(hW.mono h1).trans (hb.mono (Nat.le_trans h1 h2))
abbrev ptC (p:Pt):Obj:= .cells #[.int .i64 p.x, .int .i64 p.y] 51
theorem ptc_new (w:World) (p:Pt):(w.alloc (ptC p)).cell? ⟨w.heap.size,0,none⟩=some (.int .i64 p.x)∧(w.alloc (ptC p)).cell? ⟨w.heap.size,1,none⟩=some (.int .i64 p.y):=by simp[World.cell?_alloc_new]
abbrev boxW1 (w:World) (a:Pt):World:=w.alloc (ptC a)
abbrev boxW2 (w:World) (a b:Pt):World:=(w.alloc (ptC a)).alloc (ptC b)
abbrev boxW3 (w:World) (a b c:Pt):World:=((w.alloc (ptC a)).alloc (ptC b)).alloc (ptC c)
abbrev boxW4 (w:World) (a b c d:Pt):World:=(((w.alloc (ptC a)).alloc (ptC b)).alloc (ptC c)).alloc (ptC d)
theorem box3_start (w:World) (a b c:Pt):Below (boxW3 w a b c).heap.size (boxW3 w a b c) (boxW3 w a b c):=Below.refl _ _
theorem box4_start (w:World) (a b c d:Pt):Below (boxW4 w a b c d).heap.size (boxW4 w a b c d) (boxW4 w a b c d):=Below.refl _ _
theorem box1 (w:World) (a:Pt) {W:World} (hb:Below (boxW1 w a).heap.size (boxW1 w a) W):W.cell? ⟨w.heap.size,0,none⟩=some (.int .i64 a.x)∧W.cell? ⟨w.heap.size,1,none⟩=some (.int .i64 a.y):=by
 refine⟨(hb.cell (p:=⟨w.heap.size,0,none⟩) (by simp)).trans ?_,(hb.cell (p:=⟨w.heap.size,1,none⟩) (by simp)).trans ?_⟩
 all_goals simp[boxW1,World.cell?_alloc_new]
theorem box2 (w:World) (a b:Pt) {W:World} (hb:Below (boxW2 w a b).heap.size (boxW2 w a b) W):W.cell? ⟨w.heap.size,0,none⟩=some (.int .i64 a.x)∧W.cell? ⟨w.heap.size,1,none⟩=some (.int .i64 a.y)∧W.cell? ⟨w.heap.size+1,0,none⟩=some (.int .i64 b.x)∧W.cell? ⟨w.heap.size+1,1,none⟩=some (.int .i64 b.y):=by
 have h1:=box1 (w.alloc (ptC a)) b hb
 have e:(w.alloc (ptC a)).heap.size=w.heap.size+1:=by simp
 rw[e] at h1
 have h0:=box1 w a (W:=W) ((below_alloc (Below.refl _ _)).trans (hb.mono (by simp)))
 exact⟨h0.1,h0.2,h1.1,h1.2⟩
theorem box3 (w:World) (a b c:Pt) {W:World} (hb:Below (boxW3 w a b c).heap.size (boxW3 w a b c) W):W.cell? ⟨w.heap.size,0,none⟩=some (.int .i64 a.x)∧W.cell? ⟨w.heap.size,1,none⟩=some (.int .i64 a.y)∧W.cell? ⟨w.heap.size+1,0,none⟩=some (.int .i64 b.x)∧W.cell? ⟨w.heap.size+1,1,none⟩=some (.int .i64 b.y)∧
  W.cell? ⟨w.heap.size+1+1,0,none⟩=some (.int .i64 c.x)∧W.cell? ⟨w.heap.size+1+1,1,none⟩=some (.int .i64 c.y):=by
 have h1:=box2 (w.alloc (ptC a)) b c hb
 have e:(w.alloc (ptC a)).heap.size=w.heap.size+1:=by simp
 rw[e] at h1
 have h0:=box1 w a (W:=W) ((below_alloc (below_alloc (Below.refl _ _))).trans (hb.mono (by simp)))
 exact⟨h0.1,h0.2,h1.1,h1.2.1,h1.2.2.1,h1.2.2.2⟩
theorem box4 (w:World) (a b c d:Pt) {W:World} (hb:Below (boxW4 w a b c d).heap.size (boxW4 w a b c d) W):W.cell? ⟨w.heap.size,0,none⟩=some (.int .i64 a.x)∧W.cell? ⟨w.heap.size,1,none⟩=some (.int .i64 a.y)∧W.cell? ⟨w.heap.size+1,0,none⟩=some (.int .i64 b.x)∧W.cell? ⟨w.heap.size+1,1,none⟩=some (.int .i64 b.y)∧
  W.cell? ⟨w.heap.size+1+1,0,none⟩=some (.int .i64 c.x)∧W.cell? ⟨w.heap.size+1+1,1,none⟩=some (.int .i64 c.y)∧W.cell? ⟨w.heap.size+1+1+1,0,none⟩=some (.int .i64 d.x)∧W.cell? ⟨w.heap.size+1+1+1,1,none⟩=some (.int .i64 d.y):=by
 have h1:=box3 (w.alloc (ptC a)) b c d hb
 have e:(w.alloc (ptC a)).heap.size=w.heap.size+1:=by simp
 rw[e] at h1
 have h0:=box1 w a (W:=W) ((below_alloc (below_alloc (below_alloc (Below.refl _ _)))).trans (hb.mono (by simp)))
 exact⟨h0.1,h0.2,h1.1,h1.2.1,h1.2.2.1,h1.2.2.2.1,h1.2.2.2.2.1,h1.2.2.2.2.2⟩
theorem eq_pt (a b:Pt) (w:World):(binOp .eql 51 (.agg #[.int .i64 a.x, .int .i64 a.y]) (.agg #[.int .i64 b.x, .int .i64 b.y])).run Try.prog w= .ok (.bool (decide (a=b))) w:=by
 obtain⟨ax,ay⟩:=a
 obtain⟨bx,by_⟩:=b
 simp[go_sem]
 by_cases h1:ax=bx<;>by_cases h2:ay=by_<;>simp[h1,h2]
theorem eq_pt_t {a b:Pt} (h:decide (a=b)=true) (w:World):(binOp .eql 51 (.agg #[.int .i64 a.x, .int .i64 a.y]) (.agg #[.int .i64 b.x, .int .i64 b.y])).run Try.prog w= .ok (.bool true) w:=h▸eq_pt a b w
theorem eq_pt_f {a b:Pt} (h:decide (a=b)=false) (w:World):(binOp .eql 51 (.agg #[.int .i64 a.x, .int .i64 a.y]) (.agg #[.int .i64 b.x, .int .i64 b.y])).run Try.prog w= .ok (.bool false) w:=h▸eq_pt a b w
end Go.Proofs.Ythopjhifepijiaa
namespace Go.Proofs.Ythopjhifepijiaa
open Go.RowKit
set_option maxRecDepth 100000 in
theorem half_any (o a:Pt) (w:World):Calls Try.prog 95 #[.agg #[.int .i64 o.x, .int .i64 o.y], .agg #[.int .i64 a.x, .int .i64 a.y]] w fun e w'=>e= .returned (.int .i64 (halfI o a))∧Below w.heap.size w w':=by
 obtain⟨v,hv⟩: ∃v,v=halfI o a:=⟨_,rfl⟩
 rw[←hv]
 have hc:(v=0∧o.y<a.y)∨(v=0∧ ¬o.y<a.y∧(a.y==o.y)=true∧o.x<a.x)∨(v=1∧ ¬o.y<a.y∧(a.y==o.y)=true∧ ¬o.x<a.x)∨(v=1∧ ¬o.y<a.y∧(a.y==o.y)=false):=by
  rw[hv]
  simp only[beq_iff_eq,beq_eq_false_iff_ne]
  unfold halfI
  split<;>omega
 clear hv
 rcases hc with ⟨rfl,h1⟩|⟨rfl,h1,h2,h3⟩|⟨rfl,h1,h2,h3⟩|⟨rfl,h1,h2⟩
 all_goals
  go_enter Try.func95,Try.ntmps95
  go_wp2_with fail
  go_ret
  exact⟨rfl,below_alloc (below_alloc (Below.refl _ _))⟩
theorem trn_mul (a b c d e f:Pt): -1≤trn a b c*trn d e f∧trn a b c*trn d e f≤1:=by
 have h1:=trn_bd a b c
 have h2:=trn_bd d e f
 have:=mul_bd (M:=1) (N:=1) h1.1 h1.2 h2.1 h2.2
 omega
theorem neg_cases (p q:Int):(decide (p<0)=false∧ ¬p<0)∨(decide (p<0)=true∧decide (q<0)=false∧p<0∧ ¬q<0)∨(decide (p<0)=true∧decide (q<0)=true∧p<0∧q<0):=by
 by_cases h:p<0
 ·by_cases k:q<0
  ·exact .inr (.inr ⟨decide_eq_true h,decide_eq_true k,h,k⟩)
  ·exact .inr (.inl ⟨decide_eq_true h,decide_eq_false k,h,k⟩)
 ·exact .inl ⟨decide_eq_false h,h⟩
set_option maxRecDepth 100000 in
set_option maxHeartbeats 8000000 in
theorem meet_any (a b c d:Pt) (w:World):Calls Try.prog 73 #[.agg #[.int .i64 a.x, .int .i64 a.y], .agg #[.int .i64 b.x, .int .i64 b.y], .agg #[.int .i64 c.x, .int .i64 c.y], .agg #[.int .i64 d.x, .int .i64 d.y]] w fun e w'=>e= .returned (.bool (meetB a b c d))∧Below w.heap.size w w':=by
 have HALL:=fun(W:World) (blk:Nat) (h:PtsAt W blk 0 [a,b,c,d]) (hb:blk<W.heap.size)=>Lib.hid (all_any (c:=4) h (n:=4) rfl (by simp) hb)
 have e:[a,b,c,d].all inB=(inB a&&inB b&&inB c&&inB d):=by simp[Bool.and_assoc]
 rw[e] at HALL
 clear e
 unfold meetB
 cases hv:inB a&&inB b&&inB c&&inB d
 case' false=>
  rw[hv] at HALL
  simp only[Bool.not_false,Bool.true_or,if_true]
  clear hv
 case' true=>
  rw[hv] at HALL
  simp only[Bool.and_eq_true] at hv
  obtain⟨⟨⟨ia,ib⟩,ic⟩,id⟩:=hv
  simp only[Bool.not_true,Bool.false_or]
  cases hab:decide (a=b)
  case' true=>
   have r1:=eq_pt_t hab
   simp only[Bool.true_or,if_true]
   clear hab
  case' false=>
   have r1:=eq_pt_f hab
   cases hcd:decide (c=d)
   case' true=>
    have r2:=eq_pt_t hcd
    simp only[Bool.or_true,if_true]
    clear hab hcd
   case' false=>
    have r2:=eq_pt_f hcd
    simp only[Bool.or_false,Bool.false_eq_true,if_false]
    have H1:=fun w=>Lib.hid (on_any a c d w)
    have H2:=fun w=>Lib.hid (on_any b c d w)
    have H3:=fun w=>Lib.hid (on_any c a b w)
    have H4:=fun w=>Lib.hid (on_any d a b w)
    have T1:=fun w=>Lib.hid (turn_in a b c w ia ib ic)
    have T2:=fun w=>Lib.hid (turn_in a b d w ia ib id)
    have T3:=fun w=>Lib.hid (turn_in c d a w ic id ia)
    have T4:=fun w=>Lib.hid (turn_in c d b w ic id ib)
    have hne: ¬(decide (a=c)=true∧decide (a=d)=true):=by simp at hcd ⊢;intro h1 h2;exact hcd (h1.symm.trans h2)
    generalize onB a c d=o1 at*
    generalize onB b c d=o2 at*
    generalize onB c a b=o3 at*
    generalize onB d a b=o4 at*
    clear ia ib ic id hab hcd
    cases o1
    case' true=>simp only[Bool.true_or,if_true]
    case' false=>
     cases o2
     case' true=>simp only[Bool.or_true,Bool.true_or,if_true]
     case' false=>
      cases o3
      case' true=>simp only[Bool.or_true,Bool.true_or,if_true]
      case' false=>
       cases o4
       case' true=>simp only[Bool.or_true,if_true]
       case' false=>
        simp only[Bool.or_false,Bool.false_eq_true,if_false]
        cases hac:decide (a=c)
        case' true.false.false.false.false.false.false.false=>
         have r3:=eq_pt_f hac
         cases had:decide (a=d)
         case' true.false.false.false.false.false.false.false.false=>
          have r4:=eq_pt_f had
          simp only[Bool.false_and,Bool.or_false,Bool.false_eq_true,if_false]
          clear hac had hne
         case' true.false.false.false.false.false.false.false.true=>
          have r4:=eq_pt_t had
          cases hbc:decide (b=c)
          case' false=>have r5:=eq_pt_f hbc
          case' true=>have r5:=eq_pt_t hbc
          all_goals
           simp only[Bool.true_and,Bool.false_or,Bool.false_and,Bool.and_false,Bool.or_false,Bool.false_eq_true,if_false,if_true]
           clear hac had hne hbc
        case' true.false.false.false.false.false.false.true=>
         have had:decide (a=d)=false:=by
          cases had:decide (a=d)
          ·rfl
          ·exact absurd ⟨hac,had⟩ hne
         have r3:=eq_pt_t hac
         have r4:=eq_pt_f had
         cases hbd:decide (b=d)
         case' false=>have r5:=eq_pt_f hbd
         case' true=>have r5:=eq_pt_t hbd
         all_goals
          simp only[had,Bool.true_and,Bool.true_or,Bool.false_and,Bool.and_false,Bool.or_false,Bool.false_eq_true,if_false,if_true]
          clear hac had hne hbd
        all_goals
         try
          have hp:=trn_mul a b c a b d
          have hq:=trn_mul c d a c d b
          generalize trn a b c=t1 at*
          generalize trn a b d=t2 at*
          generalize trn c d a=t3 at*
          generalize trn c d b=t4 at*
          obtain⟨p1,hpp⟩: ∃p1,p1=t1*t2:=⟨_,rfl⟩
          obtain⟨p2,hqq⟩: ∃p2,p2=t3*t4:=⟨_,rfl⟩
          have hw1:wrap64 (t1*t2)=p1:=by rw[←hpp];exact IntWalk.wrap64_in _ ⟨by omega,by omega⟩
          have hw2:wrap64 (t3*t4)=p2:=by rw[←hqq];exact IntWalk.wrap64_in _ ⟨by omega,by omega⟩
          have hv1:IntKind.i64.wrap (t1*t2)=p1:=by rw[←hpp];exact IntWalk.i64_in _ (by omega)
          have hv2:IntKind.i64.wrap (t3*t4)=p2:=by rw[←hqq];exact IntWalk.i64_in _ (by omega)
          rw[←hpp, ←hqq]
          clear hpp hqq hp hq
          rcases neg_cases p1 p2 with ⟨dp,hp0⟩|⟨dp,dq,hp0,hq0⟩|⟨dp,dq,hp0,hq0⟩
        all_goals
         try rw[dp]
         try rw[dq]
         try rw[Bool.false_and]
 all_goals
  go_enter Try.func73,Try.ntmps73
  go_wp2_with fail
  have HC:=fun(W:World) hb=>Lib.hid (box4 w a b c d (W:=W) hb)
  have HB:=Lib.hid (box4_start w a b c d)
  refine((HALL _ _ (pts4 _ a b c d (by simp)) (by simp)).out).mono ?_
  rintro e w1 ⟨rfl,hb1⟩
  have HB:=bnx HB (Lib.hid (Nat.le_refl _)) hb1
  obtain⟨qx0,qx1,qx2,qx3,qx4,qx5,qx6,qx7⟩:=(HC _ HB.out).out
  clear hb1
  go_wp2_with fail
  repeat
   first|with_reducible refine((H1 _).out).mono ?_|with_reducible refine((H2 _).out).mono ?_|with_reducible refine((H3 _).out).mono ?_|with_reducible refine((H4 _).out).mono ?_
   rintro e w2 ⟨rfl,hb2⟩
   have HB:=bnx HB (Lib.hid (Nat.le_refl _)) hb2
   clear qx0 qx1 qx2 qx3 qx4 qx5 qx6 qx7
   obtain⟨qx0,qx1,qx2,qx3,qx4,qx5,qx6,qx7⟩:=(HC _ HB.out).out
   clear hb2
   go_wp2_with fail
  try
   refine wp_name (fun c3 hc3=> ?_)
   have HB:=bnm HB (Lib.hid (Nat.le_refl _)) hc3
   clear hc3
   have xx:=fun(x:Later c3)=>(HC _ (bnl HB (Lib.hid (Nat.le_refl _)) x.2)).out
   simp only[forall_and] at xx
   obtain⟨xx0,xx1,xx2,xx3,xx4,xx5,xx6,xx7⟩:=xx
   refine wp_region_later (by kernel_rfl) (by kernel_rfl) ?_
   repeat (first|go_big_quiet_step (((first|(go_at_call 87;with_reducible refine Later.call (T1 _).out)|(go_at_call 87;with_reducible refine Later.call (T2 _).out)|(go_at_call 87;with_reducible refine Later.call (T3 _).out)|(go_at_call 87;with_reducible refine Later.call (T4 _).out))))|quiet_step (((first|(go_at_call 87;with_reducible refine Later.call (T1 _).out)|(go_at_call 87;with_reducible refine Later.call (T2 _).out)|(go_at_call 87;with_reducible refine Later.call (T3 _).out)|(go_at_call 87;with_reducible refine Later.call (T4 _).out)))))
   refine wpQuiet_nil ?_
   intro w3 hw3
   have hb3:=later_below hw3
   clear hw3
   have HB:=Lib.hid (bnl HB (Lib.hid (Nat.le_refl _)) hb3)
   clear xx0 xx1 xx2 xx3 xx4 xx5 xx6 xx7
   clear qx0 qx1 qx2 qx3 qx4 qx5 qx6 qx7
   obtain⟨qx0,qx1,qx2,qx3,qx4,qx5,qx6,qx7⟩:=(HC _ HB.out).out
   clear hb3
   go_wp2_with fail
  go_ret
  exact⟨rfl,box_end HB.out (by repeat (first|exact Below.refl _ _|refine below_alloc ?_))⟩
end Go.Proofs.Ythopjhifepijiaa
namespace Go.Proofs.Ythopjhifepijiaa
open Go.RowKit
set_option maxRecDepth 100000 in
set_option maxHeartbeats 4000000 in
theorem around_any (o a b:Pt) (w:World):Calls Try.prog 76 #[.agg #[.int .i64 o.x, .int .i64 o.y], .agg #[.int .i64 a.x, .int .i64 a.y], .agg #[.int .i64 b.x, .int .i64 b.y]] w fun e w'=>e= .returned (.int .i64 (arnd o a b))∧Below w.heap.size w w':=by
 have HALL:=fun(W:World) (blk:Nat) (h:PtsAt W blk 0 [o,a,b]) (hb:blk<W.heap.size)=>Lib.hid (all_any (c:=3) h (n:=3) rfl (by simp) hb)
 have e:[o,a,b].all inB=(inB o&&inB a&&inB b):=by simp[Bool.and_assoc]
 rw[e] at HALL
 clear e
 unfold arnd
 cases hv:inB o&&inB a&&inB b
 ·rw[hv] at HALL
  simp only[Bool.not_false,Bool.true_or,if_true]
  clear hv
  go_enter Try.func76,Try.ntmps76
  go_wp2_with fail
  have HC:=fun(W:World) hb=>Lib.hid (box3 w o a b (W:=W) hb)
  have HB:=Lib.hid (box3_start w o a b)
  refine((HALL _ _ (pts3 _ o a b (by simp)) (by simp)).out).mono ?_
  rintro e w1 ⟨rfl,hb1⟩
  have HB:=bnx HB (Lib.hid (Nat.le_refl _)) hb1
  obtain⟨qx0,qx1,qx2,qx3,qx4,qx5⟩:=(HC _ HB.out).out
  clear hb1
  go_wp2_with fail
  go_ret
  exact⟨rfl,box_end HB.out (by repeat (first|exact Below.refl _ _|refine below_alloc ?_))⟩
 ·rw[hv] at HALL
  simp only[Bool.and_eq_true] at hv
  obtain⟨⟨io,ia⟩,ib⟩:=hv
  simp only[Bool.not_true,Bool.false_or]
  cases hab:decide (a=o)
  ·have r1:=eq_pt_f hab
   cases hcd:decide (b=o)
   ·have r2:=eq_pt_f hcd
    simp only[Bool.or_false,Bool.false_eq_true,if_false]
    have hh1:=half_bd o a
    have hh2:=half_bd o b
    have hh3:=trn_bd o a b
    have H1:=fun w=>Lib.hid (half_any o a w)
    have H2:=fun w=>Lib.hid (half_any o b w)
    have T1:=fun w=>Lib.hid (turn_in o a b w io ia ib)
    generalize halfI o a=h1 at*
    generalize halfI o b=h2 at*
    generalize trn o a b=t at*
    clear io ia ib hab hcd
    have e0:IntKind.i64.wrap (h1 - h2)=h1 - h2:=IntWalk.i64_in _ (by omega)
    by_cases hz:h1 - h2=0
    ·rw[if_neg (by simp[hz])]
     have z1:((h1 - h2) != 0)=false:=by simp[hz]
     have z2:((h1 - h2)==0)=true:=by simp[hz]
     clear hz
     go_enter Try.func76,Try.ntmps76
     go_wp2_with fail
     have HC:=fun(W:World) hb=>Lib.hid (box3 w o a b (W:=W) hb)
     have HB:=Lib.hid (box3_start w o a b)
     refine((HALL _ _ (pts3 _ o a b (by simp)) (by simp)).out).mono ?_
     rintro e w3 ⟨rfl,hb3⟩
     have HB:=bnx HB (Lib.hid (Nat.le_refl _)) hb3
     obtain⟨qx0,qx1,qx2,qx3,qx4,qx5⟩:=(HC _ HB.out).out
     clear hb3
     go_wp2_with fail
     refine wp_name (fun c4 hc4=> ?_)
     have HB:=bnm HB (Lib.hid (Nat.le_refl _)) hc4
     clear hc4
     have xx:=fun(x:Later c4)=>(HC _ (bnl HB (Lib.hid (Nat.le_refl _)) x.2)).out
     simp only[forall_and] at xx
     obtain⟨xx0,xx1,xx2,xx3,xx4,xx5⟩:=xx
     refine wp_region_later (by kernel_rfl) (by kernel_rfl) ?_
     repeat (first|go_big_quiet_step (((first|(go_at_call 95;with_reducible refine Later.call (H1 _).out)|(go_at_call 95;with_reducible refine Later.call (H2 _).out))))|quiet_step (((first|(go_at_call 95;with_reducible refine Later.call (H1 _).out)|(go_at_call 95;with_reducible refine Later.call (H2 _).out)))))
     refine wpQuiet_nil ?_
     intro w4 hw4
     have hb4:=later_below hw4
     clear hw4
     have HB:=Lib.hid (bnl HB (Lib.hid (Nat.le_refl _)) hb4)
     clear xx0 xx1 xx2 xx3 xx4 xx5
     clear qx0 qx1 qx2 qx3 qx4 qx5
     obtain⟨qx0,qx1,qx2,qx3,qx4,qx5⟩:=(HC _ HB.out).out
     clear hb4
     go_wp2_with fail
     refine((T1 _).out).mono ?_
     rintro e w5 ⟨rfl,hb5⟩
     have HB:=bnx HB (Lib.hid (Nat.le_refl _)) hb5
     clear qx0 qx1 qx2 qx3 qx4 qx5
     obtain⟨qx0,qx1,qx2,qx3,qx4,qx5⟩:=(HC _ HB.out).out
     clear hb5
     go_wp2_with fail
     go_ret
     exact⟨rfl,box_end HB.out (by repeat (first|exact Below.refl _ _|refine below_alloc ?_))⟩
    ·rw[if_pos (by simpa using hz)]
     have z1:((h1 - h2) != 0)=true:=by simp[hz]
     have z2:((h1 - h2)==0)=false:=by simp[hz]
     clear hz
     go_enter Try.func76,Try.ntmps76
     go_wp2_with fail
     have HC:=fun(W:World) hb=>Lib.hid (box3 w o a b (W:=W) hb)
     have HB:=Lib.hid (box3_start w o a b)
     refine((HALL _ _ (pts3 _ o a b (by simp)) (by simp)).out).mono ?_
     rintro e w7 ⟨rfl,hb7⟩
     have HB:=bnx HB (Lib.hid (Nat.le_refl _)) hb7
     obtain⟨qx0,qx1,qx2,qx3,qx4,qx5⟩:=(HC _ HB.out).out
     clear hb7
     go_wp2_with fail
     refine wp_name (fun c8 hc8=> ?_)
     have HB:=bnm HB (Lib.hid (Nat.le_refl _)) hc8
     clear hc8
     have xx:=fun(x:Later c8)=>(HC _ (bnl HB (Lib.hid (Nat.le_refl _)) x.2)).out
     simp only[forall_and] at xx
     obtain⟨xx0,xx1,xx2,xx3,xx4,xx5⟩:=xx
     refine wp_region_later (by kernel_rfl) (by kernel_rfl) ?_
     repeat (first|go_big_quiet_step (((first|(go_at_call 95;with_reducible refine Later.call (H1 _).out)|(go_at_call 95;with_reducible refine Later.call (H2 _).out))))|quiet_step (((first|(go_at_call 95;with_reducible refine Later.call (H1 _).out)|(go_at_call 95;with_reducible refine Later.call (H2 _).out)))))
     refine wpQuiet_nil ?_
     intro w8 hw8
     have hb8:=later_below hw8
     clear hw8
     have HB:=Lib.hid (bnl HB (Lib.hid (Nat.le_refl _)) hb8)
     clear xx0 xx1 xx2 xx3 xx4 xx5
     clear qx0 qx1 qx2 qx3 qx4 qx5
     obtain⟨qx0,qx1,qx2,qx3,qx4,qx5⟩:=(HC _ HB.out).out
     clear hb8
     go_wp2_with fail
     go_ret
     exact⟨rfl,box_end HB.out (by repeat (first|exact Below.refl _ _|refine below_alloc ?_))⟩
   ·have r2:=eq_pt_t hcd
    simp only[Bool.or_true,if_true]
    clear hab hcd
    go_enter Try.func76,Try.ntmps76
    go_wp2_with fail
    have HC:=fun(W:World) hb=>Lib.hid (box3 w o a b (W:=W) hb)
    have HB:=Lib.hid (box3_start w o a b)
    refine((HALL _ _ (pts3 _ o a b (by simp)) (by simp)).out).mono ?_
    rintro e w10 ⟨rfl,hb10⟩
    have HB:=bnx HB (Lib.hid (Nat.le_refl _)) hb10
    obtain⟨qx0,qx1,qx2,qx3,qx4,qx5⟩:=(HC _ HB.out).out
    clear hb10
    go_wp2_with fail
    go_ret
    exact⟨rfl,box_end HB.out (by repeat (first|exact Below.refl _ _|refine below_alloc ?_))⟩
  ·have r1:=eq_pt_t hab
   simp only[Bool.true_or,if_true]
   clear hab
   go_enter Try.func76,Try.ntmps76
   go_wp2_with fail
   have HC:=fun(W:World) hb=>Lib.hid (box3 w o a b (W:=W) hb)
   have HB:=Lib.hid (box3_start w o a b)
   refine((HALL _ _ (pts3 _ o a b (by simp)) (by simp)).out).mono ?_
   rintro e w12 ⟨rfl,hb12⟩
   have HB:=bnx HB (Lib.hid (Nat.le_refl _)) hb12
   obtain⟨qx0,qx1,qx2,qx3,qx4,qx5⟩:=(HC _ HB.out).out
   clear hb12
   go_wp2_with fail
   go_ret
   exact⟨rfl,box_end HB.out (by repeat (first|exact Below.refl _ _|refine below_alloc ?_))⟩
end Go.Proofs.Ythopjhifepijiaa
namespace Go.Proofs.Ythopjhifepijiaa
open Go.RowKit
open Go.Maps (Keyed)
def heldR (v:Value):Option (DataW Value × List MemPlace):=some (.held v,[])
def MapT {α β:Type} (w:World) (P:Program) (k:TypeId) (b n:Nat) (ek:α→Value) (ev:β→Value) (g:α→Option β):Prop:=
 ∃D:DataW Value,w.ownsMap P k heldR b n D∧ ∀x l,keyOf P k (ek x)=some l→Maps.has D l=(g x).isSome∧ ∀z,D.atKey l z=match g x with
  |some u=> .held (ev u)
  |none=>z
variable {α β:Type} {w w':World} {P:Program} {k e t:TypeId} {b n:Nat} {ek:α→Value} {ev:β→Value} {g:α→Option β}
theorem MapT.lt (h:MapT w P k b n ek ev g):b<w.heap.size:=h.elim fun D h=>h.1.lt
theorem MapT.mono (h:MapT w P k b n ek ev g) {m:Nat} (hm:n≤m):MapT w P k b m ek ev g:=h.elim fun D h=>⟨D,h.1.mono hm,h.2⟩
theorem MapT.touch {F:List Nat} (h:MapT w P k b n ek ev g) (ht:Touch F w w') (hb:b∉F):MapT w' P k b n ek ev g:=h.elim fun D h=>⟨D,ownsMap_touch h.1 ht hb,h.2⟩
theorem MapT.alloc (h:MapT w P k b n ek ev g) (o:Obj):MapT (w.alloc o) P k b n ek ev g:=h.elim fun D h=>⟨D,h.1.alloc o,h.2⟩
theorem MapT.below (h:MapT w P k b n ek ev g) (hb:Below w.heap.size w w'):MapT w' P k b n ek ev g:=h.touch (F:=[]) (Touch.of_below hb) (by simp)
theorem MapT.made (w:World) (P:Program) (k:TypeId) (ek:α→Value) (ev:β→Value):MapT (w.alloc (.map #[] 0)) P k w.heap.size 0 ek ev (fun _=>none):=
 ⟨_,World.ownsMap_made _ _ _ _,fun _ _ _=>⟨rfl,fun _=>rfl⟩⟩
theorem MapT.congr (h:MapT w P k b n ek ev g) {g':α→Option β} (hg: ∀x l,keyOf P k (ek x)=some l→g x=g' x):MapT w P k b n ek ev g':=
 h.elim fun D ⟨h1,h2⟩=>⟨D,h1,fun x l hx=>hg x l hx▸h2 x l hx⟩
theorem MapT.look (h:MapT w P k b n ek ev g) (K:Keyed P k) (ht:P.underlying t=some (.map k e)) {z:Value} (hz:(zeroValue e).run P w= .ok z w) {x:α} {l:Lit} (hk:keyOf P k (ek x)=some l):
  (Instr.lookup t (.map (some b)) (ek x) false).run P w= .ok (((g x).map ev).getD z) w:=by
 obtain⟨D,hD,hg⟩:=h
 obtain⟨v,ps,hrun,hv⟩:=hD.lookup K ht hz (zd:= .held z) (zp:=[]) rfl hk
 rw[hrun]
 unfold heldR at hv
 injection hv with hv
 injection hv with hv1 hv2
 rw[(hg x l hk).2] at hv1
 cases hgx:g x with
 |none=>rw[hgx] at hv1;injection hv1 with h1;rw[h1];rfl
 |some u=>rw[hgx] at hv1;injection hv1 with h1;rw[h1];rfl
theorem MapT.look_ok (h:MapT w P k b n ek ev g) (K:Keyed P k) (ht:P.underlying t=some (.map k e)) {z:Value} (hz:(zeroValue e).run P w= .ok z w) {x:α} {l:Lit} (hk:keyOf P k (ek x)=some l):
  (Instr.lookup t (.map (some b)) (ek x) true).run P w= .ok (.tuple #[((g x).map ev).getD z, .bool (g x).isSome]) w:=by
 obtain⟨D,hD,hg⟩:=h
 obtain⟨v,ps,hrun,hv⟩:=hD.look_ok K ht hz (zd:= .held z) (zp:=[]) rfl hk
 rw[hrun,(hg x l hk).1]
 unfold heldR at hv
 injection hv with hv
 injection hv with hv1 hv2
 rw[(hg x l hk).2] at hv1
 cases hgx:g x with
 |none=>rw[hgx] at hv1;injection hv1 with h1;rw[h1];rfl
 |some u=>rw[hgx] at hv1;injection hv1 with h1;rw[h1];rfl
def updT {α β:Type} [DecidableEq α] (g:α→Option β) (x:α) (v:β):α→Option β:=fun y=>if y=x then some v else g y
theorem put_T [DecidableEq α] {D:DataW Value} (hm:Maps.IsMap D) (K:Keyed P k) {x:α} {l:Lit} (hk:keyOf P k (ek x)=some l) (hinj: ∀y,ek y=ek x→y=x) (v:β)
  (hg: ∀x l,keyOf P k (ek x)=some l→Maps.has D l=(g x).isSome∧ ∀z,D.atKey l z=match g x with
  |some u=> .held (ev u)
  |none=>z): ∀y l',keyOf P k (ek y)=some l'→Maps.has (D.put l (.held (ev v))) l'=(updT g x v y).isSome∧ ∀z,(D.put l (.held (ev v))).atKey l' z=match updT g x v y with
  |some u=> .held (ev u)
  |none=>z:=by
 intro y l' hy
 by_cases e:y=x
 ·subst e
  rw[hk] at hy
  injection hy with hy
  subst hy
  unfold updT
  rw[if_pos rfl]
  exact⟨Maps.has_put_same hm (K.key hk) _,fun z=>Maps.atKey_put_same hm (K.key hk) _ _⟩
 ·have hne:l'≠l:=fun e'=>by
   subst e'
   exact e (hinj y (K.inj hy hk))
  unfold updT
  rw[if_neg e]
  exact⟨(Maps.has_put_other hne _).trans (hg y l' hy).1,fun z=>(Maps.atKey_put_other hne _ _).trans ((hg y l' hy).2 z)⟩
theorem wpList_update_T [DecidableEq α] (w:World) {ops:Array Oper} {rest:List Oper} {o:Oper} {a:Act} {Q:Exit→Act→World→Prop}
  (hg:o.guard=none) (m x v:Operand) (t:TypeId) (hop:o.op=Op.mapUpdate t m x v) (k e:TypeId) (K:Keyed P k) (ht:P.underlying t=some (.map k e)) (b n:Nat) (ek:α→Value) (ev:β→Value) (g:α→Option β)
  (hown:MapT w P k b n ek ev g) (hm:a.eval m= .map (some b)) (hn:n<maxLen) (y:α) (l:Lit) (hx:a.eval x=ek y) (hkey:keyOf P k (ek y)=some l) (hinj: ∀z,ek z=ek y→z=y) (u:β) (hv:a.eval v=ev u)
  (hK: ∀w',MapT w' P k b (n+1) ek ev (updT g y u)→w.grownBy w' (some b)→wpList P ops Q rest (a.put o.dst undef) w'):
  wpList P ops Q (o::rest) a w:=by
 obtain⟨D,hD,hgx⟩:=hown
 exact wpList_mapUpdate_own w hg m x v t hop k e K ht heldR b n D hm hD hn (ek y) (ev u) l hx hv hkey (.held (ev u)) [] rfl fun w' h1 h2=>
  hK w' ⟨_,h1,put_T hD.isMap K hkey hinj u hgx⟩ h2
def RngT {α β:Type} (w:World) (P:Program) (k:TypeId) (b r n:Nat) (ek:α→Value) (ev:β→Value) (g:α→Option β) (left:α→Bool) (cnt:Nat):Prop:=
 ∃(D:DataW Value) (lf:Lit→Bool),w.ranges P k heldR b r n D lf cnt∧(∀x l,keyOf P k (ek x)=some l→Maps.has D l=(g x).isSome∧ ∀z,D.atKey l z=match g x with
  |some u=> .held (ev u)
  |none=>z)∧ ∀x l,keyOf P k (ek x)=some l→lf l=left x
theorem RngT.map {r cnt:Nat} {left:α→Bool} (h:RngT w P k b r n ek ev g left cnt):MapT w P k b n ek ev g:=h.elim fun D h=>h.elim fun lf h=>⟨D,h.1.owns,h.2.1⟩
theorem RngT.lt {r cnt:Nat} {left:α→Bool} (h:RngT w P k b r n ek ev g left cnt):r<w.heap.size:=h.elim fun D h=>h.elim fun lf h=>h.1.lt
theorem RngT.ne {r cnt:Nat} {left:α→Bool} (h:RngT w P k b r n ek ev g left cnt):r≠b:=h.elim fun D h=>h.elim fun lf h=>h.1.ne
theorem RngT.left_eq {r cnt:Nat} {left:α→Bool} (h:RngT w P k b r n ek ev g left cnt):w.rangeLeft b r=cnt:=h.elim fun D h=>h.elim fun lf h=>h.1.left_eq
theorem ranges_touch {H:Type} {F:List Nat} {R:Value→Option (DataW H × List MemPlace)} {r cnt:Nat} {D:DataW H} {left:Lit→Bool} (h:w.ranges P k R b r n D left cnt) (ht:Touch F w w') (hb:b∉F) (hr:r∉F):w'.ranges P k R b r n D left cnt:=by
 have h1:=h.owns.lt
 have h2:=h.lt
 obtain⟨es,clock,since,seen,c0,hb',Fi,hs,hD,hr',rest⟩:=h
 exact⟨es,clock,since,seen,c0,(ht.block h1 hb).trans hb',Fi,hs,hD,(ht.block h2 hr).trans hr',rest⟩
theorem RngT.touch {F:List Nat} {r cnt:Nat} {left:α→Bool} (h:RngT w P k b r n ek ev g left cnt) (ht:Touch F w w') (hb:b∉F) (hr:r∉F):RngT w' P k b r n ek ev g left cnt:=
 h.elim fun D h=>h.elim fun lf h=>⟨D,lf,ranges_touch h.1 ht hb hr,h.2⟩
theorem wpList_range_T (w:World) {ops:Array Oper} {rest:List Oper} {o:Oper} {a:Act} {Q:Exit→Act→World→Prop}
  (hg:o.guard=none) (m:Operand) (t:TypeId) (hop:o.op=Op.range t m) (k e:TypeId) (K:Keyed P k) (ht:P.underlying t=some (.map k e)) (b n:Nat) (ek:α→Value) (ev:β→Value) (g:α→Option β)
  (hm:a.eval m= .map (some b)) (hown:MapT w P k b n ek ev g)
  (hK: ∀w' cnt,RngT w' P k b w.heap.size n ek ev g (fun x=>(g x).isSome) cnt→w.grownBy w' none→w'.heap.size=w.heap.size+1→wpList P ops Q rest (a.put o.dst (.pointer (some ⟨w.heap.size,0,none⟩))) w'):
  wpList P ops Q (o::rest) a w:=by
 obtain⟨D,hD,hgx⟩:=hown
 exact wpList_range_own w hg m t hop k e K ht heldR b n D hm hD fun w' h1 h2 h3=>hK w' _ ⟨D,_,h1,hgx,fun x l hx=>(hgx x l hx).1⟩ h2 h3
theorem wpList_next_T [DecidableEq α] (w:World) {ops:Array Oper} {rest:List Oper} {o:Oper} {a:Act} {Q:Exit→Act→World→Prop}
  (hg:o.guard=none) (it:Operand) (hop:o.op=Op.next it false) (k:TypeId) (K:Keyed P k) (b r n:Nat) (ek:α→Value) (ev:β→Value) (g:α→Option β) (left:α→Bool) (cnt:Nat)
  (invK: ∀key kl,keyOf P k key=some kl→ ∃x,key=ek x) (hinj: ∀y z,ek z=ek y→z=y)
  (hit:a.eval it= .pointer (some ⟨r,0,none⟩)) (h:RngT w P k b r n ek ev g left cnt)
  (hDone:(∀x l,keyOf P k (ek x)=some l→left x=false)→wpList P ops Q rest (a.put o.dst (.tuple #[.bool false])) w)
  (hMore: ∀(x:α) (u:β) (l:Lit) (w':World) (cnt':Nat),keyOf P k (ek x)=some l→left x=true→g x=some u→RngT w' P k b r n ek ev g (fun z=>left z&& !decide (z=x)) cnt'→cnt'<cnt→
   w.grownBy w' (some r)→w'.heap.size=w.heap.size→(Instr.entry (.pointer (some ⟨r,0,none⟩))).run P w'= .ok (.tuple #[ek x,ev u]) w'→wpList P ops Q rest (a.put o.dst (.tuple #[.bool true,ek x,ev u])) w'):
  wpList P ops Q (o::rest) a w:=by
 obtain⟨D,lf,hR,hgx,hlf⟩:=h
 refine wpList_next_ranges w hg it hop k K heldR ek (fun v:Value=>v) invK (fun v y hv=>⟨v,rfl⟩) b r n D lf cnt hit hR (fun h0 hl=>hDone fun x l hx=>by rw[←hlf x l hx];exact hl l) ?_
 intro x c kl y w' cnt' hkey hlx hRc hat hrg hlt hgr hsz hen
 unfold heldR at hRc
 injection hRc with hRc
 subst hRc
 have hg1:=(hgx x kl hkey).2 (.held (.bool true))
 have hg2:=(hgx x kl hkey).2 (.held (.bool false))
 rw[hat] at hg1 hg2
 cases hgx':g x with
 |none=>
  rw[hgx'] at hg1 hg2
  injection hg1 with e1
  injection hg2 with e2
  rw[e1] at e2
  cases e2
 |some u=>
  rw[hgx'] at hg1
  injection hg1 with e1
  have e2:c=ev u:=e1
  subst e2
  refine hMore x u kl w' cnt' hkey (by rw[←hlf x kl hkey];exact hlx) hgx' ⟨D,_,hrg,hgx,fun z l hz=> ?_⟩ hlt hgr hsz hen
  rw[hlf z l hz]
  by_cases e:z=x
  ·subst e
   rw[hkey] at hz
   injection hz with hz
   subst hz
   rw[WideAt.sameKey_self (K.key hkey)]
   simp
  ·have hne:l≠kl:=fun e'=>by
    subst e'
    exact e (hinj x z (K.inj hz hkey))
   rw[Maps.sameKey_ne hne]
   simp[e]
end Go.Proofs.Ythopjhifepijiaa
namespace Go.Proofs.Ythopjhifepijiaa
structure Vx where
 id:Int
 at_:Pt
deriving DecidableEq,Inhabited
structure Ed where
 id:Int
 a:Int
 b:Int
deriving DecidableEq,Inhabited
structure PL where
 vs:List Vx
 es:List Ed
def fitI (x:Int):Prop:= -9223372036854775808≤x∧x≤9223372036854775807
structure FitPL (p:PL):Prop where
 vs: ∀v∈p.vs,fitI v.id∧fitP v.at_
 es: ∀e∈p.es,fitI e.id∧fitI e.a∧fitI e.b
def ptOf (vs:List Vx) (id:Int):Option Pt:=(vs.find? (fun v=>v.id==id)).map (·.at_)
def ptZ (vs:List Vx) (id:Int):Pt:=(ptOf vs id).getD ⟨0,0⟩
theorem ptOf_some {vs:List Vx} {id:Int} {q:Pt} (h:ptOf vs id=some q): ∃v∈vs,v.id=id∧v.at_=q:=by
 unfold ptOf at h
 rw[Option.map_eq_some_iff] at h
 obtain⟨v,hv,e⟩:=h
 exact⟨v,List.mem_of_find?_eq_some hv,by simpa using List.find?_some hv,e⟩
theorem ptOf_snoc {vs:List Vx} {v:Vx} (h: ∀u∈vs,u.id≠v.id):ptOf (vs++[v])=updT (ptOf vs) v.id v.at_:=by
 funext id
 unfold updT
 by_cases e:id=v.id
 ·subst e
  rw[if_pos rfl]
  unfold ptOf
  rw[List.find?_append]
  have:vs.find? (fun u=>u.id==v.id)=none:=by
   rw[List.find?_eq_none];intro u hu;simpa using h u hu
  rw[this];simp
 ·rw[if_neg e]
  unfold ptOf
  rw[List.find?_append]
  have:[v].find? (fun u=>u.id==id)=none:=by
   rw[List.find?_eq_none];intro u hu;simp at hu;subst hu;simpa using fun h=>e h.symm
  rw[this];simp
def pid (vs:List Vx):Nat→Int
 |0=>0
 |i+1=>((vs[i]?).map (·.id)).getD 0
def eid (es:List Ed):Nat→Int
 |0=>0
 |i+1=>((es[i]?).map (·.id)).getD 0
structure VOk (vs:List Vx) (i:Nat) (v:Vx):Prop where
 rise:pid vs i<v.id
 inr:inB v.at_=true
 ne: ∀j u,j<i→vs[j]? =some u→u.at_≠v.at_
def ends (e:Ed):Int × Int:=(min e.a e.b,max e.a e.b)
structure EOk (vs:List Vx) (es:List Ed) (i:Nat) (e:Ed) (A B:Pt):Prop where
 rise:eid es i<e.id
 pa:ptOf vs e.a=some A
 pb:ptOf vs e.b=some B
 ab:e.a≠e.b
 pair: ∀j f,j<i→es[j]? =some f→ends f≠ends e
 way: ∀v∈vs,onB v.at_ A B=false
 cross: ∀j f,j<i→es[j]? =some f→meetB A B (ptZ vs f.a) (ptZ vs f.b)=false
structure RightP (p:PL):Prop where
 nv:p.vs.length≤512
 ne:p.es.length≤1024
 v: ∀i v,p.vs[i]? =some v→VOk p.vs i v
 e: ∀i e,p.es[i]? =some e→ ∃A B,EOk p.vs p.es i e A B
open Classical in
noncomputable def rightB (p:PL):Bool:=decide (RightP p)
open Classical in
theorem rightB_iff {p:PL}:rightB p=true↔RightP p:=by unfold rightB;exact decide_eq_true_iff
theorem rightB_no {p:PL} (h: ¬RightP p):rightB p=false:=by rw[Bool.eq_false_iff,ne_eq,rightB_iff];exact h
theorem pid_rise {vs:List Vx} {k:Nat} (h: ∀i v,i<k→vs[i]? =some v→VOk vs i v): ∀(d j:Nat) (u:Vx),j+d+1≤k→vs[j]? =some u→k≤vs.length→u.id≤pid vs (j+d+1)
 |0,j,u,hk,hu,hl=>by show u.id≤((vs[j]?).map (·.id)).getD 0;rw[hu];exact Int.le_refl _
 |d+1,j,u,hk,hu,hl=>by
  have ih:=pid_rise h d j u (by omega) hu hl
  obtain⟨x,hx⟩: ∃x,vs[j+d+1]? =some x:=⟨vs[j+d+1]'(by omega),List.getElem?_eq_getElem _⟩
  have:=(h (j+d+1) x (by omega) hx).rise
  show u.id≤((vs[j+d+1]?).map (·.id)).getD 0
  rw[hx]
  show u.id≤x.id
  omega
theorem id_new {vs:List Vx} {k:Nat} {v:Vx} (h: ∀i v,i<k→vs[i]? =some v→VOk vs i v) (hk:vs[k]? =some v) (hv:pid vs k<v.id): ∀u∈vs.take k,u.id<v.id:=by
 intro u hu
 obtain⟨j,hj⟩:=List.mem_iff_getElem?.1 hu
 have hjk:j<k:=by
  have:=(List.getElem?_eq_some_iff.1 hj).1
  rw[List.length_take] at this;omega
 rw[List.getElem?_take_of_lt hjk] at hj
 have hl:=(List.getElem?_eq_some_iff.1 hk).1
 have:=pid_rise h (k - 1 - j) j u (by omega) hj (by omega)
 rw[show j+(k - 1 - j)+1=k by omega] at this
 omega
theorem take_snoc' {α:Type} {l:List α} {k:Nat} {v:α} (h:l[k]? =some v):l.take (k+1)=l.take k++[v]:=by
 obtain⟨hk,rfl⟩:=List.getElem?_eq_some_iff.1 h
 exact List.take_succ_eq_append_getElem hk
theorem ids_apart {vs:List Vx} (h: ∀i v,vs[i]? =some v→VOk vs i v):vs.Pairwise (fun u v=>u.id≠v.id):=by
 rw[List.pairwise_iff_getElem]
 intro i j hi hj hij
 have h2:=id_new (k:=j) (v:=vs[j]) (fun i v _ hv=>h i v hv) (List.getElem?_eq_getElem hj) (h j _ (List.getElem?_eq_getElem hj)).rise vs[i] (by
  rw[List.mem_iff_getElem?]
  exact⟨i,by rw[List.getElem?_take_of_lt hij];exact List.getElem?_eq_getElem hi⟩)
 omega
end Go.Proofs.Ythopjhifepijiaa
