/- Lemmas on the way to the statement: Pairs, BtT, Acts13. -/
import Derived.Test.YtjgkegkinnlcoaaGreatDoorJ20
import Derived.Test.YtjgkegkinnlcoaaGreatDoorJ24
set_option linter.unusedSimpArgs false
set_option linter.unusedVariables false
namespace Go.Proofs.YtjgkegkinnlcoaaGreatDoor
open Go.RowKit Go.Maps Go.Joins
theorem findP_cons (key:Int) (p:Int × Int) (l:List (Int × Int)):findP key (p::l)=if p.1=key then(p.2,0) else findP key l:=by
 unfold findP
 rw[List.find?_cons]
 by_cases h:p.1=key
 ·rw[if_pos h];simp[h]
 ·rw[if_neg h,show(p.1==key)=false by simpa using h]
theorem findP_nil (key:Int):findP key []=(0,6):=rfl
set_option maxRecDepth 100000 in
set_option maxHeartbeats 1000000 in
theorem rget_any {w:World} {v:Value} {l:List (Int × Int)} (h:IsP w v l) (hl:l.length≤100000) (key:Int):
  Calls Tryz.prog 19 #[v, .int .u64 key] w fun e w'=>e= .returned (.tuple #[.int .u64 (findP key l).1, .int .i64 (findP key l).2])∧w'=w:=by
 obtain⟨a0,c0,rfl⟩:=h.form
 have HI:=Lib.hid h
 obtain⟨R,hR⟩: ∃R,R=findP key l:=⟨_,rfl⟩
 rw[←hR]
 have HR:=Lib.hid hR
 clear h hR
 go_enter Tryz.func19,Tryz.ntmps19
 go_wp2_with fail
 go_loopw [6] (fun i wr=>(∃j:Nat,j≤l.length∧i= .int .i64 j∧R=findP key (l.drop j))∧wr=w) (fun i _=>l.length - (intOf i).toNat)
 case atStart=>exact⟨⟨0,Nat.zero_le _,rfl,by rw[HR.out];rfl⟩,rfl⟩
 case round=>
  obtain⟨⟨j,hj,rfl,hq⟩,hww⟩:=hrel
  have hww:=hww.symm
  subst hww
  by_cases hjl:j<l.length
  ·obtain⟨g,o,c,hv,hg,hcs⟩:=HI.out.at_ (by omega)
   injection hv with hva hvn hvc
   subst hva
   subst hvc
   have hx:l[j]? =some l[j]:=List.getElem?_eq_getElem hjl
   obtain⟨hc1,hc2⟩:=hcs j _ hx
   rw[pdrop_at hx,findP_cons] at hq
   obtain⟨p,hp⟩: ∃p,p=l[j]:=⟨_,rfl⟩
   rw[←hp] at hc1 hc2 hq
   have y1:(j:Int)<(l.length:Int):=by omega
   have HQ:=Lib.hid hq
   clear hcs hx hp hq hvn
   by_cases hk:p.1=key
   ·have hq:R=(p.2,0):=by rw[HQ.out,if_pos hk]
    have d1:(p.1==key)=true:=by simpa using hk
    subst hq
    subst hk
    go_wp2_with fail
    go_ret2
    exact⟨rfl,rfl⟩
   ·have d1:(p.1==key)=false:=by simpa using hk
    have hq:R=findP key (l.drop (j+1)):=by rw[HQ.out,if_neg hk]
    have HQ2:=Lib.hid hq
    clear hq hk HQ
    go_wp2_with fail
    go_roundw
    case rel=>exact⟨⟨j+1,by omega,by go_num,HQ2.out⟩,trivial⟩
    case measure=>simp[intOf];omega
  ·have hje:j=l.length:=by omega
   subst hje
   rw[List.drop_length,findP_nil] at hq
   subst hq
   go_wp2_with fail
   go_ret2
   exact⟨rfl,rfl⟩
end Go.Proofs.YtjgkegkinnlcoaaGreatDoor
namespace Go.Proofs.YtjgkegkinnlcoaaGreatDoor
open Go.RowKit Go.Maps Go.Joins
section
variable {w0 w w':World} {p K J i:Nat} {seg:List (Int × Int)} {X Y:List Nat}
theorem t_del (h:IsT w0 w p K i seg X) (hi:i<8) (hs:seg.length≤2600) (hK:K≤400000000000) (key:Int) (hk:0≤key∧key≤18446744073709551615):
  Calls Tryz.prog 16 #[.pointer (some ⟨p,0,none⟩), .int .i64 i, .int .u64 key] w fun e w'=>e= .returned (.int .i64 (refDelE key seg))∧IsT w0 w' p (K+2100) i (delP key seg) X∧SameX X w w':=by
 obtain⟨M,R,P,h,hb,hm,hr⟩:=h
 obtain⟨M',R',P',e1,e2,e3,e4⟩:=hb.del hi hs key
 refine(Del_any h (by omega) i key hk).mono ?_
 rw[e1]
 rintro e w' ⟨he,hp,hx⟩
 exact⟨he,⟨M',R',P',hp,e2,by omega,by omega⟩,hx⟩
theorem t_get (h:IsT w0 w p K i seg X) (hi:i<8) (hs:seg.length≤2600) (hK:K≤400000000000) (key:Int):
  Calls Tryz.prog 18 #[.pointer (some ⟨p,0,none⟩), .int .i64 i, .int .u64 key] w fun e w'=>e= .returned (.tuple #[.int .u64 (findP key seg).1, .int .i64 (findP key seg).2])∧IsT w0 w' p (K+100) i seg X∧SameX X w w':=by
 obtain⟨M,R,P,h,hb,hm⟩:=h
 refine(Get_any h (by omega) i key).mono ?_
 rw[hb.get hi hs key]
 rintro e w' ⟨he,hp,hx⟩
 exact⟨he,⟨M,R,P,hp,hb,hm⟩,hx⟩
end
end Go.Proofs.YtjgkegkinnlcoaaGreatDoor
namespace Go.Proofs.YtjgkegkinnlcoaaGreatDoor
open Go.RowKit Go.Maps Go.Joins
structure ActD where
 b1:Int
 b2:Int
 key:Int
 step:Int
 val:Int
structure ActOk (x:ActD):Prop where
 u1:0≤x.b1∧x.b1≤255
 u2:0≤x.b2∧x.b2≤255
 k:0≤x.key∧x.key≤65535
 s:0≤x.step∧x.step≤65535
 v:0≤x.val∧x.val≤18446744073709551615
structure ActAt (w:World) (b o:Nat) (x:ActD):Prop where
 c0:w.cell? ⟨b,o,none⟩=some (.int .u8 x.b1)
 c1:w.cell? ⟨b,o+1,none⟩=some (.int .u8 x.b2)
 c2:w.cell? ⟨b,o+2,none⟩=some (.int .u16 x.key)
 c3:w.cell? ⟨b,o+3,none⟩=some (.int .u16 x.step)
 c4:w.cell? ⟨b,o+4,none⟩=some (.int .u64 x.val)
 ok:ActOk x
def ActsAt (w:World) (B lb off:Nat) (l:List ActD):Prop:=lb<B∧ ∀(k:Nat) (x:ActD),l[k]? =some x→ActAt w lb (off+k*5) x
theorem ActAt.below {w w':World} {B lb o:Nat} {x:ActD} (h:ActAt w lb o x) (hb:Below B w w') (hl:lb<B):ActAt w' lb o x:=
 ⟨(hb.cell (p:=⟨lb,o,none⟩) hl).trans h.c0,(hb.cell (p:=⟨lb,o+1,none⟩) hl).trans h.c1,(hb.cell (p:=⟨lb,o+2,none⟩) hl).trans h.c2,(hb.cell (p:=⟨lb,o+3,none⟩) hl).trans h.c3,(hb.cell (p:=⟨lb,o+4,none⟩) hl).trans h.c4,h.ok⟩
def ActsIn (w:World) (B:Nat) (a:Option Addr) (n:Nat) (l:List ActD):Prop:=n=l.length∧n≤9223372036854775807∧(n=0∨ ∃lb off,a=some ⟨lb,off,none⟩∧ActsAt w B lb off l)
theorem ActsIn.at_ {w w':World} {B n k:Nat} {a:Option Addr} {l:List ActD} (h:ActsIn w B a n l) (hb:Below B w w') (hk:k<n):
  ∃lb off x,a=some ⟨lb,off,none⟩∧ActAt w' lb (off+k*5) x∧lb<B:=by
 obtain⟨hn,hm,h0|⟨lb,off,rfl,hA⟩⟩:=h
 ·omega
 ·have hx:l[k]? =some (l[k]'(by omega)):=List.getElem?_eq_getElem _
  exact⟨lb,off,_,rfl,(hA.2 k _ hx).below hb hA.1,hA.1⟩
def actF (x:ActD):Nat→Value:=fun i=>match i with|0=> .int .u8 x.b1|1=> .int .u8 x.b2|2=> .int .u16 x.key|3=> .int .u16 x.step|_=> .int .u64 x.val
theorem act_new (w:World) (x:ActD):(w.alloc (.cells #[.int .u8 x.b1, .int .u8 x.b2, .int .u16 x.key, .int .u16 x.step, .int .u64 x.val] 30)).rowIs w.heap.size 30 5 (actF x):=
 World.rowIs_alloc w _ _ _ (fun i hi=>by rcases i with _|_|_|_|_|i<;>first|rfl|(simp at hi;omega))
theorem actF_cells {w:World} {b:Nat} {x:ActD} (h:w.rowIs b 30 5 (actF x)):w.cell? ⟨b,0,none⟩=some (.int .u8 x.b1)∧w.cell? ⟨b,1,none⟩=some (.int .u8 x.b2)∧w.cell? ⟨b,2,none⟩=some (.int .u16 x.key)∧w.cell? ⟨b,3,none⟩=some (.int .u16 x.step)∧w.cell? ⟨b,4,none⟩=some (.int .u64 x.val):=
 ⟨World.rowIs.cell h (i:=0) (by decide),World.rowIs.cell h (i:=1) (by decide),World.rowIs.cell h (i:=2) (by decide),World.rowIs.cell h (i:=3) (by decide),World.rowIs.cell h (i:=4) (by decide)⟩
end Go.Proofs.YtjgkegkinnlcoaaGreatDoor
