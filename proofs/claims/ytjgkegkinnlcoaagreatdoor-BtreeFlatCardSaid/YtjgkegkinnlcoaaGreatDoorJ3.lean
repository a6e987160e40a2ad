/- Lemmas on the way to the statement: Redo3, Redo4, Redo5, Redo6, MapT, MapN, MapD, Pool1. -/
import Derived.Test.YtjgkegkinnlcoaaGreatDoorJ2
import Derived.Deep.LoopGhost
import Derived.DeepKeys4
import Derived.IntWalk
import Derived.Maps.RangeWalk
set_option linter.unusedSimpArgs false
set_option linter.unusedVariables false
namespace Go.Proofs.YtjgkegkinnlcoaaGreatDoor
open Go.RowKit Go.Joins
structure LM where
 frm:Nat
 size:Nat
 at_:Nat
 next:Int
 dead:Bool
def logF (d:Nat) (l:LM):Nat→Value
 |0=> .pointer (some ⟨d,0,none⟩)
 |1=> .int .i64 l.frm
 |2=> .int .i64 l.size
 |3=> .int .i64 l.at_
 |4=> .int .u64 l.next
 |5=> .bool l.dead
 |_=>undef
def LogAt (w:World) (lb d:Nat) (l:LM):Prop:=w.rowIs lb 236 6 (logF d l)
theorem LogAt.cell {w:World} {lb d:Nat} {l:LM} (h:LogAt w lb d l):w.cell? ⟨lb,0,none⟩=some (.pointer (some ⟨d,0,none⟩))∧w.cell? ⟨lb,1,none⟩=some (.int .i64 l.frm)∧w.cell? ⟨lb,2,none⟩=some (.int .i64 l.size)∧
  w.cell? ⟨lb,3,none⟩=some (.int .i64 l.at_)∧w.cell? ⟨lb,4,none⟩=some (.int .u64 l.next)∧w.cell? ⟨lb,5,none⟩=some (.bool l.dead):=
 ⟨World.rowIs.cell h (i:=0) (by decide),World.rowIs.cell h (i:=1) (by decide),World.rowIs.cell h (i:=2) (by decide),World.rowIs.cell h (i:=3) (by decide),World.rowIs.cell h (i:=4) (by decide),World.rowIs.cell h (i:=5) (by decide)⟩
theorem LogAt.frozen {w:World} {lb d:Nat} {l:LM} (h:LogAt w lb d l) (i:Nat):w.frozen? ⟨lb,i,none⟩=false:=World.rowIs.frozen h i
theorem LogAt.lt {w:World} {lb d:Nat} {l:LM} (h:LogAt w lb d l):lb<w.heap.size:=World.rowIs.lt h
theorem LogAt.touch {w w':World} {lb d:Nat} {l:LM} {F:List Nat} (h:LogAt w lb d l) (t:Touch F w w') (hF:lb∉F):LogAt w' lb d l:=rowIs_touch h t hF
theorem LogAt.below {w w':World} {lb d:Nat} {l:LM} (h:LogAt w lb d l) (t:Below w.heap.size w w'):LogAt w' lb d l:=h.touch (F:=[]) (Touch.of_below t) (by simp)
theorem IsDisk.below {w w':World} {d:Nat} {F:List Nat} {m:DM} (h:IsDisk w d F m) (t:Below w.heap.size w w'):IsDisk w' d F m:=h.touch (F:=[]) (Touch.of_below t) (fun _ _ h=>by cases h)
def secM (m:DM) (i:Nat):ByteArray:=(lastW m.wait i).getD (m.sure.getD i ⟨#[]⟩)
theorem rdM_up {m:DM} (i:Nat) (h:m.down=false) (hi:i<m.sure.length):rdM m (i:Int)=(secM m i,0):=by
 unfold rdM secM;rw[h,if_neg (by decide),if_neg (by omega),Int.toNat_natCast]
theorem rdM_down {m:DM} (i:Int) (h:m.down=true):rdM m i=(⟨#[]⟩,11):=by unfold rdM;rw[h,if_pos rfl]
theorem lastW_size: ∀(l:List (Int × ByteArray)) (acc:Option ByteArray) (k:Int) {s:ByteArray},(∀x∈l,x.2.size=64)→(∀t,acc=some t→t.size=64)→l.foldl (fun acc x=>if x.1=k then some x.2 else acc) acc=some s→s.size=64
 | [],acc,k,s,_,ha,h=>ha s h
 |x::l,acc,k,s,hl,ha,h=>by
  refine lastW_size l _ k (fun y hy=>hl y (by simp[hy])) (fun t ht=> ?_) h
  simp only at ht
  split at ht
  ·cases ht;exact hl x (by simp)
  ·exact ha t ht
theorem secM_size {m:DM} {k:Nat} (h:DOk m k) (i:Nat) (hi:i<m.sure.length):(secM m i).size=64:=by
 unfold secM
 cases hl:lastW m.wait i with
 |some s=>exact lastW_size m.wait none i h.size.2 (fun t ht=>by cases ht) hl
 |none=>
  show(m.sure.getD i ⟨#[]⟩).size=64
  have:m.sure[i]? =some (m.sure[i]):=List.getElem?_eq_getElem hi
  simp only[List.getD,this,Option.getD_some]
  exact h.size.1 _ (List.getElem_mem _)
def pgSecs (m:DM) (p i:Nat):List ByteArray:=(List.range 9).map fun k=>secM m (p+1+i*9+k)
def txN (m:DM) (p:Nat):Int:=leN (cut (mT (secM m p)) 0 2)
def txHead (m:DM) (p:Nat) (next:Int) (left:Nat):Bool:=
 mOk (secM m p)&&decide (mN (secM m p)=next)&&decide (1≤txN m p∧txN m p≤64∧mT (secM m p)=textM (txN m p)∧9*txN m p≤(left:Int) - 1)
def txOk (m:DM) (p:Nat) (next:Int) (left:Nat):Bool:=txHead m p next left&&(List.range (txN m p).toNat).all fun i=>joinOk (pgSecs m p i)
def txPages (m:DM) (p n:Nat):List ByteArray:=(List.range n).map fun i=>joinP (pgSecs m p i)
theorem txPages_snoc (m:DM) (p n:Nat):txPages m p n++[joinP (pgSecs m p n)]=txPages m p (n+1):=by simp[txPages,List.range_succ]
theorem pgSecs_length (m:DM) (p i:Nat):(pgSecs m p i).length=9:=by simp[pgSecs]
theorem pgSecs_take (m:DM) (p i k:Nat) (h:k<9):(pgSecs m p i).take k++[secM m (p+1+i*9+k)]=(pgSecs m p i).take (k+1):=by
 apply takeL_snoc
 simp[pgSecs,h]
def secRow (m:DM) (p i k:Nat):List Value:=((pgSecs m p i).take k).map Value.string
def pgRow (m:DM) (p i:Nat):List Value:=(txPages m p i).map Value.string
theorem secRow_snoc (m:DM) (p i k r:Nat) (h:k<9) (hr:p+1+i*9+k=r):secRow m p i k++[.string (secM m r)]=secRow m p i (k+1):=by
 unfold secRow;rw[←hr, ←pgSecs_take m p i k h];simp
theorem secRow_all (m:DM) (p i:Nat):secRow m p i 9=(pgSecs m p i).map Value.string:=by
 unfold secRow;rw[List.take_of_length_le (by rw[pgSecs_length];omega)]
theorem pgRow_snoc (m:DM) (p i:Nat):pgRow m p i++[.string (joinP (pgSecs m p i))]=pgRow m p (i+1):=by
 unfold pgRow;rw[←txPages_snoc];simp
def RdPost (w:World) (m:DM) (l:LM) (e:Ending) (w':World):Prop:=
 (txOk m (l.frm+l.at_) l.next (l.size - l.at_)=true∧ ∃v,e= .returned (.tuple #[.agg #[.int .u64 l.next,v], .bool true, .int .i64 0])∧
   w'.ownsRow w.heap.size 9 1 v (txN m (l.frm+l.at_)).toNat ((txPages m (l.frm+l.at_) (txN m (l.frm+l.at_)).toNat).map Value.string)∧Below w.heap.size w w')∨
 (txOk m (l.frm+l.at_) l.next (l.size - l.at_)=false∧e= .returned (.tuple #[.agg #[.int .u64 0, .slice none 0 0], .bool false, .int .i64 0])∧Below w.heap.size w w')
theorem RdPost.no {w w':World} {m:DM} {l:LM} (h:txOk m (l.frm+l.at_) l.next (l.size - l.at_)=false) (hb:Below w.heap.size w w'):RdPost w m l (.returned (.tuple #[.agg #[.int .u64 0, .slice none 0 0], .bool false, .int .i64 0])) w':= .inr ⟨h,rfl,hb⟩
theorem RdPost.yes {w w':World} {m:DM} {l:LM} {p left n:Nat} {seq:Int} {v:Value} (hp:p=l.frm+l.at_) (hleft:left=l.size - l.at_) (hok:txOk m p l.next left=true) (hn:txN m p=(n:Int)) (hs:seq=l.next)
  (hrow:w'.ownsRow w.heap.size 9 1 v n (pgRow m p n)) (hb:Below w.heap.size w w'):RdPost w m l (.returned (.tuple #[.agg #[.int .u64 seq,v], .bool true, .int .i64 0])) w':=by
 subst hp hleft hs
 refine .inl ⟨hok,v,rfl, ?_,hb⟩
 rw[hn,Int.toNat_natCast]
 exact hrow
theorem txOk_yes {m:DM} {p left n:Nat} {next:Int} (hn:txN m p=(n:Int)) (hh:txHead m p next left=true) (h: ∀j,j<n→joinOk (pgSecs m p j)=true):txOk m p next left=true:=by
 unfold txOk
 rw[hh,Bool.true_and,List.all_eq_true,hn,Int.toNat_natCast]
 intro j hj
 exact h j (List.mem_range.1 hj)
theorem txOk_pages {m:DM} {p left n i:Nat} {next:Int} (hn:txN m p=(n:Int)) (hi:i<n) (h:joinOk (pgSecs m p i)=false):txOk m p next left=false:=by
 unfold txOk
 rw[Bool.and_eq_false_iff]
 right
 rw[List.all_eq_false]
 exact⟨i,by rw[hn];simpa using hi,by simp[h]⟩
theorem txOk_head {m:DM} {p left:Nat} {next:Int} (h:txHead m p next left=false):txOk m p next left=false:=by unfold txOk;rw[h];rfl
theorem read_up {w:World} {d:Nat} {F:List Nat} {m:DM} (h:IsDisk w d F m) (hup:m.down=false) (i:Nat) (hi:i<m.sure.length) (hi2:i≤1000000):
  Calls Tryz.prog 84 #[.pointer (some ⟨d,0,none⟩), .int .i64 i] w fun e w'=>e= .returned (.tuple #[.string (secM m i), .int .i64 0])∧w=w':=by
 have:=is_read h i (by omega) (by omega)
 rwa [rdM_up i hup hi] at this
theorem read_dn {w:World} {d:Nat} {F:List Nat} {m:DM} (h:IsDisk w d F m) (hup:m.down=true) (i:Nat) (hi2:i≤1000000):
  Calls Tryz.prog 84 #[.pointer (some ⟨d,0,none⟩), .int .i64 i] w fun e w'=>e= .returned (.tuple #[.string ⟨#[]⟩, .int .i64 11])∧w=w':=by
 have:=is_read h i (by omega) (by omega)
 rwa [rdM_down i hup] at this
def txF (a b:Value):Nat→Value
 |0=>a
 |1=>b
 |_=>undef
theorem txF_new (w:World) (a b:Value):(w.alloc (.cells #[a,b] 153)).rowIs w.heap.size 153 2 (txF a b):=
 World.rowIs_alloc w #[a,b] 153 (txF a b) (fun i hi=>by
  rcases i with _|_|i
  ·rfl
  ·rfl
  ·simp at hi;omega)
theorem mark_facts {m:DM} {p:Nat} {next:Int} {left:Nat} (h:txHead m p next left=true):mOk (secM m p)=true∧mN (secM m p)=next∧1≤txN m p∧txN m p≤64∧mT (secM m p)=textM (txN m p)∧9*txN m p≤(left:Int) - 1:=by
 unfold txHead at h
 simp only[Bool.and_eq_true,decide_eq_true_eq] at h
 exact⟨h.1.1,h.1.2,h.2.1,h.2.2.1,h.2.2.2.1,h.2.2.2.2⟩
theorem txHead_no {m:DM} {p:Nat} {next:Int} {left:Nat} (h: ¬(mOk (secM m p)=true∧mN (secM m p)=next∧1≤txN m p∧txN m p≤64∧mT (secM m p)=textM (txN m p)∧9*txN m p≤(left:Int) - 1)):txHead m p next left=false:=by
 rw[←Bool.not_eq_true];exact fun e=>h (mark_facts e)
set_option maxRecDepth 100000 in
set_option maxHeartbeats 8000000 in
theorem lread_up {w:World} {lb d k:Nat} {l:LM} {m:DM} {F:List Nat} (hl:LogAt w lb d l) (hd:IsDisk w d F m) (hup:m.down=false) (hok:DOk m k) (hin:l.frm+l.size≤m.sure.length) (hat:l.at_<l.size):
  Calls Tryz.prog 158 #[.pointer (some ⟨lb,0,none⟩)] w (RdPost w m l):=by
 obtain⟨c0,c1,c2,c3,c4,c5⟩:=hl.cell
 have hlt:=hl.lt
 have hfew:=hok.few
 obtain⟨p,hp⟩: ∃p:Nat,p=l.frm+l.at_:=⟨_,rfl⟩
 obtain⟨left,hleft⟩: ∃left:Nat,left=l.size - l.at_:=⟨_,rfl⟩
 have NO: ∀W',txOk m p l.next left=false→Below w.heap.size w W'→RdPost w m l (.returned (.tuple #[.agg #[.int .u64 0, .slice none 0 0], .bool false, .int .i64 0])) W':=fun W' h hb=>RdPost.no (by rw[←hp, ←hleft];exact h) hb
 have hpl:p+left≤m.sure.length:=by omega
 have HRD:=fun(W:World) (h:Below w.heap.size w W)=>Lib.hid (fun i hi=>read_up (hd.below h) hup i hi (by omega))
 have HP:=Lib.hid hp
 have HLF:=Lib.hid hleft
 have hsz:=secM_size hok p (by omega)
 have hsz':(secM m p).size≤9223372036854775807:=by omega
 have HSZ:=fun i hi=>Lib.hid (secM_size hok i hi)
 have HNO:=Lib.hid NO
 have hwr:IntKind.i64.wrap ((l.frm:Int)+(l.at_:Int))=(p:Int):=by rw[IntKind.wrap_i64];omega
 have hl1:1≤left:=by omega
 have hla:(l.size:Int) - (l.at_:Int)=(left:Int):=by omega
 have HLA:=Lib.hid hla
 have HLG:=Lib.hid hl
 clear hup hp hleft hla NO hl hsz hin
 go_enter Tryz.func158,Tryz.ntmps158
 go_wp2_with fail
 go_quiet ((go_at_call 84;exact quiet_left ((HRD _ (below_drewN (below_alloc (Below.refl _ _)) _)).out p (by omega))))
 go_wp2_with fail
 refine(markGet_any (secM m p) _ hsz').mono ?_
 rintro e w2 ⟨rfl,q2,hw2⟩
 have hb2:Below w.heap.size w w2:=by rw[hw2];exact below_drewN (below_drewN (below_alloc (Below.refl _ _)) _) _
 have hr2:w2.rowIs w.heap.size 153 2 (txF (.int .u64 0) (.slice none 0 0)):=by rw[hw2];exact txF_new w _ _
 have HR2:=Lib.hid hr2
 have HB2:=Lib.hid hb2
 have hs2:=World.rowIs.lt hr2
 clear c0 c1 c2 c3 c4 c5 hw2 hb2
 obtain⟨c0,c1,c2,c3,c4,c5⟩:=(HLG.out.below HB2.out).cell
 have k0:=World.rowIs.cell hr2 (i:=0) (by decide)
 have k1:=World.rowIs.cell hr2 (i:=1) (by decide)
 have f0:=World.rowIs.frozen hr2 0
 have f1:=World.rowIs.frozen hr2 1
 simp only[txF] at k0 k1
 clear hr2
 cases hmo:mOk (secM m p)
 ·have HF:=Lib.hid (txOk_head (txHead_no (m:=m) (p:=p) (next:=l.next) (left:=left) (by rw[hmo];rintro ⟨h, -⟩;cases h)))
  clear hmo
  go_wp2_with fail
  refine bodyPost_ret (v:= .tuple #[.agg #[.int .u64 0, .slice none 0 0], .bool false, .int .i64 0]) (by simp[results,Tryz.results158,go_sem,k0,k1]) rfl ?_
  exact HNO.out _ HF.out ((HB2.out.setCell (by simp) _).setCell (by simp) _)
 ·by_cases hn:mN (secM m p)=l.next
  ·have hN: ∃n:Nat,txN m p=(n:Int)∧n<65536:=by
    have h:=leN_bd (cut (mT (secM m p)) 0 2)
    have hl:(cut (mT (secM m p)) 0 2).length≤2:=by unfold cut;simp;omega
    have:(256:Int) ^ (cut (mT (secM m p)) 0 2).length≤65536:=by
     generalize (cut (mT (secM m p)) 0 2).length=j at hl
     rcases j with _|_|_|j<;>first|decide|omega
    unfold txN
    exact⟨(leN (cut (mT (secM m p)) 0 2)).toNat,by omega,by omega⟩
   obtain⟨n,hN,hn64⟩:=hN
   have hg:leN (cut (mT (secM m p)) 0 2)=(n:Int):=hN
   have hmz:(mT (secM m p)).size=48:=by
    unfold mT;rw[hmo,if_pos rfl,ByteArray.size_extract,((mOk_iff _).1 hmo).1]
    rfl
   have hmz1:48≤(mT (secM m p)).size:=by omega
   have hmz2:(mT (secM m p)).size≤48:=by omega
   have e1:(mN (secM m p) != l.next)=false:=by rw[hn];simp
   have HMO:=Lib.hid hmo
   have HNX:=Lib.hid hn
   have HN:=Lib.hid hN
   have HG:=Lib.hid hg
   have x2: ∀x:Later w2,x.1.cell? ⟨lb,2,none⟩=some (.int .i64 l.size):=fun x=>(x.cell (Nat.lt_of_lt_of_le hlt HB2.out.size)).trans c2
   have x3: ∀x:Later w2,x.1.cell? ⟨lb,3,none⟩=some (.int .i64 l.at_):=fun x=>(x.cell (Nat.lt_of_lt_of_le hlt HB2.out.size)).trans c3
   have q1:IntKind.i64.wrap (n:Int)=(n:Int):=IntWalk.i64_in _ (by omega)
   have q2:IntKind.i64.wrap (9*(n:Int))=9*(n:Int):=IntWalk.i64_in _ (by omega)
   have q3:IntKind.i64.wrap ((l.size:Int) - (l.at_:Int))=(left:Int):=by rw[IntKind.wrap_i64,HLA.out];omega
   have q4:IntKind.i64.wrap ((left:Int) - 1)=(left:Int) - 1:=IntWalk.i64_in _ (by omega)
   have HTX:=Lib.hid (fun W=>text_any (n:Int) W (by omega) (by omega))
   clear hmo hn hN hg hmz
   have BAD: ¬(1≤n∧n≤64∧mT (secM m p)=textM n∧9*(n:Int)≤(left:Int) - 1)→Hid (txOk m p l.next left=false):=fun h=>Lib.hid (txOk_head (txHead_no (by
    rw[HN.out];rintro ⟨-, -,h1,h2,h3,h4⟩;exact h ⟨by omega,by omega,h3,h4⟩)))
   by_cases b1:n<1
   ·have HF:=BAD (by omega)
    have g1:decide ((n:Int)<1)=true:=by simp;omega
    clear BAD b1
    go_wp2_with fail
    refine(get_any (mT (secM m p)) 0 2 _ (by omega) (by omega) (by omega)).mono ?_
    rintro e w4 ⟨rfl,rfl⟩
    rw[HG.out]
    go_wp2_with fail
    go_quiet (fail)
    go_wp2_with fail
    refine bodyPost_ret (v:= .tuple #[.agg #[.int .u64 0, .slice none 0 0], .bool false, .int .i64 0]) (by simp[results,Tryz.results158,go_sem,k0,k1]) rfl ?_
    exact HNO.out _ HF.out (((below_drewN HB2.out _).setCell (by simp) _).setCell (by simp) _)
   ·by_cases b2:64<n
    ·have HF:=BAD (by omega)
     have g1:decide ((n:Int)<1)=false:=by simp;omega
     have g2:decide (64<(n:Int))=true:=by simp;omega
     clear BAD b1 b2
     go_wp2_with fail
     refine(get_any (mT (secM m p)) 0 2 _ (by omega) (by omega) (by omega)).mono ?_
     rintro e w4 ⟨rfl,rfl⟩
     rw[HG.out]
     go_wp2_with fail
     go_quiet (fail)
     go_wp2_with fail
     refine bodyPost_ret (v:= .tuple #[.agg #[.int .u64 0, .slice none 0 0], .bool false, .int .i64 0]) (by simp[results,Tryz.results158,go_sem,k0,k1]) rfl ?_
     exact HNO.out _ HF.out (((below_drewN HB2.out _).setCell (by simp) _).setCell (by simp) _)
    ·have g1:decide ((n:Int)<1)=false:=by simp;omega
     have g2:decide (64<(n:Int))=false:=by simp;omega
     by_cases b3:mT (secM m p)=textM n
     ·have st:=str_eq b3
      by_cases b4:9*(n:Int)≤(left:Int) - 1
      ·have g4:decide ((left:Int) - 1<9*(n:Int))=false:=by simp;omega
       have hhead:txHead m p l.next left=true:=by
        unfold txHead
        rw[HMO.out,HNX.out,HN.out,b3]
        simp;omega
       have HHD:=Lib.hid hhead
       have B4:=Lib.hid b4
       clear BAD b3 hhead
       go_wp2_with fail
       refine(get_any (mT (secM m p)) 0 2 _ (by omega) (by omega) (by omega)).mono ?_
       rintro e w4 ⟨rfl,rfl⟩
       rw[HG.out]
       go_wp2_with fail
       refine wp_region_later (by kernel_rfl) (by kernel_rfl) ?_
       repeat (first|go_big_quiet_step ((go_at_call 166;refine Later.call (HTX.out _)))|quiet_step ((go_at_call 166;refine Later.call (HTX.out _))))
       refine wpQuiet_nil ?_
       rintro w3 ⟨y3,hw3⟩
       have hb3:Below w2.heap.size w2 w3:=by rw[hw3];exact y3.2
       clear hw3
       have HR3:=Lib.hid (rowIs_touch HR2.out (F:=[]) (Touch.of_below hb3) (by simp))
       have HB3:=Lib.hid (below_step hb3 HB2.out)
       have hs3:w.heap.size<w3.heap.size:=Nat.lt_of_lt_of_le hs2 hb3.size
       clear x2 x3 c0 c1 c2 c3 c4 c5 k0 k1 f0 f1 q1 q2 q3 q4 g1 g2 g4 st HB2 HR2 hb3 HTX e1 hs2
       have q1:IntKind.i64.wrap (n:Int)=(n:Int):=IntWalk.i64_in _ (by omega)
       obtain⟨i0,hi,hz0,hz1,hz2⟩:=info_parts Tryz.infoStr
       go_wp2_with fail
       go_loopw [97] (fun c wr=> ∃i:Nat,i≤n∧c= .int .i64 i∧(∀j,j<i→joinOk (pgSecs m p j)=true)∧ ∃v,wr.rowIs w3.heap.size 153 2 (txF (.int .u64 (mN (secM m p))) v)∧
        wr.ownsRow (w3.heap.size+1) 9 1 v i (pgRow m p i)∧Below w3.heap.size w3 wr) (fun c _=>n - (intOf c).toNat)
       case atStart=>exact⟨0,Nat.zero_le _,rfl,fun j hj=>absurd hj (by omega),_,txF_new _ _ _,World.ownsRow_nil _ _ _ _,below_alloc (Below.refl _ _)⟩
       case round=>
        obtain⟨i,hin,rfl,hjoin,v,hrow,hown,hb⟩:=hrel
        have HJ:=Lib.hid hjoin
        have HROW:=Lib.hid hrow
        have HOWN:=Lib.hid hown
        have HB:=Lib.hid hb
        have htl:=World.rowIs.lt hrow
        clear hjoin hrow hown hb
        obtain⟨wo,rfl⟩: ∃wo:World,wo=wr:=⟨_,rfl⟩
        by_cases hlt2:i<n
        ·have HBW:=Lib.hid (below_step HB.out HB3.out)
         go_wp2_with fail
         go_loopw [14,100] (fun u c wr=> ∃k:Nat,k≤9∧c= .int .i64 k∧wr.ownsRow wo.heap.size 9 1 u k (secRow m p i k)∧Below wo.heap.size wo wr) (fun _ c _=>9 - (intOf c).toNat)
         case atStart=>exact⟨0,Nat.zero_le _,rfl,World.ownsRow_nil _ _ _ _,Below.refl _ _⟩
         case round=>
          obtain⟨k,hk9,rfl,hall,hbx⟩:=hrel
          have HALL:=Lib.hid hall
          have HBX:=Lib.hid hbx
          have hszx:=hbx.size
          clear hall hbx
          by_cases hkl:k<9
          ·have HBWX:=Lib.hid (below_step HBX.out HBW.out)
           obtain⟨c0,c1,c2,c3,c4,c5⟩:=(HLG.out.below HBWX.out).cell
           clear c2 c4 c5
           obtain⟨p1,hp1⟩: ∃p1:Nat,p1=p+1:=⟨_,rfl⟩
           obtain⟨i9,hi9⟩: ∃i9:Nat,i9=i*9:=⟨_,rfl⟩
           obtain⟨pi,hpi⟩: ∃pi:Nat,pi=p1+i9:=⟨_,rfl⟩
           obtain⟨r,hr⟩: ∃r:Nat,r=pi+k:=⟨_,rfl⟩
           have w1:IntKind.i64.wrap ((p:Int)+1)=(p1:Int):=by rw[IntKind.wrap_i64];omega
           have w2':IntKind.i64.wrap ((i:Int)*9)=(i9:Int):=by rw[IntKind.wrap_i64];omega
           have w3':IntKind.i64.wrap ((p1:Int)+(i9:Int))=(pi:Int):=by rw[IntKind.wrap_i64];omega
           have w4':IntKind.i64.wrap ((pi:Int)+(k:Int))=(r:Int):=by rw[IntKind.wrap_i64];omega
           have hrl:r<m.sure.length:=by omega
           have er:p+1+i*9+k=r:=by omega
           have HTK:=Lib.hid (secRow_snoc m p i k r hkl er)
           have HRS:=(HRD _ HBWX.out)
           clear hp1 hi9 hpi hr er
           go_wp2_with fail
           go_quiet ((go_at_call 84;exact quiet_left ((HRD _ (below_drewN HBWX.out _)).out r hrl)))
           clear c0 c1 c3 w1 w2' w3' w4'
           go_wp2_with (at_builtin;refine wpList_append_own _ rfl (.tmp 130) (.tmp 132) 47 rfl wo.heap.size 9 i0 (.string ⟨#[]⟩) 1 16 Tryz.underlying47 hi hz0 hz1 hz2 rfl (by decide) _ _ _ rfl ((show(wr.drewN nq).ownsRow _ _ _ _ _ _ from HALL.out).alloc _) ⟨wr.heap.size,0,none⟩ 1 1 [.string (secM m r)] rfl rfl ?c1 ?c2 ?c3 ?c4 ?c5 ?_)
           case c1=>exact cell_one_new _ _ _
           case c2=>intro u hu;simp at hu;subst hu;rfl
           case c3=>unfold maxLen;omega
           case c4=>omega
           case c5=>simp;omega
           intro v' w5 hown' hgrow _
           rw[HTK.out] at hown'
           have HO':=Lib.hid hown'
           have HB5:=Lib.hid (((below_drewN HBX.out nq).alloc hszx (.cells #[.string (secM m r)] 9)).grown hgrow (by simp;omega) (fun q hq=>(HALL.out.lt q hq).1))
           clear hown' hgrow
           go_wp2_with fail
           go_roundw
           case rel=>exact⟨k+1,by omega,by go_num,HO'.out,HB5.out⟩
           case measure=>simp[intOf];omega
          ·obtain rfl:k=9:=by omega
           have hall:=HALL.out
           rw[secRow_all] at hall
           obtain⟨g,cap,hv⟩:=ownsRow_form hall (by omega)
           rw[hv] at hall
           have hst:StrsAt wr (some ⟨g,0,none⟩) (pgSecs m p i):= .inr ⟨g,0,rfl,fun j x hx=>by
            have:=hall.cells rfl (j:=j) (u:= .string x) (by simp[hx])
            have e:(⟨g,0,none⟩:Addr).add j=⟨g,j,none⟩:=by unfold Addr.add;split<;>simp_all
            rw[e] at this
            rw[Nat.zero_add];exact this⟩
           have HST:=Lib.hid hst
           have HSS:Hid (∀s∈pgSecs m p i,s.size=64):=Lib.hid (fun s hs=>by
            simp only[pgSecs,List.mem_map,List.mem_range] at hs
            obtain⟨k,hk,rfl⟩:=hs
            exact(HSZ _ (by omega)).out)
           subst hv
           clear HALL hall hst
           go_wp2_with fail
           refine(joined_any (pgSecs_length m p i) HST.out HSS.out).mono ?_
           rintro e w6 ⟨r,rfl,hjr,hb6⟩
           have HB6:=Lib.hid (below_step hb6 HBX.out)
           have HB7:=Lib.hid (below_step HB6.out HBW.out)
           have HJR:=Lib.hid hjr
           have hs6:=HB6.out.size
           clear hjr hb6
           cases hjo:joinOk (pgSecs m p i)
           ·have HF:=Lib.hid (txOk_pages (left:=left) (next:=l.next) HN.out hlt2 hjo)
            have hr7:=rowIs_touch HR3.out (F:=[]) (Touch.of_below (below_step HB6.out HB.out)) (by simp)
            have k0:=World.rowIs.cell hr7 (i:=0) (by decide)
            have k1:=World.rowIs.cell hr7 (i:=1) (by decide)
            have f0:=World.rowIs.frozen hr7 0
            have f1:=World.rowIs.frozen hr7 1
            simp only[txF] at k0 k1
            clear hjo hr7
            go_wp2_with fail
            refine bodyPost_ret (v:= .tuple #[.agg #[.int .u64 0, .slice none 0 0], .bool false, .int .i64 0]) (by simp[results,Tryz.results158,go_sem,k0,k1]) rfl ?_
            exact HNO.out _ HF.out ((HB7.out.setCell (by simp) _).setCell (by simp) _)
           ·have HJO:=Lib.hid hjo
            clear hjo
            have hrow6:=rowIs_touch HROW.out (F:=[]) (Touch.of_below HB6.out) (by simp)
            have hown6:=ownsRow_touch HOWN.out (F:=[]) (Touch.of_below HB6.out) (by simp)
            have k1:=World.rowIs.cell hrow6 (i:=1) (by decide)
            simp only[txF] at k1
            have HROW6:=Lib.hid hrow6
            have HOWN6:=Lib.hid hown6
            have hlt6:=World.rowIs.lt hrow6
            clear hrow6 hown6
            have HPS:=Lib.hid (pgRow_snoc m p i)
            have hbv: ∀q,Value.ownBlock v=some q→w3.heap.size+1≤q:=fun q hq=>(HOWN.out.lt q hq).1
            have HBV:=Lib.hid hbv
            have hrow6a:=rowIs_touch HROW6.out (F:=[]) ((Touch.refl _ _).alloc (.cells #[.string r] 9)) (by simp)
            have HR6A:=Lib.hid hrow6a
            have hs63:w3.heap.size+1≤w6.heap.size:=by omega
            have HJ7:Hid (∀j,j<i+1→joinOk (pgSecs m p j)=true):=Lib.hid (fun j hj=>by
             rcases Nat.lt_or_ge j i with h|h
             ·exact HJ.out j h
             ·obtain rfl:j=i:=by omega
              exact HJO.out)
            have hrp:r=joinP (pgSecs m p i):=HJR.out HJO.out
            subst hrp
            have HWO:=Lib.hid (below_step HB6.out HB.out)
            clear hbv hrow6a
            go_wp2_with (at_builtin;refine wpList_append_own _ rfl (.tmp 144) (.tmp 146) 47 rfl (w3.heap.size+1) 9 i0 (.string ⟨#[]⟩) 1 16 Tryz.underlying47 hi hz0 hz1 hz2 rfl (by decide) v i (pgRow m p i) rfl (HOWN6.out.alloc _) ⟨w6.heap.size,0,none⟩ 1 1 [.string (joinP (pgSecs m p i))] rfl rfl (cell_one_new _ _ _) (by intro u hu;simp at hu;subst hu;rfl) (by unfold maxLen;omega) (by omega) (by simp;omega) ?_;intro v' w7 hown' hgrow _;obtain⟨g2,cap2,rfl⟩:=ownsRow_form hown' (by omega);rw[HPS.out] at hown';have hrow7:=rowIs_touch HR6A.out (Touch.of_grown hgrow) (fun hm=>by(have:=HBV.out _ (Option.mem_toList.1 hm));omega);have k1:=World.rowIs.cell hrow7 (i:=1) (by decide);have f1:=World.rowIs.frozen hrow7 1;simp only[txF] at k1;have HOW:=Lib.hid hown';have HGR:=Lib.hid hgrow;have HR7:=Lib.hid hrow7;clear hown' hgrow hrow7)
            go_roundw
            case rel=>
             refine⟨i+1,by omega,by go_num,HJ7.out, .slice (some ⟨g2,0,none⟩) (i+1) cap2, ?_, ?_, ?_⟩
             ·refine World.rowIs.congr (World.rowIs.set HR7.out 1 _) (fun t ht=> ?_)
              rcases t with _|_|t
              ·rfl
              ·rfl
              ·omega
             ·refine ownsRow_touch HOW.out ((Touch.refl [w3.heap.size] _).setCell (.inl (by simp)) _) (fun q hq=> ?_)
              have:=(HOW.out.lt q hq).1
              simp;omega
             ·refine Below.setCell ?_ (by simp) _
              refine Below.grown (below_alloc HWO.out) HGR.out (by simp;omega) (fun q hq=> ?_)
              have:=HBV.out q hq
              omega
            case measure=>simp[intOf];omega
        ·obtain rfl:i=n:=by omega
         have hpos:1≤i:=by have:=(mark_facts HHD.out).2.2.1;rw[HN.out] at this;omega
         obtain⟨g,cap,hv⟩:=ownsRow_form HOWN.out (by omega)
         subst hv
         have k2:=World.rowIs.cell HROW.out (i:=0) (by decide)
         have k3:=World.rowIs.cell HROW.out (i:=1) (by decide)
         simp only[txF] at k2 k3
         have hr7:=rowIs_touch HR3.out (F:=[]) (Touch.of_below HB.out) (by simp)
         have k0:=World.rowIs.cell hr7 (i:=0) (by decide)
         have k1:=World.rowIs.cell hr7 (i:=1) (by decide)
         have f0:=World.rowIs.frozen hr7 0
         have f1:=World.rowIs.frozen hr7 1
         simp only[txF] at k0 k1
         clear hr7
         go_wp2_with fail
         refine bodyPost_ret (v:= .tuple #[.agg #[.int .u64 (mN (secM m p)), .slice (some ⟨g,0,none⟩) i cap], .bool true, .int .i64 0]) (by simp[results,Tryz.results158,go_sem,k0,k1]) rfl ?_
         have hbF:=below_step HB.out HB3.out
         refine RdPost.yes HP.out HLF.out (txOk_yes HN.out HHD.out HJ.out) HN.out HNX.out ?_ ((hbF.setCell (by simp) _).setCell (by simp) _)
         refine ownsRow_touch (ownsRow_le HOWN.out (by omega)) (((Touch.refl [w.heap.size] _).setCell (.inl (by simp)) _).setCell (.inl (by simp)) _) (fun q hq=> ?_)
         have:=(HOWN.out.lt q hq).1
         simp;omega
      ·have HF:=BAD (fun h=>b4 h.2.2.2)
       have b5:(left:Int) - 1<9*(n:Int):=by omega
       have b6:(left:Int)≤9*(n:Int):=by omega
       clear BAD b3 b4
       go_wp2_with fail
       refine(get_any (mT (secM m p)) 0 2 _ (by omega) (by omega) (by omega)).mono ?_
       rintro e w4 ⟨rfl,rfl⟩
       rw[HG.out]
       go_wp2_with fail
       refine wp_region_later (by kernel_rfl) (by kernel_rfl) ?_
       repeat (first|go_big_quiet_step ((go_at_call 166;refine Later.call (HTX.out _)))|quiet_step ((go_at_call 166;refine Later.call (HTX.out _))))
       refine wpQuiet_nil ?_
       intro _ hw'
       obtain⟨⟨w3,hb3⟩,hw''⟩:=hw'
       subst hw''
       clear x2 x3
       have k0:=(hb3.cell (p:=⟨w.heap.size,0,none⟩) hs2).trans k0
       have k1:=(hb3.cell (p:=⟨w.heap.size,1,none⟩) hs2).trans k1
       have f0:=(hb3.frozen (p:=⟨w.heap.size,0,none⟩) hs2).trans f0
       have f1:=(hb3.frozen (p:=⟨w.heap.size,1,none⟩) hs2).trans f1
       have HB3:=Lib.hid (below_step hb3 HB2.out)
       clear hb3
       go_wp2_with fail
       refine bodyPost_ret (v:= .tuple #[.agg #[.int .u64 0, .slice none 0 0], .bool false, .int .i64 0]) (by simp[results,Tryz.results158,go_sem,k0,k1]) rfl ?_
       exact HNO.out _ HF.out ((HB3.out.setCell (by simp) _).setCell (by simp) _)
     ·have st:=str_ne b3
      have HF:=BAD (fun h=>b3 h.2.2.1)
      clear BAD b3
      go_wp2_with fail
      refine(get_any (mT (secM m p)) 0 2 _ (by omega) (by omega) (by omega)).mono ?_
      rintro e w4 ⟨rfl,rfl⟩
      rw[HG.out]
      go_wp2_with fail
      refine wp_region_later (by kernel_rfl) (by kernel_rfl) ?_
      repeat (first|go_big_quiet_step ((go_at_call 166;refine Later.call (HTX.out _)))|quiet_step ((go_at_call 166;refine Later.call (HTX.out _))))
      refine wpQuiet_nil ?_
      intro _ hw'
      obtain⟨⟨w3,hb3⟩,hw''⟩:=hw'
      subst hw''
      clear x2 x3
      have k0:=(hb3.cell (p:=⟨w.heap.size,0,none⟩) hs2).trans k0
      have k1:=(hb3.cell (p:=⟨w.heap.size,1,none⟩) hs2).trans k1
      have f0:=(hb3.frozen (p:=⟨w.heap.size,0,none⟩) hs2).trans f0
      have f1:=(hb3.frozen (p:=⟨w.heap.size,1,none⟩) hs2).trans f1
      have HB3:=Lib.hid (below_step hb3 HB2.out)
      clear hb3
      go_wp2_with fail
      refine bodyPost_ret (v:= .tuple #[.agg #[.int .u64 0, .slice none 0 0], .bool false, .int .i64 0]) (by simp[results,Tryz.results158,go_sem,k0,k1]) rfl ?_
      exact HNO.out _ HF.out ((HB3.out.setCell (by simp) _).setCell (by simp) _)
  ·have e1:(mN (secM m p) != l.next)=true:=by simpa using hn
   have HF:=Lib.hid (txOk_head (txHead_no (m:=m) (p:=p) (next:=l.next) (left:=left) (by rintro ⟨-,h, -⟩;exact hn h)))
   clear hmo hn
   go_wp2_with fail
   refine bodyPost_ret (v:= .tuple #[.agg #[.int .u64 0, .slice none 0 0], .bool false, .int .i64 0]) (by simp[results,Tryz.results158,go_sem,k0,k1]) rfl ?_
   exact HNO.out _ HF.out ((HB2.out.setCell (by simp) _).setCell (by simp) _)
end Go.Proofs.YtjgkegkinnlcoaaGreatDoor
namespace Go.Proofs.YtjgkegkinnlcoaaGreatDoor
open Go.RowKit Go.Joins
abbrev TxD:=Int × List ByteArray
def stF (m:DM) (frm size:Nat):Nat→Nat→Int→List TxD × Nat
 |0,a,_=>([],a)
 |f+1,a,q=>
  if a<size∧txOk m (frm+a) q (size - a)=true then
   ((q,txPages m (frm+a) (txN m (frm+a)).toNat)::(stF m frm size f (a+1+9*(txN m (frm+a)).toNat) ((q+1) % 18446744073709551616)).1,(stF m frm size f (a+1+9*(txN m (frm+a)).toNat) ((q+1) % 18446744073709551616)).2)
  else([],a)
def stM (m:DM) (frm size:Nat) (q:Int):List TxD × Nat:=stF m frm size (size+1) 0 q
theorem stF_end {m:DM} {frm size f a:Nat} {q:Int} (h: ¬(a<size∧txOk m (frm+a) q (size - a)=true)):stF m frm size f a q=([],a):=by
 cases f with
 |zero=>rfl
 |succ f=>rw[stF,if_neg h]
theorem own_ne {w:World} {b1 b2 n1 n2 s1 s2:Nat} {e1 e2:TypeId} {v1 v2:Value} {x1 x2:List Value} (h1:w.ownsRow b1 e1 s1 v1 n1 x1) (h2:w.ownsRow b2 e2 s2 v2 n2 x2) (hne:e1≠e2) {g:Nat} (h:v1.ownBlock=some g):v2.ownBlock≠some g:=by
 intro h'
 rcases h1.2 with ⟨rfl,_⟩|⟨g1,cap1,cur1,rfl,_,hh1,_⟩
 ·simp[Value.ownBlock] at h
 ·rcases h2.2 with ⟨rfl,_⟩|⟨g2,cap2,cur2,rfl,_,hh2,_⟩
  ·simp[Value.ownBlock] at h'
  ·simp[Value.ownBlock] at h h'
   subst h h'
   rw[hh1] at hh2
   injection hh2 with e
   injection e with _ e
   exact hne e
theorem Tryz.infoTxn:(Tryz.prog.info? 153).map (fun i=>(i.zero,i.size,i.bytes))=some (some (.agg #[.int .u64 0, .slice none 0 0]),2,32):=by kernel_rfl
def txCells (vs:List (Int × Value)):List Value:=vs.flatMap fun x=>[.int .u64 x.1,x.2]
theorem txCells_snoc (vs:List (Int × Value)) (q:Int) (v:Value):txCells vs++[.int .u64 q,v]=txCells (vs++[(q,v)]):=by simp[txCells]
def TxEach (w:World) (base:Nat) (vs:List (Int × Value)) (ts:List TxD):Prop:=
 vs.length=ts.length∧ ∀(j:Nat) x y,vs[j]? =some x→ts[j]? =some y→x.1=y.1∧w.ownsRow base 9 1 x.2 y.2.length (y.2.map Value.string)
def TxRow (w:World) (base:Nat) (v:Value) (ts:List TxD):Prop:= ∃vs,w.ownsRow base 153 2 v ts.length (txCells vs)∧TxEach w base vs ts
theorem TxEach.touch {w w':World} {base:Nat} {vs:List (Int × Value)} {ts:List TxD} {F:List Nat} (h:TxEach w base vs ts) (t:Touch F w w') (hF: ∀g∈F,g<base∨ ∃b n s v xs,w.ownsRow b 153 s v n xs∧Value.ownBlock v=some g):TxEach w' base vs ts:=by
 refine⟨h.1,fun j x y hx hy=> ?_⟩
 obtain⟨e,ho⟩:=h.2 j x y hx hy
 refine⟨e,ownsRow_touch ho t (fun g hg hm=> ?_)⟩
 rcases hF g hm with h'|⟨b,n,s,v,xs,hv,hb⟩
 ·have:=(ho.lt g hg).1;omega
 ·exact own_ne ho hv (by decide) hg hb
theorem TxRow.touch {w w':World} {base:Nat} {v:Value} {ts:List TxD} {F:List Nat} (h:TxRow w base v ts) (t:Touch F w w') (hF: ∀g∈F,g<base):TxRow w' base v ts:=by
 obtain⟨vs,h1,h2⟩:=h
 refine⟨vs,ownsRow_touch h1 t (fun g hg hm=> ?_),h2.touch t (fun g hg=> .inl (hF g hg))⟩
 have:=(h1.lt g hg).1
 have:=hF g hm
 omega
theorem TxRow.below {w w':World} {base:Nat} {v:Value} {ts:List TxD} (h:TxRow w base v ts) (t:Below w.heap.size w w'):TxRow w' base v ts:=h.touch (F:=[]) (Touch.of_below t) (fun _ h=>by cases h)
theorem TxRow.nil (w:World) (base:Nat):TxRow w base (.slice none 0 0) []:=⟨[],World.ownsRow_nil _ _ _ _,rfl,fun j x y hx=>by simp at hx⟩
def OpenPost (w:World) (d:Nat) (m:DM) (frm size:Nat) (q0:Int) (e:Ending) (w':World):Prop:=
 ∃v,e= .returned (.tuple #[.pointer (some ⟨w.heap.size,0,none⟩),v, .int .i64 0])∧LogAt w' w.heap.size d ⟨frm,size,(stM m frm size q0).2,(q0+(stM m frm size q0).1.length) % 18446744073709551616,false⟩∧
  TxRow w' (w.heap.size+1) v (stM m frm size q0).1∧Below w.heap.size w w'
structure OpenIn (w:World) (d:Nat) (m:DM) (frm size:Nat) (q0:Int) (f:Nat) (u:Value) (wr:World) (a:Nat) (q:Int) (ts:List TxD):Prop where
 le:a≤size
 log:LogAt wr w.heap.size d ⟨frm,size,a,q,false⟩
 row:TxRow wr (w.heap.size+1) u ts
 done:ts++(stF m frm size f a q).1=(stM m frm size q0).1
 ends:(stF m frm size f a q).2=(stM m frm size q0).2
 fuel:size<a+f
 num:q=(q0+ts.length) % 18446744073709551616
 len:ts.length≤a
 below:Below w.heap.size w wr
theorem stF_step {m:DM} {frm size f a n:Nat} {q:Int} (h:a<size) (h2:txOk m (frm+a) q (size - a)=true) (hn:txN m (frm+a)=(n:Int)):
  stF m frm size (f+1) a q=((q,txPages m (frm+a) n)::(stF m frm size f (a+1+9*n) ((q+1) % 18446744073709551616)).1,(stF m frm size f (a+1+9*n) ((q+1) % 18446744073709551616)).2):=by
 rw[stF,if_pos ⟨h,h2⟩,hn,Int.toNat_natCast]
theorem TxEach.snoc {w:World} {base:Nat} {vs:List (Int × Value)} {ts:List TxD} {q:Int} {v:Value} {pg:List ByteArray} (h:TxEach w base vs ts) (hv:w.ownsRow base 9 1 v pg.length (pg.map Value.string)):
  TxEach w base (vs++[(q,v)]) (ts++[(q,pg)]):=by
 refine⟨by simp[h.1],fun j x y hx hy=> ?_⟩
 rcases Nat.lt_trichotomy j vs.length with hj|hj|hj
 ·rw[List.getElem?_append_left hj] at hx
  rw[List.getElem?_append_left (by rw[←h.1];exact hj)] at hy
  exact h.2 j x y hx hy
 ·subst hj
  rw[List.getElem?_append_right (Nat.le_refl _)] at hx
  rw[h.1,List.getElem?_append_right (Nat.le_refl _)] at hy
  simp at hx hy
  subst hx hy
  exact⟨rfl,hv⟩
 ·rw[List.getElem?_eq_none (by simp;omega)] at hx
  cases hx
theorem OpenIn.next {w w':World} {d:Nat} {m:DM} {frm size f a n:Nat} {q0 q:Int} {u v:Value} {ts:List TxD} {wr:World} (h:OpenIn w d m frm size q0 (f+1) u wr a q ts) (hlt:a<size) (hok:txOk m (frm+a) q (size - a)=true) (hn:txN m (frm+a)=(n:Int)) (h3:9*n+1≤size - a)
  (hlog:LogAt w' w.heap.size d ⟨frm,size,a+1+9*n,(q+1) % 18446744073709551616,false⟩) (hrow:TxRow w' (w.heap.size+1) v (ts++[(q,txPages m (frm+a) n)])) (hb:Below w.heap.size w w'):
  OpenIn w d m frm size q0 f v w' (a+1+9*n) ((q+1) % 18446744073709551616) (ts++[(q,txPages m (frm+a) n)]):=by
 have e:=stF_step (f:=f) hlt hok hn
 have h1:=h.done
 have h2:=h.ends
 rw[e] at h1 h2
 have h4:=h.fuel
 have h5:=h.num
 have h6:=h.len
 refine⟨by omega,hlog,hrow,by rw[←h1];simp,h2,by omega, ?_,by simp;omega,hb⟩
 rw[List.length_append,List.length_singleton,h5]
 push_cast
 omega
theorem txOk_facts {m:DM} {p left:Nat} {next:Int} (h:txOk m p next left=true): ∃n:Nat,txN m p=(n:Int)∧1≤n∧n≤64∧9*n+1≤left:=by
 unfold txOk at h
 rw[Bool.and_eq_true] at h
 obtain⟨-, -,h1,h2, -,h3⟩:=mark_facts h.1
 exact⟨(txN m p).toNat,by omega,by omega,by omega,by omega⟩
theorem OpenIn.finish {w wr:World} {d:Nat} {m:DM} {frm size f a:Nat} {q0 q:Int} {u:Value} {ts:List TxD} (h:OpenIn w d m frm size q0 f u wr a q ts) (hend: ¬(a<size∧txOk m (frm+a) q (size - a)=true)):
  LogAt wr w.heap.size d ⟨frm,size,(stM m frm size q0).2,(q0+(stM m frm size q0).1.length) % 18446744073709551616,false⟩∧TxRow wr (w.heap.size+1) u (stM m frm size q0).1:=by
 have e:=stF_end (f:=f) hend
 have h1:=h.done
 have h2:=h.ends
 rw[e] at h1 h2
 simp only[List.append_nil] at h1
 rw[←h1, ←h2, ←h.num]
 exact⟨h.log,h.row⟩
theorem OpenIn.move {w wr w':World} {d:Nat} {m:DM} {frm size f a:Nat} {q0 q:Int} {u:Value} {ts:List TxD} (h:OpenIn w d m frm size q0 f u wr a q ts) (hb:Below wr.heap.size wr w'):OpenIn w d m frm size q0 f u w' a q ts:=
 ⟨h.le,h.log.below hb,h.row.below hb,h.done,h.ends,h.fuel,h.num,h.len,below_step hb h.below⟩
set_option maxRecDepth 100000 in
set_option maxHeartbeats 4000000 in
theorem open_up {w:World} {d k:Nat} {F:List Nat} {m:DM} (hd:IsDisk w d F m) (hup:m.down=false) (hok:DOk m k) (frm size:Nat) (q0:Int) (hs:1≤size) (hin:frm+size≤m.sure.length) (h0:0≤q0) (h1:q0≤18446744073709551615):
  Calls Tryz.prog 88 #[.pointer (some ⟨d,0,none⟩), .int .i64 frm, .int .i64 size, .int .u64 q0] w (OpenPost w d m frm size q0):=by
 have hfew:=hok.few
 have hlen:(m.sure.length:Int)≤65536:=by omega
 have g1:decide ((frm:Int)<0)=false:=by simp
 have g2:decide ((size:Int)<1)=false:=by simp;omega
 have g3:decide (m.sure.length<frm)=false:=by simp;omega
 have g4:decide ((m.sure.length:Int) - (frm:Int)<(size:Int))=false:=by simp;omega
 have HUP:=Lib.hid hup
 clear hup
 go_enter Tryz.func88,Tryz.ntmps88
 go_wp2_with fail
 refine(is_len hd).mono ?_
 rintro e w1 ⟨rfl,rfl⟩
 go_wp2_with fail
 refine(is_len hd).mono ?_
 rintro e w1 ⟨rfl,rfl⟩
 clear g1 g2 g3
 go_wp2_with fail
 clear g4
 have hlog:LogAt (w.alloc (.cells #[.pointer (some ⟨d,0,none⟩), .int .i64 frm, .int .i64 size, .int .i64 0, .int .u64 q0, .bool false] 236)) w.heap.size d ⟨frm,size,0,q0,false⟩:=
  World.rowIs_alloc w _ 236 (logF d ⟨frm,size,0,q0,false⟩) (fun i hi=>by
   rcases i with _|_|_|_|_|_|i<;>first|rfl|(simp at hi;omega))
 have HLOG:=Lib.hid hlog
 clear hlog
 go_loopg [12] (size+1) (fun f u wr=> ∃a q ts,OpenIn w d m frm size q0 f u wr a q ts)
 case atStart=>exact⟨0,q0,[],Nat.zero_le _,HLOG.out,TxRow.nil _ _,rfl,rfl,by omega,by simp;omega,Nat.zero_le _,below_alloc (Below.refl _ _)⟩
 case round=>
  clear HLOG
  obtain⟨a,q,ts,hI⟩:=hrel
  have HI:=Lib.hid hI
  obtain⟨c0,c1,c2,c3,c4,c5⟩:=hI.log.cell
  have hlt:=hI.log.lt
  have hale:=hI.le
  have hq:q=(q0+ts.length) % 18446744073709551616:=hI.num
  have hq0:0≤q:=by omega
  have hq1:q<18446744073709551616:=by omega
  clear hI hq c0 c1 c2 c4 c5
  simp only at c3
  by_cases hlt2:a<size
  ·have HRD:=Lib.hid (lread_up HI.out.log (hd.below HI.out.below) HUP.out hok (by exact hin) (by exact hlt2))
   go_wp2_with fail
   refine HRD.out.mono ?_
   rintro e w2 (⟨hyes,v,rfl,hrow,hb2⟩|⟨hno,rfl,hb2⟩)
   ·obtain⟨f,rfl⟩: ∃f,gk=f+1:=⟨gk - 1,by have:=HI.out.fuel;omega⟩
    obtain⟨n,hn,n1,n2,n3⟩:=txOk_facts hyes
    simp only at hn n3 hrow
    rw[hn,Int.toNat_natCast] at hrow
    obtain⟨g,cap,rfl⟩:=ownsRow_form hrow (by omega)
    obtain⟨vs,hrw,heach⟩:=(HI.out.move hb2).row
    have hlen:=HI.out.len
    have hs2:w.heap.size+1≤w2.heap.size:=by have:=hb2.size;omega
    have HY:=Lib.hid hyes
    have HN:=Lib.hid hn
    have HROW:=Lib.hid hrow
    have HRW:=Lib.hid hrw
    have HEACH:=Lib.hid heach
    have HB2:=Lib.hid hb2
    have HW2:=Lib.hid (below_step hb2 HI.out.below)
    obtain⟨i0,hi,hz0,hz1,hz2⟩:=info_parts Tryz.infoTxn
    clear hyes hn hrow hrw heach hb2 c3 hlt
    go_wp2_with (at_builtin;refine wpList_append_own _ rfl (.tmp 63) (.tmp 65) 149 rfl (w.heap.size+1) 153 i0 (.agg #[.int .u64 0, .slice none 0 0]) 2 32 Tryz.underlying149 hi hz0 hz1 hz2 rfl (by decide) _ ts.length (txCells vs) rfl ((HRW.out.alloc _).alloc _) ⟨w2.heap.size+1,0,none⟩ 1 1 [.int .u64 q, .slice (some ⟨g,0,none⟩) n cap] rfl rfl ?c1 ?c2 ?c3 ?c4 ?c5 ?_)
    case c1=>
     intro j u hu
     have h:=cell_pair (w2.alloc (.cells #[.int .u64 q, .slice (some ⟨g,0,none⟩) n cap] 153)) (.int .u64 q) (.slice (some ⟨g,0,none⟩) n cap) 153 j u hu
     have e:(w2.alloc (.cells #[.int .u64 q, .slice (some ⟨g,0,none⟩) n cap] 153)).heap.size=w2.heap.size+1:=by simp
     rw[e] at h
     exact h
    case c2=>intro u hu;simp at hu;rcases hu with rfl|rfl<;>rfl
    case c3=>unfold maxLen;omega
    case c4=>omega
    case c5=>simp;omega
    intro v' w5 hown' hgrow _
    have e1:(w2.alloc (.cells #[.int .u64 q, .slice (some ⟨g,0,none⟩) n cap] 153)).heap.size=w2.heap.size+1:=by simp
    have HT5:=Lib.hid (Touch.of_grown hgrow)
    have hnot:w.heap.size∉(Value.ownBlock u12).toList:=fun hm=>by
     have:=(HRW.out.lt _ (Option.mem_toList.1 hm)).1;omega
    have hnot2:w2.heap.size∉(Value.ownBlock u12).toList:=fun hm=>by
     have:=(HRW.out.lt _ (Option.mem_toList.1 hm)).2;omega
    have hl5:=LogAt.touch ((HI.out.move HB2.out).log.below (below_alloc (below_alloc (Below.refl _ _)))) HT5.out hnot
    have ht5:=rowIs_touch (rowIs_touch (txF_new w2 (.int .u64 q) (.slice (some ⟨g,0,none⟩) n cap)) (F:=[]) ((Touch.refl _ _).alloc _) (by simp)) HT5.out hnot2
    have hrowL:=ownsRow_le HROW.out (show w.heap.size+1≤wr.heap.size from HI.out.log.lt)
    have hea:TxEach ((w2.alloc (.cells #[.int .u64 q, .slice (some ⟨g,0,none⟩) n cap] 153)).alloc (.cells #[.int .u64 q, .slice (some ⟨g,0,none⟩) n cap] 153)) (w.heap.size+1) (vs++[(q, .slice (some ⟨g,0,none⟩) n cap)]) (ts++[(q,txPages m (frm+a) n)]):=(HEACH.out.snoc (q:=q) (pg:=txPages m (frm+a) n) (by simpa[txPages,pgRow] using hrowL)).touch (F:=[]) (Touch.of_below (below_alloc (below_alloc (Below.refl _ _)))) (fun _ h=>by cases h)
    have hea5:=hea.touch HT5.out (fun q hq=> .inr ⟨_,_,_,_,_,(HRW.out.alloc _).alloc _,Option.mem_toList.1 hq⟩)
    have hb5:Below w.heap.size w w5:=((HW2.out.alloc (by omega) _).alloc (by simp;omega) _).grown hgrow (by simp;omega) (fun q hq=>by have:=(HRW.out.lt q hq).1;omega)
    rw[txCells_snoc] at hown'
    have htx:TxRow w5 (w.heap.size+1) v' (ts++[(q,txPages m (frm+a) n)]):=⟨_,by rw[List.length_append];exact hown',hea5⟩
    have HTX:=Lib.hid htx
    have HL5:=Lib.hid hl5
    have HB5:=Lib.hid hb5
    obtain⟨-, -, -,c3,c4, -⟩:=hl5.cell
    have f3:=hl5.frozen 3
    have f4:=hl5.frozen 4
    have k1:=World.rowIs.cell ht5 (i:=1) (by decide)
    simp only[txF] at k1
    simp only at c3 c4
    obtain⟨n9,hn9⟩: ∃n9:Nat,n9=9*n:=⟨_,rfl⟩
    obtain⟨n10,hn10⟩: ∃n10:Nat,n10=1+n9:=⟨_,rfl⟩
    obtain⟨a',ha'⟩: ∃a':Nat,a'=a+n10:=⟨_,rfl⟩
    have y1:IntKind.i64.wrap (9*(n:Int))=(n9:Int):=by rw[IntKind.wrap_i64];omega
    have y2:IntKind.i64.wrap (1+(n9:Int))=(n10:Int):=by rw[IntKind.wrap_i64];omega
    have y3:IntKind.i64.wrap ((a:Int)+(n10:Int))=(a':Int):=by rw[IntKind.wrap_i64];omega
    have ea:a'=a+1+9*n:=by omega
    have EA:=Lib.hid ea
    clear hown' hgrow e1 hnot hnot2 hl5 ht5 hrowL hea hea5 hb5 htx hn9 hn10 ha' ea HRW HEACH HROW HT5
    go_wp2_with fail
    refine wp_region_tail (C:=fun w'=> ∃n,w'=w5.drewN n) 12 (by kernel_rfl) (by kernel_rfl) ⟨1,rfl⟩ ?_
    simp only[List.take_succ_cons,List.take_zero,List.drop_succ_cons,List.drop_zero]
    repeat (first|go_big_quiet_step (fail)|quiet_step (fail))
    refine wpQuiet_nil ?_
    rintro w6 ⟨nq,rfl⟩
    go_wp2_with fail
    go_roundg f
    case measure=>omega
    case rel=>
     refine⟨_,_,_,HI.out.next hlt2 HY.out HN.out n3 ?_ ?_ ?_⟩
     ·refine World.rowIs.congr (World.rowIs.set (World.rowIs.set (show(w5.drewN nq).rowIs w.heap.size 236 6 _ from HL5.out) 3 (.int .i64 (a':Nat))) 4 (.int .u64 (IntKind.u64.wrap (q+1)))) (fun t ht=> ?_)
      rcases t with _|_|_|_|_|_|t
      ·rfl
      ·rfl
      ·rfl
      ·rw[EA.out];rfl
      ·rw[IntKind.wrap_u64];rfl
      ·rfl
      ·omega
     ·exact HTX.out.touch (F:=[w.heap.size]) ((((Touch.refl _ _).drewN nq).setCell (.inl (by simp)) _).setCell (.inl (by simp)) _) (fun g hg=>by simp at hg;omega)
     ·exact((below_drewN HB5.out nq).setCell (by simp) _).setCell (by simp) _
   ·have HNO:=Lib.hid hno
    have HI2:=Lib.hid (HI.out.move hb2)
    have FIN:=Lib.hid (HI2.out.finish (fun h=>by rw[HNO.out] at h;cases h.2))
    clear hno c3
    go_wp2_with fail
    go_ret3
    exact⟨_,rfl,FIN.out.1.below (below_alloc (Below.refl _ _)),FIN.out.2.below (below_alloc (Below.refl _ _)),below_alloc HI2.out.below⟩
  ·have FIN:=Lib.hid (HI.out.finish (fun h=>hlt2 h.1))
   go_wp2_with fail
   go_ret3
   exact⟨_,rfl,FIN.out.1,FIN.out.2,HI.out.below⟩
end Go.Proofs.YtjgkegkinnlcoaaGreatDoor
namespace Go.Proofs.YtjgkegkinnlcoaaGreatDoor
open Go.RowKit Go.Joins
def stepW (x:Int × DM) (i:Int) (s:ByteArray):Int × DM:=if x.1=0 then wrM x.2 i s else x
def stepF (x:Int × DM):Int × DM:=if x.1=0 then flM x.2 else x
def ApSt (w0:World) (d eb:Nat) (F0:List Nat) (wr:World) (x:Int × DM):Prop:=
 ∃F',IsDisk wr d F' x.2∧wr.cell? ⟨eb,0,none⟩=some (.int .i64 x.1)∧wr.frozen? ⟨eb,0,none⟩=false∧Touch (eb::F0) w0 wr∧(∀b∈F',b∈F0∨w0.heap.size≤b)∧eb∉F'
theorem ApSt.trans {w0 w1 w2:World} {d eb:Nat} {F0 F1:List Nat} {x:Int × DM} (t:Touch (eb::F0) w0 w1) (hF: ∀b∈F1,b∈F0∨w0.heap.size≤b) (h:ApSt w1 d eb F1 w2 x):ApSt w0 d eb F0 w2 x:=by
 obtain⟨F',h1,h2,h3,h4,h5,h6⟩:=h
 refine⟨F',h1,h2,h3,t.trans h4 (fun b hb=> ?_),fun b hb=> ?_,h6⟩
 ·rcases List.mem_cons.1 hb with rfl|hb
  ·exact .inl (by simp)
  ·exact(hF b hb).imp (fun h=>by simp[h]) id
 ·rcases h5 b hb with h|h
  ·exact hF b h
  ·exact .inr (Nat.le_trans t.size h)
structure ApOn (W:World) (d lb eb b0:Nat) (F:List Nat) (l:LM) (m:DM) (e0:Int):Prop where
 disk:IsDisk W d F m
 err:W.cell? ⟨eb,0,none⟩=some (.int .i64 e0)
 errf:W.frozen? ⟨eb,0,none⟩=false
 log:LogAt W lb d l
 box:W.cell? ⟨b0,0,none⟩=some (.pointer (some ⟨lb,0,none⟩))
 ne:eb∉F
 nel:lb∉F
 neb:b0∉F
 nel2:lb≠eb
 neb2:b0≠eb
section
variable {W:World} {d lb eb b0 k:Nat} {F:List Nat} {l:LM} {m:DM} {e0:Int}
theorem ApSt.skip (h:ApOn W d lb eb b0 F l m e0):ApSt W d eb F W (e0,m):=⟨F,h.disk,h.err,h.errf,Touch.refl _ _,fun b hb=> .inl hb,h.ne⟩
end
end Go.Proofs.YtjgkegkinnlcoaaGreatDoor
namespace Go.Proofs.YtjgkegkinnlcoaaGreatDoor
open Go.RowKit Go.Joins
theorem DOk.stepW {x:Int × DM} {k:Nat} (h:DOk x.2 k) (i:Int) (s:ByteArray):DOk (stepW x i s).2 (k+1):=by
 unfold Proofs.YtjgkegkinnlcoaaGreatDoor.stepW
 split
 ·exact h.write i s
 ·exact h.mono (by omega)
theorem DOk.stepF {x:Int × DM} {k:Nat} (h:DOk x.2 k):DOk (stepF x).2 k:=by
 unfold Proofs.YtjgkegkinnlcoaaGreatDoor.stepF
 split
 ·exact h.flush
 ·exact h
variable {w1 w2 wr:World} {d lb eb b0 b1 n c k:Nat} {F F2:List Nat} {l:LM} {a:Option Addr} {pages:List ByteArray} {x:Int × DM}
theorem ApOn.below {e0:Int} {m:DM} (h:ApOn w1 d lb eb b0 F l m e0) (hb:Below w1.heap.size w1 w2):ApOn w2 d lb eb b0 F l m e0:=
 ⟨h.disk.below hb,(hb.cell (p:=⟨eb,0,none⟩) (cell_lt h.err)).trans h.err,(hb.frozen (p:=⟨eb,0,none⟩) (cell_lt h.err)).trans h.errf,h.log.below hb,(hb.cell (p:=⟨b0,0,none⟩) (cell_lt h.box)).trans h.box,h.ne,h.nel,h.neb,h.nel2,h.neb2⟩
set_option maxRecDepth 100000 in
theorem append_nil (w:World) (v:Value) (hv: ∃a n c,v= .slice a n c):Calls Tryz.prog 93 #[.pointer none,v] w fun e w'=>e= .returned (.int .i64 1)∧Below w.heap.size w w':=by
 obtain⟨a,n,c,rfl⟩:=hv
 go_enter Tryz.func93,Tryz.ntmps93
 go_wp2_with fail
 go_ret
 exact⟨rfl,below_alloc (below_alloc (Below.refl _ _))⟩
end Go.Proofs.YtjgkegkinnlcoaaGreatDoor
namespace Go.Proofs.YtjgkegkinnlcoaaGreatDoor
open Go.RowKit
open Go.Maps (Keyed)
def heldR (v:Value):Option (DataW Value × List MemPlace):=some (.held v,[])
def MapT {α β:Type} (w:World) (P:Program) (k:TypeId) (b n:Nat) (ek:α→Value) (ev:β→Value) (g:α→Option β):Prop:=
 ∃D:DataW Value,w.ownsMap P k heldR b n D∧ ∀x l,keyOf P k (ek x)=some l→Maps.has D l=(g x).isSome∧ ∀z,D.atKey l z=match g x with
  |some u=> .held (ev u)
  |none=>z
variable {α β:Type} {w w':World} {P:Program} {k e t:TypeId} {b n:Nat} {ek:α→Value} {ev:β→Value} {g:α→Option β}
theorem MapT.lt (h:MapT w P k b n ek ev g):b<w.heap.size:=h.elim fun D h=>h.1.lt
theorem MapT.mono (h:MapT w P k b n ek ev g) {m:Nat} (hm:n≤m):MapT w P k b m ek ev g:=h.elim fun D h=>⟨D,h.1.mono hm,h.2⟩
theorem MapT.touch {F:List Nat} (h:MapT w P k b n ek ev g) (ht:Touch F w w') (hb:b∉F):MapT w' P k b n ek ev g:=h.elim fun D h=>⟨D,ownsMap_touch h.1 ht hb,h.2⟩
theorem MapT.alloc (h:MapT w P k b n ek ev g) (o:Obj):MapT (w.alloc o) P k b n ek ev g:=h.elim fun D h=>⟨D,h.1.alloc o,h.2⟩
theorem MapT.below (h:MapT w P k b n ek ev g) (hb:Below w.heap.size w w'):MapT w' P k b n ek ev g:=h.touch (F:=[]) (Touch.of_below hb) (by simp)
theorem MapT.made (w:World) (P:Program) (k:TypeId) (ek:α→Value) (ev:β→Value):MapT (w.alloc (.map #[] 0)) P k w.heap.size 0 ek ev (fun _=>none):=
 ⟨_,World.ownsMap_made _ _ _ _,fun _ _ _=>⟨rfl,fun _=>rfl⟩⟩
theorem MapT.congr (h:MapT w P k b n ek ev g) {g':α→Option β} (hg: ∀x l,keyOf P k (ek x)=some l→g x=g' x):MapT w P k b n ek ev g':=
 h.elim fun D ⟨h1,h2⟩=>⟨D,h1,fun x l hx=>hg x l hx▸h2 x l hx⟩
theorem MapT.look (h:MapT w P k b n ek ev g) (K:Keyed P k) (ht:P.underlying t=some (.map k e)) {z:Value} (hz:(zeroValue e).run P w= .ok z w) {x:α} {l:Lit} (hk:keyOf P k (ek x)=some l):
  (Instr.lookup t (.map (some b)) (ek x) false).run P w= .ok (((g x).map ev).getD z) w:=by
 obtain⟨D,hD,hg⟩:=h
 obtain⟨v,ps,hrun,hv⟩:=hD.lookup K ht hz (zd:= .held z) (zp:=[]) rfl hk
 rw[hrun]
 unfold heldR at hv
 injection hv with hv
 injection hv with hv1 hv2
 rw[(hg x l hk).2] at hv1
 cases hgx:g x with
 |none=>rw[hgx] at hv1;injection hv1 with h1;rw[h1];rfl
 |some u=>rw[hgx] at hv1;injection hv1 with h1;rw[h1];rfl
theorem MapT.look_ok (h:MapT w P k b n ek ev g) (K:Keyed P k) (ht:P.underlying t=some (.map k e)) {z:Value} (hz:(zeroValue e).run P w= .ok z w) {x:α} {l:Lit} (hk:keyOf P k (ek x)=some l):
  (Instr.lookup t (.map (some b)) (ek x) true).run P w= .ok (.tuple #[((g x).map ev).getD z, .bool (g x).isSome]) w:=by
 obtain⟨D,hD,hg⟩:=h
 obtain⟨v,ps,hrun,hv⟩:=hD.look_ok K ht hz (zd:= .held z) (zp:=[]) rfl hk
 rw[hrun,(hg x l hk).1]
 unfold heldR at hv
 injection hv with hv
 injection hv with hv1 hv2
 rw[(hg x l hk).2] at hv1
 cases hgx:g x with
 |none=>rw[hgx] at hv1;injection hv1 with h1;rw[h1];rfl
 |some u=>rw[hgx] at hv1;injection hv1 with h1;rw[h1];rfl
def updT {α β:Type} [DecidableEq α] (g:α→Option β) (x:α) (v:β):α→Option β:=fun y=>if y=x then some v else g y
theorem put_T [DecidableEq α] {D:DataW Value} (hm:Maps.IsMap D) (K:Keyed P k) {x:α} {l:Lit} (hk:keyOf P k (ek x)=some l) (hinj: ∀y,ek y=ek x→y=x) (v:β)
  (hg: ∀x l,keyOf P k (ek x)=some l→Maps.has D l=(g x).isSome∧ ∀z,D.atKey l z=match g x with
  |some u=> .held (ev u)
  |none=>z): ∀y l',keyOf P k (ek y)=some l'→Maps.has (D.put l (.held (ev v))) l'=(updT g x v y).isSome∧ ∀z,(D.put l (.held (ev v))).atKey l' z=match updT g x v y with
  |some u=> .held (ev u)
  |none=>z:=by
 intro y l' hy
 by_cases e:y=x
 ·subst e
  rw[hk] at hy
  injection hy with hy
  subst hy
  unfold updT
  rw[if_pos rfl]
  exact⟨Maps.has_put_same hm (K.key hk) _,fun z=>Maps.atKey_put_same hm (K.key hk) _ _⟩
 ·have hne:l'≠l:=fun e'=>by
   subst e'
   exact e (hinj y (K.inj hy hk))
  unfold updT
  rw[if_neg e]
  exact⟨(Maps.has_put_other hne _).trans (hg y l' hy).1,fun z=>(Maps.atKey_put_other hne _ _).trans ((hg y l' hy).2 z)⟩
theorem wpList_update_T [DecidableEq α] (w:World) {ops:Array Oper} {rest:List Oper} {o:Oper} {a:Act} {Q:Exit→Act→World→Prop}
  (hg:o.guard=none) (m x v:Operand) (t:TypeId) (hop:o.op=Op.mapUpdate t m x v) (k e:TypeId) (K:Keyed P k) (ht:P.underlying t=some (.map k e)) (b n:Nat) (ek:α→Value) (ev:β→Value) (g:α→Option β)
  (hown:MapT w P k b n ek ev g) (hm:a.eval m= .map (some b)) (hn:n<maxLen) (y:α) (l:Lit) (hx:a.eval x=ek y) (hkey:keyOf P k (ek y)=some l) (hinj: ∀z,ek z=ek y→z=y) (u:β) (hv:a.eval v=ev u)
  (hK: ∀w',MapT w' P k b (n+1) ek ev (updT g y u)→w.grownBy w' (some b)→wpList P ops Q rest (a.put o.dst undef) w'):
  wpList P ops Q (o::rest) a w:=by
 obtain⟨D,hD,hgx⟩:=hown
 exact wpList_mapUpdate_own w hg m x v t hop k e K ht heldR b n D hm hD hn (ek y) (ev u) l hx hv hkey (.held (ev u)) [] rfl fun w' h1 h2=>
  hK w' ⟨_,h1,put_T hD.isMap K hkey hinj u hgx⟩ h2
def RngT {α β:Type} (w:World) (P:Program) (k:TypeId) (b r n:Nat) (ek:α→Value) (ev:β→Value) (g:α→Option β) (left:α→Bool) (cnt:Nat):Prop:=
 ∃(D:DataW Value) (lf:Lit→Bool),w.ranges P k heldR b r n D lf cnt∧(∀x l,keyOf P k (ek x)=some l→Maps.has D l=(g x).isSome∧ ∀z,D.atKey l z=match g x with
  |some u=> .held (ev u)
  |none=>z)∧ ∀x l,keyOf P k (ek x)=some l→lf l=left x
theorem RngT.map {r cnt:Nat} {left:α→Bool} (h:RngT w P k b r n ek ev g left cnt):MapT w P k b n ek ev g:=h.elim fun D h=>h.elim fun lf h=>⟨D,h.1.owns,h.2.1⟩
theorem RngT.lt {r cnt:Nat} {left:α→Bool} (h:RngT w P k b r n ek ev g left cnt):r<w.heap.size:=h.elim fun D h=>h.elim fun lf h=>h.1.lt
theorem RngT.ne {r cnt:Nat} {left:α→Bool} (h:RngT w P k b r n ek ev g left cnt):r≠b:=h.elim fun D h=>h.elim fun lf h=>h.1.ne
theorem RngT.left_eq {r cnt:Nat} {left:α→Bool} (h:RngT w P k b r n ek ev g left cnt):w.rangeLeft b r=cnt:=h.elim fun D h=>h.elim fun lf h=>h.1.left_eq
theorem ranges_touch {H:Type} {F:List Nat} {R:Value→Option (DataW H × List MemPlace)} {r cnt:Nat} {D:DataW H} {left:Lit→Bool} (h:w.ranges P k R b r n D left cnt) (ht:Touch F w w') (hb:b∉F) (hr:r∉F):w'.ranges P k R b r n D left cnt:=by
 have h1:=h.owns.lt
 have h2:=h.lt
 obtain⟨es,clock,since,seen,c0,hb',Fi,hs,hD,hr',rest⟩:=h
 exact⟨es,clock,since,seen,c0,(ht.block h1 hb).trans hb',Fi,hs,hD,(ht.block h2 hr).trans hr',rest⟩
theorem RngT.touch {F:List Nat} {r cnt:Nat} {left:α→Bool} (h:RngT w P k b r n ek ev g left cnt) (ht:Touch F w w') (hb:b∉F) (hr:r∉F):RngT w' P k b r n ek ev g left cnt:=
 h.elim fun D h=>h.elim fun lf h=>⟨D,lf,ranges_touch h.1 ht hb hr,h.2⟩
theorem wpList_range_T (w:World) {ops:Array Oper} {rest:List Oper} {o:Oper} {a:Act} {Q:Exit→Act→World→Prop}
  (hg:o.guard=none) (m:Operand) (t:TypeId) (hop:o.op=Op.range t m) (k e:TypeId) (K:Keyed P k) (ht:P.underlying t=some (.map k e)) (b n:Nat) (ek:α→Value) (ev:β→Value) (g:α→Option β)
  (hm:a.eval m= .map (some b)) (hown:MapT w P k b n ek ev g)
  (hK: ∀w' cnt,RngT w' P k b w.heap.size n ek ev g (fun x=>(g x).isSome) cnt→w.grownBy w' none→w'.heap.size=w.heap.size+1→wpList P ops Q rest (a.put o.dst (.pointer (some ⟨w.heap.size,0,none⟩))) w'):
  wpList P ops Q (o::rest) a w:=by
 obtain⟨D,hD,hgx⟩:=hown
 exact wpList_range_own w hg m t hop k e K ht heldR b n D hm hD fun w' h1 h2 h3=>hK w' _ ⟨D,_,h1,hgx,fun x l hx=>(hgx x l hx).1⟩ h2 h3
theorem wpList_next_T [DecidableEq α] (w:World) {ops:Array Oper} {rest:List Oper} {o:Oper} {a:Act} {Q:Exit→Act→World→Prop}
  (hg:o.guard=none) (it:Operand) (hop:o.op=Op.next it false) (k:TypeId) (K:Keyed P k) (b r n:Nat) (ek:α→Value) (ev:β→Value) (g:α→Option β) (left:α→Bool) (cnt:Nat)
  (invK: ∀key kl,keyOf P k key=some kl→ ∃x,key=ek x) (hinj: ∀y z,ek z=ek y→z=y)
  (hit:a.eval it= .pointer (some ⟨r,0,none⟩)) (h:RngT w P k b r n ek ev g left cnt)
  (hDone:(∀x l,keyOf P k (ek x)=some l→left x=false)→wpList P ops Q rest (a.put o.dst (.tuple #[.bool false])) w)
  (hMore: ∀(x:α) (u:β) (l:Lit) (w':World) (cnt':Nat),keyOf P k (ek x)=some l→left x=true→g x=some u→RngT w' P k b r n ek ev g (fun z=>left z&& !decide (z=x)) cnt'→cnt'<cnt→
   w.grownBy w' (some r)→w'.heap.size=w.heap.size→(Instr.entry (.pointer (some ⟨r,0,none⟩))).run P w'= .ok (.tuple #[ek x,ev u]) w'→wpList P ops Q rest (a.put o.dst (.tuple #[.bool true,ek x,ev u])) w'):
  wpList P ops Q (o::rest) a w:=by
 obtain⟨D,lf,hR,hgx,hlf⟩:=h
 refine wpList_next_ranges w hg it hop k K heldR ek (fun v:Value=>v) invK (fun v y hv=>⟨v,rfl⟩) b r n D lf cnt hit hR (fun h0 hl=>hDone fun x l hx=>by rw[←hlf x l hx];exact hl l) ?_
 intro x c kl y w' cnt' hkey hlx hRc hat hrg hlt hgr hsz hen
 unfold heldR at hRc
 injection hRc with hRc
 subst hRc
 have hg1:=(hgx x kl hkey).2 (.held (.bool true))
 have hg2:=(hgx x kl hkey).2 (.held (.bool false))
 rw[hat] at hg1 hg2
 cases hgx':g x with
 |none=>
  rw[hgx'] at hg1 hg2
  injection hg1 with e1
  injection hg2 with e2
  rw[e1] at e2
  cases e2
 |some u=>
  rw[hgx'] at hg1
  injection hg1 with e1
  have e2:c=ev u:=e1
  subst e2
  refine hMore x u kl w' cnt' hkey (by rw[←hlf x kl hkey];exact hlx) hgx' ⟨D,_,hrg,hgx,fun z l hz=> ?_⟩ hlt hgr hsz hen
  rw[hlf z l hz]
  by_cases e:z=x
  ·subst e
   rw[hkey] at hz
   injection hz with hz
   subst hz
   rw[WideAt.sameKey_self (K.key hkey)]
   simp
  ·have hne:l≠kl:=fun e'=>by
    subst e'
    exact e (hinj x z (K.inj hz hkey))
   rw[Maps.sameKey_ne hne]
   simp[e]
end Go.Proofs.YtjgkegkinnlcoaaGreatDoor
namespace Go.Proofs.YtjgkegkinnlcoaaGreatDoor
open Go.RowKit
open Go.Maps (Keyed)
def MapN {α β:Type} (w:World) (P:Program) (k:TypeId) (b n:Nat) (ek:α→Value) (ev:β→Value) (g:α→Option β):Prop:=
 ∃D:DataW Value,w.ownsMap P k heldR b n D∧Maps.size D=n∧ ∀x l,keyOf P k (ek x)=some l→Maps.has D l=(g x).isSome∧ ∀z,D.atKey l z=match g x with
  |some u=> .held (ev u)
  |none=>z
variable {α β:Type} {w w':World} {P:Program} {k e t:TypeId} {b n:Nat} {ek:α→Value} {ev:β→Value} {g:α→Option β}
theorem MapN.toT (h:MapN w P k b n ek ev g):MapT w P k b n ek ev g:=h.elim fun D h=>⟨D,h.1,h.2.2⟩
theorem MapN.touch {F:List Nat} (h:MapN w P k b n ek ev g) (ht:Touch F w w') (hb:b∉F):MapN w' P k b n ek ev g:=h.elim fun D h=>⟨D,ownsMap_touch h.1 ht hb,h.2⟩
theorem MapN.alloc (h:MapN w P k b n ek ev g) (o:Obj):MapN (w.alloc o) P k b n ek ev g:=h.elim fun D h=>⟨D,h.1.alloc o,h.2⟩
theorem MapN.below (h:MapN w P k b n ek ev g) (hb:Below w.heap.size w w'):MapN w' P k b n ek ev g:=h.touch (F:=[]) (Touch.of_below hb) (by simp)
theorem MapN.made (w:World) (P:Program) (k:TypeId) (ek:α→Value) (ev:β→Value):MapN (w.alloc (.map #[] 0)) P k w.heap.size 0 ek ev (fun _=>none):=
 ⟨_,World.ownsMap_made _ _ _ _,rfl,fun _ _ _=>⟨rfl,fun _=>rfl⟩⟩
theorem MapN.len (h:MapN w P k b n ek ev g) (ht:P.underlying t=some (.map k e)) (ty:TypeId):(Builtin.len_ #[t] ty #[.map (some b)]).run P w= .ok (.int .i64 n) w:=by
 obtain⟨D,hD,hs,_⟩:=h
 rw[hD.len ht ty,hs]
end Go.Proofs.YtjgkegkinnlcoaaGreatDoor
namespace Go.Proofs.YtjgkegkinnlcoaaGreatDoor
open Go.RowKit
open Go.Maps (Keyed)
variable {α β:Type} {w w':World} {P:Program} {k e t:TypeId} {b n:Nat} {ek:α→Value} {ev:β→Value} {g:α→Option β}
theorem Touch.of_turned {w w':World} {b:Nat} (h:w.mapTurned w' b):Touch [b] w w':=by
 obtain⟨es,clock,es',clock',hb,rfl⟩:=h
 exact⟨rfl,rfl,rfl,by simp[Go.ChangeMaps.setBlock],fun i _ hi=>Go.ChangeMaps.heap_setBlock_other hb _ (fun e=>hi (by simp[e]))⟩
theorem owns_tight {H:Type} {R:Value→Option (DataW H × List MemPlace)} {D:DataW H} (h:w.ownsMap P k R b n D):w.ownsMap P k R b (Maps.size D) D:=by
 obtain⟨es,clock,hb,F,hs,rfl⟩:=h
 exact⟨es,clock,hb,F,by simp[Maps.size,length_sorted],rfl⟩
def delT {α β:Type} [DecidableEq α] (g:α→Option β) (x:α):α→Option β:=fun y=>if y=x then none else g y
theorem del_T [DecidableEq α] {D:DataW Value} (hm:Maps.IsMap D) (K:Keyed P k) {x:α} {l:Lit} (hk:keyOf P k (ek x)=some l) (hinj: ∀y,ek y=ek x→y=x)
  (hg: ∀x l,keyOf P k (ek x)=some l→Maps.has D l=(g x).isSome∧ ∀z,D.atKey l z=match g x with
  |some u=> .held (ev u)
  |none=>z): ∀y l',keyOf P k (ek y)=some l'→Maps.has (D.del l) l'=(delT g x y).isSome∧ ∀z,(D.del l).atKey l' z=match delT g x y with
  |some u=> .held (ev u)
  |none=>z:=by
 intro y l' hy
 by_cases e:y=x
 ·subst e
  rw[hk] at hy
  injection hy with hy
  subst hy
  unfold delT
  rw[if_pos rfl]
  exact⟨Maps.has_del_same,fun z=>Maps.atKey_del_same z⟩
 ·have hne:l'≠l:=fun e'=>by
   subst e'
   exact e (hinj y (K.inj hy hk))
  unfold delT
  rw[if_neg e]
  exact⟨(Maps.has_del_other hne).trans (hg y l' hy).1,fun z=>(Maps.atKey_del_other hne z).trans ((hg y l' hy).2 z)⟩
theorem wpList_delete_N [DecidableEq α] (w:World) {ops:Array Oper} {rest:List Oper} {o:Oper} {a:Act} {Q:Exit→Act→World→Prop}
  (hg:o.guard=none) (m x:Operand) (t k e:TypeId) (hop:o.op=Op.call { callee:=Callee.builtin Builtin.delete,args:= #[m,x],argTypes:= #[t,k] }) (K:Keyed P k) (ht:P.underlying t=some (.map k e)) (b n:Nat) (ek:α→Value) (ev:β→Value) (g:α→Option β)
  (hown:MapN w P k b n ek ev g) (hm:a.eval m= .map (some b)) (y:α) (l:Lit) (hx:a.eval x=ek y) (hkey:keyOf P k (ek y)=some l) (hinj: ∀z,ek z=ek y→z=y)
  (hK: ∀w' n',MapN w' P k b n' ek ev (delT g y)→n'+(if (g y).isSome then 1 else 0)=n→Touch [b] w w'→wpList P ops Q rest (a.put o.dst (.tuple #[])) w'):
  wpList P ops Q (o::rest) a w:=by
 obtain⟨D,hD,hs,hgx⟩:=hown
 refine wpList_delete_own w hg m x t k hop e K ht heldR b n D hm hD (ek y) l hx hkey fun w' h1 h2=>hK w' (Maps.size (D.del l)) ⟨_,owns_tight h1,rfl,del_T hD.isMap K hkey hinj hgx⟩ ?_ (Touch.of_turned h2)
 have:=Maps.size_del (k:=l) (hD.tidy K)
 rw[(hgx y l hkey).1,hs] at this
 exact this
theorem wpList_update_M [DecidableEq α] (w:World) {ops:Array Oper} {rest:List Oper} {o:Oper} {a:Act} {Q:Exit→Act→World→Prop}
  (hg:o.guard=none) (m x v:Operand) (t:TypeId) (hop:o.op=Op.mapUpdate t m x v) (k e:TypeId) (K:Keyed P k) (ht:P.underlying t=some (.map k e)) (b n:Nat) (ek:α→Value) (ev:β→Value) (g:α→Option β)
  (hown:MapN w P k b n ek ev g) (hm:a.eval m= .map (some b)) (hn:n<maxLen) (y:α) (l:Lit) (hx:a.eval x=ek y) (hkey:keyOf P k (ek y)=some l) (hinj: ∀z,ek z=ek y→z=y) (u:β) (hv:a.eval v=ev u)
  (hK: ∀w' n',MapN w' P k b n' ek ev (updT g y u)→n'+(if (g y).isSome then 1 else 0)=n+1→Touch [b] w w'→wpList P ops Q rest (a.put o.dst undef) w'):
  wpList P ops Q (o::rest) a w:=by
 obtain⟨D,hD,hs,hgx⟩:=hown
 refine wpList_mapUpdate_own w hg m x v t hop k e K ht heldR b n D hm hD hn (ek y) (ev u) l hx hv hkey (.held (ev u)) [] rfl fun w' h1 h2=>hK w' _ ⟨_,owns_tight h1,rfl,put_T hD.isMap K hkey hinj u hgx⟩ ?_ (Touch.of_grown h2)
 rw[Maps.size_put (hD.tidy K),(hgx y l hkey).1,hs]
 split<;>rfl
end Go.Proofs.YtjgkegkinnlcoaaGreatDoor
namespace Go.Proofs.YtjgkegkinnlcoaaGreatDoor
open Go.RowKit Go.Maps Go.Joins
def frF (s:ByteArray) (d:Bool) (u:Int):Nat→Value
 |0=> .string s
 |1=> .bool d
 |2=> .int .i64 0
 |_=> .int .i64 u
def poolF (room:Nat) (clock:Int) (mb:Nat):Nat→Value
 |0=> .int .i64 room
 |1=> .int .i64 clock
 |_=> .map (some mb)
def ptrV (b:Nat):Value:= .pointer (some ⟨b,0,none⟩)
abbrev Hand:=Int→Option (ByteArray × Bool)
def cntI (p:Int→Bool) (N:Nat):Nat:=((List.range N).filter fun i:Nat=>p i).length
theorem cntI_succ (p:Int→Bool) (N:Nat):cntI p (N+1)=cntI p N+(if p N then 1 else 0):=by
 unfold cntI
 rw[List.range_succ,List.filter_append,List.length_append]
 cases h:p (N:Int)<;>simp[h]
theorem cntI_congr {p q:Int→Bool}: ∀(N:Nat),(∀i:Nat,i<N→p i=q i)→cntI p N=cntI q N
 |0,_=>rfl
 |N+1,h=>by rw[cntI_succ,cntI_succ,cntI_congr N (fun i hi=>h i (by omega)),h N (by omega)]
theorem cntI_set {p q:Int→Bool} {x:Nat} (h: ∀i:Int,i≠x→p i=q i): ∀(N:Nat),x<N→cntI p N+(if q x then 1 else 0)=cntI q N+(if p x then 1 else 0)
 |0,hx=>absurd hx (by omega)
 |N+1,hx=>by
  rw[cntI_succ,cntI_succ]
  by_cases e:x=N
  ·subst e
   rw[cntI_congr x (fun i hi=>h i (by omega))]
   omega
  ·have:=cntI_set h N (by omega)
   rw[h N (by omega)]
   omega
theorem cntI_le {p q:Int→Bool} (h: ∀i,p i=true→q i=true): ∀(N:Nat),cntI p N≤cntI q N
 |0=>Nat.le_refl _
 |N+1=>by
  have:=cntI_le h N
  rw[cntI_succ,cntI_succ]
  have h2:=h N
  cases h3:p (N:Int)
  ·simp;omega
  ·rw[h2 h3];simp;omega
theorem cntI_lt {p q:Int→Bool} (h: ∀i,p i=true→q i=true) {x:Nat} (h1:p x=false) (h2:q x=true) (N:Nat) (hx:x<N):cntI p N<cntI q N:=by
 obtain⟨P',e1,e2⟩: ∃P':Int→Bool,P' x=true∧ ∀i:Int,i≠x→P' i=p i:=⟨fun i=>if i=x then true else p i,by simp,fun i hi=>by simp[hi]⟩
 have k:=cntI_set (p:=P') (q:=p) (x:=x) e2 N hx
 have k2:=cntI_le (p:=P') (q:=q) (fun i hi=>by
  by_cases e:i=x
  ·subst e;exact h2
  ·rw[e2 i e] at hi;exact h i hi) N
 rw[e1,h1] at k
 simp at k
 omega
structure PoolAt (w:World) (pb mb room n:Nat) (clock:Int) (at_:Int→Option Nat) (us:Int→Int) (fr:Hand):Prop where
 cells:w.rowIs pb 234 3 (poolF room clock mb)
 map:MapN w Tryz.prog 3 mb n (Value.int .i64) ptrV at_
 row: ∀no b,at_ no=some b→ ∃s d,fr no=some (s,d)∧w.rowIs b 243 4 (frF s d (us no))∧0≤us no∧us no≤clock∧b≠pb∧b≠mb
 out: ∀no,at_ no=none→fr no=none
 inj: ∀i j b,at_ i=some b→at_ j=some b→i=j
 ne:pb≠mb
 c0:0≤clock
 dom: ∀no b,at_ no=some b→0≤no∧no<100000
 cnt:n=cntI (fun i=>(fr i).isSome) 100000
 le:n≤room
 room1:1≤room
 room2:room≤65536
def IsPool (w:World) (pb:Nat) (F:List Nat) (room K:Nat) (fr:Hand):Prop:=
 ∃mb n clock at_ us,PoolAt w pb mb room n clock at_ us fr∧clock≤K∧pb∈F∧mb∈F∧(∀no b,at_ no=some b→b∈F)∧ ∀b∈F,b<w.heap.size
def PoolGo (w w':World) (pb:Nat) (F:List Nat) (room K:Nat) (fr:Hand):Prop:=
 ∃F',IsPool w' pb F' room K fr∧Touch F w w'∧ ∀b∈F',b∈F∨w.heap.size≤b
section
variable {w w':World} {pb mb room n K:Nat} {clock:Int} {at_:Int→Option Nat} {us:Int→Int} {fr:Hand} {F G:List Nat}
theorem PoolAt.touch (h:PoolAt w pb mb room n clock at_ us fr) (t:Touch G w w') (h1:pb∉G) (h2:mb∉G) (h3: ∀no b,at_ no=some b→b∉G):PoolAt w' pb mb room n clock at_ us fr:=
 ⟨rowIs_touch h.cells t h1,h.map.touch t h2,fun no b hb=>(h.row no b hb).elim fun s x=>x.elim fun d x=>⟨s,d,x.1,rowIs_touch x.2.1 t (h3 no b hb),x.2.2⟩,h.out,h.inj,h.ne,h.c0,h.dom,h.cnt,h.le,h.room1,h.room2⟩
theorem IsPool.touch (h:IsPool w pb F room K fr) (t:Touch G w w') (hG: ∀b∈F,b∉G):IsPool w' pb F room K fr:=by
 obtain⟨mb,n,clock,at_,us,h,hk,h1,h2,h3,h4⟩:=h
 exact⟨mb,n,clock,at_,us,h.touch t (hG _ h1) (hG _ h2) (fun no b hb=>hG _ (h3 no b hb)),hk,h1,h2,h3,fun b hb=>Nat.lt_of_lt_of_le (h4 b hb) t.size⟩
theorem IsPool.below (h:IsPool w pb F room K fr) (hb:Below w.heap.size w w'):IsPool w' pb F room K fr:=h.touch (G:=[]) (Touch.of_below hb) (fun b _ hm=>by cases hm)
theorem IsPool.mono (h:IsPool w pb F room K fr) {J:Nat} (hJ:K≤J):IsPool w pb F room J fr:=by
 obtain⟨mb,n,clock,at_,us,h,hk,r⟩:=h
 exact⟨mb,n,clock,at_,us,h,by omega,r⟩
theorem IsPool.lt (h:IsPool w pb F room K fr): ∀b∈F,b<w.heap.size:=by
 obtain⟨mb,n,clock,at_,us,h,hk,h1,h2,h3,h4⟩:=h
 exact h4
theorem PoolGo.refl (h:IsPool w pb F room K fr):PoolGo w w pb F room K fr:=⟨F,h,Touch.refl _ _,fun b hb=> .inl hb⟩
theorem PoolGo.trans {w1 w2:World} {fr':Hand} {J:Nat} {F1:List Nat} (t:Touch F w w1) (hF: ∀b∈F1,b∈F∨w.heap.size≤b) (h:PoolGo w1 w2 pb F1 room J fr'):PoolGo w w2 pb F room J fr':=by
 obtain⟨F2,h1,h2,h3⟩:=h
 exact⟨F2,h1,t.trans h2 hF,fun b hb=>(h3 b hb).elim (hF b) (fun h=> .inr (Nat.le_trans t.size h))⟩
theorem PoolGo.below {w0 w1:World} (hb:Below w0.heap.size w0 w) (h:PoolGo w w1 pb F room K fr):PoolGo w0 w1 pb F room K fr:=by
 obtain⟨F2,h1,h2,h3⟩:=h
 exact⟨F2,h1,(Touch.of_below hb).trans h2 (fun b h=> .inl h),fun b hb'=>(h3 b hb').imp id (fun h=>Nat.le_trans hb.size h)⟩
theorem PoolAt.cell (h:PoolAt w pb mb room n clock at_ us fr):w.cell? ⟨pb,0,none⟩=some (.int .i64 room)∧w.cell? ⟨pb,1,none⟩=some (.int .i64 clock)∧w.cell? ⟨pb,2,none⟩=some (.map (some mb)):=
 ⟨World.rowIs.cell h.cells (i:=0) (by decide),World.rowIs.cell h.cells (i:=1) (by decide),World.rowIs.cell h.cells (i:=2) (by decide)⟩
theorem PoolAt.frozen (h:PoolAt w pb mb room n clock at_ us fr) (i:Nat):w.frozen? ⟨pb,i,none⟩=false:=World.rowIs.frozen h.cells i
theorem frame_cell {w:World} {b:Nat} {s:ByteArray} {d:Bool} {u:Int} (h:w.rowIs b 243 4 (frF s d u)):
  w.cell? ⟨b,0,none⟩=some (.string s)∧w.cell? ⟨b,1,none⟩=some (.bool d)∧w.cell? ⟨b,2,none⟩=some (.int .i64 0)∧w.cell? ⟨b,3,none⟩=some (.int .i64 u):=
 ⟨World.rowIs.cell h (i:=0) (by decide),World.rowIs.cell h (i:=1) (by decide),World.rowIs.cell h (i:=2) (by decide),World.rowIs.cell h (i:=3) (by decide)⟩
theorem Tryz.keyIntP:Keyed Tryz.prog 3:=int_keyed Tryz.underlying3
theorem keyP {no:Int} (h0: -9223372036854775808≤no) (h1:no≤9223372036854775807):keyOf Tryz.prog 3 (.int .i64 no)=some (.int .i64 no):=keyOf_int_mk Tryz.underlying3 (WalkArith.wf_i64 (by omega))
theorem zeroP (w:World):(zeroValue 241).run Tryz.prog w= .ok (.pointer none) w:=by kernel_rfl
set_option maxRecDepth 100000 in
set_option maxHeartbeats 1000000 in
theorem find_any (h:PoolAt w pb mb room n clock at_ us fr) (no:Int) (h0: -9223372036854775808≤no) (h1:no≤9223372036854775807):
  Calls Tryz.prog 160 #[.pointer (some ⟨pb,0,none⟩), .int .i64 no] w fun e w'=>e= .returned (((at_ no).map ptrV).getD (.pointer none))∧w=w':=by
 obtain⟨c0,c1,c2⟩:=h.cell
 have hl:=h.map.toT.look Tryz.keyIntP Tryz.underlying232 (zeroP w) (x:=no) (keyP h0 h1)
 clear h
 go_enter Tryz.func160,Tryz.ntmps160
 go_wp2_with fail
 go_ret
 exact⟨rfl,rfl⟩
end
def updI {β:Type} (f:Int→β) (x:Int) (v:β):Int→β:=fun y=>if y=x then v else f y
theorem updI_same {β:Type} (f:Int→β) (x:Int) (v:β):updI f x v x=v:=if_pos rfl
theorem updI_other {β:Type} (f:Int→β) {x y:Int} (v:β) (h:y≠x):updI f x v y=f y:=if_neg h
section
variable {w w':World} {pb mb room n b:Nat} {clock c' u' no:Int} {at_:Int→Option Nat} {us:Int→Int} {fr:Hand} {s':ByteArray} {d':Bool}
theorem PoolAt.change (h:PoolAt w pb mb room n clock at_ us fr) (hb:at_ no=some b) (t:Touch [pb,b] w w') (hc:w'.rowIs pb 234 3 (poolF room c' mb)) (hf:w'.rowIs b 243 4 (frF s' d' u')) (u0:0≤u') (u1:u'≤c') (hcl:clock≤c'):
  PoolAt w' pb mb room n c' at_ (updI us no u') (updI fr no (some (s',d'))):=by
 obtain⟨s0,d0,e0, -, -, -,n1,n2⟩:=h.row no b hb
 refine⟨hc,h.map.touch t (by simp;exact⟨fun e=>h.ne e.symm,fun e=>n2 e.symm⟩),fun i b' hb'=> ?_,fun i hi=> ?_,h.inj,h.ne,by have:=h.c0;omega,h.dom, ?_,h.le,h.room1,h.room2⟩
 ·by_cases e:i=no
  ·subst e
   rw[hb] at hb'
   injection hb' with hb'
   subst hb'
   exact⟨s',d',updI_same _ _ _,by rw[updI_same];exact hf,by rw[updI_same];exact u0,by rw[updI_same];exact u1,n1,n2⟩
  ·obtain⟨s1,d1,e1,r1,q1,q2,m1,m2⟩:=h.row i b' hb'
   refine⟨s1,d1,by rw[updI_other _ _ e];exact e1, ?_,by rw[updI_other _ _ e];exact q1,by rw[updI_other _ _ e];omega,m1,m2⟩
   rw[updI_other _ _ e]
   exact rowIs_touch r1 t (by simp;exact⟨m1,fun e'=>e (h.inj i no b (e'▸hb') hb)⟩)
 ·have e:i≠no:=fun e=>by subst e;rw[hb] at hi;cases hi
  rw[updI_other _ _ e]
  exact h.out i hi
 ·rw[h.cnt]
  refine cntI_congr _ (fun i _=> ?_)
  by_cases e:(i:Int)=no
  ·rw[e,updI_same,e0];rfl
  ·rw[updI_other _ _ e]
theorem PoolAt.add (h:PoolAt w pb mb room n clock at_ us fr) (hno:at_ no=none) (t:Touch [pb,mb] w w') (hb:w.heap.size≤b) (hm:MapN w' Tryz.prog 3 mb (n+1) (Value.int .i64) ptrV (updI at_ no (some b))) (hc:w'.rowIs pb 234 3 (poolF room c' mb)) (hf:w'.rowIs b 243 4 (frF s' d' u'))
  (u0:0≤u') (u1:u'≤c') (hcl:clock≤c') (hn:n+1≤room) (d0:0≤no) (d1:no<100000):PoolAt w' pb mb room (n+1) c' (updI at_ no (some b)) (updI us no u') (updI fr no (some (s',d'))):=by
 have hp:=World.rowIs.lt h.cells
 have hm':=h.map.toT.lt
 have hlt: ∀i b',at_ i=some b'→b'<w.heap.size:=fun i b' hb'=>by
  obtain⟨_,_,_,r,_⟩:=h.row i b' hb'
  exact World.rowIs.lt r
 refine⟨hc,hm,fun i b' hb'=> ?_,fun i hi=> ?_,fun i j b' hi hj=> ?_,h.ne,by have:=h.c0;omega,fun i b' hb'=> ?_, ?_,hn,h.room1,h.room2⟩
 ·by_cases e:i=no
  ·subst e
   rw[updI_same] at hb'
   injection hb' with hb'
   subst hb'
   exact⟨s',d',updI_same _ _ _,by rw[updI_same];exact hf,by rw[updI_same];exact u0,by rw[updI_same];exact u1,by omega,by omega⟩
  ·rw[updI_other _ _ e] at hb'
   obtain⟨s1,d1',e1,r1,q1,q2,m1,m2⟩:=h.row i b' hb'
   refine⟨s1,d1',by rw[updI_other _ _ e];exact e1, ?_,by rw[updI_other _ _ e];exact q1,by rw[updI_other _ _ e];omega,m1,m2⟩
   rw[updI_other _ _ e]
   exact rowIs_touch r1 t (by simp;exact⟨m1,m2⟩)
 ·by_cases e:i=no
  ·subst e;rw[updI_same] at hi;cases hi
  ·rw[updI_other _ _ e] at hi ⊢
   exact h.out i hi
 ·by_cases e:i=no<;>by_cases e2:j=no
  ·rw[e,e2]
  ·subst e
   rw[updI_same] at hi
   rw[updI_other _ _ e2] at hj
   injection hi with hi
   have:=hlt j b' hj
   omega
  ·subst e2
   rw[updI_same] at hj
   rw[updI_other _ _ e] at hi
   injection hj with hj
   have:=hlt i b' hi
   omega
  ·rw[updI_other _ _ e] at hi
   rw[updI_other _ _ e2] at hj
   exact h.inj i j b' hi hj
 ·by_cases e:i=no
  ·subst e;exact⟨d0,d1⟩
  ·rw[updI_other _ _ e] at hb'
   exact h.dom i b' hb'
 ·have k:=cntI_set (p:=fun i=>(updI fr no (some (s',d')) i).isSome) (q:=fun i=>(fr i).isSome) (x:=no.toNat) (fun i hi=>by rw[updI_other _ _ (by omega)]) 100000 (by omega)
  rw[show((no.toNat:Nat):Int)=no by omega,updI_same,h.out no hno] at k
  simp at k
  rw[h.cnt]
  omega
theorem PoolAt.del (h:PoolAt w pb mb room n clock at_ us fr) (hb:at_ no=some b) {n':Nat} (t:Touch [mb] w w') (hm:MapN w' Tryz.prog 3 mb n' (Value.int .i64) ptrV (updI at_ no none)) (hn:n'+1=n):
  PoolAt w' pb mb room n' clock (updI at_ no none) us (updI fr no none):=by
 obtain⟨s0,d0,e0, -⟩:=h.row no b hb
 refine⟨rowIs_touch h.cells t (by simp;exact h.ne),hm,fun i b' hb'=> ?_,fun i hi=> ?_,fun i j b' hi hj=> ?_,h.ne,h.c0,fun i b' hb'=> ?_, ?_,by have:=h.le;omega,h.room1,h.room2⟩
 ·by_cases e:i=no
  ·subst e;rw[updI_same] at hb';cases hb'
  ·rw[updI_other _ _ e] at hb'
   obtain⟨s1,d1',e1,r1,q1,q2,m1,m2⟩:=h.row i b' hb'
   exact⟨s1,d1',by rw[updI_other _ _ e];exact e1,rowIs_touch r1 t (by simp;exact m2),q1,q2,m1,m2⟩
 ·by_cases e:i=no
  ·subst e;rw[updI_same]
  ·rw[updI_other _ _ e] at hi ⊢
   exact h.out i hi
 ·have e:i≠no:=fun e=>by subst e;rw[updI_same] at hi;cases hi
  have e2:j≠no:=fun e=>by subst e;rw[updI_same] at hj;cases hj
  rw[updI_other _ _ e] at hi
  rw[updI_other _ _ e2] at hj
  exact h.inj i j b' hi hj
 ·have e:i≠no:=fun e=>by subst e;rw[updI_same] at hb';cases hb'
  rw[updI_other _ _ e] at hb'
  exact h.dom i b' hb'
 ·have hd:=h.dom no b hb
  have k:=cntI_set (p:=fun i=>(updI fr no none i).isSome) (q:=fun i=>(fr i).isSome) (x:=no.toNat) (fun i hi=>by rw[updI_other _ _ (by omega)]) 100000 (by omega)
  rw[show((no.toNat:Nat):Int)=no by omega,updI_same,e0] at k
  simp at k
  have:=h.cnt
  omega
end
end Go.Proofs.YtjgkegkinnlcoaaGreatDoor
