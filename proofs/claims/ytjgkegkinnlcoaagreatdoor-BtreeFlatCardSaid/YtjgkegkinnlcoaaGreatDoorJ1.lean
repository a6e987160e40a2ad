/- Lemmas on the way to the statement: Kit, Plain, Word, Shelf, Repeat, CrcPlain, Crc, PageD, PageUn, Mark, Frame, DiskRep, Redo1. -/
import Derived.ArgAppend
import Derived.Below
import Derived.BigQuiet
import Derived.BigRegion
import Derived.ChangeSame
import Derived.Deep.AppendLies
import Derived.Deep.Draws
import Derived.Deep.OwnRows
import Derived.Deep.QuietTactic
import Derived.Deep.RegionHeld3
import Derived.Deep.RegionLaw
import Derived.Ground.SlgnProg
import Derived.Lib.Hide
import Derived.Lib.SmallJoins
import Derived.Lib.TrimByte
import Derived.Maps.Own
import Derived.Maps.OwnOps
import Derived.Maps.OwnSet
import Derived.Outline
import Derived.ProofKit
import Derived.Shelf.Bits.Mul64
import Derived.Shelf.Slices.In.SortNone
import Derived.Shelf.SlicesE.Delete
import Derived.Shelf.SlicesE.Index
import Derived.Shelf.Small.Bits
import Derived.Shelf.Small.Strs
import Derived.Shelf.Small.Utf8
import Derived.Shelf.Sort.Plain
import Derived.Shelf.Strconv.Itoa0
import Derived.Shelf.Strings.AsciiSet
import Derived.Shelf.Strings.Builder1
import Derived.Shelf.Strings.Builder2
import Derived.Shelf.Strings.BuilderF
import Derived.Shelf.Strings.OnBuilder
import Derived.Shelf.Strings.Prefix
import Derived.Shelf.Strings.Repeat
import Derived.Shelf.Strings.Runes
import Derived.Shelf.Strings.Search1
import Derived.Shelf.Strings.Trim
import Derived.Shelf.Unicode.DecodeSlow
import Derived.Test.YtjgkegkinnlcoaaGreatDoorProg
import Derived.Test.YtjgkegkinnlcoaaGreatDoorRows
import Derived.WalkKit
import Derived.WalkLawsBesides
import Derived.WalkSpells
set_option linter.unusedSimpArgs false
set_option linter.unusedVariables false
namespace Go.Proofs.YtjgkegkinnlcoaaGreatDoor
theorem zpa {α:Type} (l:List α) (i:Nat) (v:α):l.toArray.setIfInBounds i v=(l.set i v).toArray:=List.setIfInBounds_toArray ..
theorem zpb {α:Type} (x:α) (l:List α) (v:α):(x::l).set 0 v=v::l:=rfl
theorem zpc {α:Type} (x:α) (l:List α) (i:Nat) (v:α):(x::l).set (i+1) v=x::l.set i v:=rfl
theorem zga {α:Type} (l:List α) (i:Nat):l.toArray[i]? =l[i]? :=List.getElem?_toArray ..
theorem zgb {α:Type} (x:α) (l:List α) (i:Nat):(x::l)[i+1]? =l[i]? :=List.getElem?_cons_succ ..
theorem zgc {α:Type} (x:α) (l:List α):(x::l)[0]? =some x:=List.getElem?_cons_zero ..
end Go.Proofs.YtjgkegkinnlcoaaGreatDoor
namespace Go.Proofs.YtjgkegkinnlcoaaGreatDoor
open Go.RowKit Go.WideShapes Go.ChangeShapes
theorem quiet_left {P:Program} {f:FuncId} {args:Array Value} {w:World} {n:Nat} {v:Value}
  (h:Calls P f args (w.drewN n) fun e w'=>e= .returned v∧w.drewN n=w'):Calls P f args (w.drewN n) fun e w''=>e= .returned v∧ ∃m,w''=w.drewN m:=
 h.mono fun _ _ ⟨he,hm⟩=>⟨he,n,hm.symm⟩
section
variable {H:Type} {enc:TypeId × Value→H} {P:Program}
theorem post_of_below {f:Func} {s:ChangeSpec} {apart fresh handsOn again:Bool} {W W':World} {args:Array Value} {v:Value} {ds gs:List (DataW H)} {before pa pv:List MemPlace}
  (hW:DataW.Whole enc P f.params.toList s.vars apart W args.toList ds gs before)
  (hres: ∀(b:Nat) (sp:Nat→Bool) (hd:Bool),DataW.TrodAll enc P W' b sp hd f.resultTypes.toList (v.resultList f.resultTypes.size) (s.fn H (ds++gs)).results [])
  (hargs: ∀sp:Nat→Bool,(∀p∈before,sp p.block=true)→DataW.TrodAll enc P W' 0 sp true f.params.toList args.toList (s.fn H (ds++gs)).args pa)
  (hvars: ∀sp:Nat→Bool,(∀p∈before,sp p.block=true)→DataW.TrodVars enc P W' sp s.vars (s.fn H (ds++gs)).vars pv)
  (hps:before=pa++pv) (hb:Below W.heap.size W W')
  (hok: ∀(j:Nat) (t:TypeId) (r:Value),f.resultTypes[j]? =some t→(v.resultList f.resultTypes.size)[j]? =some r→Value.okWide P W' .any 0 t r):
  s.post enc P f apart fresh handsOn again W args v W':=by
 have hlt: ∀p∈before,p.block<W.heap.size:=fun p hp=>hW.lt p hp
 have hold: ∀p∈before,(fun b=>decide (b<W.heap.size)) p.block=true:=fun p hp=>by simpa using hlt p hp
 refine⟨ds,gs,before,[],pa,pv,hW,hres _ _ _,hargs _ hold,hvars _ hold,World.keptBut_mono (fun p hp=>⟨hp, ?_⟩) (hb.frame (· ∈before)),fun _=> ?_⟩
 ·rw[hps,List.mem_append] at hp
  exact Or.inr hp
 ·obtain⟨_,_,_,_,_,hz,hn⟩:=hW
  refine⟨hok,_,_,([]++pa)++pv,⟨[]++pa,pv,trodAll_append (hargs _ (fun _ _=>rfl)) (hres _ _ _),hvars _ (fun _ _=>rfl),rfl, ?_, ?_⟩, ?_⟩
  ·intro b off hp
   have hin:MemPlace.cell b off∈before:=by rw[hps];simpa using hp
   rw[hb.frozen (hlt _ hin)]
   exact hz b off hin
  ·intro ha
   have:=hn ha
   rw[hps] at this
   simpa using this
  ·intro p hp _
   rw[hps]
   simpa using hp
end
theorem str_eq {a b:ByteArray} (h:a=b):(a.toList==b.toList)=true:=by rw[h];simp
theorem str_ne {a b:ByteArray} (h:a≠b):(a.toList==b.toList)=false:=by
 rw[beq_eq_false_iff_ne]
 intro e
 apply h
 rw[ByteArray.toList_eq,ByteArray.toList_eq] at e
 exact ByteArray.ext (Array.toList_inj.1 e)
theorem cell_new (w:World) (v:Value) (t:TypeId):(w.alloc (.cells #[v] t)).cell? ⟨w.heap.size,0,none⟩=some v:=cell_one_new w v t 0 v rfl
theorem cell_pair (w:World) (a b:Value) (t:TypeId): ∀(j:Nat) (u:Value),[a,b][j]? =some u→(w.alloc (.cells #[a,b] t)).cell? ((⟨w.heap.size,0,none⟩:Addr).add j)=some u:=by
 intro j u hj
 have hb:(w.alloc (.cells #[a,b] t)).heap[w.heap.size]? =some (.cells #[a,b] t (0,0)):=by
  show(w.heap.push _)[w.heap.size]? =_
  rw[Array.getElem?_push_size]
 have:(⟨w.heap.size,0,none⟩:Addr).add j=⟨w.heap.size,j,none⟩:=by unfold Addr.add;split<;>simp_all
 rw[this]
 unfold World.cell?
 rw[hb]
 rcases j with _|_|j
 ·simpa using hj
 ·simpa using hj
 ·simp at hj
theorem below_next {B:Nat} {a b c:World} (h:Below B a b) (hB:B≤b.heap.size) (k:Below b.heap.size b c):Below B a c:=h.trans (k.mono hB)
theorem cell_lt {w:World} {b o:Nat} {v:Value} (h:w.cell? ⟨b,o,none⟩=some v):b<w.heap.size:=by
 rcases Nat.lt_or_ge b w.heap.size with h'|h'
 ·exact h'
 ·simp[World.cell?,Array.getElem?_eq_none h'] at h
theorem below_step {a b c:World} (k:Below b.heap.size b c) (h:Below a.heap.size a b):Below a.heap.size a c:=h.trans (k.mono h.size)
theorem below_alloc {a b:World} {o:Obj} (h:Below a.heap.size a b):Below a.heap.size a (b.alloc o):=h.alloc h.size o
end Go.Proofs.YtjgkegkinnlcoaaGreatDoor
namespace Go.Proofs.YtjgkegkinnlcoaaGreatDoor
open Go.RowKit
def Drawn (w w':World):Prop:= ∃q,w'=w.drewN q
theorem Drawn.refl (w:World):Drawn w w:=⟨0,rfl⟩
theorem Drawn.twice (w:World) (a b:Nat):Drawn w ((w.drewN a).drewN b):=⟨a+b,World.drewN_drewN _ _ _⟩
theorem Drawn.below {w w':World} (h:Drawn w w'):Below w.heap.size w w':=by obtain⟨q,rfl⟩:=h;exact⟨rfl,rfl,rfl,Nat.le_refl _,fun _ _=>rfl⟩
theorem below_drewN {B:Nat} {a w:World} (h:Below B a w) (q:Nat):Below B a (w.drewN q):=⟨h.os,h.tape,h.output,h.size,h.block⟩
def byteAt (n:Int) (j:Nat):Int:=n / 2 ^ (8*j) % 256
def leB (n:Int) (k:Nat):List UInt8:=(List.range k).map fun t=>UInt8.ofNat (byteAt n t).toNat
def S (l:List UInt8):ByteArray:=⟨l.toArray⟩
def putCells (n:Int) (k j:Nat):List Value:=(List.range k).map fun t=> .int .u8 (if t<j then byteAt n t else 0)
theorem byteAt_bd (n:Int) (j:Nat):0≤byteAt n j∧byteAt n j<256:=by unfold byteAt;omega
theorem leB_length (n:Int) (k:Nat):(leB n k).length=k:=by simp[leB]
theorem putCells_zero (n:Int) (k:Nat):putCells n k 0=List.replicate k (.int .u8 0):=by
 apply List.ext_getElem (by simp[putCells])
 intro i h1 h2
 simp[putCells]
theorem putCells_get (n:Int) (k j:Nat) (h:j<k):(putCells n k j)[j]? =some (.int .u8 0):=by
 simp[putCells,h]
theorem putCells_set (n:Int) (k j:Nat):(putCells n k j).set j (.int .u8 (n / 2 ^ (8*j) % 256))=putCells n k (j+1):=by
 apply List.ext_getElem (by simp[putCells])
 intro i h1 h2
 simp only[List.getElem_set,putCells,List.getElem_map,List.getElem_range]
 by_cases hij:j=i
 ·subst hij;simp[byteAt]
 ·by_cases hlt:i<j
  ·simp[hij,hlt,Nat.lt_succ_of_lt hlt]
  ·have: ¬i<j+1:=by omega
   simp[hij,hlt,this]
theorem putCells_all (n:Int) (k t:Nat) (h:t<k):(putCells n k k)[t]? =some (.int .u8 ((leB n k)[t]'(by rw[leB_length];exact h)).toNat):=by
 have hb:=byteAt_bd n t
 have hm:(byteAt n t).toNat % 256=(byteAt n t).toNat:=by omega
 simp[putCells,leB,h,Int.toNat_of_nonneg hb.1,hm]
def leN:List UInt8→Int
 | []=>0
 |b::l=>b.toNat+256*leN l
theorem leN_bd: ∀l:List UInt8,0≤leN l∧leN l<256 ^ l.length
 | []=>by simp[leN]
 |b::l=>by
  have h:=leN_bd l
  have hb:=b.toNat_lt
  simp only[leN,List.length_cons,Int.pow_succ]
  omega
def cut (s:ByteArray) (a k:Nat):List UInt8:=(s.data.toList.drop a).take k
theorem cut_cons (s:ByteArray) (a k:Nat) (h:a<s.size):cut s a (k+1)=s[a]::cut s (a+1) k:=by
 unfold cut
 rw[List.drop_eq_getElem_cons (by simpa using h)]
 rfl
theorem cut_length (s:ByteArray) (a k:Nat) (h:a+k≤s.size):(cut s a k).length=k:=by
 simp[cut];omega
theorem pow_le (j:Nat) (h:j≤7):(256:Int) ^ j≤72057594037927936:=by
 rcases j with _|_|_|_|_|_|_|_|j<;>first|decide|omega
theorem cut_leN (s:ByteArray) (a k:Nat) (hk:k≤7):0≤leN (cut s a k)∧leN (cut s a k)<72057594037927936:=by
 have h:=leN_bd (cut s a k)
 have hl:(cut s a k).length≤7:=by unfold cut;simp;omega
 have:=pow_le _ hl
 omega
theorem or_byte (x:Int) (b:UInt8) (h0:0≤x) (h1:x<72057594037927936):bits .or .u64 (x*256) (IntKind.u64.wrap b.toNat)=b.toNat+256*x:=by
 have hb:=b.toNat_lt
 rw[IntKind.wrap_u64,Int.emod_eq_of_lt (by omega) (by omega),u64_or _ _ (by omega) (by omega) (by omega) (by omega),nat_join 8 _ _ (by omega) (by omega)]
 omega
def nul (n:Nat):List UInt8:=List.replicate n 0
theorem nul_length (n:Nat):(nul n).length=n:=List.length_replicate
theorem S_append (a b:List UInt8):S a++S b=S (a++b):=by
 apply ByteArray.ext;simp[S,ByteArray.data_append]
theorem S_data (s:ByteArray):S s.data.toList=s:=by
 apply ByteArray.ext;simp[S]
theorem data_S (l:List UInt8):(S l).data.toList=l:=by simp[S]
theorem S_size (l:List UInt8):(S l).size=l.length:=by simp[S,ByteArray.size]
theorem append_S (s:ByteArray) (l:List UInt8):s++S l=S (s.data.toList++l):=by
 conv=>lhs;rw[←S_data s]
 exact S_append _ _
theorem S_append_s (s:ByteArray) (l:List UInt8):S l++s=S (l++s.data.toList):=by
 conv=>lhs;rw[←S_data s]
 exact S_append _ _
theorem leN_inj: ∀ {a b:List UInt8},a.length=b.length→leN a=leN b→a=b
 | [],[],_,_=>rfl
 |x::a,y::b,hl,h=>by
  have hx:=x.toNat_lt
  have hy:=y.toNat_lt
  simp only[leN] at h
  have h1:x.toNat=y.toNat:=by omega
  have h2:leN a=leN b:=by omega
  rw[leN_inj (by simpa using hl) h2,UInt8.toNat_inj.1 h1]
theorem extract_cut (s:ByteArray) (a b:Nat):s.extract a b=S (cut s a (b - a)):=by
 apply ByteArray.ext;apply Array.toList_inj.1
 simp[S,cut,ByteArray.data_extract,Array.toList_extract,List.extract_eq_take_drop]
def mOk (s:ByteArray):Bool:=decide (s.size=64∧cut s 0 8=cut s 56 8)
def mN (s:ByteArray):Int:=if mOk s then leN (cut s 0 8) else 0
def mT (s:ByteArray):ByteArray:=if mOk s then s.extract 8 56 else⟨#[]⟩
theorem mOk_iff (s:ByteArray):mOk s=true↔s.size=64∧cut s 0 8=cut s 56 8:=by simp[mOk]
theorem mOk_size (s:ByteArray) (h:s.size≠64):mOk s=false:=by simp[mOk,h]
theorem mOk_yes (s:ByteArray) (h:s.size=64) (e:leN (cut s 0 8)=leN (cut s 56 8)):mOk s=true:=
 (mOk_iff s).2 ⟨h,leN_inj (by rw[cut_length s 0 8 (by omega),cut_length s 56 8 (by omega)]) e⟩
theorem mOk_no (s:ByteArray) (e:leN (cut s 0 8)≠leN (cut s 56 8)):mOk s=false:=by
 rw[←Bool.not_eq_true,mOk_iff];rintro ⟨_,h⟩;exact e (by rw[h])
theorem byteAt_succ (n:Int) (j:Nat) (h:0≤n):byteAt n (j+1)=byteAt (n / 256) j:=by
 unfold byteAt
 rw[show 8*(j+1)=8+8*j by omega,Int.pow_add,Int.ediv_ediv_of_nonneg (by decide)]
 rfl
theorem leB_cons (n:Int) (k:Nat) (h:0≤n):leB n (k+1)=UInt8.ofNat (n % 256).toNat::leB (n / 256) k:=by
 unfold leB
 rw[List.range_succ_eq_map]
 simp only[List.map_cons,List.map_map,List.cons.injEq]
 refine⟨by simp[byteAt], ?_⟩
 apply List.map_congr_left
 intro t _
 simp only[Function.comp,Nat.succ_eq_add_one]
 rw[byteAt_succ n t h]
theorem emod_two (n p:Int):n % (256*p)=n % 256+256*(n / 256 % p):=by
 rw[Int.emod_def n (256*p),Int.emod_def (n / 256) p,Int.ediv_ediv_of_nonneg (by decide),Int.mul_sub,Int.mul_assoc]
 generalize p*(n / (256*p))=x
 omega
theorem leN_leB: ∀(k:Nat) (n:Int),0≤n→leN (leB n k)=n % 256 ^ k
 |0,n,h=>by simp[leB,leN]
 |k+1,n,h=>by
  rw[leB_cons n k h,leN,leN_leB k (n / 256) (by omega)]
  have h1:(UInt8.ofNat (n % 256).toNat).toNat=(n % 256).toNat:=by simp;omega
  rw[h1,Int.toNat_of_nonneg (by omega),Int.pow_succ,Int.mul_comm (256 ^ k) 256]
  exact(emod_two n (256 ^ k)).symm
theorem leN_leB8 (n:Int) (h:0≤n) (hu:n≤18446744073709551615):leN (leB n 8)=n:=by
 rw[leN_leB 8 n h,Int.emod_eq_of_lt h (by omega)]
def mkL (n:Int) (s:ByteArray):List UInt8:=leB n 8++s.data.toList++nul (48 - s.size)++leB n 8
def mkStr (n:Int) (s:ByteArray):ByteArray:=S (mkL n s)
theorem data_length (s:ByteArray):s.data.toList.length=s.size:=by simp
theorem mkL_length (n:Int) (s:ByteArray) (h:s.size≤48):(mkL n s).length=64:=by
 unfold mkL;simp only[List.length_append,leB_length,nul_length,data_length];omega
theorem mkStr_size (n:Int) (s:ByteArray) (h:s.size≤48):(mkStr n s).size=64:=by
 unfold mkStr;rw[S_size,mkL_length n s h]
theorem mkStr_cut0 (n:Int) (s:ByteArray):cut (mkStr n s) 0 8=leB n 8:=by
 unfold mkStr cut mkL;rw[data_S,List.drop_zero,List.append_assoc,List.append_assoc,List.take_left' (leB_length n 8)]
theorem mkStr_cut56 (n:Int) (s:ByteArray) (h:s.size≤48):cut (mkStr n s) 56 8=leB n 8:=by
 unfold mkStr cut mkL
 rw[data_S,List.drop_left' (by simp only[List.length_append,leB_length,nul_length,data_length];omega),List.take_of_length_le (by rw[leB_length];omega)]
theorem mkStr_mid (n:Int) (s:ByteArray) (h:s.size≤48):cut (mkStr n s) 8 48=s.data.toList++nul (48 - s.size):=by
 unfold mkStr cut mkL
 rw[data_S,List.append_assoc,List.append_assoc,List.drop_left' (leB_length n 8), ←List.append_assoc,List.take_left' (by simp only[List.length_append,nul_length,data_length];omega)]
theorem mkStr_Ok (n:Int) (s:ByteArray) (h:s.size≤48):mOk (mkStr n s)=true:=
 (mOk_iff _).2 ⟨mkStr_size n s h,by rw[mkStr_cut0,mkStr_cut56 n s h]⟩
theorem mkStr_N (n:Int) (s:ByteArray) (h:s.size≤48) (h0:0≤n) (hu:n≤18446744073709551615):mN (mkStr n s)=n:=by
 unfold mN;rw[mkStr_Ok n s h,if_pos rfl,mkStr_cut0,leN_leB8 n h0 hu]
theorem mkStr_T (n:Int) (s:ByteArray) (h:s.size≤48):mT (mkStr n s)=S (s.data.toList++nul (48 - s.size)):=by
 unfold mT;rw[mkStr_Ok n s h,if_pos rfl,extract_cut,mkStr_mid n s h]
end Go.Proofs.YtjgkegkinnlcoaaGreatDoor
namespace Go.Proofs.YtjgkegkinnlcoaaGreatDoor
open Go.RowKit
theorem Tryz.infoByte:(Tryz.prog.info? 5).map (fun i=>(i.zero,i.size,i.bytes))=some (some (.int .u8 0),1,1):=by kernel_rfl
set_option maxRecDepth 100000 in
set_option maxHeartbeats 400000 in
theorem put_any (n:Int) (k:Nat) (w:World) (hk:k≤8) (hn:0≤n):
  Calls Tryz.prog 71 #[.int .u64 n, .int .i64 k] w fun e w'=>e= .returned (.string (S (leB n k)))∧Below w.heap.size w w':=by
 obtain⟨i0,hi,hz0,hz1,hz2⟩:=info_parts Tryz.infoByte
 go_enter Tryz.func71,Tryz.ntmps71
 go_wp2_with (first
  |(at_make;refine wpList_make_full _ rfl (.tmp 13) (.tmp 13) 48 rfl w.heap.size 5 i0 (.int .u8 0) 1 Tryz.underlying48 hi hz0 hz1 .i64 .i64 k k k rfl rfl rfl rfl (by rw[hz2];omega) (by unfold maxLen;omega) (Nat.le_refl _) ?_;intro w1 hown hgr))
 have hb:Below w.heap.size w w1:=(Below.refl _ _).grown hgr (Nat.le_refl _) (by intro k h;cases h)
 clear hgr
 go_loopw [6,16] (fun _ c wr=> ∃j:Nat,j≤k∧c= .int .i64 j∧wr.ownsRow w.heap.size 5 1 (.slice (some ⟨w.heap.size,0,none⟩) k k) k (putCells n k j)∧Below w.heap.size w wr) (fun _ c _=>k - (intOf c).toNat)
 case atStart=>
  refine⟨0,Nat.zero_le _,rfl, ?_,hb⟩
  rw[putCells_zero]
  have h1:=toList_madeCells_one (Value.int .u8 0) k
  have h2:(Value.int .u8 0).cells= #[Value.int .u8 0]:=rfl
  rw[h2,Nat.mul_one,h1] at hown
  exact hown
 case round=>
  clear hown hb
  obtain⟨j,hj,rfl,hown,hb⟩:=hrel
  by_cases hlt:j<k
  ·have hf:=hown.frozenAt j
   have hcell:wr.cell? ⟨w.heap.size,j,none⟩=some (.int .u8 0):=by rw[hown.cellAt j (by omega),putCells_get n k j hlt]
   go_wp2
   have hs:=(hown.stored j (.int .u8 (n / 2 ^ (8*j) % 256))).1
   rw[putCells_set] at hs
   go_roundw
   case rel=>exact⟨j+1,by omega,by go_num,hs,hb.setCell (by simp) _⟩
   case measure=>simp[intOf];omega
  ·obtain rfl:j=k:=by omega
   have hconv:=run_convert_bytes_back (P:=Tryz.prog) wr 48 9 5 ⟨w.heap.size,0,none⟩ j (leB n j) Tryz.underlying48 Tryz.underlying5 Tryz.underlying9 (by
    intro t ht
    rw[leB_length] at ht
    have:(⟨w.heap.size,0,none⟩:Addr).add t=⟨w.heap.size,t,none⟩:=by unfold Addr.add;split<;>simp_all
    rw[this,hown.cellAt t (by omega),putCells_all n j t ht])
   rw[leB_length] at hconv
   go_wp2
   go_ret
   exact⟨rfl,hb⟩
set_option maxRecDepth 100000 in
set_option maxHeartbeats 400000 in
theorem get_any (s:ByteArray) (a k:Nat) (w:World) (hk:k≤8) (ha:a+k≤s.size) (hs:s.size≤9223372036854775807):
  Calls Tryz.prog 66 #[.string s, .int .i64 a, .int .i64 k] w fun e w'=>e= .returned (.tuple #[.int .u64 (leN (cut s a k)), .bool true])∧w=w':=by
 have d1:decide ((k:Int)<0)=false:=by simp
 have d2:decide ((8:Int)<k)=false:=by simp;omega
 have d3:decide ((a:Int)<0)=false:=by simp
 have d4:decide (s.size<a)=false:=by simp;omega
 have d5:decide ((s.size:Int) - a<k)=false:=by simp;omega
 go_enter Tryz.func66,Tryz.ntmps66
 go_wp2
 go_loop [8,9] (fun n i=> ∃j:Nat,j≤k∧i= .int .i64 ((j:Int) - 1)∧n= .int .u64 (leN (cut s (a+j) (k - j)))) (fun _ i=>(intOf i+1).toNat)
 case atStart=>
  refine⟨k,Nat.le_refl _,rfl, ?_⟩
  have:cut s (a+k) (k - k)=[]:=by rw[Nat.sub_self];unfold cut;rw[List.take_zero]
  rw[this];rfl
 case round=>
  obtain⟨j,hj,rfl,rfl⟩:=hrel
  clear d1 d2 d3 d4 d5
  by_cases h0:0<j
  ·obtain⟨j,rfl⟩: ∃q,j=q+1:=⟨j - 1,by omega⟩
   clear h0
   have hb:=cut_leN s (a+(j+1)) (k - (j+1)) (by omega)
   go_wp2
   go_round
   case rel=>
    refine⟨j,by omega,rfl, ?_⟩
    rw[or_byte _ _ hb.1 hb.2,show k - j=(k - (j+1))+1 by omega,cut_cons s (a+j) _ (by omega)]
    rfl
   case measure=>simp[intOf]
  ·obtain rfl:j=0:=by omega
   go_wp2
   go_ret2
   exact⟨by simp,rfl⟩
end Go.Proofs.YtjgkegkinnlcoaaGreatDoor
namespace Go.Proofs
open Go.Shelf
def Tryz.lays156_ren:Go.Shelf.Ren:=⟨fun|156=>141|165=>147|166=>148|169=>150|240=>196|241=>197|276=>225|277=>226|n=>n,fun|31=>47|9=>9|3=>3|4=>4|0=>0|20=>20|72=>214|76=>217|70=>212|37=>48|75=>216|127=>272|164=>296|5=>5|80=>219|n=>n,fun|n=>n⟩
theorem Tryz.lays156:Go.Proofs.Lays.n156 Tryz.prog Tryz.lays156_ren:= {
 mixed:=by kernel_rfl
 f156:=Tryz.func141.trans (congrArg some (by kernel_rfl))
 f165:=Tryz.func147.trans (congrArg some (by kernel_rfl))
 f166:=Tryz.func148.trans (congrArg some (by kernel_rfl))
 f169:=Tryz.func150.trans (congrArg some (by kernel_rfl))
 f240:=Tryz.func196.trans (congrArg some (by kernel_rfl))
 f241:=Tryz.func197.trans (congrArg some (by kernel_rfl))
 f276:=Tryz.func225.trans (congrArg some (by kernel_rfl))
 f277:=Tryz.func226.trans (congrArg some (by kernel_rfl))
 t0:=Tryz.underlying0
 a0:=Tryz.isAgg0
 z0:=Tryz.sizeOf0
 v0:=Tryz.zeroValue0
 t3:=Tryz.underlying3
 a3:=Tryz.isAgg3
 z3:=Tryz.sizeOf3
 v3:=Tryz.zeroValue3
 t4:=Tryz.underlying4
 a4:=Tryz.isAgg4
 z4:=Tryz.sizeOf4
 v4:=Tryz.zeroValue4
 t9:=Tryz.underlying9
 a9:=Tryz.isAgg9
 z9:=Tryz.sizeOf9
 v9:=Tryz.zeroValue9
 t20:=Tryz.underlying20
 a20:=Tryz.isAgg20
 z20:=Tryz.sizeOf20
 v20:=Tryz.zeroValue20
 t31:=Tryz.underlying47
 a31:=Tryz.isAgg47
 z31:=Tryz.sizeOf47
 v31:=Tryz.zeroValue47
 t37:=Tryz.underlying48
 a37:=Tryz.isAgg48
 z37:=Tryz.sizeOf48
 v37:=Tryz.zeroValue48
 t70:=Tryz.underlying212
 a70:=Tryz.isAgg212
 z70:=Tryz.sizeOf212
 v70:=Tryz.zeroValue212
 t72:=Tryz.underlying214
 a72:=Tryz.isAgg214
 z72:=Tryz.sizeOf214
 v72:=Tryz.zeroValue214
 t75:=Tryz.underlying216
 a75:=Tryz.isAgg216
 z75:=Tryz.sizeOf216
 v75:=Tryz.zeroValue216
 t76:=Tryz.underlying217
 a76:=Tryz.isAgg217
 z76:=Tryz.sizeOf217
 v76:=Tryz.zeroValue217
 t127:=Tryz.underlying272
 a127:=Tryz.isAgg272
 z127:=Tryz.sizeOf272
 v127:=Tryz.zeroValue272
 t164:=Tryz.underlying296
 a164:=Tryz.isAgg296
 z164:=Tryz.sizeOf296
 v164:=Tryz.zeroValue296 }
theorem Tryz.Builder_Extra_156:Builder.Extra Tryz.prog Tryz.lays156_ren:= {
 sizeBuilder:=by kernel_rfl
 liesBuilder:=by kernel_rfl
 t5:=Tryz.underlying5
 a5:=Tryz.isAgg5
 z5:=Tryz.sizeOf5
 v5:=Tryz.zeroValue5
 infoByte:=by kernel_rfl
 cellsByte:=by kernel_rfl
 sizeByte:=by kernel_rfl
 neB5:=by decide }
open Go.RowKit in
theorem Tryz.strings_Join (bk o c:Nat) (xs:List ByteArray) (sep:ByteArray) (w:World) (hcells: ∀(j:Nat) x,xs[j]? =some x→w.cell? ⟨bk,o+j,none⟩=some (.string x)) (hbk:bk<w.heap.size) (hN:xs.length≤140737488355328) (hcap:xs.length≤c) (hlen:(Lib.join (xs.map (·.data.toList)) sep.data.toList).length≤140737488355328):
  Calls Tryz.prog 141 #[.slice (some ⟨bk,o,none⟩) xs.length c, .string sep] w fun e w'=>e= .returned (.string ⟨(Lib.join (xs.map (·.data.toList)) sep.data.toList).toArray⟩)∧Below w.heap.size w w':=Any.strings_Join Tryz.lays156 Tryz.Builder_Extra_156 bk o c xs sep w hcells hbk hN hcap hlen
def Tryz.lays160_ren:Go.Shelf.Ren:=⟨fun|160=>180|232=>214|231=>213|227=>215|234=>217|233=>216|236=>219|235=>218|228=>235|271=>238|151=>237|197=>236|120=>246|152=>245|260=>244|137=>247|119=>248|224=>249|225=>250|217=>251|266=>252|n=>n,fun|9=>9|4=>4|3=>3|5=>5|117=>289|116=>288|0=>0|124=>292|21=>21|105=>306|46=>178|119=>317|139=>320|138=>319|n=>n,fun|3=>1|4=>2|n=>n⟩
theorem Tryz.lays160:Go.Proofs.Lays.n160 Tryz.prog Tryz.lays160_ren:= {
 mixed:=by kernel_rfl
 f119:=Tryz.func248.trans (congrArg some (by kernel_rfl))
 f120:=Tryz.func246.trans (congrArg some (by kernel_rfl))
 f137:=Tryz.func247.trans (congrArg some (by kernel_rfl))
 f151:=Tryz.func237.trans (congrArg some (by kernel_rfl))
 f152:=Tryz.func245.trans (congrArg some (by kernel_rfl))
 f160:=Tryz.func180.trans (congrArg some (by kernel_rfl))
 f197:=Tryz.func236.trans (congrArg some (by kernel_rfl))
 f217:=Tryz.func251.trans (congrArg some (by kernel_rfl))
 f224:=Tryz.func249.trans (congrArg some (by kernel_rfl))
 f225:=Tryz.func250.trans (congrArg some (by kernel_rfl))
 f227:=Tryz.func215.trans (congrArg some (by kernel_rfl))
 f228:=Tryz.func235.trans (congrArg some (by kernel_rfl))
 f231:=Tryz.func213.trans (congrArg some (by kernel_rfl))
 f232:=Tryz.func214.trans (congrArg some (by kernel_rfl))
 f233:=Tryz.func216.trans (congrArg some (by kernel_rfl))
 f234:=Tryz.func217.trans (congrArg some (by kernel_rfl))
 f235:=Tryz.func218.trans (congrArg some (by kernel_rfl))
 f236:=Tryz.func219.trans (congrArg some (by kernel_rfl))
 f260:=Tryz.func244.trans (congrArg some (by kernel_rfl))
 f266:=Tryz.func252.trans (congrArg some (by kernel_rfl))
 f271:=Tryz.func238.trans (congrArg some (by kernel_rfl))
 t0:=Tryz.underlying0
 a0:=Tryz.isAgg0
 z0:=Tryz.sizeOf0
 v0:=Tryz.zeroValue0
 t3:=Tryz.underlying3
 a3:=Tryz.isAgg3
 z3:=Tryz.sizeOf3
 v3:=Tryz.zeroValue3
 t4:=Tryz.underlying4
 a4:=Tryz.isAgg4
 z4:=Tryz.sizeOf4
 v4:=Tryz.zeroValue4
 t5:=Tryz.underlying5
 a5:=Tryz.isAgg5
 z5:=Tryz.sizeOf5
 v5:=Tryz.zeroValue5
 t9:=Tryz.underlying9
 a9:=Tryz.isAgg9
 z9:=Tryz.sizeOf9
 v9:=Tryz.zeroValue9
 t21:=Tryz.underlying21
 a21:=Tryz.isAgg21
 z21:=Tryz.sizeOf21
 v21:=Tryz.zeroValue21
 t46:=Tryz.underlying178
 a46:=Tryz.isAgg178
 z46:=Tryz.sizeOf178
 v46:=Tryz.zeroValue178
 t105:=Tryz.underlying306
 a105:=Tryz.isAgg306
 z105:=Tryz.sizeOf306
 v105:=Tryz.zeroValue306
 t116:=Tryz.underlying288
 a116:=Tryz.isAgg288
 z116:=Tryz.sizeOf288
 t117:=Tryz.underlying289
 a117:=Tryz.isAgg289
 z117:=Tryz.sizeOf289
 v117:=Tryz.zeroValue289
 t119:=Tryz.underlying317
 a119:=Tryz.isAgg317
 z119:=Tryz.sizeOf317
 t124:=Tryz.underlying292
 a124:=Tryz.isAgg292
 z124:=Tryz.sizeOf292
 v124:=Tryz.zeroValue292
 t138:=Tryz.underlying319
 a138:=Tryz.isAgg319
 z138:=Tryz.sizeOf319
 v138:=Tryz.zeroValue319
 t139:=Tryz.underlying320
 a139:=Tryz.isAgg320
 z139:=Tryz.sizeOf320
 v139:=Tryz.zeroValue320
 g3:=by kernel_rfl
 g4:=by kernel_rfl }
open Go.RowKit in
theorem Tryz.strings_Trim_one (s:ByteArray) (c:UInt8) (hc:c.toNat<128) (w:World) (hs:s.size≤9223372036854775807):
  Calls Tryz.prog 180 #[.string s, .string ⟨#[c]⟩] w fun e w'=>e= .returned (.string ⟨(Lib.trimB s.data.toList c).toArray⟩)∧(w'=w∨w'=w.drew):=Any.strings_Trim_one Tryz.lays160 s c hc w hs
def Tryz.lays105_ren:Go.Shelf.Ren:=⟨fun|105=>72|212=>145|99=>146|165=>147|166=>148|170=>149|169=>150|263=>193|264=>194|206=>195|240=>196|241=>197|276=>225|277=>226|n=>n,fun|9=>9|3=>3|4=>4|20=>20|0=>0|46=>178|109=>209|5=>5|72=>214|76=>217|51=>225|146=>268|53=>28|148=>270|70=>212|37=>48|75=>216|127=>272|164=>296|80=>219|n=>n,fun|n=>n⟩
theorem Tryz.lays105:Go.Proofs.Lays.n105 Tryz.prog Tryz.lays105_ren:= {
 mixed:=by kernel_rfl
 f99:=Tryz.func146.trans (congrArg some (by kernel_rfl))
 f105:=Tryz.func72.trans (congrArg some (by kernel_rfl))
 f165:=Tryz.func147.trans (congrArg some (by kernel_rfl))
 f166:=Tryz.func148.trans (congrArg some (by kernel_rfl))
 f169:=Tryz.func150.trans (congrArg some (by kernel_rfl))
 f170:=Tryz.func149.trans (congrArg some (by kernel_rfl))
 f206:=Tryz.func195.trans (congrArg some (by kernel_rfl))
 f212:=Tryz.func145.trans (congrArg some (by kernel_rfl))
 f240:=Tryz.func196.trans (congrArg some (by kernel_rfl))
 f241:=Tryz.func197.trans (congrArg some (by kernel_rfl))
 f263:=Tryz.func193.trans (congrArg some (by kernel_rfl))
 f264:=Tryz.func194.trans (congrArg some (by kernel_rfl))
 f276:=Tryz.func225.trans (congrArg some (by kernel_rfl))
 f277:=Tryz.func226.trans (congrArg some (by kernel_rfl))
 t0:=Tryz.underlying0
 a0:=Tryz.isAgg0
 z0:=Tryz.sizeOf0
 v0:=Tryz.zeroValue0
 t3:=Tryz.underlying3
 a3:=Tryz.isAgg3
 z3:=Tryz.sizeOf3
 v3:=Tryz.zeroValue3
 t4:=Tryz.underlying4
 a4:=Tryz.isAgg4
 z4:=Tryz.sizeOf4
 v4:=Tryz.zeroValue4
 t5:=Tryz.underlying5
 a5:=Tryz.isAgg5
 z5:=Tryz.sizeOf5
 v5:=Tryz.zeroValue5
 t9:=Tryz.underlying9
 a9:=Tryz.isAgg9
 z9:=Tryz.sizeOf9
 v9:=Tryz.zeroValue9
 t20:=Tryz.underlying20
 a20:=Tryz.isAgg20
 z20:=Tryz.sizeOf20
 v20:=Tryz.zeroValue20
 t37:=Tryz.underlying48
 a37:=Tryz.isAgg48
 z37:=Tryz.sizeOf48
 v37:=Tryz.zeroValue48
 t46:=Tryz.underlying178
 a46:=Tryz.isAgg178
 z46:=Tryz.sizeOf178
 v46:=Tryz.zeroValue178
 t51:=Tryz.underlying225
 a51:=Tryz.isAgg225
 z51:=Tryz.sizeOf225
 v51:=Tryz.zeroValue225
 t53:=Tryz.underlying28
 a53:=Tryz.isAgg28
 z53:=Tryz.sizeOf28
 v53:=Tryz.zeroValue28
 t70:=Tryz.underlying212
 a70:=Tryz.isAgg212
 z70:=Tryz.sizeOf212
 v70:=Tryz.zeroValue212
 t72:=Tryz.underlying214
 a72:=Tryz.isAgg214
 z72:=Tryz.sizeOf214
 v72:=Tryz.zeroValue214
 t75:=Tryz.underlying216
 a75:=Tryz.isAgg216
 z75:=Tryz.sizeOf216
 v75:=Tryz.zeroValue216
 t76:=Tryz.underlying217
 a76:=Tryz.isAgg217
 z76:=Tryz.sizeOf217
 v76:=Tryz.zeroValue217
 t109:=Tryz.underlying209
 a109:=Tryz.isAgg209
 z109:=Tryz.sizeOf209
 v109:=Tryz.zeroValue209
 t127:=Tryz.underlying272
 a127:=Tryz.isAgg272
 z127:=Tryz.sizeOf272
 v127:=Tryz.zeroValue272
 t146:=Tryz.underlying268
 a146:=Tryz.isAgg268
 z146:=Tryz.sizeOf268
 v146:=Tryz.zeroValue268
 t148:=Tryz.underlying270
 a148:=Tryz.isAgg270
 z148:=Tryz.sizeOf270
 v148:=Tryz.zeroValue270
 t164:=Tryz.underlying296
 a164:=Tryz.isAgg296
 z164:=Tryz.sizeOf296
 v164:=Tryz.zeroValue296 }
theorem Tryz.Builder_Extra_105:Builder.Extra Tryz.prog Tryz.lays105_ren:= {
 sizeBuilder:=by kernel_rfl
 liesBuilder:=by kernel_rfl
 t5:=Tryz.underlying5
 a5:=Tryz.isAgg5
 z5:=Tryz.sizeOf5
 v5:=Tryz.zeroValue5
 infoByte:=by kernel_rfl
 cellsByte:=by kernel_rfl
 sizeByte:=by kernel_rfl
 neB5:=by decide }
open Go.RowKit Go.Lib in
theorem Tryz.strings_Repeat (s:ByteArray) (c:Nat) (w:World) (hc:c≤9223372036854775807) (hlen:s.size*c≤140737488355328):
  Calls Tryz.prog 72 #[.string s, .int .i64 c] w fun e w'=>e= .returned (.string ⟨(Lib.repeatL s.data.toList c).toArray⟩)∧Below w.heap.size w w':=Any.strings_Repeat Tryz.lays105 Tryz.Builder_Extra_105 s c w hc hlen
def Tryz.laysSlE31_f135_ren:Go.Shelf.Ren:=⟨fun|31=>135|29=>190|n=>n,fun|22=>67|23=>3|4=>4|3=>3|0=>0|n=>n,fun|n=>n⟩
theorem Tryz.laysSlE31_f135:Go.Proofs.SlLaysE.n31 Tryz.prog Tryz.laysSlE31_f135_ren:= {
 mixed:=by kernel_rfl
 f29:=⟨Tryz.f190.name,by decide,Tryz.func190.trans (congrArg some (by kernel_rfl))⟩
 f31:=⟨Tryz.f135.name,by decide,Tryz.func135.trans (congrArg some (by kernel_rfl))⟩
 t0:=Tryz.underlying0
 a0:=Tryz.isAgg0
 z0:=Tryz.sizeOf0
 v0:=Tryz.zeroValue0
 t3:=Tryz.underlying3
 a3:=Tryz.isAgg3
 z3:=Tryz.sizeOf3
 v3:=Tryz.zeroValue3
 t4:=Tryz.underlying4
 a4:=Tryz.isAgg4
 z4:=Tryz.sizeOf4
 v4:=Tryz.zeroValue4
 t22:=Tryz.underlying67
 a22:=Tryz.isAgg67
 z22:=Tryz.sizeOf67
 v22:=Tryz.zeroValue67
 a23:=Tryz.isAgg3
 z23:=Tryz.sizeOf3 }
open Go.Lib in
theorem Tryz.slices_Contains {α:Type} [Inhabited α] (enc:α→Value) (eq:α→α→Bool) (heq:EqlAt Tryz.prog 3 enc eq) (b off n c:Nat) (zs:List α) (x:α) (w:World) (hz:n≤zs.length) (hbig:n≤9223372036854775807) (hc: ∀j,j<zs.length→w.cell? ⟨b,off+j,none⟩=some (enc zs[j]!)):
  Calls Tryz.prog 135 #[.slice (some ⟨b,off,none⟩) n c,enc x] w fun e w'=>e= .returned (.bool ((zs.take n).any fun y=>eq x y))∧w'=w:=AnyE.slices_Contains Tryz.laysSlE31_f135 enc eq heq b off n c zs x w hz hbig hc
open Go.Lib in
theorem Tryz.slices_Contains_empty {α:Type} [Inhabited α] (a:Option Addr) (c:Nat) (xv:Value) (w:World):
  Calls Tryz.prog 135 #[.slice a 0 c,xv] w fun e w'=>e= .returned (.bool false)∧w'=w:=AnyE.slices_Contains_empty Tryz.laysSlE31_f135 a c xv w
end Go.Proofs
namespace Go.Proofs.YtjgkegkinnlcoaaGreatDoor
open Go.RowKit
theorem repeat_nul_list (c:Nat):Lib.repeatL [0] c=List.replicate c (0:UInt8):=by
 induction c with
 |zero=>rfl
 |succ c ih=>rw[Lib.repeatL,ih];rfl
theorem repeat_nul (c:Int) (w:World) (h0:0≤c) (h1:c≤1000000):
  Calls Tryz.prog 72 #[.string ⟨#[0]⟩, .int .i64 c] w fun e w'=>e= .returned (.string (S (nul c.toNat)))∧Below w.heap.size w w':=by
 obtain⟨c,rfl⟩:=Int.eq_ofNat_of_zero_le h0
 refine(Tryz.strings_Repeat ⟨#[0]⟩ c w (by omega) (by show 1*c≤_;omega)).mono ?_
 rintro e w' ⟨rfl,hb⟩
 refine⟨?_,hb⟩
 have:(ByteArray.mk #[0]).data.toList=[0]:=rfl
 rw[this,repeat_nul_list];rfl
end Go.Proofs.YtjgkegkinnlcoaaGreatDoor
namespace Go.Proofs.YtjgkegkinnlcoaaGreatDoor
open Go.RowKit
def crcBit (r:Nat):Nat:=if r % 2=1 then(r / 2) ^^^ 3988292384 else r / 2
def crcN:Nat→Nat→Nat
 |0,r=>r
 |k+1,r=>crcBit (crcN k r)
def crcByte (r:Nat) (b:UInt8):Nat:=crcN 8 (r ^^^ b.toNat)
def crcL (l:List UInt8):Nat:=l.foldl crcByte 4294967295
def crcTo (s:ByteArray) (i:Nat):Nat:=crcL (s.data.toList.take i)
def crcV (s:ByteArray):Int:=4294967295 - (crcL s.data.toList:Nat)
theorem crcBit_lt (r:Nat) (h:r<4294967296):crcBit r<4294967296:=by
 unfold crcBit
 split
 ·exact Nat.xor_lt_two_pow (n:=32) (by omega) (by omega)
 ·omega
theorem crcN_lt (k r:Nat) (h:r<4294967296):crcN k r<4294967296:=by
 induction k with
 |zero=>exact h
 |succ k ih=>exact crcBit_lt _ ih
theorem xor_byte_lt (r:Nat) (b:UInt8) (h:r<4294967296):r ^^^ b.toNat<4294967296:=
 Nat.xor_lt_two_pow (n:=32) h (by have:=b.toNat_lt;omega)
theorem crcByte_lt (r:Nat) (b:UInt8) (h:r<4294967296):crcByte r b<4294967296:=crcN_lt _ _ (xor_byte_lt r b h)
theorem foldl_crc_lt: ∀(l:List UInt8) (r:Nat),r<4294967296→l.foldl crcByte r<4294967296
 | [],r,h=>h
 |b::l,r,h=>foldl_crc_lt l _ (crcByte_lt r b h)
theorem crcL_lt (l:List UInt8):crcL l<4294967296:=foldl_crc_lt l _ (by decide)
theorem crcTo_lt (s:ByteArray) (i:Nat):crcTo s i<4294967296:=crcL_lt _
theorem crcTo_all (s:ByteArray):crcTo s s.size=crcL s.data.toList:=by
 unfold crcTo;rw[List.take_of_length_le (by rw[data_length];omega)]
theorem crcTo_step (s:ByteArray) (i:Nat) (h:i<s.size):crcN 8 (crcTo s i ^^^ s[i].toNat)=crcTo s (i+1):=by
 unfold crcTo crcL
 rw[List.take_succ_eq_append_getElem (by simpa using h),List.foldl_append]
 rfl
theorem crcV_bd (s:ByteArray):0≤crcV s∧crcV s≤4294967295:=by
 have:=crcL_lt s.data.toList
 unfold crcV;omega
theorem xor_u32 (r:Nat) (b:UInt8) (h:r<4294967296):bits .xor .u32 (r:Int) ((b.toNat:Int) % 4294967296)=((r ^^^ b.toNat:Nat):Int):=by
 have hb:=b.toNat_lt
 rw[Int.emod_eq_of_lt (by omega) (by omega),u32_xor_nat _ _ h (by omega)]
theorem and_one_u32 (r:Nat) (h:r<4294967296):bits .and .u32 (r:Int) 1=((r % 2:Nat):Int):=by
 have:=u32_and_nat r 1 h (by decide)
 rw[show((1:Nat):Int)=1 from rfl] at this
 rw[this,nat_mask1]
theorem and_full (x:Nat) (h:x<4294967296):x&&& 4294967295=x:=by
 have:=Nat.and_two_pow_sub_one_eq_mod x 32
 rw[show 2 ^ 32 - 1=4294967295 from rfl] at this
 rw[this];omega
theorem crcBit_step (r:Nat) (h:r<4294967296):
  bits .xor .u32 ((r:Int) / 2) (bits .and .u32 3988292384 (-(bits .and .u32 (r:Int) 1) % 4294967296))=(crcBit r:Nat):=by
 rw[and_one_u32 r h]
 unfold crcBit
 have h2:(r:Int) / 2=((r / 2:Nat):Int):=by omega
 rw[h2]
 by_cases h1:r % 2=1
 ·rw[h1,if_pos rfl,show -((1:Nat):Int) % 4294967296=((4294967295:Nat):Int) from by decide]
  have:=u32_and_nat 3988292384 4294967295 (by decide) (by decide)
  rw[show((3988292384:Nat):Int)=3988292384 from rfl] at this
  rw[this,and_full _ (by decide),u32_xor_nat _ _ (by omega) (by decide)]
 ·rw[show r % 2=0 by omega,if_neg (by decide),show -((0:Nat):Int) % 4294967296=((0:Nat):Int) from by decide]
  have:=u32_and_nat 3988292384 0 (by decide) (by decide)
  rw[show((3988292384:Nat):Int)=3988292384 from rfl] at this
  rw[this,Nat.and_zero,u32_xor_nat _ _ (by omega) (by decide),Nat.xor_zero]
theorem not_u32 (x:Nat) (h:x<4294967296):4294967295 ^^^ x=4294967295 - x:=by
 apply Nat.eq_of_testBit_eq;intro i
 have h1:=Nat.testBit_two_pow_sub_succ (n:=32) (show x<2 ^ 32 by omega) i
 rw[show 2 ^ 32 - (x+1)=4294967295 - x by omega] at h1
 have h2:=Nat.testBit_two_pow_sub_one 32 i
 rw[show 2 ^ 32 - 1=4294967295 from rfl] at h2
 rw[h1,Nat.testBit_xor,h2]
 by_cases hi:i<32
 ·simp[hi]
 ·have:x.testBit i=false:=Nat.testBit_lt_two_pow (Nat.lt_of_lt_of_le (show x<2 ^ 32 by omega) (Nat.pow_le_pow_right (by decide) (by omega)))
  simp[hi,this]
theorem crc_end (s:ByteArray):bits .xor .u32 IntKind.u32.max (crcL s.data.toList:Nat)=crcV s:=by
 have h:=crcL_lt s.data.toList
 have:=u32_xor_nat 4294967295 _ (by decide) h
 rw[show((4294967295:Nat):Int)=IntKind.u32.max from rfl] at this
 rw[this,not_u32 _ h]
 unfold crcV;omega
end Go.Proofs.YtjgkegkinnlcoaaGreatDoor
namespace Go.Proofs.YtjgkegkinnlcoaaGreatDoor
open Go.RowKit
def crcPart (s:ByteArray) (j:Nat):Nat:=if j=0 then 4294967295 else crcL s.data.toList
set_option maxHeartbeats 1000000 in
theorem crcSum_any (s:ByteArray) (b:Nat) (w:World) (hc:w.cell? ⟨b,0,none⟩=some (.string s)) (hs:s.size≤9223372036854775807):
  Calls Tryz.prog 152 #[.slice (some ⟨b,0,none⟩) 1 1] w fun e w'=>e= .returned (.int .u32 (crcV s))∧w=w':=by
 go_enter Tryz.func152,Tryz.ntmps152
 go_wp2
 go_loop [3,10] (fun r c=> ∃j:Nat,j≤1∧c= .int .i64 j∧r= .int .u32 (crcPart s j:Nat)) (fun _ c=>1 - (intOf c).toNat)
 case atStart=>exact⟨0,Nat.zero_le _,rfl,rfl⟩
 case round=>
  obtain⟨j,hj,rfl,rfl⟩:=hrel
  by_cases h0:j=0
  ·subst h0
   go_wp2
   go_loop [3,16] (fun r c=> ∃i:Nat,i≤s.size∧c= .int .i64 i∧r= .int .u32 (crcTo s i:Nat)) (fun _ c=>s.size - (intOf c).toNat)
   case atStart=>exact⟨0,Nat.zero_le _,rfl,rfl⟩
   case round=>
    obtain⟨i,hi,rfl,rfl⟩:=hrel
    have ht:=crcTo_lt s i
    by_cases hlt:i<s.size
    ·have x1:=xor_u32 (crcTo s i) s[i] ht
     have X1:=Lib.hid x1
     have X2:=Lib.hid (crcTo_step s i hlt)
     have ht':=xor_byte_lt (crcTo s i) s[i] ht
     clear x1 ht
     go_wp2
     go_loop [3,25] (fun r c=> ∃k:Nat,k≤8∧c= .int .i64 k∧r= .int .u32 (crcN k (crcTo s i ^^^ s[i].toNat):Nat)) (fun _ c=>8 - (intOf c).toNat)
     case atStart=>exact⟨0,Nat.zero_le _,rfl,by rw[X1.out];rfl⟩
     case round=>
      obtain⟨k,hk,rfl,rfl⟩:=hrel
      have hkt:=crcN_lt k _ ht'
      have K1:=Lib.hid (crcBit_step _ hkt)
      by_cases hkl:k<8
      ·clear hkt ht'
       go_wp2
       go_round
       case rel=>exact⟨k+1,by omega,by go_num,by rw[K1.out];rfl⟩
       case measure=>simp[intOf];omega
      ·obtain rfl:k=8:=by omega
       clear hkt ht'
       go_wp2
       go_round
       case rel=>exact⟨i+1,by omega,by go_num,by rw[X2.out]⟩
       case measure=>simp[intOf];omega
    ·obtain rfl:i=s.size:=by omega
     go_wp2
     go_round
     case rel=>exact⟨1,by omega,by go_num,by rw[crcTo_all];rfl⟩
     case measure=>simp[intOf]
  ·obtain rfl:j=1:=by omega
   have E:=Lib.hid (crc_end s)
   go_wp2
   go_ret
   exact⟨by rw[←E.out];rfl,rfl⟩
end Go.Proofs.YtjgkegkinnlcoaaGreatDoor
namespace Go.Proofs.YtjgkegkinnlcoaaGreatDoor
open Go.RowKit
def pgBody (kind no:Int) (room:ByteArray):ByteArray:=S (leB kind 1++leB no 4++nul 7++room.data.toList++nul (496 - room.size))
def pgStr (kind no:Int) (room:ByteArray):ByteArray:=S (leB (crcV (pgBody kind no room)) 4++(pgBody kind no room).data.toList)
def pgArg (kind no:Int):Bool:=decide (1≤kind∧kind≤255∧0≤no∧no≤2147483647)
theorem pgBody_size (kind no:Int) (room:ByteArray) (h:room.size≤496):(pgBody kind no room).size=508:=by
 unfold pgBody;rw[S_size];simp only[List.length_append,leB_length,nul_length,data_length];omega
theorem pgStr_size (kind no:Int) (room:ByteArray) (h:room.size≤496):(pgStr kind no room).size=512:=by
 have:=pgBody_size kind no room h
 unfold pgStr;rw[S_size];simp only[List.length_append,leB_length,data_length];omega
theorem u64_int (x:Int) (h:0≤x) (hu:x≤9223372036854775807):IntKind.u64.wrap x=x:=by
 rw[IntKind.wrap_u64];omega
theorem pgArg_no (kind no:Int) (h:pgArg kind no=false):kind<1∨(1≤kind∧255<kind)∨(1≤kind∧kind≤255∧no<0)∨(1≤kind∧kind≤255∧0≤no∧2147483647<no):=by
 simp[pgArg] at h;omega
theorem pgArg_yes (kind no:Int) (h:pgArg kind no=true):1≤kind∧kind≤255∧0≤no∧no≤2147483647:=by
 simpa[pgArg] using h
set_option maxHeartbeats 1000000 in
theorem pack_arg (kind no:Int) (room:ByteArray) (w:World) (h:pgArg kind no=false):
  Calls Tryz.prog 78 #[.int .i64 kind, .int .i64 no, .string room] w fun e w'=>e= .returned (.tuple #[.string ⟨#[]⟩, .int .i64 1])∧w=w':=by
 rcases pgArg_no kind no h with h|⟨h1,h⟩|⟨h1,h2,h⟩|⟨h1,h2,h3,h⟩
 all_goals
  go_enter Tryz.func78,Tryz.ntmps78
  go_wp2_with fail
  go_ret2
  exact⟨rfl,rfl⟩
set_option maxHeartbeats 1000000 in
theorem pack_large (kind no:Int) (room:ByteArray) (w:World) (h:pgArg kind no=true) (hr:496<room.size):
  Calls Tryz.prog 78 #[.int .i64 kind, .int .i64 no, .string room] w fun e w'=>e= .returned (.tuple #[.string ⟨#[]⟩, .int .i64 3])∧w=w':=by
 obtain⟨h1,h2,h3,h4⟩:=pgArg_yes kind no h
 clear h
 go_enter Tryz.func78,Tryz.ntmps78
 go_wp2_with fail
 go_ret2
 exact⟨rfl,rfl⟩
set_option maxHeartbeats 1000000 in
theorem pack_any (kind no:Int) (room:ByteArray) (w:World) (h:pgArg kind no=true) (hr:room.size≤496):
  Calls Tryz.prog 78 #[.int .i64 kind, .int .i64 no, .string room] w fun e w'=>e= .returned (.tuple #[.string (pgStr kind no room), .int .i64 0])∧Below w.heap.size w w':=by
 obtain⟨h1,h2,h3,h4⟩:=pgArg_yes kind no h
 clear h
 have u1:=u64_int kind (by omega) (by omega)
 have u2:=u64_int no (by omega) (by omega)
 have z1:(S (leB kind 1)).size≤1:=by rw[S_size,leB_length];omega
 have z2:(S (leB no 4)).size≤4:=by rw[S_size,leB_length];omega
 have z3:(S (nul (496 - room.size))).size≤496:=by rw[S_size,nul_length];omega
 have z4:(S (nul 7)).size≤7:=by rw[S_size,nul_length];omega
 have zb:=pgBody_size kind no room hr
 have zb':(pgBody kind no room).size≤508:=by omega
 have T:S (leB kind 1)++S (leB no 4)++S (nul 7)++room++S (nul (496 - room.size))=pgBody kind no room:=by
  unfold pgBody;rw[S_append,S_append,S_append_s,S_append]
 have T2:S (leB (crcV (pgBody kind no room)) 4)++pgBody kind no room=pgStr kind no room:=by
  unfold pgStr;rw[S_append_s]
 have u3:=u64_int (crcV (pgBody kind no room)) (crcV_bd _).1 (by have:=(crcV_bd (pgBody kind no room)).2;omega)
 have cb:=crcV_bd (pgBody kind no room)
 have z5:(S (leB (crcV (pgBody kind no room)) 4)).size≤4:=by rw[S_size,leB_length];omega
 clear zb
 go_enter Tryz.func78,Tryz.ntmps78
 go_wp2_with fail
 refine(put_any kind 1 _ (by omega) (by omega)).mono ?_
 rintro e w1 ⟨rfl,hb1⟩
 go_wp2_with fail
 refine(put_any no 4 _ (by omega) (by omega)).mono ?_
 rintro e w2 ⟨rfl,hb2⟩
 go_wp2_with fail
 refine(repeat_nul _ _ (by omega) (by omega)).mono ?_
 rintro e w3 ⟨rfl,hb3⟩
 go_wp2_with fail
 refine(repeat_nul _ _ (by omega) (by omega)).mono ?_
 rintro e w4 ⟨rfl,hb4⟩
 go_wp2_with fail
 refine(crcSum_any (pgBody kind no room) _ _ (cell_new _ _ _) (by omega)).mono ?_
 rintro e w5 ⟨rfl,rfl⟩
 go_wp2_with fail
 refine(put_any _ 4 _ (by omega) cb.1).mono ?_
 rintro e w6 ⟨rfl,hb6⟩
 go_wp2_with fail
 go_ret2
 refine⟨rfl, ?_⟩
 have hb:=below_next (below_next (below_next hb1 hb1.size hb2) (Nat.le_trans hb1.size hb2.size) hb3) (Nat.le_trans hb1.size (Nat.le_trans hb2.size hb3.size)) hb4
 have hb':=hb.alloc hb.size (.cells #[.string (pgBody kind no room)] 9)
 exact below_next hb' hb'.size hb6
end Go.Proofs.YtjgkegkinnlcoaaGreatDoor
namespace Go.Proofs.YtjgkegkinnlcoaaGreatDoor
open Go.RowKit
def pgE (s:ByteArray):Int:=
 if s.size≠512 then 2 else if leN (cut s 0 4)≠crcV (s.extract 4 512) then 12 else
 if leN (cut s 4 1)=0∨2147483647<leN (cut s 5 4)∨cut s 9 7≠nul 7 then 2 else 0
def pgK (s:ByteArray):Int:=if pgE s=0 then leN (cut s 4 1) else 0
def pgN (s:ByteArray):Int:=if pgE s=0 then leN (cut s 5 4) else 0
theorem pgE_size {s:ByteArray} (h:s.size≠512):pgE s=2:=by unfold pgE;rw[if_pos h]
theorem pgE_sum {s:ByteArray} (h:s.size=512) (h1:leN (cut s 0 4)≠crcV (s.extract 4 512)):pgE s=12:=by unfold pgE;rw[if_neg (by omega),if_pos h1]
theorem pgE_bad {s:ByteArray} (h:s.size=512) (h1:leN (cut s 0 4)=crcV (s.extract 4 512)) (h2:leN (cut s 4 1)=0∨2147483647<leN (cut s 5 4)∨cut s 9 7≠nul 7):pgE s=2:=by
 unfold pgE;rw[if_neg (by omega),if_neg (by omega),if_pos h2]
theorem pgE_ok {s:ByteArray} (h:s.size=512) (h1:leN (cut s 0 4)=crcV (s.extract 4 512)) (h2:leN (cut s 4 1)≠0) (h3:leN (cut s 5 4)≤2147483647) (h4:cut s 9 7=nul 7):pgE s=0:=by
 unfold pgE;rw[if_neg (by omega),if_neg (by omega),if_neg];rintro (h|h|h)
 ·exact h2 h
 ·omega
 ·exact h h4
theorem pgE_inv {s:ByteArray} (h:pgE s=0):s.size=512∧leN (cut s 0 4)=crcV (s.extract 4 512)∧leN (cut s 4 1)≠0∧leN (cut s 5 4)≤2147483647∧cut s 9 7=nul 7:=by
 unfold pgE at h
 split at h
 ·cases h
 ·split at h
  ·cases h
  ·split at h
   ·cases h
   ·rename_i h1 h2 h3
    simp only[not_or] at h3
    exact⟨by omega,by omega,h3.1,by omega,by simpa using h3.2.2⟩
theorem trim_zero {l:List UInt8} (h:l=nul l.length):Lib.trimB l 0=[]:=by
 have hd: ∀n,(nul n).dropWhile (· ==(0:UInt8))=[]:=fun n=>by
  induction n with
  |zero=>rfl
  |succ n ih=>rw[nul,List.replicate_succ];simp only[List.dropWhile_cons];exact ih
 have hr:(nul l.length).reverse=nul l.length:=by unfold nul;rw[List.reverse_replicate]
 unfold Lib.trimB Lib.trimRightB Lib.trimLeftB
 rw[h,hr,hd];rfl
theorem dropWhile_zero {l:List UInt8} (h:l.dropWhile (· ==(0:UInt8))=[]):l=nul l.length:=by
 induction l with
 |nil=>rfl
 |cons x l ih=>
  rw[List.dropWhile_cons] at h
  split at h
  ·rename_i hx
   have hx:x=0:=by simpa using hx
   rw[hx,List.length_cons,nul,List.replicate_succ]
   exact congrArg _ (ih h)
  ·cases h
theorem nul_reverse {l:List UInt8} (h:l.reverse=nul l.reverse.length):l=nul l.length:=by
 have:=congrArg List.reverse h
 rw[List.reverse_reverse,List.length_reverse] at this
 rw[this];unfold nul;rw[List.reverse_replicate,List.length_replicate]
theorem trim_ne {l:List UInt8} (h:l≠nul l.length):Lib.trimB l 0≠ []:=by
 intro e
 apply h
 unfold Lib.trimB Lib.trimRightB Lib.trimLeftB at e
 have h1:=dropWhile_zero e
 have h2:l.reverse.dropWhile (· ==(0:UInt8))=[]:=by
  have h3:=nul_reverse (l:=l.reverse.dropWhile (· ==(0:UInt8))) h1
  have h4: ∀m:List UInt8,m.dropWhile (· ==(0:UInt8))=nul (m.dropWhile (· ==(0:UInt8))).length→m.dropWhile (· ==(0:UInt8))=[]:=fun m hm=>by
   cases hd:m.dropWhile (· ==(0:UInt8)) with
   |nil=>rfl
   |cons x r=>
    exfalso
    rw[hd,List.length_cons,nul,List.replicate_succ] at hm
    have hx:x=0:=by injection hm
    have:=List.head_dropWhile_not (p:=(· ==(0:UInt8))) (l:=m) (by rw[hd];exact List.cons_ne_nil _ _)
    simp[hd,hx] at this
  exact h4 _ h3
 exact nul_reverse (dropWhile_zero h2)
theorem trim_yes (t:ByteArray) (w:World) (h:t.data.toList=nul t.data.toList.length) (hs:t.size≤9223372036854775807):
  Calls Tryz.prog 180 #[.string t, .string ⟨#[0]⟩] w fun e w'=>e= .returned (.string ⟨#[]⟩)∧Below w.heap.size w w':=by
 refine(Tryz.strings_Trim_one t 0 (by decide) w hs).mono ?_
 rintro e w' ⟨rfl,hw⟩
 rw[trim_zero h]
 refine⟨rfl, ?_⟩
 rcases hw with rfl|rfl
 ·exact Below.refl _ _
 ·exact(Below.refl _ _).drew
theorem trim_no (t:ByteArray) (w:World) (h:t.data.toList≠nul t.data.toList.length) (hs:t.size≤9223372036854775807):
  Calls Tryz.prog 180 #[.string t, .string ⟨#[0]⟩] w fun e w'=> ∃r:ByteArray,e= .returned (.string r)∧(r.toList.isEmpty)=false∧Below w.heap.size w w':=by
 refine(Tryz.strings_Trim_one t 0 (by decide) w hs).mono ?_
 rintro e w' ⟨rfl,hw⟩
 refine⟨_,rfl, ?_, ?_⟩
 ·have:=trim_ne h
  rw[ByteArray.toList_eq]
  cases hx:Lib.trimB t.data.toList 0 with
  |nil=>exact absurd hx this
  |cons a l=>rfl
 ·rcases hw with rfl|rfl
  ·exact Below.refl _ _
  ·exact(Below.refl _ _).drew
theorem u64_ne {a b:Int} (h:a≠b):(a != b)=true:=by simpa using h
theorem cut_bd4 (s:ByteArray) (a:Nat):0≤leN (cut s a 4)∧leN (cut s a 4)<4294967296:=by
 have h:=leN_bd (cut s a 4)
 have hl:(cut s a 4).length≤4:=by unfold cut;simp;omega
 have:(256:Int) ^ (cut s a 4).length≤4294967296:=by
  generalize (cut s a 4).length=j at hl
  rcases j with _|_|_|_|_|j<;>first|decide|omega
 omega
theorem cut_bd1 (s:ByteArray) (a:Nat):0≤leN (cut s a 1)∧leN (cut s a 1)<256:=by
 have h:=leN_bd (cut s a 1)
 have hl:(cut s a 1).length≤1:=by unfold cut;simp;omega
 have:(256:Int) ^ (cut s a 1).length≤256:=by
  generalize (cut s a 1).length=j at hl
  rcases j with _|_|j<;>first|decide|omega
 omega
theorem extract_mid (s:ByteArray) (h:s.size=512):(s.extract 9 16).data.toList=cut s 9 7∧(s.extract 9 16).data.toList.length=7:=by
 rw[extract_cut,data_S];exact⟨rfl,cut_length s 9 7 (by omega)⟩
set_option maxRecDepth 100000 in
set_option maxHeartbeats 1000000 in
theorem read_size (s:ByteArray) (w:World) (h:((s.size:Int) != 512)=true):
  Calls Tryz.prog 159 #[.string s] w fun e w'=>e= .returned (.tuple #[.int .i64 0, .int .i64 0, .int .i64 2])∧Below w.heap.size w w':=by
 go_enter Tryz.func159,Tryz.ntmps159
 go_wp2_with fail
 go_ret3
 exact⟨rfl,Below.refl _ _⟩
set_option maxRecDepth 100000 in
set_option maxHeartbeats 1000000 in
theorem read_sum (s:ByteArray) (w:World) (h:s.size=512) (h1:leN (cut s 0 4)≠crcV (s.extract 4 512)):
  Calls Tryz.prog 159 #[.string s] w fun e w'=>e= .returned (.tuple #[.int .i64 0, .int .i64 0, .int .i64 12])∧Below w.heap.size w w':=by
 have d1:((s.size:Int) != 512)=false:=by rw[h];rfl
 have d2:=u64_ne h1
 have hb:=crcV_bd (s.extract 4 512)
 have hle:512≤s.size:=by omega
 have hle':s.size≤512:=by omega
 have hz:(s.extract 4 512).size≤9223372036854775807:=by rw[ByteArray.size_extract];omega
 have u1:=u64_int (crcV (s.extract 4 512)) hb.1 (by omega)
 clear h1
 have H:=Lib.hid h
 clear h
 go_enter Tryz.func159,Tryz.ntmps159
 go_wp2_with fail
 refine(get_any s 0 4 _ (by omega) (by omega) (by omega)).mono ?_
 rintro e w1 ⟨rfl,rfl⟩
 go_wp2_with fail
 rw[H.out]
 refine(crcSum_any (s.extract 4 512) _ _ (cell_new _ _ _) hz).mono ?_
 rintro e w5 ⟨rfl,rfl⟩
 go_wp2_with fail
 go_ret3
 exact⟨rfl,(Below.refl _ _).alloc (Nat.le_refl _) _⟩
set_option maxRecDepth 100000 in
set_option maxHeartbeats 1000000 in
theorem read_kind (s:ByteArray) (w:World) (h:s.size=512) (h1:leN (cut s 0 4)=crcV (s.extract 4 512)) (h2:leN (cut s 4 1)=0):
  Calls Tryz.prog 159 #[.string s] w fun e w'=>e= .returned (.tuple #[.int .i64 0, .int .i64 0, .int .i64 2])∧Below w.heap.size w w':=by
 have d1:((s.size:Int) != 512)=false:=by rw[h];rfl
 have d2:(crcV (s.extract 4 512) != crcV (s.extract 4 512))=false:=by simp
 have hb:=crcV_bd (s.extract 4 512)
 have hle:512≤s.size:=by omega
 have hle':s.size≤512:=by omega
 have hz:(s.extract 4 512).size≤9223372036854775807:=by rw[ByteArray.size_extract];omega
 have hz9:(s.extract 9 16).size≤9223372036854775807:=by rw[ByteArray.size_extract];omega
 have u1:=u64_int (crcV (s.extract 4 512)) hb.1 (by omega)
 have b1:=cut_bd1 s 4
 have b4:=cut_bd4 s 5
 obtain⟨hx1,hx2⟩:=extract_mid s h
 have X1:=Lib.hid hx1
 have X2:=Lib.hid hx2
 have H:=Lib.hid h
 have H1:=Lib.hid h1
 clear h h1 hx1 hx2
 have g1:(leN (cut s 4 1)==0)=true:=by rw[h2];rfl
 clear h2
 go_enter Tryz.func159,Tryz.ntmps159
 go_wp2_with fail
 refine(get_any s 0 4 _ (by omega) (by omega) (by omega)).mono ?_
 rintro e w1 ⟨rfl,rfl⟩
 rw[H1.out]
 go_wp2_with fail
 rw[H.out]
 refine(crcSum_any (s.extract 4 512) _ _ (cell_new _ _ _) hz).mono ?_
 rintro e w5 ⟨rfl,rfl⟩
 go_wp2_with fail
 refine(get_any s 4 1 _ (by omega) (by omega) (by omega)).mono ?_
 rintro e w1 ⟨rfl,rfl⟩
 go_wp2_with fail
 refine(get_any s 5 4 _ (by omega) (by omega) (by omega)).mono ?_
 rintro e w1 ⟨rfl,rfl⟩
 go_wp2_with fail
 go_ret3
 exact⟨rfl,(Below.refl _ _).alloc (Nat.le_refl _) _⟩
set_option maxRecDepth 100000 in
set_option maxHeartbeats 1000000 in
theorem read_no (s:ByteArray) (w:World) (h:s.size=512) (h1:leN (cut s 0 4)=crcV (s.extract 4 512)) (h2:leN (cut s 4 1)≠0) (h3:2147483647<leN (cut s 5 4)):
  Calls Tryz.prog 159 #[.string s] w fun e w'=>e= .returned (.tuple #[.int .i64 0, .int .i64 0, .int .i64 2])∧Below w.heap.size w w':=by
 have d1:((s.size:Int) != 512)=false:=by rw[h];rfl
 have d2:(crcV (s.extract 4 512) != crcV (s.extract 4 512))=false:=by simp
 have hb:=crcV_bd (s.extract 4 512)
 have hle:512≤s.size:=by omega
 have hle':s.size≤512:=by omega
 have hz:(s.extract 4 512).size≤9223372036854775807:=by rw[ByteArray.size_extract];omega
 have hz9:(s.extract 9 16).size≤9223372036854775807:=by rw[ByteArray.size_extract];omega
 have u1:=u64_int (crcV (s.extract 4 512)) hb.1 (by omega)
 have b1:=cut_bd1 s 4
 have b4:=cut_bd4 s 5
 obtain⟨hx1,hx2⟩:=extract_mid s h
 have X1:=Lib.hid hx1
 have X2:=Lib.hid hx2
 have H:=Lib.hid h
 have H1:=Lib.hid h1
 clear h h1 hx1 hx2
 have g1:(leN (cut s 4 1)==0)=false:=by simpa using h2
 clear h2
 go_enter Tryz.func159,Tryz.ntmps159
 go_wp2_with fail
 refine(get_any s 0 4 _ (by omega) (by omega) (by omega)).mono ?_
 rintro e w1 ⟨rfl,rfl⟩
 rw[H1.out]
 go_wp2_with fail
 rw[H.out]
 refine(crcSum_any (s.extract 4 512) _ _ (cell_new _ _ _) hz).mono ?_
 rintro e w5 ⟨rfl,rfl⟩
 go_wp2_with fail
 refine(get_any s 4 1 _ (by omega) (by omega) (by omega)).mono ?_
 rintro e w1 ⟨rfl,rfl⟩
 go_wp2_with fail
 refine(get_any s 5 4 _ (by omega) (by omega) (by omega)).mono ?_
 rintro e w1 ⟨rfl,rfl⟩
 go_wp2_with fail
 go_ret3
 exact⟨rfl,(Below.refl _ _).alloc (Nat.le_refl _) _⟩
set_option maxRecDepth 100000 in
set_option maxHeartbeats 1000000 in
theorem read_mid (s:ByteArray) (w:World) (h:s.size=512) (h1:leN (cut s 0 4)=crcV (s.extract 4 512)) (h2:leN (cut s 4 1)≠0) (h3:leN (cut s 5 4)≤2147483647) (h4:cut s 9 7≠nul 7):
  Calls Tryz.prog 159 #[.string s] w fun e w'=>e= .returned (.tuple #[.int .i64 0, .int .i64 0, .int .i64 2])∧Below w.heap.size w w':=by
 have d1:((s.size:Int) != 512)=false:=by rw[h];rfl
 have d2:(crcV (s.extract 4 512) != crcV (s.extract 4 512))=false:=by simp
 have hb:=crcV_bd (s.extract 4 512)
 have hle:512≤s.size:=by omega
 have hle':s.size≤512:=by omega
 have hz:(s.extract 4 512).size≤9223372036854775807:=by rw[ByteArray.size_extract];omega
 have hz9:(s.extract 9 16).size≤9223372036854775807:=by rw[ByteArray.size_extract];omega
 have u1:=u64_int (crcV (s.extract 4 512)) hb.1 (by omega)
 have b1:=cut_bd1 s 4
 have b4:=cut_bd4 s 5
 obtain⟨hx1,hx2⟩:=extract_mid s h
 have X1:=Lib.hid hx1
 have X2:=Lib.hid hx2
 have H:=Lib.hid h
 have H1:=Lib.hid h1
 clear h h1 hx1 hx2
 have g1:(leN (cut s 4 1)==0)=false:=by simpa using h2
 have H4:=Lib.hid h4
 clear h2 h4
 go_enter Tryz.func159,Tryz.ntmps159
 go_wp2_with fail
 refine(get_any s 0 4 _ (by omega) (by omega) (by omega)).mono ?_
 rintro e w1 ⟨rfl,rfl⟩
 rw[H1.out]
 go_wp2_with fail
 rw[H.out]
 refine(crcSum_any (s.extract 4 512) _ _ (cell_new _ _ _) hz).mono ?_
 rintro e w5 ⟨rfl,rfl⟩
 go_wp2_with fail
 refine(get_any s 4 1 _ (by omega) (by omega) (by omega)).mono ?_
 rintro e w1 ⟨rfl,rfl⟩
 go_wp2_with fail
 refine(get_any s 5 4 _ (by omega) (by omega) (by omega)).mono ?_
 rintro e w1 ⟨rfl,rfl⟩
 go_wp2_with fail
 refine(trim_no (s.extract 9 16) _ (by rw[X2.out,X1.out];exact H4.out) hz9).mono ?_
 rintro e w1 ⟨r,rfl,hr,hb1⟩
 have hr':(!r.toList.isEmpty)=true:=by rw[hr];rfl
 go_wp2_with fail
 go_ret3
 exact⟨rfl,below_step hb1 ((Below.refl _ _).alloc (Nat.le_refl _) _)⟩
set_option maxRecDepth 100000 in
set_option maxHeartbeats 1000000 in
theorem read_ok (s:ByteArray) (w:World) (h:s.size=512) (h1:leN (cut s 0 4)=crcV (s.extract 4 512)) (h2:leN (cut s 4 1)≠0) (h3:leN (cut s 5 4)≤2147483647) (h4:cut s 9 7=nul 7):
  Calls Tryz.prog 159 #[.string s] w fun e w'=>e= .returned (.tuple #[.int .i64 (leN (cut s 4 1)), .int .i64 (leN (cut s 5 4)), .int .i64 0])∧Below w.heap.size w w':=by
 have d1:((s.size:Int) != 512)=false:=by rw[h];rfl
 have d2:(crcV (s.extract 4 512) != crcV (s.extract 4 512))=false:=by simp
 have hb:=crcV_bd (s.extract 4 512)
 have hle:512≤s.size:=by omega
 have hle':s.size≤512:=by omega
 have hz:(s.extract 4 512).size≤9223372036854775807:=by rw[ByteArray.size_extract];omega
 have hz9:(s.extract 9 16).size≤9223372036854775807:=by rw[ByteArray.size_extract];omega
 have u1:=u64_int (crcV (s.extract 4 512)) hb.1 (by omega)
 have b1:=cut_bd1 s 4
 have b4:=cut_bd4 s 5
 obtain⟨hx1,hx2⟩:=extract_mid s h
 have X1:=Lib.hid hx1
 have X2:=Lib.hid hx2
 have H:=Lib.hid h
 have H1:=Lib.hid h1
 clear h h1 hx1 hx2
 have g1:(leN (cut s 4 1)==0)=false:=by simpa using h2
 have H4:=Lib.hid h4
 clear h2 h4
 go_enter Tryz.func159,Tryz.ntmps159
 go_wp2_with fail
 refine(get_any s 0 4 _ (by omega) (by omega) (by omega)).mono ?_
 rintro e w1 ⟨rfl,rfl⟩
 rw[H1.out]
 go_wp2_with fail
 rw[H.out]
 refine(crcSum_any (s.extract 4 512) _ _ (cell_new _ _ _) hz).mono ?_
 rintro e w5 ⟨rfl,rfl⟩
 go_wp2_with fail
 refine(get_any s 4 1 _ (by omega) (by omega) (by omega)).mono ?_
 rintro e w1 ⟨rfl,rfl⟩
 go_wp2_with fail
 refine(get_any s 5 4 _ (by omega) (by omega) (by omega)).mono ?_
 rintro e w1 ⟨rfl,rfl⟩
 go_wp2_with fail
 refine(trim_yes (s.extract 9 16) _ (by rw[X2.out,X1.out];exact H4.out) hz9).mono ?_
 rintro e w1 ⟨rfl,hb1⟩
 go_wp2_with fail
 go_ret3
 exact⟨rfl,below_step hb1 ((Below.refl _ _).alloc (Nat.le_refl _) _)⟩
theorem pgread_any (s:ByteArray) (w:World):
  Calls Tryz.prog 159 #[.string s] w fun e w'=>e= .returned (.tuple #[.int .i64 (pgK s), .int .i64 (pgN s), .int .i64 (pgE s)])∧Below w.heap.size w w':=by
 unfold pgK pgN
 by_cases h:s.size=512
 ·by_cases h1:leN (cut s 0 4)=crcV (s.extract 4 512)
  ·by_cases h2:leN (cut s 4 1)=0
   ·rw[pgE_bad h h1 (.inl h2)];exact read_kind s w h h1 h2
   ·by_cases h3:leN (cut s 5 4)≤2147483647
    ·by_cases h4:cut s 9 7=nul 7
     ·rw[pgE_ok h h1 h2 h3 h4];exact read_ok s w h h1 h2 h3 h4
     ·rw[pgE_bad h h1 (.inr (.inr h4))];exact read_mid s w h h1 h2 h3 h4
    ·rw[pgE_bad h h1 (.inr (.inl (by omega)))];exact read_no s w h h1 h2 (by omega)
  ·rw[pgE_sum h h1];exact read_sum s w h h1
 ·rw[pgE_size h];exact read_size s w (by simp;omega)
set_option maxHeartbeats 1000000 in
theorem number_any (s:ByteArray) (w:World):
  Calls Tryz.prog 89 #[.string s] w fun e w'=>e= .returned (.tuple #[.int .i64 (pgN s), .int .i64 (pgE s)])∧Below w.heap.size w w':=by
 go_enter Tryz.func89,Tryz.ntmps89
 go_wp2_with fail
 refine(pgread_any s _).mono ?_
 rintro e w1 ⟨rfl,hb1⟩
 go_wp2_with fail
 go_ret2
 exact⟨rfl,hb1⟩
def unE (s:ByteArray) (no:Int):Int:=if pgE s=0 then(if pgN s=no then 0 else 13) else pgE s
def unK (s:ByteArray) (no:Int):Int:=if unE s no=0 then pgK s else 0
def unR (s:ByteArray) (no:Int):ByteArray:=if unE s no=0 then s.extract 16 512 else⟨#[]⟩
set_option maxRecDepth 100000 in
set_option maxHeartbeats 1000000 in
theorem unpack_any (s:ByteArray) (no:Int) (w:World):
  Calls Tryz.prog 142 #[.string s, .int .i64 no] w fun e w'=>e= .returned (.tuple #[.int .i64 (unK s no), .string (unR s no), .int .i64 (unE s no)])∧Below w.heap.size w w':=by
 unfold unK unR
 by_cases h:pgE s=0
 ·have hz:=(pgE_inv h).1
  by_cases hn:pgN s=no
  ·have e0:unE s no=0:=by unfold unE;rw[if_pos h,if_pos hn]
   rw[e0,if_pos rfl,if_pos rfl]
   have d1:(pgE s != 0)=false:=by rw[h];rfl
   have d2:(pgN s != no)=false:=by rw[hn];simp
   have hle:512≤s.size:=by omega
   have hle':s.size≤512:=by omega
   have HZ:=Lib.hid hz
   clear h hn e0 hz
   go_enter Tryz.func142,Tryz.ntmps142
   go_wp2_with fail
   refine(pgread_any s _).mono ?_
   rintro e w1 ⟨rfl,hb1⟩
   go_wp2_with fail
   go_quiet (fail)
   go_wp2_with fail
   go_ret3
   exact⟨by simp[HZ.out],below_drewN hb1 _⟩
  ·have e0:unE s no=13:=by unfold unE;rw[if_pos h,if_neg hn]
   rw[e0,if_neg (by decide),if_neg (by decide)]
   have d1:(pgE s != 0)=false:=by rw[h];rfl
   have d2:=u64_ne hn
   clear h hn e0 hz
   go_enter Tryz.func142,Tryz.ntmps142
   go_wp2_with fail
   refine(pgread_any s _).mono ?_
   rintro e w1 ⟨rfl,hb1⟩
   go_wp2_with fail
   go_ret3
   exact⟨rfl,hb1⟩
 ·have e0:unE s no=pgE s:=by unfold unE;rw[if_neg h]
  rw[e0,if_neg h,if_neg h]
  have d1:=u64_ne h
  clear h e0
  go_enter Tryz.func142,Tryz.ntmps142
  go_wp2_with fail
  refine(pgread_any s _).mono ?_
  rintro e w1 ⟨rfl,hb1⟩
  go_wp2_with fail
  go_ret3
  exact⟨rfl,hb1⟩
end Go.Proofs.YtjgkegkinnlcoaaGreatDoor
namespace Go.Proofs.YtjgkegkinnlcoaaGreatDoor
open Go.RowKit
set_option maxRecDepth 100000 in
set_option maxHeartbeats 400000 in
theorem markPut_any (n:Int) (s:ByteArray) (w:World) (hn:0≤n) (h:s.size≤48):
  Calls Tryz.prog 82 #[.int .u64 n, .string s] w fun e w'=>e= .returned (.tuple #[.string (mkStr n s), .int .i64 0])∧Below w.heap.size w w':=by
 have z1:(S (leB n 8)).size≤8:=by rw[S_size,leB_length];omega
 have z2:(S (nul (48 - s.size))).size≤48:=by rw[S_size,nul_length];omega
 go_enter Tryz.func82,Tryz.ntmps82
 go_wp2_with fail
 refine(put_any n 8 _ (by omega) hn).mono ?_
 rintro e w1 ⟨rfl,hb1⟩
 go_wp2_with fail
 refine(repeat_nul _ _ (by omega) (by omega)).mono ?_
 rintro e w2 ⟨rfl,hb2⟩
 go_wp2_with fail
 go_ret2
 refine⟨?_,hb1.trans (hb2.mono hb1.size)⟩
 rw[S_append_s,S_append,S_append]
 rfl
set_option maxRecDepth 100000 in
set_option maxHeartbeats 400000 in
theorem markGet_any (s:ByteArray) (w:World) (hs:s.size≤9223372036854775807):
  Calls Tryz.prog 157 #[.string s] w fun e w'=>e= .returned (.tuple #[.int .u64 (mN s), .string (mT s), .bool (mOk s)])∧Drawn w w':=by
 by_cases hz:s.size=64
 ·by_cases he:leN (cut s 0 8)=leN (cut s 56 8)
  ·have fin:mN s=leN (cut s 0 8)∧mT s=s.extract 8 56∧mOk s=true:=by simp[mN,mT,mOk_yes s hz he]
   have H:=Lib.hid fin;clear fin
   have Z:=Lib.hid hz
   have z1:s.size≤64:=by omega
   have z2:64≤s.size:=by omega
   have e1:(leN (cut s 0 8) != leN (cut s 56 8))=false:=by simp[he]
   clear hz he
   go_enter Tryz.func157,Tryz.ntmps157
   go_wp2_with fail
   refine(get_any s 0 8 _ (by omega) (by omega) hs).mono ?_
   rintro e w1 ⟨rfl,rfl⟩
   go_wp2_with fail
   refine(get_any s 56 8 _ (by omega) (by omega) hs).mono ?_
   rintro e w1 ⟨rfl,rfl⟩
   go_wp2_with fail
   go_quiet (fail)
   go_wp2_with fail
   go_ret3
   rw[H.out.1,H.out.2.1,H.out.2.2]
   exact⟨rfl,_,rfl⟩
  ·have fin:mN s=0∧mT s=⟨#[]⟩∧mOk s=false:=by simp[mN,mT,mOk_no s he]
   have H:=Lib.hid fin;clear fin
   have z1:s.size≤64:=by omega
   have z2:64≤s.size:=by omega
   have e1:(leN (cut s 0 8) != leN (cut s 56 8))=true:=by simp[he]
   clear hz he
   go_enter Tryz.func157,Tryz.ntmps157
   go_wp2_with fail
   refine(get_any s 0 8 _ (by omega) (by omega) hs).mono ?_
   rintro e w1 ⟨rfl,rfl⟩
   go_wp2_with fail
   refine(get_any s 56 8 _ (by omega) (by omega) hs).mono ?_
   rintro e w1 ⟨rfl,rfl⟩
   go_wp2_with fail
   go_ret3
   rw[H.out.1,H.out.2.1,H.out.2.2]
   exact⟨rfl,Drawn.refl _⟩
 ·have fin:mN s=0∧mT s=⟨#[]⟩∧mOk s=false:=by simp[mN,mT,mOk_size s hz]
  have H:=Lib.hid fin;clear fin
  have z1:((s.size:Int) != 64)=true:=by simp;omega
  go_enter Tryz.func157,Tryz.ntmps157
  go_wp2_with fail
  go_ret3
  rw[H.out.1,H.out.2.1,H.out.2.2]
  exact⟨rfl,Drawn.refl _⟩
end Go.Proofs.YtjgkegkinnlcoaaGreatDoor
namespace Go.Proofs.YtjgkegkinnlcoaaGreatDoor
open Go.RowKit
open Go.ChangeMaps (setBlock heap_setBlock_same heap_setBlock_other)
def Touch (F:List Nat) (w w':World):Prop:=
 w'.os=w.os∧w'.tape=w.tape∧w'.output=w.output∧w.heap.size≤w'.heap.size∧ ∀b,b<w.heap.size→b∉F→w'.heap[b]? =w.heap[b]?
theorem Touch.refl (F:List Nat) (w:World):Touch F w w:=⟨rfl,rfl,rfl,Nat.le_refl _,fun _ _ _=>rfl⟩
theorem Touch.size {F:List Nat} {w w':World} (h:Touch F w w'):w.heap.size≤w'.heap.size:=h.2.2.2.1
theorem Touch.block {F:List Nat} {w w':World} (h:Touch F w w') {b:Nat} (hb:b<w.heap.size) (hF:b∉F):w'.heap[b]? =w.heap[b]? :=h.2.2.2.2 b hb hF
theorem Touch.trans {F G:List Nat} {w w1 w2:World} (h:Touch F w w1) (k:Touch G w1 w2) (hG: ∀b∈G,b∈F∨w.heap.size≤b):Touch F w w2:=
 ⟨k.1.trans h.1,k.2.1.trans h.2.1,k.2.2.1.trans h.2.2.1,Nat.le_trans h.size k.size,fun b hb hF=>
  (k.block (Nat.lt_of_lt_of_le hb h.size) (fun hm=>(hG b hm).elim hF (fun h'=>absurd hb (by omega)))).trans (h.block hb hF)⟩
theorem Touch.mono {F G:List Nat} {w w':World} (h:Touch F w w') (hG: ∀b∈F,b∈G∨w.heap.size≤b):Touch G w w':=
 ⟨h.1,h.2.1,h.2.2.1,h.size,fun b hb hF=>h.block hb (fun hm=>(hG b hm).elim hF (fun h'=>absurd hb (by omega)))⟩
theorem Touch.drewN {F:List Nat} {w w':World} (h:Touch F w w') (q:Nat):Touch F w (w'.drewN q):=h
theorem Touch.drew {F:List Nat} {w w':World} (h:Touch F w w'):Touch F w w'.drew:=h
theorem Touch.alloc {F:List Nat} {w w':World} (h:Touch F w w') (o:Obj):Touch F w (w'.alloc o):=
 ⟨h.1,h.2.1,h.2.2.1,Nat.le_trans h.size (by simp),fun b hb hF=>(Below.heap_alloc w' o b (Nat.lt_of_lt_of_le hb h.size)).trans (h.block hb hF)⟩
theorem Touch.setCell {F:List Nat} {w w':World} (h:Touch F w w') {p:Addr} (hp:p.block∈F∨w.heap.size≤p.block) (u:Value):Touch F w (w'.setCell p u):=
 ⟨h.1,h.2.1,h.2.2.1,by simpa[World.setCell] using h.size,fun b hb hF=>(Below.heap_setCell w' p u b (by
  rintro rfl
  rcases hp with hp|hp
  ·exact hF hp
  ·omega)).trans (h.block hb hF)⟩
theorem Touch.of_grown {w w':World} {row:Option Nat} (h:w.grownBy w' row):Touch row.toList w w':=
 ⟨h.os,h.tape,h.output,h.size,fun b hb hF=>h.block b hb (fun e=>hF (by rw[←e];simp))⟩
theorem Touch.of_below {F:List Nat} {w w':World} (h:Below w.heap.size w w'):Touch F w w':=⟨h.os,h.tape,h.output,h.size,fun b hb _=>h.block b hb⟩
theorem Touch.below {F:List Nat} {w w':World} {B:Nat} (h:Touch F w w') (hB:B≤w.heap.size) (hF: ∀b∈F,B≤b):Below B w w':=
 ⟨h.1,h.2.1,h.2.2.1,h.size,fun b hb=>h.block (Nat.lt_of_lt_of_le hb hB) (fun hm=>by have:=hF b hm;omega)⟩
theorem Touch.cell {F:List Nat} {w w':World} (h:Touch F w w') {p:Addr} (hp:p.block<w.heap.size) (hF:p.block∉F):w'.cell? p=w.cell? p:=World.cell?_of_block (h.block hp hF)
theorem Touch.frozen {F:List Nat} {w w':World} (h:Touch F w w') {p:Addr} (hp:p.block<w.heap.size) (hF:p.block∉F):w'.frozen? p=w.frozen? p:=World.frozen?_of_block (h.block hp hF)
theorem rowIs_touch {F:List Nat} {w w':World} {b n:Nat} {t:TypeId} {f:Nat→Value} (h:w.rowIs b t n f) (k:Touch F w w') (hF:b∉F):w'.rowIs b t n f:=World.rowIs.of_block h (k.block (World.rowIs.lt h) hF)
theorem ownsRow_touch {F:List Nat} {w w':World} {base n size:Nat} {e:TypeId} {v:Value} {xs:List Value} (h:w.ownsRow base e size v n xs) (k:Touch F w w') (hF: ∀g,v.ownBlock=some g→g∉F):w'.ownsRow base e size v n xs:=by
 refine⟨h.1, ?_⟩
 rcases h.2 with h0|⟨g,cap,cur,hv,hb,hg,hnc,hcm,hcs,htake⟩
 ·exact .inl h0
 ·refine .inr ⟨g,cap,cur,hv,hb, ?_,hnc,hcm,hcs,htake⟩
  have hlt:g<w.heap.size:=(Array.getElem?_eq_some_iff.1 hg).1
  rw[k.block hlt (hF g (by rw[hv];rfl)),hg]
theorem ownsMap_touch {H:Type} {P:Program} {F:List Nat} {w w':World} {k:TypeId} {R:Value→Option (DataW H × List MemPlace)} {b n:Nat} {D:DataW H} (h:w.ownsMap P k R b n D) (t:Touch F w w') (hF:b∉F):w'.ownsMap P k R b n D:=by
 have hlt:=h.lt
 obtain⟨es,clock,hb,r⟩:=h
 exact⟨es,clock,by rw[t.block hlt hF,hb],r⟩
theorem clear_run {H:Type} {P:Program} {w:World} {k e t:TypeId} {R:Value→Option (DataW H × List MemPlace)} {b n:Nat} {D:DataW H} (h:w.ownsMap P k R b n D) (ht:P.underlying t=some (.map k e)):
  ∃w',(∀ty,(Builtin.clear_ #[t] ty #[.map (some b)]).run P w= .ok (.tuple #[]) w')∧w'.ownsMap P k R b 0 (.map [])∧w.grownBy w' (some b):=by
 obtain⟨es,clock,hb,F,hs,rfl⟩:=h
 refine⟨setBlock w b (.map #[] clock),fun ty=> ?_, ?_, ?_⟩
 ·simp[Builtin.clear_,run_underlying ht,MapKept.run_getObj_map hb,MapKept.run_setObj_map _ hb,Result.andThen,setBlock]
 ·exact⟨#[],clock,heap_setBlock_same hb _,⟨by simp,MapKept.stamped_empty clock,by simp⟩,by simp,rfl⟩
 ·exact⟨rfl,rfl,rfl,by simp[setBlock],fun i _ hi=>heap_setBlock_other hb _ (fun e=>hi (by rw[e]))⟩
theorem wpList_append_near {P:Program} (w:World) {ops:Array Oper} {rest:List Oper} {o:Oper} {a:Act} {Q:Exit→Act→World→Prop}
  (hg:o.guard=none) (s x:Operand) (t:TypeId) (hop:o.op=Op.call { callee:=Callee.builtin Builtin.append,args:= #[s,x],argTypes:= #[t,t] })
  (base:Nat) (e:TypeId) (i:TypeInfo) (z:Value) (size bytes:Nat) (h1:P.underlying t=some (.slice e)) (h2:P.info? e=some i) (h3:i.zero=some z) (h4:i.size=size) (h5:i.bytes=bytes) (h6:z.cells.size=size) (h7:0<size)
  (v:Value) (n:Nat) (xs:List Value) (hs:a.eval s=v) (hown:w.ownsRow base e size v n xs)
  (ad:Addr) (m c:Nat) (news:List Value) (hx:a.eval x= .slice (some ad) m c) (hm:0<m) (hn:news.length=m*size) (hc: ∀j u,news[j]? =some u→w.cell? (ad.add j)=some u) (h1c: ∀u∈news,u.oneCell'=true)
  (b1:n+m≤maxLen) (b2:(n+m)*bytes≤140737488355328) (hbase:base≤w.heap.size)
  (hK: ∀g cap w',w'.ownsRow base e size (.slice (some ⟨g,0,none⟩) (n+m) cap) (n+m) (xs++news)→w.grownBy w' v.ownBlock→(v.ownBlock=some g∨w.heap.size≤g)→wpList P ops Q rest (a.put o.dst (.slice (some ⟨g,0,none⟩) (n+m) cap)) w'):
  wpList P ops Q (o::rest) a w:=by
 have wide: ∀ {w':World} {row:Option Nat},w.grownBy w' none→w.grownBy w' row:=fun h=>⟨h.os,h.tape,h.output,h.size,fun b hb _=>h.block b hb (by simp)⟩
 rcases Go.Joins.ownsRow_forms hown with ⟨rfl,rfl⟩|⟨g,cap,rfl⟩
 ·have hx0:xs=[]:=List.eq_nil_of_length_eq_zero (by simpa using hown.1)
  subst hx0
  refine wpList_append_grows w hg s x t hop e i z size bytes h1 h2 h3 h4 h5 h6 h7 none 0 0 [] hs (fun _=>⟨rfl,rfl⟩) (by simp) (fun b h=>by cases h) ad m c news hx hn hc h1c (by omega) b1 b2 ?_
  intro v' w' ho hgr
  obtain⟨g',cap',rfl⟩:=Go.Joins.ownsRow_form ho (by omega)
  exact hK g' cap' w' (Go.Joins.ownsRow_le ho hbase) hgr (.inr (ho.lt g' rfl).1)
 ·by_cases hcap:n+m≤cap
  ·refine wpList_append_fits w hg s x t hop base e i size h1 h2 h4 g n cap xs hs hown ad m c news hx hn hc h1c hcap ?_
   intro w' ho hgr
   exact hK g cap w' ho hgr (.inl rfl)
  ·refine wpList_append_grows w hg s x t hop e i z size bytes h1 h2 h3 h4 h5 h6 h7 (some ⟨g,0,none⟩) n cap xs hs (fun h=>by cases h) hown.1 (fun b hb=>by cases hb;exact hown.cells rfl) ad m c news hx hn hc h1c (by omega) b1 b2 ?_
   intro v' w' ho hgr
   obtain⟨g',cap',rfl⟩:=Go.Joins.ownsRow_form ho (by omega)
   exact hK g' cap' w' (Go.Joins.ownsRow_le ho hbase) (wide hgr) (.inr (ho.lt g' rfl).1)
end Go.Proofs.YtjgkegkinnlcoaaGreatDoor
namespace Go.Proofs.YtjgkegkinnlcoaaGreatDoor
open Go.RowKit Go.Maps Go.Joins
structure DM where
 sure:List ByteArray
 wait:List (Int × ByteArray)
 fuse:Int
 down:Bool
def lastW (l:List (Int × ByteArray)) (k:Int):Option ByteArray:=l.foldl (fun acc x=>if x.1=k then some x.2 else acc) none
theorem lastW_snoc (l:List (Int × ByteArray)) (i:Int) (s:ByteArray) (k:Int):lastW (l++[(i,s)]) k=if i=k then some s else lastW l k:=by
 simp[lastW,List.foldl_append]
def waitCells (l:List (Int × ByteArray)):List Value:=l.flatMap fun x=>[.int .i64 x.1, .string x.2]
theorem waitCells_snoc (l:List (Int × ByteArray)) (i:Int) (s:ByteArray):waitCells l++[.int .i64 i, .string s]=waitCells (l++[(i,s)]):=by
 simp[waitCells]
theorem waitCells_get: ∀(l:List (Int × ByteArray)) (i:Nat) (x:Int × ByteArray),l[i]? =some x→(waitCells l)[i*2]? =some (.int .i64 x.1)∧(waitCells l)[i*2+1]? =some (.string x.2)
 | [],i,x,h=>by simp at h
 |y::l,0,x,h=>by
  simp at h;subst h
  simp[waitCells]
 |y::l,i+1,x,h=>by
  have ih:=waitCells_get l i x (by simpa using h)
  have e:waitCells (y::l)= .int .i64 y.1:: .string y.2::waitCells l:=rfl
  rw[e,show(i+1)*2=i*2+1+1 by omega]
  exact ih
def MapIs (D:DataW Unit) (f:Int→Option ByteArray):Prop:=
 IsMap D∧ ∀k:Int,Maps.has D (.int .i64 k)=(f k).isSome∧ ∀z,D.atKey (.int .i64 k) z=match f k with
  |some s=> .lit (.string s.data.toList)
  |none=>z
theorem MapIs.empty:MapIs (.map []) (lastW []):=⟨isMap_empty,fun k=>⟨rfl,fun z=>rfl⟩⟩
def diskF (sv wv:Value) (M:Nat) (m:DM):Nat→Value
 |0=>sv
 |1=>wv
 |2=> .map (some M)
 |3=> .int .i64 m.fuse
 |4=> .bool m.down
 |_=>undef
theorem Tryz.infoStr:(Tryz.prog.info? 9).map (fun i=>(i.zero,i.size,i.bytes))=some (some (.string ⟨#[]⟩),1,16):=by kernel_rfl
theorem Tryz.keyInt:Keyed Tryz.prog 3:=int_keyed Tryz.underlying3
structure DiskAt (w:World) (d sb sc M:Nat) (wv:Value) (D:DataW Unit) (m:DM):Prop where
 cells:w.rowIs d 222 5 (diskF (.slice (some ⟨sb,0,none⟩) m.sure.length sc) wv M m)
 sure:w.ownsRow 0 9 1 (.slice (some ⟨sb,0,none⟩) m.sure.length sc) m.sure.length (m.sure.map Value.string)
 wait:w.ownsRow 0 224 2 wv m.wait.length (waitCells m.wait)
 map:w.ownsMap Tryz.prog 3 (plainElem Tryz.prog 9) M m.wait.length D
 mapIs:MapIs D (lastW m.wait)
 ne1:d≠sb
 ne2:d≠M
 ne3:sb≠M
 ne4: ∀g,wv.ownBlock=some g→g≠d∧g≠sb∧g≠M
def diskB (d sb M:Nat) (wv:Value):List Nat:=d::sb::M::wv.ownBlock.toList
def IsDisk (w:World) (d:Nat) (F:List Nat) (m:DM):Prop:= ∃sb sc M wv D,DiskAt w d sb sc M wv D m∧F=diskB d sb M wv
theorem DiskAt.touch {w w':World} {d sb sc M:Nat} {wv:Value} {D:DataW Unit} {m:DM} {F:List Nat} (h:DiskAt w d sb sc M wv D m) (t:Touch F w w') (hF: ∀b∈diskB d sb M wv,b∉F):DiskAt w' d sb sc M wv D m:=
 ⟨rowIs_touch h.cells t (hF d (by simp[diskB])),ownsRow_touch h.sure t (fun g hg=>by cases hg;exact hF sb (by simp[diskB])),ownsRow_touch h.wait t (fun g hg=>hF g (by simp[diskB,hg])),
  ownsMap_touch h.map t (hF M (by simp[diskB])),h.mapIs,h.ne1,h.ne2,h.ne3,h.ne4⟩
theorem IsDisk.touch {w w':World} {d:Nat} {m:DM} {F G:List Nat} (h:IsDisk w d G m) (t:Touch F w w') (hF: ∀b∈G,b∉F):IsDisk w' d G m:=by
 obtain⟨sb,sc,M,wv,D,h,rfl⟩:=h
 exact⟨sb,sc,M,wv,D,h.touch t hF,rfl⟩
theorem DiskAt.lt {w:World} {d sb sc M:Nat} {wv:Value} {D:DataW Unit} {m:DM} (h:DiskAt w d sb sc M wv D m): ∀b∈diskB d sb M wv,b<w.heap.size:=by
 intro b hb
 simp only[diskB,List.mem_cons,Option.mem_toList] at hb
 rcases hb with rfl|rfl|rfl|hb
 ·exact World.rowIs.lt h.cells
 ·exact(h.sure.lt b rfl).2
 ·exact h.map.lt
 ·exact(h.wait.lt b hb).2
theorem IsDisk.lt {w:World} {d:Nat} {m:DM} {F:List Nat} (h:IsDisk w d F m): ∀b∈F,b<w.heap.size:=by
 obtain⟨sb,sc,M,wv,D,h,rfl⟩:=h
 exact h.lt
theorem DiskAt.cell {w:World} {d sb sc M:Nat} {wv:Value} {D:DataW Unit} {m:DM} (h:DiskAt w d sb sc M wv D m):
  w.cell? ⟨d,0,none⟩=some (.slice (some ⟨sb,0,none⟩) m.sure.length sc)∧w.cell? ⟨d,1,none⟩=some wv∧w.cell? ⟨d,2,none⟩=some (.map (some M))∧w.cell? ⟨d,3,none⟩=some (.int .i64 m.fuse)∧w.cell? ⟨d,4,none⟩=some (.bool m.down):=
 ⟨World.rowIs.cell h.cells (i:=0) (by decide),World.rowIs.cell h.cells (i:=1) (by decide),World.rowIs.cell h.cells (i:=2) (by decide),World.rowIs.cell h.cells (i:=3) (by decide),World.rowIs.cell h.cells (i:=4) (by decide)⟩
theorem DiskAt.frozen {w:World} {d sb sc M:Nat} {wv:Value} {D:DataW Unit} {m:DM} (h:DiskAt w d sb sc M wv D m) (i:Nat):w.frozen? ⟨d,i,none⟩=false:=World.rowIs.frozen h.cells i
theorem DiskAt.setFuse {w:World} {d sb sc M:Nat} {wv:Value} {D:DataW Unit} {m:DM} (h:DiskAt w d sb sc M wv D m) (n:Int):DiskAt (w.setCell ⟨d,3,none⟩ (.int .i64 n)) d sb sc M wv D { m with fuse:=n }:=by
 have t:Touch [d] w (w.setCell ⟨d,3,none⟩ (.int .i64 n)):=(Touch.refl _ _).setCell (.inl (by simp)) _
 exact⟨World.rowIs.congr (World.rowIs.set h.cells 3 (.int .i64 n)) (fun i hi=>by
   rcases i with _|_|_|_|_|i<;>first|rfl|omega),
  ownsRow_touch h.sure t (fun g hg=>by cases hg;simp;exact fun e=>h.ne1 e.symm),ownsRow_touch h.wait t (fun g hg=>by simp;exact(h.ne4 g hg).1),ownsMap_touch h.map t (by simp;exact fun e=>h.ne2 e.symm),h.mapIs,h.ne1,h.ne2,h.ne3,h.ne4⟩
theorem DiskAt.setDown {w:World} {d sb sc M:Nat} {wv:Value} {D:DataW Unit} {m:DM} (h:DiskAt w d sb sc M wv D m) (b:Bool):DiskAt (w.setCell ⟨d,4,none⟩ (.bool b)) d sb sc M wv D { m with down:=b }:=by
 have t:Touch [d] w (w.setCell ⟨d,4,none⟩ (.bool b)):=(Touch.refl _ _).setCell (.inl (by simp)) _
 exact⟨World.rowIs.congr (World.rowIs.set h.cells 4 (.bool b)) (fun i hi=>by
   rcases i with _|_|_|_|_|i<;>first|rfl|omega),
  ownsRow_touch h.sure t (fun g hg=>by cases hg;simp;exact fun e=>h.ne1 e.symm),ownsRow_touch h.wait t (fun g hg=>by simp;exact(h.ne4 g hg).1),ownsMap_touch h.map t (by simp;exact fun e=>h.ne2 e.symm),h.mapIs,h.ne1,h.ne2,h.ne3,h.ne4⟩
end Go.Proofs.YtjgkegkinnlcoaaGreatDoor
namespace Go.Proofs.YtjgkegkinnlcoaaGreatDoor
open Go.RowKit Go.Joins
def textM (n:Int):ByteArray:=S (leB n 2++[1]++nul 45)
theorem u64_of (x:Int) (h:0≤x) (hu:x≤9223372036854775807):IntKind.u64.wrap x=x:=by
 rw[IntKind.wrap_u64];omega
set_option maxRecDepth 100000 in
set_option maxHeartbeats 1000000 in
theorem text_any (n:Int) (w:World) (h0:0≤n) (h1:n≤1000000):
  Calls Tryz.prog 166 #[.int .i64 n] w fun e w'=>e= .returned (.string (textM n))∧Below w.heap.size w w':=by
 have u1:=u64_of n h0 (by omega)
 have z1:(S (leB n 2)).size≤2:=by rw[S_size,leB_length];omega
 have z2:(S (nul 45)).size≤45:=by rw[S_size,nul_length];omega
 have z3:(S (leB n 2)++⟨#[1]⟩).size≤3:=by rw[ByteArray.size_append,S_size,leB_length];decide
 have T:S (leB n 2)++⟨#[1]⟩++S (nul 45)=textM n:=by
  have:(⟨#[1]⟩:ByteArray)=S [1]:=rfl
  rw[this,S_append,S_append];rfl
 have TT:=Lib.hid T
 clear T
 go_enter Tryz.func166,Tryz.ntmps166
 go_wp2_with fail
 refine(put_any n 2 _ (by omega) h0).mono ?_
 rintro e w1 ⟨rfl,hb1⟩
 go_wp2_with fail
 refine(repeat_nul _ _ (by omega) (by omega)).mono ?_
 rintro e w2 ⟨rfl,hb2⟩
 go_wp2_with fail
 go_ret
 exact⟨by rw[←TT.out];rfl,below_step hb2 hb1⟩
def untell (s:ByteArray):ByteArray:=s.extract 0 10++s.extract 11 64
def joinL (l:List ByteArray):ByteArray:=S (l.map fun s=>(untell s).data.toList).flatten
def joinOk (l:List ByteArray):Bool:=l.all (fun s=>s.data.toList.getD 10 0==0)&&decide ((joinL l).extract 512 567=S (nul 55))
def joinP (l:List ByteArray):ByteArray:=(joinL l).extract 0 512
theorem untell_size (s:ByteArray) (h:s.size=64):(untell s).size=63:=by
 unfold untell;rw[ByteArray.size_append,ByteArray.size_extract,ByteArray.size_extract];omega
theorem joinL_snoc (l:List ByteArray) (s:ByteArray):joinL l++untell s=joinL (l++[s]):=by
 unfold joinL
 conv=>lhs;rw[←S_data (untell s)]
 rw[S_append];simp
def StrsAt (w:World) (a:Option Addr) (l:List ByteArray):Prop:=l=[]∨ ∃b off,a=some ⟨b,off,none⟩∧ ∀(j:Nat) x,l[j]? =some x→w.cell? ⟨b,off+j,none⟩=some (.string x)
end Go.Proofs.YtjgkegkinnlcoaaGreatDoor
