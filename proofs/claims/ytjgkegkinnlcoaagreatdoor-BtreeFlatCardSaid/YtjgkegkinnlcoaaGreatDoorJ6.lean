/- Lemmas on the way to the statement: PagerE, PagerF, PgStr, LogPlain, LogPlain2, LogPlain3, RefM. -/
import Derived.Test.YtjgkegkinnlcoaaGreatDoorJ5
set_option linter.unusedSimpArgs false
set_option linter.unusedVariables false
namespace Go.Proofs.YtjgkegkinnlcoaaGreatDoor
open Go.RowKit Go.Maps Go.Joins
def soundR (kd:Int) (r:ByteArray) (er:Int) (most:Nat):Int:=
 if er=11 then 11 else if er≠0∨kd≠1∨r≠fillR (r.extract 0 72) 496 then 19 else if usedR r<1∨(most:Int)<usedR r∨usedR r≤freeR r then 19 else 0
def soundP (M:PM):Int:=soundR (rdP M 0).1 (rdP M 0).2.1 (rdP M 0).2.2 M.most
section
variable {w w' w1 w2:World} {b d lb pb hb K J k:Nat} {FD FP F1:List Nat} {M M':PM}
theorem soundP_snd (h:soundP M=0):Snd M:=by
 intro h0
 unfold soundP soundR at h
 rw[h0,if_neg (by decide)] at h
 split at h
 ·cases h
 ·split at h
  ·cases h
  ·rename_i h2
   omega
set_option maxRecDepth 100000 in
set_option maxHeartbeats 4000000 in
theorem sound_any (h:PgIn w b d lb pb hb FD FP K k M) (hK:K≤2000000000000000000):
  Calls Tryz.prog 90 #[.pointer (some ⟨b,0,none⟩)] w fun e w'=>e= .returned (.int .i64 (soundP M))∧PgStep w w' b d lb pb hb FD FP (K+2) k M:=by
 have HR:=Lib.hid (pread_int h (by omega) 0 (by omega) (by have:=h.ok.most1;omega))
 have hsz:=rdP_size (M:=M) (no:=0)
 have hmost:M.most≤65536:=by have:=h.ok.geo;have:=h.ok.disk.few;omega
 clear h
 unfold soundP
 generalize rdP M 0=x at HR hsz ⊢
 obtain⟨kd,r,er⟩:=x
 simp only at HR hsz ⊢
 by_cases h11:er=11
 ·have e:soundR kd r er M.most=11:=by unfold soundR;rw[if_pos h11]
  rw[e]
  have t1:(er==11)=true:=by simp[h11]
  clear hsz
  go_enter Tryz.func90,Tryz.ntmps90
  go_wp2_with fail
  refine HR.out.mono ?_
  rintro e w1 ⟨rfl,hst⟩
  have HST:=Lib.hid hst
  clear hst
  go_wp2_with fail
  go_ret
  exact⟨rfl,HST.out⟩
 have t1:(er==11)=false:=by simp[h11]
 by_cases h0:er=0
 rotate_left
 ·have e:soundR kd r er M.most=19:=by unfold soundR;rw[if_neg h11,if_pos (.inl h0)]
  rw[e]
  have t2:(er != 0)=true:=by simpa using h0
  clear hsz
  go_enter Tryz.func90,Tryz.ntmps90
  go_wp2_with fail
  refine HR.out.mono ?_
  rintro e w1 ⟨rfl,hst⟩
  have HST:=Lib.hid hst
  clear hst
  go_wp2_with fail
  go_ret
  exact⟨rfl,HST.out⟩
 have hz:=hsz h0
 subst h0
 clear hsz
 by_cases hk:kd=1
 rotate_left
 ·have e:soundR kd r 0 M.most=19:=by unfold soundR;rw[if_neg h11,if_pos (.inr (.inl hk))]
  rw[e]
  have t2:(kd != 1)=true:=by simpa using hk
  go_enter Tryz.func90,Tryz.ntmps90
  go_wp2_with fail
  refine HR.out.mono ?_
  rintro e w1 ⟨rfl,hst⟩
  have HST:=Lib.hid hst
  clear hst
  go_wp2_with fail
  go_ret
  exact⟨rfl,HST.out⟩
 have t2:(kd != 1)=false:=by simpa using hk
 have hxs:(r.extract 0 72).size=72:=by rw[ByteArray.size_extract];omega
 have HFI:=Lib.hid (fun W=>pfill_any (r.extract 0 72) 496 W (by omega) (by omega))
 obtain⟨R,hR⟩: ∃R,R=fillR (r.extract 0 72) 496:=⟨_,rfl⟩
 by_cases hr:r=R
 rotate_left
 ·have e:soundR kd r 0 M.most=19:=by unfold soundR;rw[if_neg h11,if_pos (.inr (.inr (by rw[←hR];exact hr)))]
  rw[e]
  rw[←hR] at HFI
  have t3:=str_ne hr
  clear hR e
  go_enter Tryz.func90,Tryz.ntmps90
  go_wp2_with fail
  refine HR.out.mono ?_
  rintro e w1 ⟨rfl,hst⟩
  have HST:=Lib.hid hst
  clear hst
  go_wp2_with fail
  refine(HFI.out _).mono ?_
  rintro e w2 ⟨rfl,hb2⟩
  have HST2:=Lib.hid (HST.out.after hb2)
  go_wp2_with fail
  go_ret
  exact⟨rfl,HST2.out⟩
 have e0:soundR kd r 0 M.most=if usedR r<1∨(M.most:Int)<usedR r∨usedR r≤freeR r then 19 else 0:=by
  unfold soundR
  rw[if_neg h11,if_neg (by rw[←hR];simp[hk,hr])]
 rw[e0]
 rw[←hR] at HFI
 have b1:=usedR_bd r
 have b2:=freeR_bd r
 have HH:=Lib.hid (fun W p=>head_any W p r (by omega) (by omega))
 have HRR:=Lib.hid hr
 clear hR e0 hr
 have t3:=str_eq HRR.out
 by_cases u1:usedR r<1
 ·rw[if_pos (.inl u1)]
  go_enter Tryz.func90,Tryz.ntmps90
  go_wp2_with fail
  refine HR.out.mono ?_
  rintro e w1 ⟨rfl,hst⟩
  have HST:=Lib.hid hst
  clear hst
  go_wp2_with fail
  refine(HFI.out _).mono ?_
  rintro e w2 ⟨rfl,hb2⟩
  obtain⟨F2,h2,t2',f2⟩:=HST.out.after hb2
  have HT:=Lib.hid t2'
  have HF:=Lib.hid f2
  have HP:=Lib.hid h2
  obtain⟨c0,c1,c2,c3,c4,c5,c6,c7⟩:=h2.cell
  have bl:=h2.lt.1
  clear h2 t2' f2 hb2
  go_wp2_with fail
  refine(HH.out _ _).mono ?_
  rintro e w3 ⟨rfl,rfl⟩
  clear t1 t2 t3
  go_wp2_with fail
  go_ret
  exact⟨rfl,_,HP.out,HT.out,HF.out⟩
 by_cases u2:(M.most:Int)<usedR r
 ·rw[if_pos (.inr (.inl u2))]
  go_enter Tryz.func90,Tryz.ntmps90
  go_wp2_with fail
  refine HR.out.mono ?_
  rintro e w1 ⟨rfl,hst⟩
  have HST:=Lib.hid hst
  clear hst
  go_wp2_with fail
  refine(HFI.out _).mono ?_
  rintro e w2 ⟨rfl,hb2⟩
  obtain⟨F2,h2,t2',f2⟩:=HST.out.after hb2
  have HT:=Lib.hid t2'
  have HF:=Lib.hid f2
  have HP:=Lib.hid h2
  obtain⟨c0,c1,c2,c3,c4,c5,c6,c7⟩:=h2.cell
  have bl:=h2.lt.1
  clear h2 t2' f2 hb2
  go_wp2_with fail
  refine(HH.out _ _).mono ?_
  rintro e w3 ⟨rfl,rfl⟩
  clear t1 t2 t3
  go_wp2_with fail
  go_ret
  exact⟨rfl,_,HP.out,HT.out,HF.out⟩
 by_cases u3:usedR r≤freeR r
 ·rw[if_pos (.inr (.inr u3))]
  go_enter Tryz.func90,Tryz.ntmps90
  go_wp2_with fail
  refine HR.out.mono ?_
  rintro e w1 ⟨rfl,hst⟩
  have HST:=Lib.hid hst
  clear hst
  go_wp2_with fail
  refine(HFI.out _).mono ?_
  rintro e w2 ⟨rfl,hb2⟩
  obtain⟨F2,h2,t2',f2⟩:=HST.out.after hb2
  have HT:=Lib.hid t2'
  have HF:=Lib.hid f2
  have HP:=Lib.hid h2
  obtain⟨c0,c1,c2,c3,c4,c5,c6,c7⟩:=h2.cell
  have bl:=h2.lt.1
  clear h2 t2' f2 hb2
  go_wp2_with fail
  refine(HH.out _ _).mono ?_
  rintro e w3 ⟨rfl,rfl⟩
  clear t1 t2 t3
  go_wp2_with fail
  go_ret
  exact⟨rfl,_,HP.out,HT.out,HF.out⟩
 ·rw[if_neg (by rintro (h|h|h);exact u1 h;exact u2 h;exact u3 h)]
  go_enter Tryz.func90,Tryz.ntmps90
  go_wp2_with fail
  refine HR.out.mono ?_
  rintro e w1 ⟨rfl,hst⟩
  have HST:=Lib.hid hst
  clear hst
  go_wp2_with fail
  refine(HFI.out _).mono ?_
  rintro e w2 ⟨rfl,hb2⟩
  obtain⟨F2,h2,t2',f2⟩:=HST.out.after hb2
  have HT:=Lib.hid t2'
  have HF:=Lib.hid f2
  have HP:=Lib.hid h2
  obtain⟨c0,c1,c2,c3,c4,c5,c6,c7⟩:=h2.cell
  have bl:=h2.lt.1
  clear h2 t2' f2 hb2
  go_wp2_with fail
  refine(HH.out _ _).mono ?_
  rintro e w3 ⟨rfl,rfl⟩
  clear t1 t2 t3
  go_wp2_with fail
  go_ret
  exact⟨rfl,_,HP.out,HT.out,HF.out⟩
end
end Go.Proofs.YtjgkegkinnlcoaaGreatDoor
namespace Go.Proofs.YtjgkegkinnlcoaaGreatDoor
open Go.RowKit Go.Maps Go.Joins
def bestW (a b:ByteArray):Int:=if mOk a&&(!mOk b||decide (mN b≤mN a)) then 0 else if mOk b then 1 else -1
def bestN (a b:ByteArray):Int:=if mOk a&&(!mOk b||decide (mN b≤mN a)) then mN a else if mOk b then mN b else 0
def bestT (a b:ByteArray):ByteArray:=if mOk a&&(!mOk b||decide (mN b≤mN a)) then mT a else if mOk b then mT b else⟨#[]⟩
theorem bestV_eq (a b:ByteArray):bestV a b= .tuple #[.int .u64 (bestN a b), .string (bestT a b), .int .i64 (bestW a b)]:=by
 unfold bestV bestW bestN bestT
 split
 ·rfl
 ·split<;>rfl
theorem mN_bd (s:ByteArray):0≤mN s∧mN s≤18446744073709551615:=by
 unfold mN
 split
 ·have h:=leN_bd (cut s 0 8)
  have hl:(cut s 0 8).length≤8:=by unfold cut;simp;omega
  have:(256:Int) ^ (cut s 0 8).length≤18446744073709551616:=by
   generalize (cut s 0 8).length=j at hl
   rcases j with _|_|_|_|_|_|_|_|_|j<;>first|decide|omega
  omega
 ·omega
theorem mT_size (s:ByteArray):(mT s).size≤48:=by
 unfold mT
 split
 ·rw[ByteArray.size_extract];omega
 ·exact Nat.zero_le _
theorem bestN_bd (a b:ByteArray):0≤bestN a b∧bestN a b≤18446744073709551615:=by
 unfold bestN
 have h1:=mN_bd a
 have h2:=mN_bd b
 split
 ·exact h1
 ·split
  ·exact h2
  ·omega
theorem bestT_size (a b:ByteArray):(bestT a b).size≤48:=by
 unfold bestT
 split
 ·exact mT_size a
 ·split
  ·exact mT_size b
  ·exact Nat.zero_le _
theorem mT_full {s:ByteArray} (h:mOk s=true):(mT s).size=48:=by
 unfold mT
 rw[if_pos h,ByteArray.size_extract,((mOk_iff s).1 h).1]
 rfl
theorem bestT_full {a b:ByteArray} (h: ¬bestW a b<0):(bestT a b).size=48:=by
 unfold bestW at h
 unfold bestT
 split
 ·rename_i h1
  exact mT_full (by revert h1;cases mOk a<;>simp)
 ·rename_i h1
  rw[if_neg h1] at h
  split
  ·rename_i h2;exact mT_full h2
  ·rename_i h2;rw[if_neg h2] at h;omega
theorem bestW_bd (a b:ByteArray): -1≤bestW a b∧bestW a b≤1:=by
 unfold bestW
 split
 ·omega
 ·split<;>omega
def hotAdd (most:Nat):List ByteArray→(Int→Option ByteArray)→Option (Int→Option ByteArray)
 | [],f=>some f
 |s::l,f=>if pgE s=0∧pgN s<most then hotAdd most l (updT f (pgN s) s) else none
theorem hotAdd_append (most:Nat): ∀(l1 l2:List ByteArray) (f:Int→Option ByteArray),hotAdd most (l1++l2) f=(hotAdd most l1 f).bind (hotAdd most l2)
 | [],l2,f=>rfl
 |s::l1,l2,f=>by
  show hotAdd most (s::(l1++l2)) f=_
  unfold hotAdd
  split
  ·exact hotAdd_append most l1 l2 _
  ·rfl
theorem pgN_bd (s:ByteArray):0≤pgN s:=by
 unfold pgN
 split
 ·exact(cut_bd4 s 5).1
 ·omega
theorem hotAdd_dom {most:Nat}: ∀ {l:List ByteArray} {f g:Int→Option ByteArray},hotAdd most l f=some g→(∀i s,f i=some s→0≤i∧i<most∧s.size=512)→ ∀i s,g i=some s→0≤i∧i<most∧s.size=512
 | [],f,g,h,hf=>by
  unfold hotAdd at h
  injection h with h
  subst h;exact hf
 |s::l,f,g,h,hf=>by
  unfold hotAdd at h
  split at h
  ·rename_i hc
   refine hotAdd_dom h (fun i t hi=> ?_)
   unfold updT at hi
   split at hi
   ·rename_i e
    injection hi with hi
    subst e hi
    exact⟨pgN_bd s,hc.2,(pgE_inv hc.1).1⟩
   ·exact hf i t hi
  ·cases h
def txAll (ts:List TxD):List ByteArray:=ts.flatMap (·.2)
def hotAll (most:Nat) (ts:List TxD):Option (Int→Option ByteArray):=hotAdd most (txAll ts) (fun _=>none)
theorem txAll_take {ts:List TxD} {j:Nat} {t:TxD} (h:ts[j]? =some t):txAll (ts.take (j+1))=txAll (ts.take j)++t.2:=by
 unfold txAll
 rw[List.take_add_one,h]
 simp
theorem txAll_split {ts:List TxD} {j:Nat} {t:TxD} (h:ts[j]? =some t):txAll ts=txAll (ts.take j)++(t.2++txAll (ts.drop (j+1))):=by
 have e:ts=ts.take j++(t::ts.drop (j+1)):=by
  have hlt:=(List.getElem?_eq_some_iff.1 h).1
  have:=(List.getElem?_eq_some_iff.1 h).2
  rw[←this,List.getElem_cons_drop,List.take_append_drop]
 conv=>lhs;rw[e]
 unfold txAll
 simp
theorem hotAll_bad {most:Nat} {ts:List TxD} {j i:Nat} {t:TxD} {s:ByteArray} {f:Int→Option ByteArray} (h:ts[j]? =some t) (hs:t.2[i]? =some s) (hf:hotAdd most (txAll (ts.take j)++t.2.take i) (fun _=>none)=some f) (hb: ¬(pgE s=0∧pgN s<most)):hotAll most ts=none:=by
 have e:t.2=t.2.take i++(s::t.2.drop (i+1)):=by
  have:=(List.getElem?_eq_some_iff.1 hs).2
  rw[←this,List.getElem_cons_drop,List.take_append_drop]
 have e2:txAll ts=(txAll (ts.take j)++t.2.take i)++(s::(t.2.drop (i+1)++txAll (ts.drop (j+1)))):=by
  rw[txAll_split h]
  conv=>lhs;rw[e]
  simp only[List.append_assoc,List.cons_append]
 unfold hotAll
 rw[e2,hotAdd_append,hf]
 show hotAdd most (s::_) f=none
 unfold hotAdd
 rw[if_neg hb]
theorem hotAdd_next {most:Nat} {l p:List ByteArray} {i:Nat} {s:ByteArray} {f0 f:Int→Option ByteArray} (hs:p[i]? =some s) (hf:hotAdd most (l++p.take i) f0=some f) (hb:pgE s=0∧pgN s<most):hotAdd most (l++p.take (i+1)) f0=some (updT f (pgN s) s):=by
 rw[List.take_add_one,hs, ←List.append_assoc,hotAdd_append,hf]
 show hotAdd most [s] f=_
 unfold hotAdd
 rw[if_pos hb]
 rfl
def bootM (m:DM) (first gen:Int) (log most room:Nat) (hot:Int→Option ByteArray):PM:=
 ⟨m,⟨2,log,(stM m 2 log first).2,(first+(stM m 2 log first).1.length) % 18446744073709551616,false⟩,log,gen,most,room,fun _=>none,hot,false⟩
def openHot (m:DM) (first gen:Int) (log most room:Nat):Int × Option PM:=
 match hotAll most (stM m 2 log first).1 with
 |none=>(19,none)
 |some hot=>if soundP (bootM m first gen log most room hot)=0 then(0,some (bootM m first gen log most room hot)) else(soundP (bootM m first gen log most room hot),none)
def openMark (m:DM) (gen:Int) (t:ByteArray) (room:Nat):Int × Option PM:=
 if t≠superT (leN (cut t 0 8)) (leN (cut t 8 4)).toNat∨mostI m.sure.length (leN (cut t 8 4))<1 then(19,none) else
 openHot m (leN (cut t 0 8)) gen (leN (cut t 8 4)).toNat (mostI m.sure.length (leN (cut t 8 4))) room
def openP (m:DM) (room:Nat):Int × Option PM:=
 if m.down then(11,none) else
 let a:=secM m 0
 let b:=secM m (min 1 (m.sure.length - 1))
 if bestW a b<0∨bestN a b=0 then(19,none) else openMark m (bestN a b) (bestT a b) room
def NewPg (w w':World) (d:Nat) (F:List Nat) (K k:Nat) (v:Value) (M:PM):Prop:=
 ∃b lb pb hb FP,v= .pointer (some ⟨b,0,none⟩)∧PgIn w' b d lb pb hb F FP K k M∧w.heap.size≤b∧w.heap.size≤lb∧w.heap.size≤hb∧ ∀x∈FP,w.heap.size≤x
def OpPost (w:World) (d:Nat) (F:List Nat) (K k:Nat) (x:Int × Option PM) (e:Ending) (w':World):Prop:=
 Below w.heap.size w w'∧match x.2 with
  |none=>e= .returned (.tuple #[.pointer none, .int .i64 x.1])
  |some M=> ∃v,e= .returned (.tuple #[v, .int .i64 x.1])∧NewPg w w' d F K k v M
theorem OpPost.no {w w':World} {d K k:Nat} {F:List Nat} {x:Int × Option PM} {r:Int} (h:x=(r,none)) (hb:Below w.heap.size w w'):OpPost w d F K k x (.returned (.tuple #[.pointer none, .int .i64 r])) w':=by
 subst h;exact⟨hb,rfl⟩
theorem OpPost.yes {w w':World} {d K k:Nat} {F:List Nat} {x:Int × Option PM} {r:Int} {M:PM} {v:Value} (h:x=(r,some M)) (hb:Below w.heap.size w w') (hn:NewPg w w' d F K k v M):OpPost w d F K k x (.returned (.tuple #[v, .int .i64 r])) w':=by
 subst h;exact⟨hb,v,rfl,hn⟩
theorem txCells_at {vs:List (Int × Value)} {i:Nat} {x:Int × Value} (h:vs[i]? =some x):(txCells vs)[i*2]? =some (.int .u64 x.1)∧(txCells vs)[i*2+1]? =some x.2:=by
 induction vs generalizing i with
 |nil=>simp at h
 |cons y vs ih=>
  have e:txCells (y::vs)= .int .u64 y.1::y.2::txCells vs:=rfl
  cases i with
  |zero=>simp at h;subst h;exact⟨rfl,rfl⟩
  |succ i=>
   have:=ih (i:=i) (by simpa using h)
   rw[e,show(i+1)*2=i*2+1+1 by omega]
   exact this
theorem txRow_slice {w:World} {base:Nat} {v:Value} {ts:List TxD} (h:TxRow w base v ts): ∃a c,v= .slice a ts.length c:=by
 obtain⟨vs,hrow, -⟩:=h
 rcases ownsRow_forms hrow with ⟨e,h0⟩|⟨g,cap,e⟩
 ·exact⟨none,0,by rw[h0];exact e⟩
 ·exact⟨_,_,e⟩
theorem TxRow.get {w:World} {base n c:Nat} {a:Option Addr} {ts:List TxD} (h:TxRow w base (.slice a n c) ts) (hn:n=ts.length) {i:Nat} {y:TxD} (hy:ts[i]? =some y):
  ∃g p k,a=some ⟨g,0,none⟩∧g<w.heap.size∧w.cell? ⟨g,i*2,none⟩=some (.int .u64 y.1)∧w.cell? ⟨g,i*2+1,none⟩=some (.slice p y.2.length k)∧
   (∀(j:Nat) s,y.2[j]? =some s→ ∃h,p=some ⟨h,0,none⟩∧base≤h∧h<w.heap.size∧w.cell? ⟨h,j,none⟩=some (.string s)):=by
 obtain⟨vs,hrow,heach⟩:=h
 have hlt:i<ts.length:=(List.getElem?_eq_some_iff.1 hy).1
 obtain⟨x,hx⟩: ∃x,vs[i]? =some x:=⟨vs[i]'(by rw[heach.1];exact hlt),List.getElem?_eq_getElem _⟩
 obtain⟨hxy,hpg⟩:=heach.2 i x y hx hy
 rw[←hn] at hrow
 obtain⟨g,cap,e⟩:=ownsRow_form hrow (by omega)
 injection e with e1 e2 e3
 subst e1 e3
 obtain⟨t1,t2⟩:=txCells_at hx
 have hc1:=hrow.cells (g:=g) rfl _ _ t1
 have hc2:=hrow.cells (g:=g) rfl _ _ t2
 rw[addr_at0] at hc1 hc2
 rw[hxy] at hc1
 have hgl:=(hrow.lt g rfl).2
 rcases ownsRow_forms hpg with ⟨e,h0⟩|⟨h,cap,e⟩
 ·rw[e] at hc2
  refine⟨g,none,0,rfl,hgl,hc1,by rw[h0];exact hc2,fun j s hs=> ?_⟩
  have:j<y.2.length:=(List.getElem?_eq_some_iff.1 hs).1
  omega
 ·rw[e] at hc2 hpg
  refine⟨g,_,cap,rfl,hgl,hc1,hc2,fun j s hs=>⟨h,rfl,(hpg.lt h rfl).1,(hpg.lt h rfl).2, ?_⟩⟩
  have:=hpg.cells (g:=h) rfl j (.string s) (by simp[hs])
  rwa [addr_at0] at this
def bootF (d hb size most:Nat) (gen:Int) (lv pv:Value):Nat→Value
 |0=> .pointer (some ⟨d,0,none⟩)
 |1=>lv
 |2=> .int .i64 size
 |3=> .int .u64 gen
 |4=> .int .i64 most
 |5=>pv
 |6=> .map (some hb)
 |_=> .bool false
theorem bootF_pool {w:World} {b d hb size most:Nat} {gen:Int} {lv pv x:Value} (h:w.rowIs b 132 8 (bootF d hb size most gen lv pv)):(w.setCell ⟨b,5,none⟩ x).rowIs b 132 8 (bootF d hb size most gen lv x):=
 World.rowIs.congr (World.rowIs.set h 5 x) (fun i hi=>by rcases i with _|_|_|_|_|_|_|_|i<;>first|rfl|omega)
theorem bootF_log {w:World} {b d hb size most:Nat} {gen:Int} {lv pv x:Value} (h:w.rowIs b 132 8 (bootF d hb size most gen lv pv)):(w.setCell ⟨b,1,none⟩ x).rowIs b 132 8 (bootF d hb size most gen x pv):=
 World.rowIs.congr (World.rowIs.set h 1 x) (fun i hi=>by rcases i with _|_|_|_|_|_|_|_|i<;>first|rfl|omega)
theorem txPages_len {m:DM} {p n:Nat}:(txPages m p n).length=n:=by unfold txPages;simp
theorem stF_few {m:DM} {frm size:Nat}: ∀(f a:Nat) (q:Int), ∀y∈(stF m frm size f a q).1,y.2.length≤64
 |0,a,q,y,hy=>by cases hy
 |f+1,a,q,y,hy=>by
  unfold stF at hy
  split at hy
  ·rename_i hc
   rcases List.mem_cons.1 hy with e|hy
   ·subst e
    obtain⟨n,hn,h1,h2,h3⟩:=txOk_facts hc.2
    show(txPages m (frm+a) (txN m (frm+a)).toNat).length≤64
    rw[txPages_len,hn]
    omega
   ·exact stF_few f _ _ y hy
  ·cases hy
theorem stF_len {m:DM} {frm size:Nat}: ∀(f a:Nat) (q:Int),(stF m frm size f a q).1.length≤f
 |0,a,q=>Nat.zero_le _
 |f+1,a,q=>by
  unfold stF
  split
  ·have:=stF_len (m:=m) (frm:=frm) (size:=size) f (a+1+9*(txN m (frm+a)).toNat) ((q+1) % 18446744073709551616)
   simp only[List.length_cons]
   omega
  ·exact Nat.zero_le _
theorem stF_at {m:DM} {frm size:Nat}: ∀(f a:Nat) (q:Int),a≤size→(stF m frm size f a q).2≤size
 |0,a,q,h=>h
 |f+1,a,q,h=>by
  unfold stF
  split
  ·rename_i hc
   obtain⟨n,hn,h1,h2,h3⟩:=txOk_facts hc.2
   refine stF_at f _ _ ?_
   rw[hn]
   omega
  ·exact h
structure OpLoop (w5:World) (hb most:Nat) (ts:List TxD) (v:Value) (wr:World):Prop where
 ex: ∃(j n:Nat) (f:Int→Option ByteArray),j≤ts.length∧v= .int .i64 j∧hotAdd most (txAll (ts.take j)) (fun _=>none)=some f∧n=cntI (fun i=>(f i).isSome) 100000∧MapN wr Tryz.prog 3 hb n (Value.int .i64) Value.string f∧Touch [hb] w5 wr
structure OpIn (w5:World) (hb most:Nat) (l p:List ByteArray) (v:Value) (wr:World):Prop where
 ex: ∃(i n:Nat) (f:Int→Option ByteArray),i≤p.length∧v= .int .i64 i∧hotAdd most (l++p.take i) (fun _=>none)=some f∧n=cntI (fun i=>(f i).isSome) 100000∧MapN wr Tryz.prog 3 hb n (Value.int .i64) Value.string f∧Touch [hb] w5 wr
section
variable {w w' w1 w2:World} {d k:Nat} {F:List Nat} {m:DM}
set_option maxRecDepth 100000 in
set_option maxHeartbeats 1000000 in
theorem super_big (first:Int) (size:Nat) (w:World) (h0:0≤first) (hs:size≤4294967296):
  Calls Tryz.prog 83 #[.int .u64 first, .int .i64 size] w fun e w'=>e= .returned (.string (superT first size))∧Below w.heap.size w w':=by
 have e1:=u64_int (size:Int) (by omega) (by omega)
 have HP1:=Lib.hid (fun W=>put_any first 8 W (by omega) h0)
 have HP2:=Lib.hid (fun W=>put_any (size:Int) 4 W (by omega) (by omega))
 have z1:(S (leB first 8)).size≤8:=by rw[S_size,leB_length];omega
 have z2:(S (leB (size:Int) 4)).size≤4:=by rw[S_size,leB_length];omega
 have hsz:(S (leB first 8)++S (leB (size:Int) 4)).size≤48:=by rw[S_append,S_size,List.length_append,leB_length,leB_length];omega
 have HF:=Lib.hid (fun W=>pfill_any (S (leB first 8)++S (leB (size:Int) 4)) 48 W hsz (by omega))
 have hres:fillR (S (leB first 8)++S (leB (size:Int) 4)) 48=superT first size:=by
  unfold fillR superT
  rw[S_append,data_S,S_size,List.length_append,leB_length,leB_length,List.append_assoc]
 rw[hres] at HF
 clear hsz hres
 go_enter Tryz.func83,Tryz.ntmps83
 go_wp2_with fail
 refine(HP1.out _).mono ?_
 rintro e w1 ⟨rfl,hb1⟩
 go_wp2_with fail
 refine(HP2.out _).mono ?_
 rintro e w2 ⟨rfl,hb2⟩
 go_wp2_with fail
 refine(HF.out _).mono ?_
 rintro e w3 ⟨rfl,hb3⟩
 go_wp2_with fail
 go_ret
 exact⟨rfl,below_step hb3 (below_step hb2 hb1)⟩
theorem PgIn.boot {W:World} {b d lb pb hb K k n size most room:Nat} {F FP:List Nat} {m:DM} {first gen:Int} {hot:Int→Option ByteArray} (hc:W.rowIs b 132 8 (bootF d hb size most gen (.pointer (some ⟨lb,0,none⟩)) (.pointer (some ⟨pb,0,none⟩)))) (hd:IsDisk W d F m)
  (hl:LogAt W lb d ⟨2,size,(stM m 2 size first).2,(first+(stM m 2 size first).1.length) % 18446744073709551616,false⟩) (hp:IsPool W pb FP room K (fun _=>none)) (hm:MapN W Tryz.prog 3 hb n (Value.int .i64) Value.string hot) (hn:n=cntI (fun i=>(hot i).isSome) 100000)
  (hk:DOk m k) (hgeo:2+size+most*8≤m.sure.length) (s1:1≤size) (m1:1≤most) (r1:2≤room) (r2:room≤65536) (g0:0≤gen) (g1:gen≤18446744073709551615) (hdom: ∀i s,hot i=some s→0≤i∧i<most∧s.size=512)
  (nb:b∉F∧b∉FP∧b≠lb∧b≠hb) (nl:lb∉F∧lb∉FP∧lb≠hb) (nh:hb∉F∧hb∉FP) (nd: ∀x∈F,x∉FP):PgIn W b d lb pb hb F FP K k (bootM m first gen size most room hot):=by
 refine⟨World.rowIs.congr hc (fun i hi=>by rcases i with _|_|_|_|_|_|_|_|i<;>first|rfl|omega),hd,hl,⟨fun _=>none,hp,⟨fun i s=>⟨fun h=>(by cases h),fun h=>(by cases h)⟩,fun i s h=>(by cases h)⟩⟩,⟨n,hn,hm⟩, ?_,nb,nl,nh,nd⟩
 exact⟨hk,hgeo,s1,m1,r1,r2,rfl,rfl,stF_at _ _ _ (Nat.zero_le _),Int.emod_nonneg _ (by decide),by show(first+_) % 18446744073709551616≤18446744073709551615;omega,g0,g1,fun i s h=>(by cases h),hdom⟩
set_option maxRecDepth 1000000 in
set_option maxHeartbeats 8000000 in
theorem Open_any (h:IsDisk w d F m) (hk:DOk m k) (room:Nat) (r1:2≤room) (r2:room≤65536):
  Calls Tryz.prog 29 #[.pointer (some ⟨d,0,none⟩), .int .i64 room] w (OpPost w d F 2 k (openP m room)):=by
 have H:=Lib.hid h
 have q1: ¬(room:Int)<2:=by omega
 have q2: ¬(65536:Int)<room:=by omega
 have hpos:=hk.pos
 have hfew:=hk.few
 have hFlt:=h.lt
 have HL:=Lib.hid (is_len h)
 have qm:min (1:Int) ((m.sure.length:Int) - 1)=((min 1 (m.sure.length - 1):Nat):Int):=by omega
 have q3:IntKind.i64.wrap ((m.sure.length:Int) - 1)=(m.sure.length:Int) - 1:=IntWalk.i64_in _ (by omega)
 obtain⟨I,hI⟩: ∃I,I=min 1 (m.sure.length - 1):=⟨_,rfl⟩
 rw[←hI] at qm
 have hI1:I<m.sure.length:=by omega
 have HI:=Lib.hid qm
 cases hd:m.down
 rotate_left
 ·have HX:=Lib.hid (show openP m room=(11,none) by unfold openP;rw[hd];rfl)
  have HR0:=Lib.hid (read_dn h hd 0 (by omega))
  have HR1:=Lib.hid (read_dn h hd I (by omega))
  clear h hI qm
  go_enter Tryz.func29,Tryz.ntmps29
  go_wp2_with fail
  refine HR0.out.mono ?_
  rintro e w1 ⟨rfl,rfl⟩
  go_wp2_with fail
  refine HL.out.mono ?_
  rintro e w1 ⟨rfl,rfl⟩
  go_wp2_with fail
  rw[HI.out]
  refine HR1.out.mono ?_
  rintro e w1 ⟨rfl,rfl⟩
  go_wp2_with fail
  go_ret2
  exact OpPost.no HX.out (Below.refl _ _)
 obtain⟨A,hA⟩: ∃A,A=secM m 0:=⟨_,rfl⟩
 obtain⟨B,hB⟩: ∃B,B=secM m I:=⟨_,rfl⟩
 have hAs:A.size=64:=by rw[hA];exact secM_size hk 0 (by omega)
 have hBs:B.size=64:=by rw[hB];exact secM_size hk I hI1
 have hop:openP m room=if bestW A B<0∨bestN A B=0 then(19,none) else openMark m (bestN A B) (bestT A B) room:=by
  unfold openP
  rw[hd, ←hI, ←hA, ←hB]
  rfl
 have hr0:=read_up h hd 0 (by omega) (by omega)
 have hr1:=read_up h hd I hI1 (by omega)
 rw[←hA] at hr0
 rw[←hB] at hr1
 have HR0:=Lib.hid hr0
 have HR1:=Lib.hid hr1
 have hbe:=fun W=>best_any A B W (by omega) (by omega)
 rw[bestV_eq] at hbe
 obtain⟨g0,g1⟩:=bestN_bd A B
 have hT:=bestT_size A B
 have hTf:=bestT_full (a:=A) (b:=B)
 have hW:=bestW_bd A B
 generalize bestN A B=gen at*
 generalize bestT A B=T at*
 generalize bestW A B=wh at*
 have HBE:=Lib.hid hbe
 clear hr0 hr1 hbe hA hB hAs hBs h hI qm
 by_cases hw:wh<0
 ·rw[if_pos (.inl hw)] at hop
  have HX:=Lib.hid hop
  clear hop
  go_enter Tryz.func29,Tryz.ntmps29
  go_wp2_with fail
  refine HR0.out.mono ?_
  rintro e w1 ⟨rfl,rfl⟩
  go_wp2_with fail
  refine HL.out.mono ?_
  rintro e w1 ⟨rfl,rfl⟩
  go_wp2_with fail
  rw[HI.out]
  refine HR1.out.mono ?_
  rintro e w1 ⟨rfl,rfl⟩
  go_wp2_with fail
  refine(HBE.out _).mono ?_
  rintro e w1 ⟨rfl,hdr⟩
  have HB1:=Lib.hid hdr.below
  clear hdr
  go_wp2_with fail
  go_ret2
  exact OpPost.no HX.out HB1.out
 by_cases hg:gen=0
 ·rw[if_pos (.inr hg)] at hop
  have HX:=Lib.hid hop
  have t1:(gen==0)=true:=by simp[hg]
  clear hop hg
  go_enter Tryz.func29,Tryz.ntmps29
  go_wp2_with fail
  refine HR0.out.mono ?_
  rintro e w1 ⟨rfl,rfl⟩
  go_wp2_with fail
  refine HL.out.mono ?_
  rintro e w1 ⟨rfl,rfl⟩
  go_wp2_with fail
  rw[HI.out]
  refine HR1.out.mono ?_
  rintro e w1 ⟨rfl,rfl⟩
  go_wp2_with fail
  refine(HBE.out _).mono ?_
  rintro e w1 ⟨rfl,hdr⟩
  have HB1:=Lib.hid hdr.below
  clear hdr
  go_wp2_with fail
  go_ret2
  exact OpPost.no HX.out HB1.out
 rw[if_neg (by rintro (h|h);exact hw h;exact hg h)] at hop
 have t1:(gen==0)=false:=by simp[hg]
 unfold openMark at hop
 have hTs:T.size=48:=hTf hw
 clear hTf
 have HG1:=Lib.hid (fun W=>get_any T 0 8 W (by omega) (by omega) (by omega))
 have HG2:=Lib.hid (fun W=>get_any T 8 4 W (by omega) (by omega) (by omega))
 have hf0:0≤leN (cut T 0 8)∧leN (cut T 0 8)≤18446744073709551615:=by
  have h:=leN_bd (cut T 0 8)
  have hl:(cut T 0 8).length≤8:=by unfold cut;simp;omega
  have:(256:Int) ^ (cut T 0 8).length≤18446744073709551616:=by
   generalize (cut T 0 8).length=j at hl
   rcases j with _|_|_|_|_|_|_|_|_|j<;>first|decide|omega
  omega
 have hl0:=cut_bd4 T 8
 generalize leN (cut T 0 8)=first at*
 generalize leN (cut T 8 4)=lg at*
 obtain⟨size,rfl⟩: ∃size:Nat,lg=size:=⟨lg.toNat,by omega⟩
 rw[Int.toNat_natCast] at hop
 obtain⟨most,hmost⟩: ∃most,most=mostI m.sure.length (size:Int):=⟨_,rfl⟩
 rw[←hmost] at hop
 have q4:IntKind.i64.wrap (size:Int)=(size:Int):=IntWalk.i64_in _ (by omega)
 have hmp:=fun(W:World) (hb:Below w.heap.size w W)=>most_pages (H.out.below hb) hk.few (size:Int) (by omega) (by omega)
 rw[←hmost] at hmp
 have HMP:=Lib.hid hmp
 clear hmp
 have hmm:= @run_makeMap Tryz.prog
 have HSU:=Lib.hid (fun(W:World)=>super_big first size W hf0.1 (by omega))
 by_cases hTe:T=superT first size
 rotate_left
 ·rw[if_pos (.inl hTe)] at hop
  have HX:=Lib.hid hop
  have t2:=str_ne hTe
  clear hop hTe hmost
  go_enter Tryz.func29,Tryz.ntmps29
  go_wp2_with fail
  refine HR0.out.mono ?_
  rintro e w1 ⟨rfl,rfl⟩
  go_wp2_with fail
  refine HL.out.mono ?_
  rintro e w1 ⟨rfl,rfl⟩
  go_wp2_with fail
  rw[HI.out]
  refine HR1.out.mono ?_
  rintro e w1 ⟨rfl,rfl⟩
  go_wp2_with fail
  refine(HBE.out _).mono ?_
  rintro e w1 ⟨rfl,hdr⟩
  have HB1:=Lib.hid hdr.below
  clear hdr
  go_wp2_with fail
  refine(HG1.out _).mono ?_
  rintro e w2 ⟨rfl,rfl⟩
  go_wp2_with fail
  refine(HG2.out _).mono ?_
  rintro e w2 ⟨rfl,rfl⟩
  go_wp2_with fail
  refine(HMP.out _ HB1.out).mono ?_
  rintro e w2 ⟨rfl,rfl⟩
  go_wp2_with fail
  first|refine wp_name (fun w2 hw2=> ?_)|refine calls_name (fun w2 hw2=> ?_)
  have hb2:Below w1.heap.size w1 w2:=by rw[←hw2];exact below_alloc (below_alloc (Below.refl _ _))
  have hs2:w2.heap.size=w1.heap.size+1+1:=by rw[←hw2];simp
  have hm2:MapN w2 Tryz.prog 3 w1.heap.size 0 (Value.int .i64) Value.string (fun _=>none):=by rw[←hw2];exact(MapN.made w1 Tryz.prog 3 (Value.int .i64) Value.string).alloc _
  have hc2:w2.rowIs (w1.heap.size+1) 132 8 (bootF d w1.heap.size size most gen (.pointer none) (.pointer none)):=by
   have s1:(w1.alloc (.map #[] 0)).heap.size=w1.heap.size+1:=by simp
   have:=World.rowIs_alloc (w1.alloc (.map #[] 0)) #[.pointer (some ⟨d,0,none⟩), .pointer none, .int .i64 size, .int .u64 gen, .int .i64 most, .pointer none, .map (some w1.heap.size), .bool false] 132 (bootF d w1.heap.size size most gen (.pointer none) (.pointer none)) (fun i hi=>by rcases i with _|_|_|_|_|_|_|_|i<;>first|rfl|(simp at hi;omega))
   rw[s1,hw2] at this
   exact this
  have HB2:=Lib.hid (below_step hb2 HB1.out)
  have HS2:=Lib.hid hs2
  have HM2:=Lib.hid hm2
  have HC2:=Lib.hid hc2
  clear hw2 hb2 hs2 hm2 hc2 hmm
  refine(HSU.out _).mono ?_
  rintro e w3 ⟨rfl,hb3⟩
  go_wp2_with fail
  go_ret2
  exact OpPost.no HX.out (below_step hb3 HB2.out)
 have t2:=str_eq hTe
 have HTE:=Lib.hid hTe
 clear hTe
 by_cases hmo:most<1
 ·rw[if_pos (.inr hmo)] at hop
  have HX:=Lib.hid hop
  have t3:(most:Int)<1:=by omega
  clear hop hmo hmost
  go_enter Tryz.func29,Tryz.ntmps29
  go_wp2_with fail
  refine HR0.out.mono ?_
  rintro e w1 ⟨rfl,rfl⟩
  go_wp2_with fail
  refine HL.out.mono ?_
  rintro e w1 ⟨rfl,rfl⟩
  go_wp2_with fail
  rw[HI.out]
  refine HR1.out.mono ?_
  rintro e w1 ⟨rfl,rfl⟩
  go_wp2_with fail
  refine(HBE.out _).mono ?_
  rintro e w1 ⟨rfl,hdr⟩
  have HB1:=Lib.hid hdr.below
  clear hdr
  go_wp2_with fail
  refine(HG1.out _).mono ?_
  rintro e w2 ⟨rfl,rfl⟩
  go_wp2_with fail
  refine(HG2.out _).mono ?_
  rintro e w2 ⟨rfl,rfl⟩
  go_wp2_with fail
  refine(HMP.out _ HB1.out).mono ?_
  rintro e w2 ⟨rfl,rfl⟩
  go_wp2_with fail
  first|refine wp_name (fun w2 hw2=> ?_)|refine calls_name (fun w2 hw2=> ?_)
  have hb2:Below w1.heap.size w1 w2:=by rw[←hw2];exact below_alloc (below_alloc (Below.refl _ _))
  have hs2:w2.heap.size=w1.heap.size+1+1:=by rw[←hw2];simp
  have hm2:MapN w2 Tryz.prog 3 w1.heap.size 0 (Value.int .i64) Value.string (fun _=>none):=by rw[←hw2];exact(MapN.made w1 Tryz.prog 3 (Value.int .i64) Value.string).alloc _
  have hc2:w2.rowIs (w1.heap.size+1) 132 8 (bootF d w1.heap.size size most gen (.pointer none) (.pointer none)):=by
   have s1:(w1.alloc (.map #[] 0)).heap.size=w1.heap.size+1:=by simp
   have:=World.rowIs_alloc (w1.alloc (.map #[] 0)) #[.pointer (some ⟨d,0,none⟩), .pointer none, .int .i64 size, .int .u64 gen, .int .i64 most, .pointer none, .map (some w1.heap.size), .bool false] 132 (bootF d w1.heap.size size most gen (.pointer none) (.pointer none)) (fun i hi=>by rcases i with _|_|_|_|_|_|_|_|i<;>first|rfl|(simp at hi;omega))
   rw[s1,hw2] at this
   exact this
  have HB2:=Lib.hid (below_step hb2 HB1.out)
  have HS2:=Lib.hid hs2
  have HM2:=Lib.hid hm2
  have HC2:=Lib.hid hc2
  clear hw2 hb2 hs2 hm2 hc2 hmm
  refine(HSU.out _).mono ?_
  rintro e w3 ⟨rfl,hb3⟩
  have HC3:=Lib.hid (rowIs_touch HC2.out (Touch.of_below (F:=[]) hb3) (by simp))
  have HB3:=Lib.hid (below_step hb3 HB2.out)
  have HS3:=Lib.hid (show w1.heap.size+1+1≤w3.heap.size by have:=hb3.size;have:=HS2.out;omega)
  have T3:=Lib.hid (Touch.of_below (F:=[w1.heap.size+1]) hb3)
  have bl3:=World.rowIs.lt HC3.out
  have c4:w3.cell? ⟨w1.heap.size+1,4,none⟩=some (.int .i64 most):=World.rowIs.cell HC3.out (i:=4) (by decide)
  clear hb3
  go_wp2_with fail
  go_ret2
  exact OpPost.no HX.out HB3.out
 rw[if_neg (by rintro (h|h);exact h HTE.out;exact hmo h)] at hop
 have t3: ¬(most:Int)<1:=by omega
 obtain⟨hs10,hgeo⟩:10≤size∧2+size+most*8≤m.sure.length:=by
  unfold mostI at hmost
  by_cases e:(size:Int)<10∨(m.sure.length:Int)<size
  ·rw[if_pos e] at hmost;omega
  ·rw[if_neg e,Int.toNat_natCast] at hmost;omega
 have HX:=Lib.hid hop
 have HPN:=Lib.hid (fun W=>new_pool room W (by omega) r2)
 have HG:=Lib.hid (And.intro hs10 hgeo)
 have hm64:most≤65536:=by omega
 have HM1:=Lib.hid (show 1≤most by omega)
 clear hop hmost hmo
 go_enter Tryz.func29,Tryz.ntmps29
 go_wp2_with fail
 refine HR0.out.mono ?_
 rintro e w1 ⟨rfl,rfl⟩
 go_wp2_with fail
 refine HL.out.mono ?_
 rintro e w1 ⟨rfl,rfl⟩
 go_wp2_with fail
 rw[HI.out]
 refine HR1.out.mono ?_
 rintro e w1 ⟨rfl,rfl⟩
 go_wp2_with fail
 refine(HBE.out _).mono ?_
 rintro e w1 ⟨rfl,hdr⟩
 have HB1:=Lib.hid hdr.below
 clear hdr
 go_wp2_with fail
 refine(HG1.out _).mono ?_
 rintro e w2 ⟨rfl,rfl⟩
 go_wp2_with fail
 refine(HG2.out _).mono ?_
 rintro e w2 ⟨rfl,rfl⟩
 go_wp2_with fail
 refine(HMP.out _ HB1.out).mono ?_
 rintro e w2 ⟨rfl,rfl⟩
 go_wp2_with fail
 first|refine wp_name (fun w2 hw2=> ?_)|refine calls_name (fun w2 hw2=> ?_)
 have hb2:Below w1.heap.size w1 w2:=by rw[←hw2];exact below_alloc (below_alloc (Below.refl _ _))
 have hs2:w2.heap.size=w1.heap.size+1+1:=by rw[←hw2];simp
 have hm2:MapN w2 Tryz.prog 3 w1.heap.size 0 (Value.int .i64) Value.string (fun _=>none):=by rw[←hw2];exact(MapN.made w1 Tryz.prog 3 (Value.int .i64) Value.string).alloc _
 have hc2:w2.rowIs (w1.heap.size+1) 132 8 (bootF d w1.heap.size size most gen (.pointer none) (.pointer none)):=by
  have s1:(w1.alloc (.map #[] 0)).heap.size=w1.heap.size+1:=by simp
  have:=World.rowIs_alloc (w1.alloc (.map #[] 0)) #[.pointer (some ⟨d,0,none⟩), .pointer none, .int .i64 size, .int .u64 gen, .int .i64 most, .pointer none, .map (some w1.heap.size), .bool false] 132 (bootF d w1.heap.size size most gen (.pointer none) (.pointer none)) (fun i hi=>by rcases i with _|_|_|_|_|_|_|_|i<;>first|rfl|(simp at hi;omega))
  rw[s1,hw2] at this
  exact this
 have HB2:=Lib.hid (below_step hb2 HB1.out)
 have HS2:=Lib.hid hs2
 have HM2:=Lib.hid hm2
 have HC2:=Lib.hid hc2
 clear hw2 hb2 hs2 hm2 hc2 hmm
 refine(HSU.out _).mono ?_
 rintro e w3 ⟨rfl,hb3⟩
 have HC3:=Lib.hid (rowIs_touch HC2.out (Touch.of_below (F:=[]) hb3) (by simp))
 have HB3:=Lib.hid (below_step hb3 HB2.out)
 have HS3:=Lib.hid (show w1.heap.size+1+1≤w3.heap.size by have:=hb3.size;have:=HS2.out;omega)
 have T3:=Lib.hid (Touch.of_below (F:=[w1.heap.size+1]) hb3)
 have bl3:=World.rowIs.lt HC3.out
 have c4:w3.cell? ⟨w1.heap.size+1,4,none⟩=some (.int .i64 most):=World.rowIs.cell HC3.out (i:=4) (by decide)
 clear hb3
 go_wp2_with fail
 refine(HPN.out _).mono ?_
 rintro e w4 ⟨rfl,hp4,hb4⟩
 have hc4:=rowIs_touch HC3.out (Touch.of_below (F:=[]) hb4) (by simp)
 have c2:w4.cell? ⟨w1.heap.size+1,2,none⟩=some (.int .i64 size):=World.rowIs.cell hc4 (i:=2) (by decide)
 have c5:w4.cell? ⟨w1.heap.size+1,5,none⟩=some (.pointer none):=World.rowIs.cell hc4 (i:=5) (by decide)
 have fz:=World.rowIs.frozen hc4 5
 have bl4:=World.rowIs.lt hc4
 have HC4:=Lib.hid hc4
 have HP4:=Lib.hid hp4
 have HB4:=Lib.hid (below_step hb4 HB3.out)
 have HS4:=Lib.hid (show w3.heap.size+1<w4.heap.size from hp4.lt _ (by simp))
 have T4:=Lib.hid (T3.out.trans (Touch.of_below (F:=[w1.heap.size+1]) hb4) (fun x hx=> .inl hx))
 clear hp4 hb4 hc4 c4 bl3
 go_wp2_with fail
 first|refine wp_name (fun w5 hw5=> ?_)|refine calls_name (fun w5 hw5=> ?_)
 have hc5:w5.rowIs (w1.heap.size+1) 132 8 (bootF d w1.heap.size size most gen (.pointer none) (.pointer (some ⟨w3.heap.size+1,0,none⟩))):=by rw[←hw5];exact bootF_pool HC4.out
 have t5:Touch [w1.heap.size+1] w4 w5:=by rw[←hw5];exact(Touch.refl _ _).setCell (.inl (by simp)) _
 have s5:w5.heap.size=w4.heap.size:=by rw[←hw5];simp
 have hb5:Below w.heap.size w w5:=HB4.out.trans (t5.below (by have:=HB4.out.size;omega) (fun q hq=>by simp at hq;have:=HB1.out.size;omega))
 have HP5:=Lib.hid (HP4.out.touch t5 (fun x hx hm=>by simp at hx hm;have:=HS3.out;omega))
 have HB5:=Lib.hid hb5
 have HC5:=Lib.hid hc5
 have HS5:=Lib.hid s5
 have T5:=Lib.hid (T4.out.trans t5 (fun x hx=> .inl hx))
 have HOP:=Lib.hid (open_up (H.out.below hb5) hd hk 2 size first (by have:=HG.out.1;omega) (by have:=HG.out.2;omega) hf0.1 hf0.2)
 clear hw5 hc5 t5 s5 hb5 c2 c5 fz bl4
 refine HOP.out.mono ?_
 rintro e w6 ⟨v,rfl,hlog,htx,hb6⟩
 obtain⟨a,c,rfl⟩:=txRow_slice htx
 have hc6:=rowIs_touch HC5.out (Touch.of_below (F:=[]) hb6) (by simp)
 have c1:w6.cell? ⟨w1.heap.size+1,1,none⟩=some (.pointer none):=World.rowIs.cell hc6 (i:=1) (by decide)
 have fz:=World.rowIs.frozen hc6 1
 have bl6:=World.rowIs.lt hc6
 have HC6:=Lib.hid hc6
 have HP6:=Lib.hid (HP5.out.touch (Touch.of_below (F:=[]) hb6) (by simp))
 have HB6:=Lib.hid (HB5.out.trans (hb6.mono HB5.out.size))
 have HS6:=Lib.hid (show w5.heap.size<w6.heap.size from hlog.lt)
 have T6:=Lib.hid (T5.out.trans (Touch.of_below (F:=[w1.heap.size+1]) hb6) (fun x hx=> .inl hx))
 have hmd:=stF_len (m:=m) (frm:=2) (size:=size) (size+1) 0 first
 have hfw:=stF_few (m:=m) (frm:=2) (size:=size) (size+1) 0 first
 have hhot:openHot m first gen size most room=match hotAll most (stM m 2 size first).1 with
  |none=>(19,none)
  |some hot=>if soundP (bootM m first gen size most room hot)=0 then(0,some (bootM m first gen size most room hot)) else(soundP (bootM m first gen size most room hot),none):=rfl
 obtain⟨ts,hts⟩: ∃ts,ts=(stM m 2 size first).1:=⟨_,rfl⟩
 rw[show(stF m 2 size (size+1) 0 first).1=ts from hts.symm] at hmd hfw
 rw[←hts] at htx hhot
 rw[←hts]
 have htl:ts.length≤1000000:=by have:=HG.out.2;omega
 have HLOG:=Lib.hid hlog
 have HTX:=Lib.hid htx
 have HHOT:=Lib.hid hhot
 have HFW:=Lib.hid hfw
 clear hlog htx hb6 hc6 hmd hfw hts hhot HC5 HP5 HOP
 go_wp2_with fail
 refine wp_name (fun w7 hw7=> ?_)
 have hc7:w7.rowIs (w1.heap.size+1) 132 8 (bootF d w1.heap.size size most gen (.pointer (some ⟨w5.heap.size,0,none⟩)) (.pointer (some ⟨w3.heap.size+1,0,none⟩))):=by rw[←hw7];exact bootF_log HC6.out
 have t7:Touch [w1.heap.size+1] w6 w7:=by rw[←hw7];exact(Touch.refl _ _).setCell (.inl (by simp)) _
 have s7:w7.heap.size=w6.heap.size:=by rw[←hw7];simp
 have hb1s:=HB1.out.size
 have HB7:=Lib.hid (HB6.out.trans (t7.below (by have:=HB6.out.size;omega) (fun q hq=>by simp at hq;omega)))
 have HP7:=Lib.hid (HP6.out.touch t7 (fun x hx hm=>by simp at hx hm;have:=HS3.out;omega))
 have HL7:=Lib.hid (HLOG.out.touch t7 (by simp;have:=HS3.out;have:=HS4.out;have:=HS5.out;omega))
 have HTX7:=Lib.hid (HTX.out.touch t7 (fun x hx=>by simp at hx;have:=HS3.out;have:=HS4.out;have:=HS5.out;omega))
 have HM7:=Lib.hid (HM2.out.touch (T6.out.trans t7 (fun x hx=> .inl hx)) (by simp))
 have HC7:=Lib.hid hc7
 have HS7:=Lib.hid (show w5.heap.size<w7.heap.size by have:=HS6.out;omega)
 clear hw7 hc7 t7 s7 c1 fz bl6 hb1s HP6 HC6 HLOG HTX HM2 HP4 HC4 HC3 HC2
 go_loopw [132] (fun v132 wr=>OpLoop w7 w1.heap.size most ts v132 wr) (fun v132 _=>ts.length - (intOf v132).toNat)
 case atStart=>exact⟨⟨0,0,fun _=>none,Nat.zero_le _,rfl,rfl,(cntI_none 100000).symm,HM7.out,Touch.refl _ _⟩⟩
 case round=>
  obtain⟨⟨j,n,f,hj,rfl,hf,hn,hm,ht⟩⟩:=hrel
  have HF:=Lib.hid hf
  have HN:=Lib.hid hn
  have HM:=Lib.hid hm
  have HT:=Lib.hid ht
  have hba:w1.heap.size<w5.heap.size+1:=by have:=HS3.out;have:=HS4.out;have:=HS5.out;omega
  have HTR:=Lib.hid (HTX7.out.touch ht (fun x hx=>by simp at hx;omega))
  have HCR:=Lib.hid (rowIs_touch HC7.out ht (by simp))
  clear hf hn hm ht
  by_cases hlt:j<ts.length
  ·obtain⟨y,hy⟩: ∃y,ts[j]? =some y:=⟨ts[j],List.getElem?_eq_getElem hlt⟩
   obtain⟨g,p,kk,ha,gl,d1,d2,hs⟩:=HTR.out.get rfl hy
   subst ha
   obtain⟨qn,pg⟩:=y
   simp only at d1 d2 hs
   have hpl:pg.length≤64:=HFW.out _ (List.mem_of_getElem? hy)
   have i1:(0:Int)≤j:=by omega
   have i2:(j:Int)<ts.length:=by omega
   have HY:=Lib.hid hy
   have HSS:=Lib.hid hs
   clear hs hy
   obtain⟨wo,rfl⟩: ∃wo:World,wo=wr:=⟨_,rfl⟩
   go_wp2_with fail
   refine wp_name (fun wi hwi=> ?_)
   have hbi:Below wo.heap.size wo wi:=by rw[←hwi];exact below_alloc (Below.refl _ _)
   have HBI:=Lib.hid hbi
   have hpa:txAll (ts.take (j+1))=txAll (ts.take j)++pg:=txAll_take HY.out
   have HPA:=Lib.hid hpa
   have HSW:=Lib.hid (show w7.heap.size≤wo.heap.size from HT.out.size)
   have HLT:=Lib.hid hlt
   clear hwi hbi hpa gl d1 d2 i1 i2 hlt
   go_loopw [139] (fun v139 wr=>OpIn wi w1.heap.size most (txAll (ts.take j)) pg v139 wr) (fun v139 _=>pg.length - (intOf v139).toNat)
   case atStart=>exact⟨⟨0,n,f,Nat.zero_le _,rfl,by rw[List.take_zero,List.append_nil];exact HF.out,HN.out,HM.out.below HBI.out,Touch.refl _ _⟩⟩
   case round=>
    obtain⟨⟨i,n2,f2,hi,rfl,hf2,hn2,hm2,ht2⟩⟩:=hrel
    have htw:Touch [w1.heap.size] w7 wr:=(HT.out.trans (Touch.of_below (F:=[w1.heap.size]) HBI.out) (fun x hx=> .inl hx)).trans ht2 (fun x hx=> .inl hx)
    have HTR2:=Lib.hid (HTX7.out.touch htw (fun x hx=>by simp at hx;omega))
    have HCR2:=Lib.hid (rowIs_touch HC7.out htw (by simp))
    have HTW:=Lib.hid htw
    have HF2:=Lib.hid hf2
    have HN2:=Lib.hid hn2
    have HM2:=Lib.hid hm2
    have HT2:=Lib.hid ht2
    clear hf2 hn2 hm2 ht2 htw
    by_cases hlti:i<pg.length
    ·obtain⟨s,hs⟩: ∃s,pg[i]? =some s:=⟨pg[i],List.getElem?_eq_getElem hlti⟩
     obtain⟨gp,rfl,hgp1,hgp2,hgc⟩:=HSS.out i s hs
     have hgn:gp∉ [w1.heap.size]:=by simp;omega
     have hbs:wo.heap.size≤wi.heap.size:=HBI.out.size
     have gc:wr.cell? ⟨gp,i,none⟩=some (.string s):=(HT2.out.cell (p:=⟨gp,i,none⟩) (by show gp<_;omega) hgn).trans ((HBI.out.cell (p:=⟨gp,i,none⟩) hgp2).trans hgc)
     have gl:gp<wr.heap.size:=by have:=HT2.out.size;omega
     have i1:(0:Int)≤i:=by omega
     have i2:(i:Int)<pg.length:=by omega
     have HNU:=Lib.hid (fun W=>number_any s W)
     have hpn:=pgN_bd s
     have hpn2:pgN s≤4294967295:=by
      unfold pgN
      split
      ·have:=(cut_bd4 s 5).2;omega
      ·omega
     have HS:=Lib.hid hs
     have HBW:=Lib.hid (HB7.out.trans (HTW.out.below (B:=w.heap.size) (by have:=HB7.out.size;omega) (fun q hq=>by simp at hq;have:=HB1.out.size;omega)))
     clear hgc hgp1 hgp2 hgn hbs hs hlti
     by_cases he:pgE s=0
     rotate_left
     ·have t5:(pgE s != 0)=true:=by simpa using he
      have hbad: ¬(pgE s=0∧pgN s<most):=fun h=>he h.1
      have hno:=hotAll_bad HY.out HS.out HF2.out hbad
      have hh:=HHOT.out
      rw[hno] at hh
      have HXX:=Lib.hid (HX.out.trans hh)
      clear hno hh
      go_wp2_with fail
      refine(HNU.out _).mono ?_
      rintro e w8 ⟨rfl,hb8⟩
      have HC8:=Lib.hid (rowIs_touch HCR2.out (Touch.of_below (F:=[]) hb8) (by simp))
      have c4:w8.cell? ⟨w1.heap.size+1,4,none⟩=some (.int .i64 most):=World.rowIs.cell HC8.out (i:=4) (by decide)
      have c6:w8.cell? ⟨w1.heap.size+1,6,none⟩=some (.map (some w1.heap.size)):=World.rowIs.cell HC8.out (i:=6) (by decide)
      have bl:=World.rowIs.lt HC8.out
      have HB8:=Lib.hid (below_step hb8 HBW.out)
      have HM8:=Lib.hid (HM2.out.below hb8)
      have HT8:=Lib.hid (HT2.out.trans (Touch.of_below (F:=[w1.heap.size]) hb8) (fun x hx=> .inl hx))
      clear hb8 gc gl
      go_wp2_with fail
      go_ret2
      exact OpPost.no HXX.out HB8.out
     have t5:(pgE s != 0)=false:=by simp[he]
     by_cases hno:pgN s<most
     rotate_left
     ·have t6:(most:Int)≤pgN s:=by omega
      have hbad: ¬(pgE s=0∧pgN s<most):=fun h=>hno h.2
      have hno:=hotAll_bad HY.out HS.out HF2.out hbad
      have hh:=HHOT.out
      rw[hno] at hh
      have HXX:=Lib.hid (HX.out.trans hh)
      clear hno hh
      go_wp2_with fail
      refine(HNU.out _).mono ?_
      rintro e w8 ⟨rfl,hb8⟩
      have HC8:=Lib.hid (rowIs_touch HCR2.out (Touch.of_below (F:=[]) hb8) (by simp))
      have c4:w8.cell? ⟨w1.heap.size+1,4,none⟩=some (.int .i64 most):=World.rowIs.cell HC8.out (i:=4) (by decide)
      have c6:w8.cell? ⟨w1.heap.size+1,6,none⟩=some (.map (some w1.heap.size)):=World.rowIs.cell HC8.out (i:=6) (by decide)
      have bl:=World.rowIs.lt HC8.out
      have HB8:=Lib.hid (below_step hb8 HBW.out)
      have HM8:=Lib.hid (HM2.out.below hb8)
      have HT8:=Lib.hid (HT2.out.trans (Touch.of_below (F:=[w1.heap.size]) hb8) (fun x hx=> .inl hx))
      clear hb8 gc gl
      go_wp2_with fail
      go_ret2
      exact OpPost.no HXX.out HB8.out
     have t6: ¬(most:Int)≤pgN s:=by omega
     have hnx:=hotAdd_next HS.out HF2.out ⟨he,hno⟩
     have hcs:=cntI_set (p:=fun k=>(updT f2 (pgN s) s k).isSome) (q:=fun k=>(f2 k).isSome) (x:=(pgN s).toNat) (fun k hk=>by
      unfold updT
      rw[if_neg (by intro e;apply hk;rw[e];omega)]) 100000 (by omega)
     rw[show(((pgN s).toNat:Nat):Int)=pgN s by omega] at hcs
     have hnew:(updT f2 (pgN s) s (pgN s)).isSome=true:=by unfold updT;rw[if_pos rfl];rfl
     rw[hnew] at hcs
     have hcap:n2<maxLen:=by rw[HN2.out];have:=cntI_leN (fun k=>(f2 k).isSome) 100000;unfold maxLen;omega
     have HNX:=Lib.hid hnx
     have HCS:=Lib.hid hcs
     have hkey:=keyP (no:=pgN s) (by omega) (by omega)
     have HK:=Lib.hid hkey
     clear hnx hcs hnew hno he hkey
     go_wp2_with fail
     refine(HNU.out _).mono ?_
     rintro e w8 ⟨rfl,hb8⟩
     have HC8:=Lib.hid (rowIs_touch HCR2.out (Touch.of_below (F:=[]) hb8) (by simp))
     have c4:w8.cell? ⟨w1.heap.size+1,4,none⟩=some (.int .i64 most):=World.rowIs.cell HC8.out (i:=4) (by decide)
     have c6:w8.cell? ⟨w1.heap.size+1,6,none⟩=some (.map (some w1.heap.size)):=World.rowIs.cell HC8.out (i:=6) (by decide)
     have bl:=World.rowIs.lt HC8.out
     have HB8:=Lib.hid (below_step hb8 HBW.out)
     have HM8:=Lib.hid (HM2.out.below hb8)
     have HT8:=Lib.hid (HT2.out.trans (Touch.of_below (F:=[w1.heap.size]) hb8) (fun x hx=> .inl hx))
     clear hb8 gc gl
     go_wp2_with (at_mapUpdate;refine wpList_update_M _ rfl _ _ _ 130 rfl 3 9 Tryz.keyIntP Tryz.underlying130 w1.heap.size n2 (Value.int .i64) Value.string f2 HM8.out rfl hcap (pgN s) _ rfl HK.out (inj_I (pgN s)) s rfl ?_;intro w9 n9 hm9 hn9 ht9)
     have HN9:=Lib.hid (show n9=cntI (fun k=>(updT f2 (pgN s) s k).isSome) 100000 by have h1:=HCS.out;have h2:=HN2.out;simp only[if_true] at h1;omega)
     have HM9:=Lib.hid hm9
     have HT9:=Lib.hid (HT8.out.trans ht9 (fun q hq=> .inl hq))
     clear hm9 hn9 ht9 c4 c6 bl
     go_wp2_with fail
     go_roundw
     case rel=>exact⟨⟨i+1,n9,_,by omega,by go_num,HNX.out,HN9.out,HM9.out,HT9.out⟩⟩
     case measure=>simp[intOf];omega
    ·obtain rfl:pg.length=i:=by omega
     rw[List.take_length] at HF2
     go_wp2_with fail
     go_roundw
     case rel=>exact⟨⟨j+1,n2,f2,HLT.out,by go_num,by rw[HPA.out];exact HF2.out,HN2.out,HM2.out,HTW.out⟩⟩
     case measure=>have:=HLT.out;simp[intOf];omega
  ·obtain rfl:ts.length=j:=by omega
   rw[List.take_length] at HF
   have hh:=HHOT.out
   rw[show hotAll most ts=some f from HF.out] at hh
   simp only at hh
   obtain⟨M,hM⟩: ∃M,M=bootM m first gen size most room f:=⟨_,rfl⟩
   have hbw:=HT.out.below (B:=w.heap.size) (by have:=HB7.out.size;omega) (fun q hq=>by simp at hq;have:=HB1.out.size;omega)
   have h34:=HS4.out
   have h3:=HS3.out
   have h5:=HS5.out
   have h7:=HS7.out
   have h1:=HB1.out.size
   have hin:PgIn wr (w1.heap.size+1) d w5.heap.size (w3.heap.size+1) w1.heap.size F [w3.heap.size,w3.heap.size+1] 0 k M:=by
    rw[hM]
    have far: ∀x∈F,x<w.heap.size:=hFlt
    refine PgIn.boot HCR.out (H.out.below (HB7.out.trans hbw)) (HL7.out.touch HT.out (by simp;omega)) (HP7.out.touch HT.out (fun x hx hm=>by simp at hx hm;omega)) HM.out HN.out hk HG.out.2 (by have:=HG.out.1;omega) HM1.out r1 r2 g0 g1 (hotAdd_dom HF.out (fun i s h=>by cases h)) ⟨fun hm=>by have:=far _ hm;omega,by simp;omega,by omega,by omega⟩ ⟨fun hm=>by have:=far _ hm;omega,by simp;omega,by omega⟩ ⟨fun hm=>by have:=far _ hm;omega,by simp;omega⟩ (fun x hx hm=>by simp at hm;have:=far _ hx;omega)
   rw[←hM] at hh
   have HSN:=Lib.hid (sound_any hin (by omega))
   have HXX:=Lib.hid (HX.out.trans hh)
   have HBW:=Lib.hid (HB7.out.trans hbw)
   have HWS:=Lib.hid (show w.heap.size≤w1.heap.size∧w1.heap.size+1+1≤w3.heap.size∧w3.heap.size≤w5.heap.size by omega)
   clear hh hM hbw hin h34 h3 h5 h7 h1 hlt
   go_wp2_with fail
   refine HSN.out.mono ?_
   rintro e w8 ⟨rfl,FP',h8,t8,f8⟩
   have hws:=HWS.out
   have HB8:=Lib.hid (HBW.out.trans (t8.below (by have:=HBW.out.size;omega) (fun q hq=>by simp at hq;omega)))
   have HNP:=Lib.hid (show NewPg w w8 d F 2 k (.pointer (some ⟨w1.heap.size+1,0,none⟩)) M from⟨_,_,_,_,FP',rfl,h8.mono (by omega),by omega,by omega,by omega,fun x hx=>(f8 x hx).elim (fun h=>by simp at h;omega) (fun h=>by have:=HBW.out.size;omega)⟩)
   clear h8 t8 f8 hws
   by_cases hz:soundP M=0
   ·have hxx:=HXX.out
    rw[if_pos hz] at hxx
    have HXF:=Lib.hid hxx
    have t9:(soundP M != 0)=false:=by simp[hz]
    clear hxx
    go_wp2_with fail
    go_ret2
    exact OpPost.yes HXF.out HB8.out HNP.out
   ·have hxx:=HXX.out
    rw[if_neg hz] at hxx
    have HXF:=Lib.hid hxx
    have t9:(soundP M != 0)=true:=by simpa using hz
    clear hxx hz
    go_wp2_with fail
    go_ret2
    exact OpPost.no HXF.out HB8.out
end
end Go.Proofs.YtjgkegkinnlcoaaGreatDoor
namespace Go.Proofs.YtjgkegkinnlcoaaGreatDoor
open Go.RowKit
theorem cut_S (l:List UInt8) (a k:Nat):cut (S l) a k=(l.drop a).take k:=by unfold cut;rw[data_S]
theorem pgStr_list (kind no:Int) (room:ByteArray):(pgStr kind no room).data.toList=leB (crcV (pgBody kind no room)) 4++(leB kind 1++(leB no 4++(nul 7++(room.data.toList++nul (496 - room.size))))):=by
 unfold pgStr;rw[data_S];unfold pgBody;rw[data_S];simp only[List.append_assoc]
theorem cut_list (s:ByteArray) {a b c:List UInt8} (h:s.data.toList=a++(b++c)):cut s a.length b.length=b:=by
 unfold cut;rw[h,List.drop_left' rfl,List.take_left' rfl]
theorem pack_cut0 (kind no:Int) (room:ByteArray):cut (pgStr kind no room) 0 4=leB (crcV (pgBody kind no room)) 4:=by
 unfold cut
 rw[pgStr_list,List.drop_zero,List.take_left' (leB_length _ _)]
theorem pack_cut4 (kind no:Int) (room:ByteArray):cut (pgStr kind no room) 4 1=leB kind 1:=by
 have:=cut_list (pgStr kind no room) (pgStr_list kind no room)
 rwa [leB_length,leB_length] at this
theorem pack_cut5 (kind no:Int) (room:ByteArray):cut (pgStr kind no room) 5 4=leB no 4:=by
 have h:=pgStr_list kind no room
 rw[←List.append_assoc] at h
 have:=cut_list (pgStr kind no room) h
 rwa [List.length_append,leB_length,leB_length,leB_length] at this
theorem pack_cut9 (kind no:Int) (room:ByteArray):cut (pgStr kind no room) 9 7=nul 7:=by
 have h:=pgStr_list kind no room
 rw[←List.append_assoc, ←List.append_assoc] at h
 have:=cut_list (pgStr kind no room) h
 rwa [List.length_append,List.length_append,leB_length,leB_length,leB_length,nul_length] at this
theorem pack_room (kind no:Int) (room:ByteArray) (hr:room.size≤496):(pgStr kind no room).extract 16 512=S (room.data.toList++nul (496 - room.size)):=by
 have h:=pgStr_list kind no room
 rw[←List.append_assoc, ←List.append_assoc, ←List.append_assoc] at h
 rw[extract_cut]
 unfold cut
 rw[h,List.drop_left' (by simp only[List.length_append,leB_length,nul_length]),List.take_of_length_le]
 simp only[List.length_append,nul_length,data_length];omega
theorem pack_rest (kind no:Int) (room:ByteArray) (hr:room.size≤496):(pgStr kind no room).extract 4 512=pgBody kind no room:=by
 have h:=pgStr_list kind no room
 rw[extract_cut]
 unfold cut
 rw[h,List.drop_left' (leB_length _ _),List.take_of_length_le]
 ·unfold pgBody;simp only[List.append_assoc]
 ·simp only[List.length_append,nul_length,data_length,leB_length];omega
theorem leN_one (x:Int) (h0:0≤x) (h1:x≤255):leN (leB x 1)=x:=by rw[leN_leB 1 x h0];omega
theorem leN_four (x:Int) (h0:0≤x) (h1:x≤4294967295):leN (leB x 4)=x:=by rw[leN_leB 4 x h0];omega
theorem pack_E (kind no:Int) (room:ByteArray) (h:pgArg kind no=true) (hr:room.size≤496):pgE (pgStr kind no room)=0:=by
 obtain⟨h1,h2,h3,h4⟩:=pgArg_yes kind no h
 have hb:=crcV_bd (pgBody kind no room)
 refine pgE_ok (pgStr_size kind no room hr) ?_ ?_ ?_ (pack_cut9 _ _ _)
 ·rw[pack_cut0,pack_rest _ _ _ hr,leN_four _ hb.1 hb.2]
 ·rw[pack_cut4,leN_one _ (by omega) h2];omega
 ·rw[pack_cut5,leN_four _ h3 (by omega)];omega
theorem pack_K (kind no:Int) (room:ByteArray) (h:pgArg kind no=true) (hr:room.size≤496):pgK (pgStr kind no room)=kind:=by
 obtain⟨h1,h2,h3,h4⟩:=pgArg_yes kind no h
 unfold pgK;rw[if_pos (pack_E kind no room h hr),pack_cut4,leN_one _ (by omega) h2]
theorem pack_N (kind no:Int) (room:ByteArray) (h:pgArg kind no=true) (hr:room.size≤496):pgN (pgStr kind no room)=no:=by
 obtain⟨h1,h2,h3,h4⟩:=pgArg_yes kind no h
 unfold pgN;rw[if_pos (pack_E kind no room h hr),pack_cut5,leN_four _ h3 (by omega)]
theorem fillR_size {r:ByteArray} {n:Nat} (h:r.size≤n):(fillR r n).size=n:=by
 unfold fillR;rw[S_size,List.length_append,nul_length,data_length];omega
theorem fillR_full {r:ByteArray} {n:Nat} (h:r.size=n):fillR r n=r:=by
 unfold fillR;rw[h,Nat.sub_self];show S (r.data.toList++[])=r;rw[List.append_nil,S_data]
theorem un_pg (kind no:Int) (room:ByteArray) (h:pgArg kind no=true) (hr:room.size≤496):unE (pgStr kind no room) no=0∧unK (pgStr kind no room) no=kind∧unR (pgStr kind no room) no=fillR room 496:=by
 have h1:unE (pgStr kind no room) no=0:=by
  unfold unE
  rw[if_pos (pack_E _ _ _ h hr),if_pos (pack_N _ _ _ h hr)]
 refine⟨h1, ?_, ?_⟩
 ·unfold unK;rw[if_pos h1,pack_K _ _ _ h hr]
 ·unfold unR;rw[if_pos h1,pack_room _ _ _ hr];rfl
end Go.Proofs.YtjgkegkinnlcoaaGreatDoor
namespace Go.Proofs.YtjgkegkinnlcoaaGreatDoor
open Go.RowKit
theorem pgSecs_congr {m m':DM} {p i:Nat} (h: ∀j,j<1+9*(i+1)→secM m (p+j)=secM m' (p+j)):pgSecs m p i=pgSecs m' p i:=by
 unfold pgSecs
 apply List.map_congr_left
 intro k hk
 have hk:=List.mem_range.1 hk
 have:=h (1+i*9+k) (by omega)
 rwa [show p+(1+i*9+k)=p+1+i*9+k by omega] at this
theorem tx_congr {m m':DM} {p n:Nat} {q:Int} {left:Nat} (hn:txN m p=(n:Int)) (h: ∀j,j<1+9*n→secM m (p+j)=secM m' (p+j)):txOk m' p q left=txOk m p q left∧txPages m' p n=txPages m p n∧txN m' p=(n:Int):=by
 have h0:secM m p=secM m' p:=h 0 (by omega)
 have e1:txN m' p=txN m p:=by unfold txN;rw[h0]
 have e2:txHead m' p q left=txHead m p q left:=by unfold txHead;rw[e1,h0]
 have e3: ∀i,i<n→pgSecs m' p i=pgSecs m p i:=fun i hi=>(pgSecs_congr (fun j hj=>h j (by omega))).symm
 refine⟨?_, ?_,by rw[e1,hn]⟩
 ·unfold txOk
  rw[e2,e1,hn,Int.toNat_natCast]
  congr 1
  rw[Bool.eq_iff_iff,List.all_eq_true,List.all_eq_true]
  constructor<;>intro hh i hi
  ·rw[←e3 i (List.mem_range.1 hi)];exact hh i hi
  ·rw[e3 i (List.mem_range.1 hi)];exact hh i hi
 ·unfold txPages
  apply List.map_congr_left
  intro i hi
  rw[e3 i (List.mem_range.1 hi)]
inductive Chain (m:DM) (frm size:Nat):Nat→Int→List TxD→Nat→Int→Prop
 |nil (a:Nat) (q:Int):Chain m frm size a q [] a q
 |cons {a n e:Nat} {q q':Int} {ts:List TxD} (h1:a<size) (h2:txOk m (frm+a) q (size - a)=true) (h3:txN m (frm+a)=(n:Int)) (h4:Chain m frm size (a+1+9*n) ((q+1) % 18446744073709551616) ts e q'):Chain m frm size a q ((q,txPages m (frm+a) n)::ts) e q'
section
variable {m m':DM} {frm size a e:Nat} {q q':Int} {ts:List TxD}
theorem stF_of_chain (h:Chain m frm size a q ts e q') (he: ¬(e<size∧txOk m (frm+e) q' (size - e)=true)): ∀f,size<a+f→stF m frm size f a q=(ts,e):=by
 induction h with
 |nil a q=>
  intro f hf
  cases f with
  |zero=>rfl
  |succ f=>exact stF_end he
 |cons h1 h2 h3 _ ih=>
  intro f hf
  cases f with
  |zero=>omega
  |succ f=>rw[stF_step h1 h2 h3,ih he f (by omega)]
theorem Chain.le (h:Chain m frm size a q ts e q'):a≤e:=by
 induction h with
 |nil a q=>exact Nat.le_refl _
 |cons h1 h2 h3 _ ih=>omega
theorem Chain.congr (h:Chain m frm size a q ts e q') (hs: ∀j,a≤j→j<e→secM m (frm+j)=secM m' (frm+j)):Chain m' frm size a q ts e q':=by
 induction h with
 |nil a q=>exact .nil a q
 | @cons a n e q q' ts h1 h2 h3 h4 ih=>
  have hle:=h4.le
  obtain⟨e1,e2,e3⟩:=tx_congr (m':=m') (q:=q) (left:=size - a) h3 (fun j hj=>by have:=hs (a+j) (by omega) (by omega);rwa [←Nat.add_assoc] at this)
  rw[←e2]
  exact .cons h1 (by rw[e1];exact h2) e3 (ih (fun j hj1 hj2=>hs j (by omega) hj2))
theorem Chain.snoc {n:Nat} (h:Chain m frm size a q ts e q') (h1:e<size) (h2:txOk m (frm+e) q' (size - e)=true) (h3:txN m (frm+e)=(n:Int)):Chain m frm size a q (ts++[(q',txPages m (frm+e) n)]) (e+1+9*n) ((q'+1) % 18446744073709551616):=by
 induction h with
 |nil a q=>exact .cons h1 h2 h3 (.nil _ _)
 |cons g1 g2 g3 _ ih=>exact .cons g1 g2 g3 (ih h1 h2 h3)
theorem Chain.num (h:Chain m frm size a q ts e q'):q' % 18446744073709551616=(q+ts.length) % 18446744073709551616:=by
 induction h with
 |nil a q=>simp
 |cons h1 h2 h3 _ ih=>
  rw[ih,List.length_cons]
  omega
end
def Calm (m:DM) (frm size:Nat) (nx:Int):Prop:= ∀j,j<size→ ∀(q:Int) left,nx≤q→txHead m (frm+j) q left=false
theorem Calm.mono {m:DM} {frm size:Nat} {nx ny:Int} (h:Calm m frm size nx) (hn:nx≤ny):Calm m frm size ny:=fun j hj q left hq=>h j hj q left (by omega)
theorem textM_two (n:Int):(textM n).data.toList.getD 2 0=1:=by
 unfold textM
 rw[data_S,List.append_assoc,List.getD_eq_getElem?_getD,List.getElem?_append_right (by rw[leB_length];omega),leB_length]
 rfl
theorem mT_two (s:ByteArray) (h:mOk s=true):(mT s).data.toList.getD 2 0=s.data.toList.getD 10 0:=by
 unfold mT
 rw[if_pos h,extract_cut,data_S]
 unfold cut
 rw[List.getD_eq_getElem?_getD,List.getElem?_take_of_lt (by omega),List.getElem?_drop,List.getD_eq_getElem?_getD]
theorem head_ten {m:DM} {p left:Nat} {q:Int} (h:(secM m p).data.toList.getD 10 0=0):txHead m p q left=false:=by
 refine txHead_no ?_
 rintro ⟨h1,h2,h3,h4,h5,h6⟩
 have:=mT_two (secM m p) h1
 rw[h5,textM_two,h] at this
 exact absurd this (by decide)
theorem mT_mk {n:Int} {t:ByteArray} (h:t.size=48):mT (mkStr n t)=t:=by
 rw[mkStr_T n t (by omega),h]
 show S (t.data.toList++[])=t
 rw[List.append_nil,S_data]
end Go.Proofs.YtjgkegkinnlcoaaGreatDoor
namespace Go.Proofs.YtjgkegkinnlcoaaGreatDoor
open Go.RowKit
theorem up_putN {x:Int × DM} {N a:Nat} {s:ByteArray} (h0:x.1=0) (h:UpM x.2 N) (hs:s.size=512): ∀n,n≤8→a+n≤N→(putN x a s n).1=0∧UpM (putN x a s n).2 N
 |0,_,_=>⟨h0,h⟩
 |n+1,hn,ha=>by
  obtain⟨i1,i2⟩:=up_putN (a:=a) h0 h hs n (by omega) (by omega)
  rw[putN_succ]
  exact i2.stepW i1 (a+n) (s.extract (n*64) ((n+1)*64)) (by omega) (by rw[ByteArray.size_extract];omega)
theorem up_fmtN {m:DM} {N:Nat} (h:UpM m N): ∀n,n≤N→(fmtN (0,m) n).1=0∧UpM (fmtN (0,m) n).2 N
 |0,_=>⟨rfl,h⟩
 |n+1,hn=>by
  obtain⟨i1,i2⟩:=up_fmtN h n (by omega)
  rw[fmtN_succ]
  exact i2.stepW i1 n _ (by omega) (by rw[S_size,nul_length])
theorem fmtN_same {x:Int × DM}: ∀ {n:Nat},(fmtN x n).1=0→ ∀k,k<n→secM (fmtN x n).2 k=S (nul 64)
 |0,_,k,hk=>absurd hk (by omega)
 |n+1,h,k,hk=>by
  rw[fmtN_succ] at h ⊢
  by_cases e:k=n
  ·subst e;exact stepW_same h
  ·rw[stepW_other _ (by omega)]
   exact fmtN_same (stepW_zero h) k (by omega)
structure LogIs (M:PM) (N:Nat) (G:Int) (first:Int) (ts:List TxD):Prop where
 up:UpM M.m N
 wait:M.m.wait=[]
 geo:M.most=mostI N M.size
 most1:1≤M.most
 frm:M.l.frm=2
 lsize:M.l.size=M.size
 dead:M.dead=false
 ldead:M.l.dead=false
 chain:Chain M.m 2 M.size 0 first ts M.l.at_ M.l.next
 lat:M.l.at_≤M.size
 calm:Calm M.m 2 M.size M.l.next
 hot:hotAll M.most ts=some M.hot
 first0:0≤first
 first1:first≤G
 next0:0≤M.l.next
 next1:M.l.next≤G
 mark:secM M.m (M.gen % 2).toNat=mkStr M.gen (superT first M.size)
 other:mOk (secM M.m (1 - (M.gen % 2).toNat))=true→mN (secM M.m (1 - (M.gen % 2).toNat))<M.gen
 gen1:1≤M.gen
 gen2:M.gen≤G
 small:G≤4611686018427387904
theorem mostI_geo {N size:Nat} (h:1≤mostI N size):10≤size∧2+size+mostI N size*8≤N:=by
 unfold mostI at h ⊢
 by_cases e:(size:Int)<10∨(N:Int)<size
 ·rw[if_pos e] at h;omega
 ·rw[if_neg e,Int.toNat_natCast] at h ⊢;omega
theorem superT_first {first:Int} {size:Nat} (h0:0≤first) (h1:first≤18446744073709551615):leN (cut (superT first size) 0 8)=first:=by
 have:cut (superT first size) 0 8=leB first 8:=by
  unfold superT
  rw[cut_S,List.drop_zero,List.take_left' (leB_length _ _)]
 rw[this,leN_leB8 _ h0 h1]
theorem superT_log {first:Int} {size:Nat} (h:size≤4294967295):leN (cut (superT first size) 8 4)=size:=by
 have:cut (superT first size) 8 4=leB size 4:=by
  unfold superT
  rw[cut_S,List.drop_left' (leB_length _ _),List.take_left' (leB_length _ _)]
 rw[this,leN_leB 4 _ (by omega)]
 omega
theorem LogIs.opens {M:PM} {N:Nat} {G first:Int} {ts:List TxD} (h:LogIs M N G first ts) (hN:N≤65536) (room:Nat) (hs:soundP { abortP M with room:=room }=0):openP M.m room=(0,some { abortP M with room:=room }):=by
 obtain⟨hs10,hgeo⟩:=mostI_geo (N:=N) (size:=M.size) (by rw[←h.geo];exact h.most1)
 have hb:bestW (secM M.m 0) (secM M.m 1)=0∨bestW (secM M.m 0) (secM M.m 1)=1:=by
  have hm:=h.mark
  have ho:=h.other
  have h1:=h.gen1
  have h2:=h.gen2
  have h3:=h.small
  have hz:=superT_size first M.size
  unfold bestW
  rcases(show M.gen % 2=0∨M.gen % 2=1 by omega) with e|e
  ·rw[e] at hm ho
   have e0:secM M.m 0=mkStr M.gen (superT first M.size):=hm
   have ho:mOk (secM M.m 1)=true→mN (secM M.m 1)<M.gen:=ho
   left
   rw[e0,mkStr_Ok _ _ (by omega),mkStr_N _ _ (by omega) (by omega) (by omega)]
   rw[if_pos]
   cases e1:mOk (secM M.m 1)
   ·rfl
   ·have:=ho e1
    simp
    omega
  ·rw[e] at hm
   have e1:secM M.m 1=mkStr M.gen (superT first M.size):=hm
   rw[e1,mkStr_Ok _ _ (by omega),if_pos rfl]
   split
   ·left;rfl
   ·right;rfl
 have hbN:bestN (secM M.m 0) (secM M.m 1)=M.gen∧bestT (secM M.m 0) (secM M.m 1)=superT first M.size:=by
  have hm:=h.mark
  have ho:=h.other
  have h1:=h.gen1
  have h2:=h.gen2
  have h3:=h.small
  have hz:=superT_size first M.size
  unfold bestN bestT
  rcases(show M.gen % 2=0∨M.gen % 2=1 by omega) with e|e
  ·rw[e] at hm ho
   have e0:secM M.m 0=mkStr M.gen (superT first M.size):=hm
   have ho:mOk (secM M.m 1)=true→mN (secM M.m 1)<M.gen:=ho
   have c:(mOk (secM M.m 0)&&(!mOk (secM M.m 1)||decide (mN (secM M.m 1)≤mN (secM M.m 0))))=true:=by
    rw[e0,mkStr_Ok _ _ (by omega),mkStr_N _ _ (by omega) (by omega) (by omega)]
    cases e1:mOk (secM M.m 1)
    ·rfl
    ·have:=ho e1
     simp
     omega
   rw[if_pos c,if_pos c,e0,mkStr_N _ _ (by omega) (by omega) (by omega),mT_mk hz]
   exact⟨rfl,rfl⟩
  ·rw[e] at hm ho
   have e1:secM M.m 1=mkStr M.gen (superT first M.size):=hm
   have ho:mOk (secM M.m 0)=true→mN (secM M.m 0)<M.gen:=ho
   have c: ¬(mOk (secM M.m 0)&&(!mOk (secM M.m 1)||decide (mN (secM M.m 1)≤mN (secM M.m 0))))=true:=by
    rw[e1,mkStr_Ok _ _ (by omega),mkStr_N _ _ (by omega) (by omega) (by omega)]
    cases e0:mOk (secM M.m 0)
    ·simp
    ·have:=ho e0
     simp
     omega
   have c2:mOk (secM M.m 1)=true:=by rw[e1];exact mkStr_Ok _ _ (by omega)
   rw[if_neg c,if_neg c,if_pos c2,if_pos c2,e1,mkStr_N _ _ (by omega) (by omega) (by omega),mT_mk hz]
   exact⟨rfl,rfl⟩
 have hst:stM M.m 2 M.size first=(ts,M.l.at_):=by
  unfold stM
  refine stF_of_chain h.chain ?_ (M.size+1) (by omega)
  rintro ⟨a,b⟩
  rw[txOk_head (h.calm M.l.at_ a M.l.next _ (Int.le_refl _))] at b
  cases b
 have hnx:M.l.next=(first+ts.length) % 18446744073709551616:=by
  have:=h.chain.num
  have h1:=h.next0
  have h2:=h.next1
  have h3:=h.small
  omega
 have hboot:bootM M.m first M.gen M.size M.most room M.hot= { abortP M with room:=room }:=by
  obtain⟨m,l,size,gen,most,rm,dirty,hot,dead⟩:=M
  obtain⟨lf,ls,la,ln,ld⟩:=l
  have e1:=h.frm
  have e2:=h.lsize
  have e3:=h.ldead
  have e4:=h.dead
  simp only at e1 e2 e3 e4 hst hnx
  unfold bootM abortP
  simp only
  rw[hst, ←hnx,e1,e2,e3,e4]
 have hlen:M.m.sure.length=N:=h.up.len
 unfold openP
 rw[h.up.down,if_neg (by decide)]
 simp only
 rw[hlen,show min 1 (N - 1)=1 by omega,hbN.1,hbN.2,if_neg (fun hh=>hh.elim (fun e=>by omega) (fun e=>by have:=h.gen1;omega))]
 unfold openMark
 rw[superT_first h.first0 (by have:=h.first1;have:=h.small;omega),superT_log (by omega),hlen,Int.toNat_natCast, ←h.geo,if_neg (fun hh=>hh.elim (fun e=>e rfl) (fun e=>by have:=h.most1;omega))]
 unfold openHot
 rw[hst]
 simp only
 rw[h.hot]
 simp only
 rw[hboot,if_pos hs]
end Go.Proofs.YtjgkegkinnlcoaaGreatDoor
namespace Go.Proofs.YtjgkegkinnlcoaaGreatDoor
open Go.RowKit
def newP (m:DM) (log most room:Nat):PM:=⟨m,⟨2,log,0,1,false⟩,log,1,most,room,fun _=>none,fun _=>none,false⟩
theorem format_up {m:DM} {N k log:Nat} (h:UpM m N) (hk:DOk m k) (room:Nat) (hm:1≤mostI N log):
  (formatX m log).1=0∧LogIs (newP (formatX m log).2 log (mostI N log) room) N 1 1 []∧pgOf (formatX m log).2 (2+log)=page0∧(formatX m log).2.wait=[]:=by
 obtain⟨hs10,hgeo⟩:=mostI_geo hm
 have a1:=up_fmtN h (2+log) (by omega)
 have o1:=fmtN_ok (x:=(0,m)) hk (2+log)
 have a2:=up_putN (a:=2+log) a1.1 a1.2 page0_size 8 (Nat.le_refl _) (by omega)
 have o2:DOk (putX (fmtN (0,m) (2+log)) (2+log) page0).2 (k+(2+log)+8):=putN_ok o1 (2+log) page0 8
 have a2:(putX (fmtN (0,m) (2+log)) (2+log) page0).1=0∧UpM (putX (fmtN (0,m) (2+log)) (2+log) page0).2 N:=a2
 have p2:=pgOf_put page0_size a2.1
 have z2: ∀j,j<2+log→secM (putX (fmtN (0,m) (2+log)) (2+log) page0).2 j=S (nul 64):=fun j hj=>by
  have:secM (putX (fmtN (0,m) (2+log)) (2+log) page0).2 j=secM (fmtN (0,m) (2+log)).2 j:=putN_other (n:=8) (.inl (by omega))
  rw[this]
  exact fmtN_same a1.1 j hj
 unfold formatX
 obtain⟨y,hy⟩: ∃y,y=putX (fmtN (0,m) (2+log)) (2+log) page0:=⟨_,rfl⟩
 rw[←hy] at a2 o2 p2 z2 ⊢
 have f1:=a2.2.stepF a2.1
 have f2:=f1.2.stepW f1.1 1 (mkStr 1 (superT 1 log)) (by omega) (mkStr_size _ _ (by rw[superT_size];omega))
 have f3:=f2.2.stepF f2.1
 have hok3:=o2.stepF.stepW (1:Int) (mkStr 1 (superT 1 log))
 have hz: ∀j,j≠1→secM (stepF (stepW (stepF y) 1 (mkStr 1 (superT 1 log)))).2 j=secM y.2 j:=fun j hj=>by
  rw[stepF_sec hok3.wait,stepW_other (i:=1) _ (by omega),stepF_sec o2.wait]
 have h1:secM (stepF (stepW (stepF y) 1 (mkStr 1 (superT 1 log)))).2 1=mkStr 1 (superT 1 log):=by
  rw[stepF_sec hok3.wait]
  exact stepW_same f2.1
 refine⟨f3.1,⟨f3.2,stepF_wait f3.1,rfl,hm,rfl,rfl,rfl,rfl, .nil _ _,Nat.zero_le _, ?_,rfl,by omega,by omega,by show(0:Int)≤1;omega,by show(1:Int)≤1;omega, ?_, ?_,by show(1:Int)≤1;omega,by show(1:Int)≤1;omega,by omega⟩, ?_,stepF_wait f3.1⟩
 ·intro j hj q left hq
  have hj:j<log:=hj
  refine head_ten ?_
  show(secM (stepF (stepW (stepF y) 1 (mkStr 1 (superT 1 log)))).2 (2+j)).data.toList.getD 10 0=0
  rw[hz _ (by omega),z2 _ (by omega),data_S]
  rfl
 ·exact h1
 ·show mOk (secM (stepF (stepW (stepF y) 1 (mkStr 1 (superT 1 log)))).2 0)=true→mN (secM (stepF (stepW (stepF y) 1 (mkStr 1 (superT 1 log)))).2 0)<1
  rw[hz 0 (by omega),z2 0 (by omega),nul_N]
  intro _
  omega
 ·rw[←p2]
  exact pgOf_congr (fun k hk=>hz _ (by omega))
end Go.Proofs.YtjgkegkinnlcoaaGreatDoor
namespace Go.Proofs.YtjgkegkinnlcoaaGreatDoor
open Go.RowKit
structure SM where
 kinds:List Int
 rooms:List ByteArray
 free:List Int
 roots:List Int
def firstF (s:SM):Int:=s.free.getLast?.getD 0
def rootsL (l:List Int):List UInt8:=(l.map fun x=>leB x 8).flatten
def headS (s:SM):ByteArray:=fillR (S (leB s.kinds.length 4++(leB (firstF s) 4++rootsL s.roots))) 496
def fixS (s:SM):SM:= { s with rooms:=s.rooms.set 0 (headS s) }
structure RM where
 most:Nat
 room:Nat
 sure:SM
 way:SM
 dirty:List Bool
def newS:SM:=fixS ⟨[1],[⟨#[]⟩],[],List.replicate 8 0⟩
def newR (most room:Nat):RM:=⟨most,room,newS,newS,List.replicate most false⟩
def cntR (R:RM):Nat:=(R.dirty.filter id).length
def bigR (R:RM) (l:List Int):Bool:=decide (R.room<cntR R+(l.filter fun i=> !(R.dirty.getD i.toNat false)).length)
def markR (d:List Bool) (l:List Int):List Bool:=l.foldl (fun d i=>d.set i.toNat true) d
def lenR (R:RM):Int:=R.way.kinds.length
def writeR (R:RM) (no kind:Int) (room:ByteArray):Int × RM:=
 if no<1∨lenR R≤no∨kind<2∨254<kind then(1,R) else if 496<room.size then(3,R) else if bigR R [no]=true then(10,R) else
 (0, { R with way:= { R.way with kinds:=R.way.kinds.set no.toNat kind,rooms:=R.way.rooms.set no.toNat (fillR room 496) },dirty:=markR R.dirty [no] })
def takeS (s:SM) (f kind:Int):SM:=fixS { s with free:=s.free.dropLast,kinds:=s.kinds.set f.toNat kind,rooms:=s.rooms.set f.toNat (fillR ⟨#[]⟩ 496) }
def growS (s:SM) (kind:Int):SM:=fixS { s with kinds:=s.kinds++[kind],rooms:=s.rooms++[fillR ⟨#[]⟩ 496] }
def backS (s:SM) (no:Int):SM:=fixS { s with kinds:=s.kinds.set no.toNat 255,rooms:=s.rooms.set no.toNat (fillR (S (leB (firstF s) 4)) 496),free:=s.free++[no] }
def rootS (s:SM) (i:Nat) (n:Int):SM:=fixS { s with roots:=s.roots.set i n }
def allocR (R:RM) (kind:Int):Int × Int × RM:=
 if kind<2∨254<kind then(0,1,R) else
 match R.way.free.getLast? with
 |some f=>if bigR R [f,0]=true then(0,10,R) else(f,0, { R with way:=takeS R.way f kind,dirty:=markR R.dirty [f,0] })
 |none=>if (R.most:Int)≤lenR R then(0,8,R) else if bigR R [lenR R,0]=true then(0,10,R) else(lenR R,0, { R with way:=growS R.way kind,dirty:=markR R.dirty [lenR R,0] })
def giveR (R:RM) (no:Int):Int × RM:=
 if no<1∨lenR R≤no then(1,R) else if R.way.kinds.getD no.toNat 0=255 then(6,R) else if bigR R [no,0]=true then(10,R) else
 (0, { R with way:=backS R.way no,dirty:=markR R.dirty [no,0] })
def setRootR (R:RM) (i n:Int):Int × RM:=
 if i<0∨7<i then(1,R) else if bigR R [0]=true then(10,R) else(0, { R with way:=rootS R.way i.toNat n,dirty:=markR R.dirty [0] })
def abortR (R:RM):RM:= { R with way:=R.sure,dirty:=List.replicate R.most false }
theorem rootsL_length: ∀l:List Int,(rootsL l).length=8*l.length
 | []=>rfl
 |x::l=>by
  show(leB x 8++rootsL l).length=_
  rw[List.length_append,leB_length,rootsL_length l,List.length_cons];omega
theorem rootsL_get: ∀ {l:List Int} {i:Nat} {x:Int},l[i]? =some x→((rootsL l).drop (8*i)).take 8=leB x 8
 | [],i,x,h=>by simp at h
 |y::l,0,x,h=>by
  simp at h;subst h
  show((leB y 8++rootsL l).drop 0).take 8=_
  rw[List.drop_zero,List.take_left' (leB_length _ _)]
 |y::l,i+1,x,h=>by
  show((leB y 8++rootsL l).drop (8*(i+1))).take 8=_
  rw[show 8*(i+1)=(leB y 8).length+8*i by rw[leB_length];omega, ←List.drop_drop,List.drop_left' rfl]
  exact rootsL_get (by simpa using h)
theorem rootsL_set: ∀(l:List Int) (i:Nat) (n:Int),i<l.length→rootsL (l.set i n)=(rootsL l).take (8*i)++(leB n 8++(rootsL l).drop (8*i+8))
 | [],i,n,h=>by simp at h
 |y::l,0,n,h=>by
  show leB n 8++rootsL l=(leB y 8++rootsL l).take 0++(leB n 8++(leB y 8++rootsL l).drop 8)
  rw[List.take_zero,List.nil_append,List.drop_left' (leB_length _ _)]
 |y::l,i+1,n,h=>by
  show leB y 8++rootsL (l.set i n)=(leB y 8++rootsL l).take (8*(i+1))++(leB n 8++(leB y 8++rootsL l).drop (8*(i+1)+8))
  rw[rootsL_set l i n (by simpa using h),show 8*(i+1)=(leB y 8).length+8*i by rw[leB_length];omega,List.take_length_add_append,Nat.add_assoc,List.drop_length_add_append,List.append_assoc]
theorem headS_eq {s:SM} (h:s.roots.length=8):headS s=S (leB s.kinds.length 4++(leB (firstF s) 4++(rootsL s.roots++nul 424))):=by
 unfold headS fillR
 rw[data_S,S_size,List.length_append,List.length_append,leB_length,leB_length,rootsL_length,h,List.append_assoc,List.append_assoc]
theorem headS_size {s:SM} (h:s.roots.length=8):(headS s).size=496:=by
 rw[headS_eq h,S_size,List.length_append,List.length_append,List.length_append,leB_length,leB_length,rootsL_length,h,nul_length]
theorem headS_used {s:SM} (h:s.roots.length=8) (hn:s.kinds.length≤4294967295):usedR (headS s)=s.kinds.length:=by
 unfold usedR
 rw[headS_eq h,cut_S,List.drop_zero,List.take_left' (leB_length _ _),leN_four _ (by omega) (by omega)]
theorem headS_free {s:SM} (h:s.roots.length=8) (h0:0≤firstF s) (h1:firstF s≤4294967295):freeR (headS s)=firstF s:=by
 unfold freeR
 rw[headS_eq h,cut_S,List.drop_left' (leB_length _ _),List.take_left' (leB_length _ _),leN_four _ h0 h1]
theorem headS_root {s:SM} (h:s.roots.length=8) {i:Nat} {x:Int} (hi:s.roots[i]? =some x) (h0:0≤x) (h1:x≤18446744073709551615):leN (cut (headS s) (8+8*i) 8)=x:=by
 have hlt:i<8:=by have:=(List.getElem?_eq_some_iff.1 hi).1;omega
 rw[headS_eq h, ←List.append_assoc,cut_S, ←List.drop_drop,List.drop_left' (by rw[List.length_append,leB_length,leB_length]),List.drop_append_of_le_length (by rw[rootsL_length,h];omega),List.take_append_of_le_length (by rw[List.length_drop,rootsL_length,h];omega),rootsL_get hi,leN_leB8 _ h0 h1]
theorem headS_rest {s t:SM} (h:s.roots.length=8) (e:t.roots=s.roots):headR t.kinds.length (firstF t) (headS s)=headS t:=by
 have ht:t.roots.length=8:=by rw[e];exact h
 unfold headR
 rw[headS_size h,headS_eq h,headS_eq ht,extract_cut,cut_S,data_S, ←List.append_assoc (leB s.kinds.length 4),List.drop_left' (by rw[List.length_append,leB_length,leB_length]),List.take_of_length_le (by rw[List.length_append,rootsL_length,h,nul_length];omega),e]
theorem headS_rootR {s:SM} (h:s.roots.length=8) {i:Nat} (hi:i<8) (n:Int):rootR (headS s) i n=headS { s with roots:=s.roots.set i n }:=by
 have ht:(s.roots.set i n).length=8:=by rw[List.length_set];exact h
 have hA:(leB (s.kinds.length:Int) 4++leB (firstF s) 4).length=8:=by rw[List.length_append,leB_length,leB_length]
 have hR:=rootsL_length s.roots
 rw[h] at hR
 unfold rootR
 rw[headS_size h,headS_eq (s:= { s with roots:=s.roots.set i n }) ht,headS_eq h,extract_cut,extract_cut,data_S,data_S,cut_S,cut_S,List.drop_zero,Nat.sub_zero,rootsL_set _ _ _ (by omega)]
 show S _=S (leB (s.kinds.length:Int) 4++(leB (firstF s) 4++_))
 rw[←List.append_assoc (leB (s.kinds.length:Int) 4), ←List.append_assoc (leB (s.kinds.length:Int) 4)]
 generalize leB (s.kinds.length:Int) 4++leB (firstF s) 4=A at hA ⊢
 generalize rootsL s.roots=L at hR ⊢
 congr 1
 rw[show 8+8*i=A.length+8*i by omega,List.take_length_add_append,show A.length+8*i+8=A.length+(8*i+8) by omega,List.drop_length_add_append,List.take_append_of_le_length (by omega),List.drop_append_of_le_length (by omega)]
 have e:List.take (496 - (A.length+(8*i+8))) (List.drop (8*i+8) L++nul 424)=List.drop (8*i+8) L++nul 424:=List.take_of_length_le (by rw[List.length_append,List.length_drop,nul_length];omega)
 rw[e]
 simp only[List.append_assoc]
end Go.Proofs.YtjgkegkinnlcoaaGreatDoor
