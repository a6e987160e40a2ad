/- Lemmas on the way to the statement: NdMem, BtSh, BtMem2, Build, BtBytes, OwnRow. -/
import Derived.Test.YtjgkegkinnlcoaaGreatDoorJ7
import Derived.Laws.IdiomCopy
import Derived.Lib.LazyBuf
set_option linter.unusedSimpArgs false
set_option linter.unusedVariables false
namespace Go.Proofs.YtjgkegkinnlcoaaGreatDoor
open Go.RowKit Go.Maps Go.Joins
theorem getElem?_getD {l:List Int} {i:Nat} (h:i<l.length):l[i]? =some (l.getD i 0):=by
 rw[List.getD_eq_getElem?_getD,List.getElem?_eq_getElem h];rfl
def IsI (w:World) (k:IntKind) (v:Value) (l:List Int):Prop:=
 (l=[]∧ ∃a c,v= .slice a 0 c)∨ ∃g o c,v= .slice (some ⟨g,o,none⟩) l.length c∧l.length≤c∧c≤maxLen∧g<w.heap.size∧ ∀i,i<l.length→w.cell? ⟨g,o+i,none⟩=some (.int k (l.getD i 0))
def blkOf:Value→List Nat
 | .slice (some a) _ _=>[a.block]
 |_=>[]
section
variable {w w':World} {k:IntKind} {v:Value} {l:List Int} {X F:List Nat} {B:Nat} {e:TypeId}
theorem IsI.nil (w:World) (k:IntKind):IsI w k (.slice none 0 0) []:= .inl ⟨rfl,none,0,rfl⟩
theorem IsI.form (h:IsI w k v l): ∃a c,v= .slice a l.length c:=by
 rcases h with ⟨rfl,a,c,rfl⟩|⟨g,o,c,rfl, -⟩
 ·exact⟨a,c,rfl⟩
 ·exact⟨_,c,rfl⟩
theorem IsI.at_ (h:IsI w k v l) (hl:0<l.length): ∃g o c,v= .slice (some ⟨g,o,none⟩) l.length c∧l.length≤c∧c≤maxLen∧g<w.heap.size∧ ∀i,i<l.length→w.cell? ⟨g,o+i,none⟩=some (.int k (l.getD i 0)):=by
 rcases h with ⟨rfl, -⟩|h
 ·simp at hl
 ·exact h
theorem IsI.touch (h:IsI w k v l) (t:Touch F w w') (hx: ∀g∈blkOf v,g∉F):IsI w' k v l:=by
 rcases h with h|⟨g,o,c,rfl,hc,hm,hg,h⟩
 ·exact .inl h
 ·refine .inr ⟨g,o,c,rfl,hc,hm,Nat.lt_of_lt_of_le hg t.size,fun i hi=> ?_⟩
  rw[t.cell (p:=⟨g,o+i,none⟩) hg (hx g (by simp[blkOf]))]
  exact h i hi
theorem IsI.below (h:IsI w k v l) (hb:Below w.heap.size w w'):IsI w' k v l:=h.touch (F:=[]) (Touch.of_below hb) (by simp)
theorem IsI.own (h:w.ownsRow B e 1 v l.length (l.map (Value.int k))):IsI w k v l:=by
 rcases ownsRow_forms h with ⟨rfl,h0⟩|⟨g,c,rfl⟩
 ·exact .inl ⟨List.eq_nil_of_length_eq_zero h0,none,0,rfl⟩
 ·obtain⟨h1,h2⟩:=h.lt g rfl
  refine .inr ⟨g,0,c,rfl,ownsRow_cap (a:=none) h, ?_,h2,fun i hi=> ?_⟩
  ·rcases h.2 with ⟨hv, -⟩|⟨g',cap,cur,hv, -, -, -,hm, -⟩
   ·cases hv
   ·cases hv;exact hm
  ·rw[Nat.zero_add,h.cellAt i (by omega),List.getElem?_map,getElem?_getD hi];rfl
theorem blkOf_own (h:w.ownsRow B e 1 v l.length (l.map (Value.int k))):blkOf v=v.ownBlock.toList:=by
 rcases ownsRow_forms h with ⟨rfl,h0⟩|⟨g,c,rfl⟩
 ·rfl
 ·rfl
end
def ndV (kv vv cv:Value) (n:ND):Value:= .agg #[.bool n.leaf,kv,vv,cv]
def ndBk (kv vv cv:Value):List Nat:=blkOf kv++(blkOf vv++blkOf cv)
structure NdI (w:World) (kv vv cv:Value) (n:ND):Prop where
 ks:IsI w .u64 kv n.keys
 vs:IsI w .u64 vv n.vals
 cs:IsI w .i64 cv n.kids
section
variable {w w':World} {kv vv cv:Value} {n:ND} {X F:List Nat}
theorem NdI.touch (h:NdI w kv vv cv n) (t:Touch F w w') (hx: ∀g∈ndBk kv vv cv,g∉F):NdI w' kv vv cv n:=
 ⟨h.ks.touch t (fun g hg=>hx g (by simp[ndBk,hg])),h.vs.touch t (fun g hg=>hx g (by simp[ndBk,hg])),h.cs.touch t (fun g hg=>hx g (by simp[ndBk,hg]))⟩
theorem NdI.below (h:NdI w kv vv cv n) (hb:Below w.heap.size w w'):NdI w' kv vv cv n:=⟨h.ks.below hb,h.vs.below hb,h.cs.below hb⟩
end
structure NdO (w:World) (B:Nat) (kv vv cv:Value) (n:ND):Prop where
 ks:w.ownsRow B 28 1 kv n.keys.length (n.keys.map (Value.int .u64))
 vs:w.ownsRow B 28 1 vv n.vals.length (n.vals.map (Value.int .u64))
 cs:w.ownsRow B 3 1 cv n.kids.length (n.kids.map (Value.int .i64))
 nd:(ndBk kv vv cv).Nodup
section
variable {w w':World} {kv vv cv:Value} {n:ND} {X F:List Nat} {B:Nat}
theorem NdO.i (h:NdO w B kv vv cv n):NdI w kv vv cv n:=⟨.own h.ks, .own h.vs, .own h.cs⟩
theorem NdO.ge (h:NdO w B kv vv cv n): ∀g∈ndBk kv vv cv,B≤g∧g<w.heap.size:=fun g hg=>by
 simp only[ndBk,List.mem_append,blkOf_own h.ks,blkOf_own h.vs,blkOf_own h.cs,Option.mem_toList] at hg
 rcases hg with hg|hg|hg
 ·exact h.ks.lt g hg
 ·exact h.vs.lt g hg
 ·exact h.cs.lt g hg
theorem NdO.touch (h:NdO w B kv vv cv n) (t:Touch F w w') (hx: ∀g∈ndBk kv vv cv,g∉F):NdO w' B kv vv cv n:=
 ⟨ownsRow_touch h.ks t (fun g hg=>hx g (by simp[ndBk,blkOf_own h.ks,hg])),ownsRow_touch h.vs t (fun g hg=>hx g (by simp[ndBk,blkOf_own h.vs,hg])),ownsRow_touch h.cs t (fun g hg=>hx g (by simp[ndBk,blkOf_own h.cs,hg])),h.nd⟩
theorem NdO.below (h:NdO w B kv vv cv n) (hb:Below w.heap.size w w'):NdO w' B kv vv cv n:=h.touch (F:=[]) (Touch.of_below hb) (by simp)
theorem NdO.none (w:World) (B:Nat):NdO w B (.slice none 0 0) (.slice none 0 0) (.slice none 0 0) nd0:=⟨World.ownsRow_nil _ _ _ _,World.ownsRow_nil _ _ _ _,World.ownsRow_nil _ _ _ _,by simp[ndBk,blkOf]⟩
end
end Go.Proofs.YtjgkegkinnlcoaaGreatDoor
namespace Go.Proofs.YtjgkegkinnlcoaaGreatDoor
open Go.RowKit
structure NdSh (n:ND) (K:Nat):Prop where
 kl:n.keys.length≤K
 kb: ∀k∈n.keys,0≤k∧k≤18446744073709551615
 lf:n.leaf=true→n.kids=[]∧n.vals.length=n.keys.length∧ ∀v∈n.vals,0≤v∧v≤18446744073709551615
 fk:n.leaf=false→n.vals=[]∧n.kids.length=n.keys.length+1∧ ∀v∈n.kids,0≤v∧v≤4294967295
section
variable {n a b:ND} {K J:Nat} {key val:Int}
theorem NdOk.sh (h:NdOk n):NdSh n 40:=
 ⟨by
  cases hl:n.leaf
  ·exact(h.forks hl).2.2.1
  ·have:=(h.leafs hl).2.2.1;omega,h.kb,fun hl=>⟨(h.leafs hl).1,(h.leafs hl).2.1,(h.leafs hl).2.2.2⟩,fun hl=>⟨(h.forks hl).1,(h.forks hl).2.1,fun v hv=>⟨by have:=((h.forks hl).2.2.2 v hv).1;omega,((h.forks hl).2.2.2 v hv).2⟩⟩⟩
theorem NdSh.mono (h:NdSh n K) (hJ:K≤J):NdSh n J:=⟨Nat.le_trans h.kl hJ,h.kb,h.lf,h.fk⟩
theorem posL_le (l:List Int) (key:Int):posL l key≤l.length:=List.length_filter_le _ _
theorem placeN_le (h:n.keys.Pairwise (· < ·)) (key:Int):placeN n key≤n.keys.length:=by
 obtain⟨A,B,h1,h2, -, -⟩:=ris_place (key:=key) h
 rw[←h2,h1,List.length_append];omega
theorem posL_lt (h:n.keys.Pairwise (· < ·)) (hh:hasL n.keys key=true):posL n.keys key<n.keys.length:=by
 obtain⟨A,B,h1,h2, -, -⟩:=ris_has (key:=key) h hh
 rw[←h2,h1,List.length_append,List.length_cons];omega
theorem mem_insertIdx' {l:List Int} {i:Nat} {x y:Int} (h:y∈l.insertIdx i x):y=x∨y∈l:=by
 by_cases hi:i≤l.length
 ·exact(List.mem_insertIdx hi).1 h
 ·rw[List.insertIdx_of_length_lt (by omega)] at h;exact .inr h
theorem NdSh.put (h:NdSh n K) (hl:n.leaf=true) (hk:0≤key∧key≤18446744073709551615) (hv:0≤val∧val≤18446744073709551615):NdSh (ndPut n key val) (K+1):=by
 have hp:=posL_le n.keys key
 have hkl:=h.kl
 obtain⟨h1,h2,h3⟩:=h.lf hl
 unfold ndPut
 split
 ·refine⟨(by show n.keys.length≤K+1;omega),h.kb,fun _=>⟨h1,by simpa using h2,fun v hv'=> ?_⟩,fun hf=>by rw[show n.leaf=true from hl] at hf;cases hf⟩
  rcases List.mem_or_eq_of_mem_set hv' with hv'|rfl
  ·exact h3 v hv'
  ·exact hv
 ·refine⟨?_,fun k hk'=> ?_,fun _=>⟨h1, ?_,fun v hv'=> ?_⟩,fun hf=>by rw[show n.leaf=true from hl] at hf;cases hf⟩
  ·show(n.keys.insertIdx _ _).length≤_
   rw[List.length_insertIdx_of_le_length hp];omega
  ·rcases mem_insertIdx' hk' with rfl|hk'
   ·exact hk
   ·exact h.kb k hk'
  ·show(n.vals.insertIdx _ _).length=(n.keys.insertIdx _ _).length
   rw[List.length_insertIdx_of_le_length hp,List.length_insertIdx_of_le_length (by omega),h2]
  ·rcases mem_insertIdx' hv' with rfl|hv'
   ·exact hv
   ·exact h3 v hv'
theorem NdSh.more (h:NdSh n K) (hl:n.leaf=false) {i:Nat} (hi:i≤n.keys.length) {no:Int} (hk:0≤key∧key≤18446744073709551615) (hv:0≤no∧no≤4294967295):NdSh (moreN n i key no) (K+1):=by
 obtain⟨h1,h2,h3⟩:=h.fk hl
 have hkl:=h.kl
 unfold moreN
 refine⟨?_,fun k hk'=> ?_,(fun hf=>by rw[show n.leaf=false from hl] at hf;cases hf),fun _=>⟨h1, ?_,fun v hv'=> ?_⟩⟩
 ·show(n.keys.insertIdx _ _).length≤_
  rw[List.length_insertIdx_of_le_length hi];omega
 ·rcases mem_insertIdx' hk' with rfl|hk'
  ·exact hk
  ·exact h.kb k hk'
 ·show(n.kids.insertIdx _ _).length=(n.keys.insertIdx _ _).length+1
  rw[List.length_insertIdx_of_le_length hi,List.length_insertIdx_of_le_length (by omega),h2]
 ·rcases mem_insertIdx' hv' with rfl|hv'
  ·exact hv
  ·exact h3 v hv'
theorem NdSh.halfA (h:NdSh n K) (h1:1≤n.keys.length):NdSh (halfA n) K:=by
 have hkl:=h.kl
 unfold Go.Proofs.YtjgkegkinnlcoaaGreatDoor.halfA
 cases hl:n.leaf
 ·obtain⟨e1,e2,e3⟩:=h.fk hl
  refine⟨?_,fun k hk=>h.kb k (List.mem_of_mem_take hk),(fun hf=>by cases hf),fun _=>⟨rfl, ?_,fun v hv=>e3 v (List.mem_of_mem_take hv)⟩⟩
  ·show(n.keys.take _).length≤K
   rw[List.length_take];omega
  ·show(n.kids.take _).length=(n.keys.take _).length+1
   rw[List.length_take,List.length_take];omega
 ·obtain⟨e1,e2,e3⟩:=h.lf hl
  refine⟨?_,fun k hk=>h.kb k (List.mem_of_mem_take hk),fun _=>⟨rfl, ?_,fun v hv=>e3 v (List.mem_of_mem_take hv)⟩,(fun hf=>by cases hf)⟩
  ·show(n.keys.take _).length≤K
   rw[List.length_take];omega
  ·show(n.vals.take _).length=(n.keys.take _).length
   rw[List.length_take,List.length_take,e2]
theorem NdSh.halfB (h:NdSh n K) (h1:1≤n.keys.length):NdSh (halfB n) K:=by
 have hkl:=h.kl
 unfold Go.Proofs.YtjgkegkinnlcoaaGreatDoor.halfB
 cases hl:n.leaf
 ·obtain⟨e1,e2,e3⟩:=h.fk hl
  refine⟨?_,fun k hk=>h.kb k (List.mem_of_mem_drop hk),(fun hf=>by cases hf),fun _=>⟨rfl, ?_,fun v hv=>e3 v (List.mem_of_mem_drop hv)⟩⟩
  ·show(n.keys.drop _).length≤K
   rw[List.length_drop];omega
  ·show(n.kids.drop _).length=(n.keys.drop _).length+1
   rw[List.length_drop,List.length_drop];omega
 ·obtain⟨e1,e2,e3⟩:=h.lf hl
  refine⟨?_,fun k hk=>h.kb k (List.mem_of_mem_drop hk),fun _=>⟨rfl, ?_,fun v hv=>e3 v (List.mem_of_mem_drop hv)⟩,(fun hf=>by cases hf)⟩
  ·show(n.keys.drop _).length≤K
   rw[List.length_drop];omega
  ·show(n.vals.drop _).length=(n.keys.drop _).length
   rw[List.length_drop,List.length_drop,e2]
theorem NdSh.halfK (h:NdSh n K) (h1:1≤n.keys.length):0≤halfK n∧halfK n≤18446744073709551615:=by
 unfold Go.Proofs.YtjgkegkinnlcoaaGreatDoor.halfK
 rw[List.getD_eq_getElem?_getD,List.getElem?_eq_getElem (by omega)]
 exact h.kb _ (List.getElem_mem _)
theorem NdSh.join (ha:NdSh a K) (hb:NdSh b J) (he:a.leaf=b.leaf) (hk:0≤key∧key≤18446744073709551615):NdSh (joinN a key b) (K+J+1):=by
 have h1:=ha.kl
 have h2:=hb.kl
 unfold joinN
 cases hl:a.leaf
 ·obtain⟨a1,a2,a3⟩:=ha.fk hl
  obtain⟨b1,b2,b3⟩:=hb.fk (he▸hl)
  refine⟨by simp;omega,fun k hk'=> ?_,(fun hf=>by cases hf),fun _=>⟨rfl,by simp[a2,b2];omega,fun v hv=> ?_⟩⟩
  ·simp only[Bool.false_eq_true,if_false,List.mem_append,List.mem_cons] at hk'
   rcases hk' with hk'|rfl|hk'
   ·exact ha.kb k hk'
   ·exact hk
   ·exact hb.kb k hk'
  ·simp only[Bool.false_eq_true,if_false,List.mem_append] at hv
   rcases hv with hv|hv
   ·exact a3 v hv
   ·exact b3 v hv
 ·obtain⟨a1,a2,a3⟩:=ha.lf hl
  obtain⟨b1,b2,b3⟩:=hb.lf (he▸hl)
  refine⟨by simp;omega,fun k hk'=> ?_,fun _=>⟨rfl,by simp[a2,b2],fun v hv=> ?_⟩,(fun hf=>by cases hf)⟩
  ·simp only[if_true,List.mem_append] at hk'
   rcases hk' with hk'|hk'
   ·exact ha.kb k hk'
   ·exact hb.kb k hk'
  ·simp only[if_true,List.mem_append] at hv
   rcases hv with hv|hv
   ·exact a3 v hv
   ·exact b3 v hv
theorem mem_eraseIdx' {l:List Int} {i:Nat} {y:Int} (h:y∈l.eraseIdx i):y∈l:=List.mem_of_mem_eraseIdx h
theorem NdSh.out (h:NdSh n K) (hl:n.leaf=true):NdSh (ndOut n key) K:=by
 obtain⟨h1,h2,h3⟩:=h.lf hl
 have hkl:=h.kl
 unfold ndOut
 refine⟨Nat.le_trans (List.length_eraseIdx_le _ _) hkl,fun k hk=>h.kb k (mem_eraseIdx' hk),fun _=>⟨h1, ?_,fun v hv=>h3 v (mem_eraseIdx' hv)⟩,fun hf=>by rw[show n.leaf=true from hl] at hf;cases hf⟩
 show(n.vals.eraseIdx _).length=(n.keys.eraseIdx _).length
 rw[List.length_eraseIdx,List.length_eraseIdx,h2]
theorem NdSh.one (h:NdSh n K) (hl:n.leaf=false) {i:Nat} (hi:i<n.keys.length):NdSh { n with keys:=n.keys.eraseIdx i,kids:=n.kids.eraseIdx (i+1) } K:=by
 obtain⟨h1,h2,h3⟩:=h.fk hl
 refine⟨Nat.le_trans (List.length_eraseIdx_le _ _) h.kl,fun k hk=>h.kb k (mem_eraseIdx' hk),(fun hf=>by rw[show n.leaf=false from hl] at hf;cases hf),fun _=>⟨h1, ?_,fun v hv=>h3 v (mem_eraseIdx' hv)⟩⟩
 show(n.kids.eraseIdx _).length=(n.keys.eraseIdx _).length+1
 rw[List.length_eraseIdx,List.length_eraseIdx,if_pos hi,if_pos (by omega)];omega
theorem zip_take_succ {α β γ:Type} (f:α→β→γ) {l:List α} {m:List β} {i:Nat} {x:α} {y:β} (hx:l[i]? =some x) (hy:m[i]? =some y):List.zipWith f (l.take (i+1)) (m.take (i+1))=List.zipWith f (l.take i) (m.take i)++[f x y]:=by
 have h1:=(List.getElem?_eq_some_iff.1 hx).1
 have h2:=(List.getElem?_eq_some_iff.1 hy).1
 rw[List.take_add_one,List.take_add_one,hx,hy,List.zipWith_append (by rw[List.length_take,List.length_take];omega)]
 rfl
def lfB (n:ND) (i:Nat):List UInt8:=leB n.keys.length 2++(List.zipWith (fun k v=>prB k v 8) (n.keys.take i) (n.vals.take i)).flatten
def fkB (n:ND) (i:Nat):List UInt8:=(leB n.keys.length 2++leB (n.kids.getD 0 0) 4)++(List.zipWith (fun k v=>prB k v 4) (n.keys.take i) (n.kids.tail.take i)).flatten
theorem lfB_succ (n:ND) {i:Nat} (hi:i<n.keys.length) (hv:i<n.vals.length):lfB n i++(leB (n.keys.getD i 0) 8++leB (n.vals.getD i 0) 8)=lfB n (i+1):=by
 unfold lfB
 rw[zip_take_succ _ (getElem?_getD hi) (getElem?_getD hv)]
 simp[prB]
theorem fkB_succ (n:ND) {i:Nat} (hi:i<n.keys.length) (hv:i+1<n.kids.length):fkB n i++(leB (n.keys.getD i 0) 8++leB (n.kids.getD (i+1) 0) 4)=fkB n (i+1):=by
 unfold fkB
 have h2:n.kids.tail[i]? =some (n.kids.getD (i+1) 0):=by rw[List.getElem?_tail,getElem?_getD hv]
 rw[zip_take_succ _ (getElem?_getD hi) h2]
 simp[prB]
theorem lfB_zero (n:ND):lfB n 0=leB n.keys.length 2:=by simp[lfB]
theorem fkB_zero (n:ND):fkB n 0=leB n.keys.length 2++leB (n.kids.getD 0 0) 4:=by simp[fkB]
theorem lfB_all (hl:n.leaf=true) (hv:n.vals.length=n.keys.length):lfB n n.keys.length=ndB n:=by
 unfold lfB ndB
 rw[if_pos hl,List.take_length, ←hv,List.take_length]
theorem fkB_all (hl:n.leaf=false) (hv:n.kids.length=n.keys.length+1):fkB n n.keys.length=ndB n:=by
 unfold fkB ndB
 rw[if_neg (by rw[hl];decide),List.take_length,List.take_of_length_le (by rw[List.length_tail];omega),List.append_assoc]
theorem lfB_length (n:ND) {i:Nat} (hi:i≤n.keys.length) (hv:i≤n.vals.length):(lfB n i).length=2+16*i:=by
 unfold lfB
 rw[List.length_append,leB_length,flat_len pairs_len,List.length_zipWith,List.length_take,List.length_take]
 omega
theorem fkB_length (n:ND) {i:Nat} (hi:i≤n.keys.length) (hv:i+1≤n.kids.length):(fkB n i).length=6+12*i:=by
 unfold fkB
 rw[List.length_append,List.length_append,leB_length,leB_length,flat_len pairs_len,List.length_zipWith,List.length_take,List.length_take,List.length_tail]
 omega
end
theorem allocP_bd {M:PM} (hm:M.most≤65536) (hs:Snd M) (kind:Int):0≤(allocP M kind).1∧(allocP M kind).1≤4294967295:=by
 have hp:0≤(pickP M).1∧(pickP M).1≤4294967295:=by
  unfold pickP
  split
  ·simp
  ·rename_i he
   obtain⟨h1,h2,h3⟩:=hs (by simpa using he)
   have:=freeR_bds (rdP M 0).2.1
   simp only
   split
   ·split
    ·simp
    ·split
     ·simp
     ·simp only;omega
   ·split
    ·simp
    ·simp only;omega
 unfold allocP
 split
 ·simp
 ·simp only
  split
  ·simp
  ·split
   ·simp
   ·split
    ·simp
    ·exact hp
end Go.Proofs.YtjgkegkinnlcoaaGreatDoor
namespace Go.Proofs.YtjgkegkinnlcoaaGreatDoor
open Go.RowKit Go.Maps Go.Joins
structure PgX (w0 w:World) (p K:Nat) (M:PM) (X:List Nat):Prop where
 f:PgF w0 w p K M X
 s:Snd M
section
variable {w0 w w1 w':World} {p K J k:Nat} {M M':PM} {X Y:List Nat}
theorem PgF.most (h:PgF w0 w p K M X):M.most≤65536:=by
 obtain⟨d,lb,pb,hb,FD,FP,h,_⟩:=h
 have h1:=h.pin.ok.geo
 have h2:=h.pin.ok.disk.few
 omega
theorem PgX.below (h:PgX w0 w p K M X):Below w0.heap.size w0 w:=h.f.below
theorem PgX.lt (h:PgX w0 w p K M X): ∀x∈X,x<w.heap.size:=h.f.lt
theorem PgX.sub (h:PgX w0 w p K M X) (hs: ∀y∈Y,y∈X):PgX w0 w p K M Y:=⟨h.f.sub hs,h.s⟩
theorem PgX.mono (h:PgX w0 w p K M X) (hJ:K≤J):PgX w0 w p J M X:=⟨h.f.mono hJ,h.s⟩
theorem PgX.move (h:PgX w0 w p K M X) (hb:Below w.heap.size w w') (hY: ∀y∈Y,y∈X∨(w.heap.size≤y∧y<w'.heap.size)):PgX w0 w' p K M Y:=⟨h.f.move hb hY,h.s⟩
theorem PgX.moveX (h:PgX w0 w p K M X) (hb:Below w.heap.size w w'):PgX w0 w' p K M X:=h.move hb (fun y hy=> .inl hy)
theorem PgX.touch {F:List Nat} (h:PgX w0 w p K M X) (t:Touch F w w') (hF: ∀x∈F,x∈X∧w0.heap.size≤x):PgX w0 w' p K M X:=⟨h.f.touch t hF,h.s⟩
theorem SameX.of_touch {F:List Nat} (t:Touch F w w') (hX: ∀x∈X,x<w.heap.size∧x∉F):SameX X w w':=⟨t.size,fun x hx=>t.block (hX x hx).1 (hX x hx).2⟩
theorem px_read (h:PgX w0 w p K M X) (hK:K≤1000000000000) (no:Int):
  Calls Tryz.prog 33 #[.pointer (some ⟨p,0,none⟩), .int .i64 no] w fun e w'=>e= .returned (.tuple #[.int .i64 (readP M no).1, .string (readP M no).2.1, .int .i64 (readP M no).2.2])∧PgX w0 w' p (K+4) M X∧SameX X w w':=
 (pf_read h.f h.s hK no).mono fun e w' ⟨h1,h2,h3⟩=>⟨h1,⟨h2,h.s⟩,h3⟩
theorem px_root (h:PgX w0 w p K M X) (hK:K≤1000000000000) (i:Int):
  Calls Tryz.prog 34 #[.pointer (some ⟨p,0,none⟩), .int .i64 i] w fun e w'=>e= .returned (.tuple #[.int .u64 (rootP M i).1, .int .i64 (rootP M i).2])∧PgX w0 w' p (K+2) M X∧SameX X w w':=
 (pf_root h.f hK i).mono fun e w' ⟨h1,h2,h3⟩=>⟨h1,⟨h2,h.s⟩,h3⟩
theorem px_write (h:PgX w0 w p K M X) (hK:K≤1000000000000) (no kind:Int) (r:ByteArray):
  Calls Tryz.prog 24 #[.pointer (some ⟨p,0,none⟩), .int .i64 no, .int .i64 kind, .string r] w fun e w'=>e= .returned (.int .i64 (writeP M no kind r).1)∧PgX w0 w' p (K+4) (writeP M no kind r).2 X∧SameX X w w':=
 (pf_write h.f h.s hK no kind r).mono fun e w' ⟨h1,h2,h3⟩=>⟨h1,⟨h2,h.s.write no kind r⟩,h3⟩
theorem px_alloc (h:PgX w0 w p K M X) (hK:K≤1000000000000) (kind:Int):
  Calls Tryz.prog 23 #[.pointer (some ⟨p,0,none⟩), .int .i64 kind] w fun e w'=>e= .returned (.tuple #[.int .i64 (allocP M kind).1, .int .i64 (allocP M kind).2.1])∧PgX w0 w' p (K+8) (allocP M kind).2.2 X∧SameX X w w':=
 (pf_alloc h.f h.s hK kind).mono fun e w' ⟨h1,h2,h3⟩=>⟨h1,⟨h2,h.s.alloc h.f.most kind⟩,h3⟩
theorem px_setRoot (h:PgX w0 w p K M X) (hK:K≤1000000000000) (i n:Int) (n0:0≤n):
  Calls Tryz.prog 25 #[.pointer (some ⟨p,0,none⟩), .int .i64 i, .int .u64 n] w fun e w'=>e= .returned (.int .i64 (setRootP M i n).1)∧PgX w0 w' p (K+4) (setRootP M i n).2 X∧SameX X w w':=
 (pf_setRoot h.f hK i n n0).mono fun e w' ⟨h1,h2,h3⟩=>⟨h1,⟨h2,h.s.setRoot i n (fun e=>rdP_size e)⟩,h3⟩
theorem PgX.alloc_bd (h:PgX w0 w p K M X) (kind:Int):0≤(allocP M kind).1∧(allocP M kind).1≤4294967295:=allocP_bd h.f.most h.s kind
end
section
variable {w w':World} {k:IntKind} {v kv vv cv:Value} {l:List Int} {X:List Nat} {n:ND}
theorem IsI.same (h:IsI w k v l) (s:SameX X w w') (hx: ∀g∈blkOf v,g∈X):IsI w' k v l:=by
 rcases h with h|⟨g,o,c,rfl,hc,hm,hg,h⟩
 ·exact .inl h
 ·refine .inr ⟨g,o,c,rfl,hc,hm,Nat.lt_of_lt_of_le hg s.size,fun i hi=> ?_⟩
  rw[s.cell (hx g (by simp[blkOf]))]
  exact h i hi
theorem NdI.same (h:NdI w kv vv cv n) (s:SameX X w w') (hx: ∀g∈ndBk kv vv cv,g∈X):NdI w' kv vv cv n:=
 ⟨h.ks.same s (fun g hg=>hx g (by simp[ndBk,hg])),h.vs.same s (fun g hg=>hx g (by simp[ndBk,hg])),h.cs.same s (fun g hg=>hx g (by simp[ndBk,hg]))⟩
end
end Go.Proofs.YtjgkegkinnlcoaaGreatDoor
namespace Go.Proofs.YtjgkegkinnlcoaaGreatDoor
open Go.RowKit Go.Joins
section
variable {P:Program} (w:World)
theorem run_append_near_string (t u ty e:TypeId) (i:TypeInfo) (ht:P.underlying t=some (.slice e)) (hu:P.underlying u=some .string) (hi:P.info? e=some i) (hz:i.zero=some (.int .u8 0)) (hsize:i.size=1) (hby:i.bytes=1)
  (v:Value) (n:Nat) (xs:List Value) (hown:w.ownsRow 0 e 1 v n xs) (s:ByteArray) (h63:n+s.size≤maxLen) (hbytes:n+s.size≤140737488355328):
  ∃v' w',(Builtin.append_ #[t,u] ty #[v, .string s]).run P w= .ok v' w'∧w'.ownsRow 0 e 1 v' (n+s.size) (xs++Lib.strCells s)∧w.grownBy w' v.ownBlock∧(∀g,v'.ownBlock=some g→v.ownBlock=some g∨w.heap.size≤g)∧(v= .slice none 0 0→s.size=0→v'= .slice none 0 0):=by
 have m:maxLen=9223372036854775807:=rfl
 rcases hown.2 with ⟨rfl,rfl⟩|⟨g,cap,cur,rfl,_,hg,hnc,hcm,hcs,htk⟩
 ·have hx:xs=[]:=List.eq_nil_of_length_eq_zero (by simpa using hown.1)
  subst hx
  obtain⟨v',w',h1,h2,h3,h4⟩:=Lib.run_append_own_string (P:=P) w w.heap.size t u ty e i ht hu hi hz hsize hby (.slice none 0 0) 0 [] (World.ownsRow_nil _ _ _ _) s h63 hbytes (Nat.le_refl _)
  exact⟨v',w',h1,ownsRow_le h2 (Nat.zero_le _),h3,fun g hg=> .inr (h2.lt g hg).1,fun _ h0=>h4.2 ⟨rfl,h0⟩⟩
 ·have hxl:xs.length=n:=by simpa using hown.1
  have hlen:(xs++Lib.strCells s).length=(n+s.size)*1:=by rw[List.length_append,hxl,Lib.strCells_length,Nat.mul_one]
  by_cases hroom:n+s.size≤cap
  ·have hr:=Lib.run_append_room_string (P:=P) w t u ty e i ht hu hi hsize g n cap cur hg s hroom (by omega)
   refine⟨_,_,hr,⟨hlen, .inr ⟨g,cap,_,rfl,Nat.zero_le _,setRow_heap w g cur _ e _ hg,hroom,hcm, ?_, ?_⟩⟩,⟨rfl,rfl,rfl,by simp,fun k _ hk=>setRow_other w g k _ (fun e=>hk (by simp[Value.ownBlock,e]))⟩,fun g' hg'=> .inl hg',fun h=>by cases h⟩
   ·simp only[List.size_toArray,List.length_append,List.length_take,List.length_drop,Array.length_toList,Lib.strCells_length];omega
   ·have ht':cur.toList.take n=xs:=by simpa using htk
    rw[ht', ←hlen]
    exact List.take_left
  ·have hr:=Lib.run_append_grow_string (P:=P) w t u ty e i (.int .u8 0) ht hu hi hz ⟨g,0,none⟩ n cap xs (by rw[hsize];simpa using hxl) (hown.cells (g:=g) rfl) s (by omega) (by omega) (by rw[hby];exact growslice_fits (by omega) (by omega))
   refine⟨_,_,hr,⟨hlen, .inr ⟨w.heap.size,_,_,rfl,Nat.zero_le _,heap_alloc_new w.drew _,grownCap_ge w (n+s.size) cap e,grownCap_le_maxLen w (n+s.size) cap e h63, ?_, ?_⟩⟩,⟨rfl,rfl,rfl,by simp,fun k hk _=>heap_alloc_old w.drew _ hk⟩,fun g' hg'=> .inr (by simp[Value.ownBlock] at hg';omega),fun h=>by cases h⟩
   ·have hz1:(Value.int IntKind.u8 0).cells.size=1:=rfl
    have:=grownCap_ge w (n+s.size) cap e
    simp only[Array.size_append,List.size_toArray,size_zeroCells,hz1,hxl,Lib.strCells_length];omega
   ·simp only[Array.toList_append,List.append_assoc]
    rw[←List.append_assoc, ←hlen]
    exact List.take_left
theorem wpList_append_near_string {ops:Array Oper} {rest:List Oper} {o:Oper} {a:Act} {Q:Exit→Act→World→Prop} (hgd:o.guard=none) (sl x:Operand) (t u:TypeId)
  (ho:o.op= .call { callee:= .builtin .append,args:= #[sl,x],argTypes:= #[t,u] })
  (e:TypeId) (i:TypeInfo) (ht:P.underlying t=some (.slice e)) (hu:P.underlying u=some .string) (hi:P.info? e=some i) (hz:i.zero=some (.int .u8 0)) (hsize:i.size=1) (hby:i.bytes=1)
  (v:Value) (n:Nat) (xs:List Value) (hs:a.eval sl=v) (hown:w.ownsRow 0 e 1 v n xs) (s:ByteArray) (hx:a.eval x= .string s) (h63:n+s.size≤maxLen) (hbytes:n+s.size≤140737488355328)
  (h: ∀v' w',w'.ownsRow 0 e 1 v' (n+s.size) (xs++Lib.strCells s)→w.grownBy w' v.ownBlock→(∀g,v'.ownBlock=some g→v.ownBlock=some g∨w.heap.size≤g)→(v= .slice none 0 0→s.size=0→v'= .slice none 0 0)→wpList P ops Q rest (a.put o.dst v') w'):wpList P ops Q (o::rest) a w:=by
 refine wpList_plain hgd fun K hK=> ?_
 obtain⟨v',w',hr,h2,h3,h4,h5⟩:=run_append_near_string (P:=P) w t u o.type e i ht hu hi hz hsize hby v n xs hown s h63 hbytes
 unfold Oper.wp execOp
 simp only[ho,resolve,invoke,builtin,Sem.run_bind,Sem.run_pure,Result.andThen_ok,List.map_toArray,List.map_cons,List.map_nil,hs,hx,hr]
 exact hK _ _ (h v' w' h2 h3 h4 h5)
end
structure BAt (w:World) (b:Nat) (p v:Value) (l:List UInt8):Prop where
 blk:w.heap[b]? =some (.cells #[p,v] 214 (0,0))
 row:w.ownsRow 0 5 1 v l.length (Lib.byteCells l)
 ne:v.ownBlock≠some b
 ptr:p= .pointer none∨p= .pointer (some ⟨b,0,none⟩)
 nil0:l=[]→v= .slice none 0 0
def bldB (b:Nat) (v:Value):List Nat:=b::v.ownBlock.toList
def IsB (w:World) (b:Nat) (F:List Nat) (l:List UInt8):Prop:= ∃p v,BAt w b p v l∧F=bldB b v
theorem BAt.lt {w:World} {b:Nat} {p v:Value} {l:List UInt8} (h:BAt w b p v l): ∀x∈bldB b v,x<w.heap.size:=by
 intro x hx
 simp only[bldB,List.mem_cons,Option.mem_toList] at hx
 rcases hx with rfl|hx
 ·exact(Array.getElem?_eq_some_iff.1 h.blk).1
 ·exact(h.row.lt x hx).2
theorem BAt.touch {w w':World} {b:Nat} {p v:Value} {l:List UInt8} {F:List Nat} (h:BAt w b p v l) (t:Touch F w w') (hF: ∀x∈bldB b v,x∉F):BAt w' b p v l:=
 ⟨(t.block (h.lt b (by simp[bldB])) (hF b (by simp[bldB]))).trans h.blk,ownsRow_touch h.row t (fun g hg=>hF g (by simp[bldB,hg])),h.ne,h.ptr,h.nil0⟩
theorem IsB.lt {w:World} {b:Nat} {F:List Nat} {l:List UInt8} (h:IsB w b F l): ∀x∈F,x<w.heap.size:=by
 obtain⟨p,v,h,rfl⟩:=h
 exact h.lt
theorem IsB.touch {w w':World} {b:Nat} {l:List UInt8} {F G:List Nat} (h:IsB w b G l) (t:Touch F w w') (hF: ∀x∈G,x∉F):IsB w' b G l:=by
 obtain⟨p,v,h,rfl⟩:=h
 exact⟨p,v,h.touch t hF,rfl⟩
theorem IsB.new (w:World):IsB (w.alloc (.cells #[.pointer none, .slice none 0 0] 214)) w.heap.size [w.heap.size] []:=
 ⟨_,_,⟨heap_alloc_new w _,World.ownsRow_nil _ _ _ _,(fun h=>by cases h), .inl rfl,fun _=>rfl⟩,rfl⟩
set_option maxRecDepth 100000 in
theorem copyCheck_fresh (b:Nat) (w:World) (h0:w.cell? ⟨b,0,none⟩=some (.pointer none)) (hsh:w.shape? b=some (214,2)) (hfz:w.frozen? ⟨b,0,none⟩=false):
  Calls Tryz.prog 196 #[.pointer (some ⟨b,0,none⟩)] w fun e w'=>e= .returned (.tuple #[])∧w'=w.setCell ⟨b,0,none⟩ (.pointer (some ⟨b,0,none⟩)):=
 Any.Builder_copyCheck_fresh (ρ:=Tryz.lays105_ren) { Tryz.lays105 with } Tryz.Builder_Extra_105.toX72 b w h0 hsh hfz
set_option maxRecDepth 100000 in
theorem copyCheck_used (b:Nat) (w:World) (h0:w.cell? ⟨b,0,none⟩=some (.pointer (some ⟨b,0,none⟩))):
  Calls Tryz.prog 196 #[.pointer (some ⟨b,0,none⟩)] w fun e w'=>e= .returned (.tuple #[])∧w'=w:=
 Any.Builder_copyCheck_used (ρ:=Tryz.lays105_ren) { Tryz.lays105 with } Tryz.Builder_Extra_105.toX72 b w h0
theorem copyCheck_at {w:World} {b:Nat} {p v:Value} {l:List UInt8} (h:BAt w b p v l):
  Calls Tryz.prog 196 #[.pointer (some ⟨b,0,none⟩)] w fun e w'=>e= .returned (.tuple #[])∧BAt w' b (.pointer (some ⟨b,0,none⟩)) v l∧Touch [b] w w':=by
 rcases h.ptr with rfl|rfl
 ·refine(copyCheck_fresh b w (by rw[Lib.cell_of_heap h.blk];rfl) (by simp[World.shape?,h.blk]) (by simp[World.frozen?,h.blk])).mono ?_
  rintro e w' ⟨rfl,rfl⟩
  have t:Touch [b] w (w.setCell ⟨b,0,none⟩ (.pointer (some ⟨b,0,none⟩))):=(Touch.refl _ _).setCell (.inl (by simp)) _
  refine⟨rfl,⟨?_,ownsRow_touch h.row t (fun g hg=>by simp;exact fun e=>h.ne (by rw[hg,e])),h.ne, .inr rfl,h.nil0⟩,t⟩
  simp[World.setCell,Array.getElem?_modify,h.blk]
 ·refine(copyCheck_used b w (by rw[Lib.cell_of_heap h.blk];rfl)).mono ?_
  rintro e w' ⟨rfl,rfl⟩
  exact⟨rfl,h,Touch.refl _ _⟩
theorem strCells_bytes (l:List UInt8) (s:ByteArray):Lib.byteCells l++Lib.strCells s=Lib.byteCells (l++s.data.toList):=by
 simp[Lib.byteCells,Lib.strCells]
set_option maxRecDepth 100000 in
set_option maxHeartbeats 1000000 in
theorem writeString_any {w:World} {b:Nat} {F:List Nat} {l:List UInt8} (h:IsB w b F l) (s:ByteArray) (hlen:l.length+s.size≤140737488355328):
  Calls Tryz.prog 148 #[.pointer (some ⟨b,0,none⟩), .string s] w fun e w'=>e= .returned (.tuple #[.int .i64 s.size, .nilIface])∧ ∃F',IsB w' b F' (l++s.data.toList)∧Touch F w w'∧ ∀x∈F',x∈F∨w.heap.size≤x:=by
 obtain⟨p,v,h,rfl⟩:=h
 obtain⟨i0,hi,hz0,hz1,hz2⟩:=info_parts Tryz.infoByte
 have HC:=Lib.hid (copyCheck_at h)
 have hlt:=h.lt
 have HL:=Lib.hid hlt
 clear hlt h
 go_enter Tryz.func148,Tryz.ntmps148
 go_wp2_with fail
 refine HC.out.mono ?_
 rintro e w1 ⟨rfl,h1,t1⟩
 have c0:w1.cell? ⟨b,0,none⟩=some (.pointer (some ⟨b,0,none⟩)):=by rw[Lib.cell_of_heap h1.blk];rfl
 have c1:w1.cell? ⟨b,1,none⟩=some v:=by rw[Lib.cell_of_heap h1.blk];rfl
 have H1:=Lib.hid h1
 have hrow:=h1.row
 clear h1
 go_wp2_with (at_builtin;refine wpList_append_near_string _ rfl _ _ 48 9 rfl 5 i0 Tryz.underlying48 Tryz.underlying9 hi hz0 hz1 hz2 _ _ _ rfl hrow s rfl ?c3 ?c4 ?_)
 case c3=>unfold maxLen;omega
 case c4=>omega
 intro v' w2 hown' hgrow hnear hnil
 have h1:=H1.out
 have hb2:w2.heap[b]? =some (.cells #[.pointer (some ⟨b,0,none⟩),v] 214 (0,0)):=by
  rw[hgrow.block b (h1.lt b (by simp[bldB])) (fun e=>h1.ne e.symm)]
  exact h1.blk
 have d0:w2.cell? ⟨b,0,none⟩=some (.pointer (some ⟨b,0,none⟩)):=by rw[Lib.cell_of_heap hb2];rfl
 have d1:w2.cell? ⟨b,1,none⟩=some v:=by rw[Lib.cell_of_heap hb2];rfl
 have f1:w2.frozen? ⟨b,1,none⟩=false:=Lib.frozen_of_heap hb2 1
 obtain⟨ao,n',cap,rfl⟩: ∃ao n' cap,v'= .slice ao n' cap:=by
  rcases ownsRow_forms hown' with ⟨hv,_⟩|⟨g,cap,hv⟩
  ·exact⟨_,_,_,hv⟩
  ·exact⟨_,_,_,hv⟩
 have HO:=Lib.hid hown'
 have HG:=Lib.hid hgrow
 have HN:=Lib.hid hnear
 have HZ:=Lib.hid hnil
 clear h1 hown' hgrow hnear hnil
 go_wp2
 go_ret2
 have h1:=H1.out
 have tg:Touch v.ownBlock.toList w1 w2:=Touch.of_grown HG.out
 have t2:Touch [b] w2 (w2.setCell ⟨b,1,none⟩ (.slice ao n' cap)):=(Touch.refl _ _).setCell (.inl (by simp)) _
 have hnb:(Value.slice ao n' cap).ownBlock≠some b:=by
  intro e
  rcases HN.out b e with h'|h'
  ·exact h1.ne h'
  ·have:=h1.lt b (by simp[bldB]);omega
 refine⟨rfl,bldB b (.slice ao n' cap),⟨.pointer (some ⟨b,0,none⟩), .slice ao n' cap,⟨?_, ?_,hnb, .inr rfl,fun e=>HZ.out (h1.nil0 (List.append_eq_nil_iff.1 e).1) (by have:=(List.append_eq_nil_iff.1 e).2;simpa using congrArg List.length this)⟩,rfl⟩, ?_, ?_⟩
 ·simp[World.setCell,Array.getElem?_modify,hb2]
 ·have:=ownsRow_touch HO.out t2 (fun g hg=>by simp;exact fun e=>hnb (by rw[hg,e]))
  rw[strCells_bytes] at this
  simpa using this
 ·refine((t1.mono (fun x hx=> .inl ?_)).trans tg (fun x hx=> .inl ?_)).trans t2 (fun x hx=> .inl ?_)
  ·simp at hx;subst hx;simp[bldB]
  ·simp[bldB];simp at hx;exact .inr hx
  ·simp at hx;subst hx;simp[bldB]
 ·intro x hx
  simp only[bldB,List.mem_cons,Option.mem_toList] at hx ⊢
  rcases hx with rfl|hx
  ·exact .inl (.inl rfl)
  ·rcases HN.out x hx with h'|h'
   ·exact .inl (.inr h')
   ·exact .inr (Nat.le_trans t1.size h')
theorem Touch.freeze {F:List Nat} {w w':World} (h:Touch F w w') {p:Addr} (hp:p.block∈F∨w.heap.size≤p.block) (n:Nat):Touch F w (w'.freeze p n):=by
 unfold World.freeze
 split
 ·exact h
 ·refine⟨h.1,h.2.1,h.2.2.1,by simpa using h.size,fun b hb hF=> ?_⟩
  simp only[Array.getElem?_modify]
  rw[if_neg (by
   rintro rfl
   rcases hp with hp|hp
   ·exact hF hp
   ·omega)]
  exact h.block hb hF
set_option maxRecDepth 100000 in
set_option maxHeartbeats 1000000 in
theorem stringB_any {w:World} {b:Nat} {F:List Nat} {l:List UInt8} (h:IsB w b F l):
  Calls Tryz.prog 150 #[.pointer (some ⟨b,0,none⟩)] w fun e w'=>e= .returned (.string (S l))∧Touch F w w':=by
 obtain⟨p,v,h,rfl⟩:=h
 have hbk:w.drew.heap[b]? =some (.cells #[p,v] 214 (0,0)):=h.blk
 have c1:w.drew.cell? ⟨b,1,none⟩=some v:=by rw[Lib.cell_of_heap hbk];rfl
 have hrow:=h.row
 have HT:=Lib.hid h
 by_cases h0:l=[]
 ·subst h0
  have hv:=h.nil0 rfl
  subst hv
  have hSD:(Builtin.unsafeSliceData_ #[48] 272 #[.slice none 0 0]).run Tryz.prog w.drew= .ok (.pointer none) w.drew:=rfl
  have hUS:(Builtin.unsafeString_ #[272,3] 9 #[.pointer none, .int .i64 0]).run Tryz.prog w.drew= .ok (.string .empty) w.drew:=Lib.run_unsafeString_none _ _ _ _ _
  clear h hrow
  go_enter Tryz.func150,Tryz.ntmps150
  go_wp2_with fail
  go_region
  all_goals (go_wp2_with fail;go_ret;exact⟨rfl,(Touch.refl _ _).drew⟩)
 ·have hl0:l.length≠0:=by simpa using h0
  obtain⟨g,cap,cur,rfl,hg,hnc,hcm,hcs⟩: ∃g cap cur,v= .slice (some ⟨g,0,none⟩) l.length cap∧w.heap[g]? =some (.cells cur 5 (0,0))∧l.length≤cap∧cap≤maxLen∧cur.size=cap*1:=by
   rcases h.row.2 with ⟨_,hz⟩|⟨g,cap,cur,hv,_,hg,hnc,hcm,hcs,_⟩
   ·exact absurd hz hl0
   ·exact⟨g,cap,cur,hv,hg,hnc,hcm,hcs⟩
  have m:maxLen=9223372036854775807:=rfl
  have hSD:(Builtin.unsafeSliceData_ #[48] 272 #[.slice (some ⟨g,0,none⟩) l.length cap]).run Tryz.prog w.drew= .ok (.pointer (some ⟨g,0,none⟩)) w.drew:=Lib.run_unsafeSliceData_row _ _ _ _ _ _ (by omega)
  have hUS:(Builtin.unsafeString_ #[272,3] 9 #[.pointer (some ⟨g,0,none⟩), .int .i64 l.length]).run Tryz.prog w.drew= .ok (.string ⟨l.toArray⟩) (w.drew.freeze ⟨g,0,none⟩ l.length):=by
   refine Lib.run_unsafeString_row w.drew 272 3 9 5 Tryz.underlying272 (by kernel_rfl) g cur.size (by have hg':w.drew.heap[g]? =some (.cells cur 5 (0,0)):=hg;simp[World.shape?,hg']) l h0 (by omega) (by omega) ?_
   intro j x hx
   exact h.row.cells (g:=g) rfl j (.int .u8 x.toNat) (by simp[Lib.byteCells,hx])
  have hlb:(l.length:Int)≤9223372036854775807:=by omega
  clear h hrow hg hnc hcm hcs
  go_enter Tryz.func150,Tryz.ntmps150
  go_wp2_with fail
  go_region
  all_goals (go_wp2_with fail;go_ret;exact⟨rfl,(Touch.refl _ _).drew.freeze (p:=⟨g,0,none⟩) (.inl (by simp[bldB,Value.ownBlock])) _⟩)
end Go.Proofs.YtjgkegkinnlcoaaGreatDoor
namespace Go.Proofs.YtjgkegkinnlcoaaGreatDoor
open Go.RowKit Go.Maps Go.Joins
def ndF (kv vv cv:Value) (n:ND):Nat→Value
 |0=> .bool n.leaf
 |1=>kv
 |2=>vv
 |_=>cv
theorem ndF_new (w:World) (kv vv cv:Value) (n:ND):(w.alloc (.cells #[.bool n.leaf,kv,vv,cv] 109)).rowIs w.heap.size 109 4 (ndF kv vv cv n):=by
 refine World.rowIs_alloc w _ _ _ (fun i hi=> ?_)
 rcases i with _|_|_|_|i<;>first|rfl|(exfalso;simp at hi;done)|(exfalso;simp at hi;omega)|(exfalso;omega)
structure BLoop (w wr:World) (bb:Nat) (kv vv cv:Value) (n:ND) (l:List UInt8) (F:List Nat):Prop where
 own:IsB wr bb F l
 ge: ∀x∈F,w.heap.size<x
 box:wr.rowIs w.heap.size 109 4 (ndF kv vv cv n)
 below:Below w.heap.size w wr
section
variable {w wr w1:World} {bb K:Nat} {kv vv cv:Value} {n:ND} {l l':List UInt8} {F F':List Nat}
theorem BLoop.later (h:BLoop w wr bb kv vv cv n l F) (hb:Below wr.heap.size wr w1):BLoop w w1 bb kv vv cv n l F:=
 ⟨h.own.touch (F:=[]) (Touch.of_below hb) (by simp),h.ge,rowIs_touch h.box (F:=[]) (Touch.of_below hb) (by simp),below_step hb h.below⟩
theorem BLoop.next (h:BLoop w wr bb kv vv cv n l F) (ho:IsB w1 bb F' l') (t:Touch F wr w1) (f: ∀x∈F',x∈F∨wr.heap.size≤x):BLoop w w1 bb kv vv cv n l' F':=by
 have hs:=h.below.size
 have hlt:=World.rowIs.lt h.box
 refine⟨ho,fun x hx=>(f x hx).elim (h.ge x) (fun h=>by omega),rowIs_touch h.box t (fun hm=>by have:=h.ge _ hm;omega),h.below.trans (t.below hs (fun x hx=>by have:=h.ge x hx;omega))⟩
theorem BLoop.start {b:Bool} (hl:n.leaf=b) (hb:Below (((w.alloc (.cells #[.bool b,kv,vv,cv] 109)).alloc (.cells #[.pointer none, .slice none 0 0] 214))).heap.size ((w.alloc (.cells #[.bool b,kv,vv,cv] 109)).alloc (.cells #[.pointer none, .slice none 0 0] 214)) w1):BLoop w w1 (w.heap.size+1) kv vv cv n [] [w.heap.size+1]:=by
 subst hl
 have h1:=IsB.new (w.alloc (.cells #[.bool n.leaf,kv,vv,cv] 109))
 rw[show(w.alloc (.cells #[.bool n.leaf,kv,vv,cv] 109)).heap.size=w.heap.size+1 by simp] at h1
 refine⟨h1.touch (F:=[]) (Touch.of_below hb) (by simp),fun x hx=>by simp at hx;omega,rowIs_touch (rowIs_touch (ndF_new w kv vv cv n) (F:=[]) ((Touch.refl _ _).alloc _) (by simp)) (F:=[]) (Touch.of_below hb) (by simp),below_step hb (below_alloc (below_alloc (Below.refl _ _)))⟩
theorem BLoop.cells (h:BLoop w wr bb kv vv cv n l F):wr.cell? ⟨w.heap.size,0,none⟩=some (.bool n.leaf)∧wr.cell? ⟨w.heap.size,1,none⟩=some kv∧wr.cell? ⟨w.heap.size,2,none⟩=some vv∧wr.cell? ⟨w.heap.size,3,none⟩=some cv:=
 ⟨World.rowIs.cell h.box (i:=0) (by decide),World.rowIs.cell h.box (i:=1) (by decide),World.rowIs.cell h.box (i:=2) (by decide),World.rowIs.cell h.box (i:=3) (by decide)⟩
theorem BLoop.row {g o m:Nat} {f:Nat→Value} (h:BLoop w wr bb kv vv cv n l F) (hg:g<w.heap.size) (hc: ∀i,i<m→w.cell? ⟨g,o+i,none⟩=some (f i)): ∀i,i<m→wr.cell? ⟨g,o+i,none⟩=some (f i):=
 fun i hi=>(h.below.cell (p:=⟨g,o+i,none⟩) hg).trans (hc i hi)
theorem NdSh.key (h:NdSh n K) {i:Nat} (hi:i<n.keys.length):0≤n.keys.getD i 0∧n.keys.getD i 0≤18446744073709551615:=by
 rw[List.getD_eq_getElem?_getD,List.getElem?_eq_getElem hi]
 exact h.kb _ (List.getElem_mem _)
theorem NdSh.val (h:NdSh n K) (hl:n.leaf=true) {i:Nat} (hi:i<n.vals.length):0≤n.vals.getD i 0∧n.vals.getD i 0≤18446744073709551615:=by
 rw[List.getD_eq_getElem?_getD,List.getElem?_eq_getElem hi]
 exact(h.lf hl).2.2 _ (List.getElem_mem _)
theorem NdSh.kid (h:NdSh n K) (hl:n.leaf=false) {i:Nat} (hi:i<n.kids.length):0≤n.kids.getD i 0∧n.kids.getD i 0≤4294967295:=by
 rw[List.getD_eq_getElem?_getD,List.getElem?_eq_getElem hi]
 exact(h.fk hl).2.2 _ (List.getElem_mem _)
end
theorem put8 (x:Int) (h:0≤x): ∀w:World,Calls Tryz.prog 71 #[.int .u64 x, .int .i64 8] w fun e w'=>e= .returned (.string (S (leB x 8)))∧Below w.heap.size w w':=fun w=>put_any x 8 w (by omega) h
theorem put4 (x:Int) (h:0≤x): ∀w:World,Calls Tryz.prog 71 #[.int .u64 x, .int .i64 4] w fun e w'=>e= .returned (.string (S (leB x 4)))∧Below w.heap.size w w':=fun w=>put_any x 4 w (by omega) h
structure BTurn (w wr:World) (bb:Nat) (kv vv cv:Value) (n:ND) (txt:Nat→List UInt8) (v:Value):Prop where
 ex: ∃(i:Nat) (F:List Nat),v= .int .i64 i∧i≤n.keys.length∧BLoop w wr bb kv vv cv n (txt i) F
set_option maxRecDepth 100000 in
set_option maxHeartbeats 4000000 in
theorem bytes_any {w:World} {kv vv cv:Value} {n:ND} {K:Nat} (h:NdI w kv vv cv n) (hs:NdSh n K) (hK:K≤1000):
  Calls Tryz.prog 126 #[ndV kv vv cv n] w fun e w'=>e= .returned (.tuple #[.int .i64 (ndK n), .string (S (ndB n))])∧Below w.heap.size w w':=by
 obtain⟨ka,kc,hkv⟩:=h.ks.form
 obtain⟨va,vc,hvv⟩:=h.vs.form
 obtain⟨ca,cc,hcv⟩:=h.cs.form
 have hkl:=hs.kl
 have HSH:=Lib.hid hs
 have q1:IntKind.u64.wrap (n.keys.length:Int)=(n.keys.length:Int):=IntWalk.u64_in _ (by omega)
 unfold ndV ndK
 cases hl:n.leaf
 ·obtain⟨e1,e2, -⟩:=hs.fk hl
  have HE:=Lib.hid e2
  have HL:=Lib.hid hl
  have HA:=Lib.hid (fkB_all hl e2)
  have HSC:=Lib.hid (fun i a b=>fkB_succ n (i:=i) a b)
  have HLN:=Lib.hid (fun i a b=>fkB_length n (i:=i) a b)
  obtain⟨g0,o0,c0',hcv0,hc0c,hc0m,hg0,hcells0⟩:=h.cs.at_ (by omega)
  have hk0:=hs.kid hl (i:=0) (by omega)
  obtain⟨k0,hk0e⟩: ∃k0,k0=n.kids.getD 0 0:=⟨_,rfl⟩
  rw[←hk0e] at hk0
  have HK0:=Lib.hid hk0e
  have q2:IntKind.u64.wrap k0=k0:=IntWalk.u64_in _ (by omega)
  have HZ:=Lib.hid (show leB n.keys.length 2++leB k0 4=fkB n 0 by rw[hk0e];exact(fkB_zero n).symm)
  have HCL:=Lib.hid hcells0
  clear hcv
  subst hkv;subst hvv;subst hcv0
  have HI:=Lib.hid h
  have hlen1:0<n.kids.length:=by omega
  clear h hs e1 e2 hk0e hcells0 hl
  go_enter Tryz.func126,Tryz.ntmps126
  go_wp2_with fail
  refine(put_any (n.keys.length:Int) 2 _ (by omega) (by omega)).mono ?_
  rintro e w1 ⟨rfl,hb1⟩
  have HL1:=Lib.hid (BLoop.start HL.out hb1)
  clear hb1
  go_wp2_with fail
  refine(writeString_any HL1.out.own _ (by rw[S_size,leB_length];simp)).mono ?_
  rintro e w2 ⟨rfl,F2,ho,t2,f2⟩
  have hl2:=HL1.out.next ho t2 f2
  rw[List.nil_append,data_S] at hl2
  have HL2:=Lib.hid hl2
  clear ho t2 f2 hl2 HL1
  obtain⟨c0,c1,c2,c3⟩:=HL2.out.cells
  rw[HL.out] at c0
  have d0:=HL2.out.row hg0 HCL.out 0 hlen1
  rw[←HK0.out,Nat.add_zero] at d0
  go_wp2_with fail
  refine(put_any k0 4 _ (by omega) hk0.1).mono ?_
  rintro e w3 ⟨rfl,hb3⟩
  have HL3:=Lib.hid (HL2.out.later hb3)
  clear hb3 c0 c1 c2 c3 d0 HL2
  go_wp2_with fail
  refine(writeString_any HL3.out.own _ (by rw[S_size,leB_length,leB_length];omega)).mono ?_
  rintro e w4 ⟨rfl,F4,ho,t4,f4⟩
  have hl4:=HL3.out.next ho t4 f4
  rw[data_S,HZ.out] at hl4
  have HL4:=Lib.hid hl4
  clear ho t4 f4 hl4 HL3
  obtain⟨c0,c1,c2,c3⟩:=HL4.out.cells
  go_wp2_with fail
  go_loopw [7,8,47] (fun _ _ v wr=>BTurn w wr (w.heap.size+1) (.slice ka n.keys.length kc) (.slice va n.vals.length vc) (.slice (some ⟨g0,o0,none⟩) n.kids.length c0') n (fkB n) v) (fun _ _ v _=>n.keys.length - (intOf v).toNat)
  case atStart=>exact⟨⟨0,F4,rfl,Nat.zero_le _,HL4.out⟩⟩
  case round=>
   obtain⟨⟨i,F,rfl,hi,hbl⟩⟩:=hrel
   have HB:=Lib.hid hbl
   clear hbl c0 c1 c2 c3
   by_cases hlt:i<n.keys.length
   ·obtain⟨g1,o1,c1',hkv,hk1,hk2,hg1,hcells1⟩:=HI.out.ks.at_ (by omega)
    cases hkv
    obtain⟨c0,c1,c2,c3⟩:=HB.out.cells
    have d1:=HB.out.row hg1 hcells1 i hlt
    have e1:i+1<n.kids.length:=by rw[HE.out];omega
    have d2:=HB.out.row hg0 HCL.out (i+1) e1
    have b1:=HSH.out.key hlt
    have b2:=HSH.out.kid HL.out e1
    obtain⟨X,hX⟩: ∃X,X=n.keys.getD i 0:=⟨_,rfl⟩
    obtain⟨Y,hY⟩: ∃Y,Y=n.kids.getD (i+1) 0:=⟨_,rfl⟩
    have hsc:=HSC.out i hlt e1
    have hln:=HLN.out i (by omega) (by omega)
    rw[←hX] at d1 b1 hsc
    rw[←hY] at d2 b2 hsc
    have HT:=Lib.hid hsc
    have HN:=Lib.hid hln
    have q3:IntKind.u64.wrap Y=Y:=IntWalk.u64_in _ (by omega)
    have q4:IntKind.i64.wrap ((i:Int)+1)=(i:Int)+1:=IntWalk.i64_in _ (by omega)
    have hg0':=Nat.lt_of_lt_of_le hg0 HB.out.below.size
    have hbx:=World.rowIs.lt HB.out.box
    clear hX hY hsc hln hcells1
    go_wp2_with fail
    have HP1:=Lib.hid (put8 X b1.1)
    have HP2:=Lib.hid (put4 Y b2.1)
    have x0:=fun(x:Later wr)=>(x.cell (o:=3) hbx).trans c3
    have x1:=fun(x:Later wr)=>(x.cell (o:=o0+(i+1)) hg0').trans d2
    have s8:(S (leB X 8)).size=8:=by rw[S_size,leB_length]
    have s4:(S (leB Y 4)).size=4:=by rw[S_size,leB_length]
    refine wp_region_later_tail 11 (by kernel_rfl) (by kernel_rfl) ?_
    simp only[List.take_succ_cons,List.take_zero,List.drop_succ_cons,List.drop_zero]
    repeat (first|go_big_quiet_step ((go_at_call 71;first|with_reducible refine Later.call (HP1.out _)|with_reducible refine Later.call (HP2.out _)))|quiet_step ((go_at_call 71;first|with_reducible refine Later.call (HP1.out _)|with_reducible refine Later.call (HP2.out _))))
    refine wpQuiet_nil ?_
    rintro w5 ⟨y5,hw5⟩
    have hb5:Below wr.heap.size wr w5:=by rw[hw5];exact y5.2
    have HB5:=Lib.hid (HB.out.later hb5)
    clear hw5 hb5 x0 x1 c0 c1 c2 c3 d1 d2
    go_wp2_with fail
    rw[S_append]
    refine(writeString_any HB5.out.own _ (by rw[HN.out,S_size,List.length_append,leB_length,leB_length];omega)).mono ?_
    rintro e w6 ⟨rfl,F6,ho,t6,f6⟩
    have hl6:=HB5.out.next ho t6 f6
    rw[data_S,HT.out] at hl6
    have HL6:=Lib.hid hl6
    clear ho t6 f6 hl6
    go_wp2_with fail
    go_roundw
    case rel=>exact⟨⟨i+1,F6,by go_num,by omega,HL6.out⟩⟩
    case measure=>simp[intOf];omega
   ·obtain rfl:i=n.keys.length:=by omega
    go_wp2_with fail
    refine(stringB_any HB.out.own).mono ?_
    rintro e w5 ⟨rfl,t5⟩
    rw[HA.out]
    have hb5:=HB.out.below.trans (t5.below HB.out.below.size (fun x hx=>by have:=HB.out.ge x hx;omega))
    go_wp2_with fail
    go_ret2
    exact⟨rfl,hb5⟩
 ·obtain⟨e1,e2, -⟩:=hs.lf hl
  have HE:=Lib.hid e2
  have HL:=Lib.hid hl
  have HA:=Lib.hid (lfB_all hl e2)
  have HSC:=Lib.hid (fun i a b=>lfB_succ n (i:=i) a b)
  have HLN:=Lib.hid (fun i a b=>lfB_length n (i:=i) a b)
  have HZ:=Lib.hid (lfB_zero n)
  subst hkv;subst hvv;subst hcv
  have HI:=Lib.hid h
  clear h hs e1 e2 hl
  go_enter Tryz.func126,Tryz.ntmps126
  go_wp2_with fail
  refine(put_any (n.keys.length:Int) 2 _ (by omega) (by omega)).mono ?_
  rintro e w1 ⟨rfl,hb1⟩
  have HL1:=Lib.hid (BLoop.start HL.out hb1)
  clear hb1
  go_wp2_with fail
  refine(writeString_any HL1.out.own _ (by rw[S_size,leB_length];simp)).mono ?_
  rintro e w2 ⟨rfl,F2,ho,t2,f2⟩
  have hl2:=HL1.out.next ho t2 f2
  rw[List.nil_append,data_S, ←HZ.out] at hl2
  have HL4:=Lib.hid hl2
  clear ho t2 f2 hl2 HL1
  obtain⟨c0,c1,c2,c3⟩:=HL4.out.cells
  rw[HL.out] at c0
  go_wp2_with fail
  go_loopw [5,6,20] (fun _ _ v wr=>BTurn w wr (w.heap.size+1) (.slice ka n.keys.length kc) (.slice va n.vals.length vc) (.slice ca n.kids.length cc) n (lfB n) v) (fun _ _ v _=>n.keys.length - (intOf v).toNat)
  case atStart=>exact⟨⟨0,F2,rfl,Nat.zero_le _,HL4.out⟩⟩
  case round=>
   obtain⟨⟨i,F,rfl,hi,hbl⟩⟩:=hrel
   have HB:=Lib.hid hbl
   clear hbl c0 c1 c2 c3
   by_cases hlt:i<n.keys.length
   ·obtain⟨g1,o1,c1',hkv,hk1,hk2,hg1,hcells1⟩:=HI.out.ks.at_ (by omega)
    cases hkv
    have e1:i<n.vals.length:=by rw[HE.out];exact hlt
    obtain⟨g0,o0,c0',hvv,hv1,hv2,hg0,hcells0⟩:=HI.out.vs.at_ (by omega)
    cases hvv
    obtain⟨c0,c1,c2,c3⟩:=HB.out.cells
    have d1:=HB.out.row hg1 hcells1 i hlt
    have d2:=HB.out.row hg0 hcells0 i e1
    have b1:=HSH.out.key hlt
    have b2:=HSH.out.val HL.out e1
    obtain⟨X,hX⟩: ∃X,X=n.keys.getD i 0:=⟨_,rfl⟩
    obtain⟨Y,hY⟩: ∃Y,Y=n.vals.getD i 0:=⟨_,rfl⟩
    have hsc:=HSC.out i hlt e1
    have hln:=HLN.out i (by omega) (by omega)
    rw[←hX] at d1 b1 hsc
    rw[←hY] at d2 b2 hsc
    have HT:=Lib.hid hsc
    have HN:=Lib.hid hln
    have hg0':=Nat.lt_of_lt_of_le hg0 HB.out.below.size
    have hbx:=World.rowIs.lt HB.out.box
    clear hX hY hsc hln hcells1 hcells0
    go_wp2_with fail
    have HP1:=Lib.hid (put8 X b1.1)
    have HP2:=Lib.hid (put8 Y b2.1)
    have x0:=fun(x:Later wr)=>(x.cell (o:=2) hbx).trans c2
    have x1:=fun(x:Later wr)=>(x.cell (o:=o0+i) hg0').trans d2
    have s8:(S (leB X 8)).size=8:=by rw[S_size,leB_length]
    have s4:(S (leB Y 8)).size=8:=by rw[S_size,leB_length]
    refine wp_region_later_tail 9 (by kernel_rfl) (by kernel_rfl) ?_
    simp only[List.take_succ_cons,List.take_zero,List.drop_succ_cons,List.drop_zero]
    repeat (first|go_big_quiet_step ((go_at_call 71;first|with_reducible refine Later.call (HP1.out _)|with_reducible refine Later.call (HP2.out _)))|quiet_step ((go_at_call 71;first|with_reducible refine Later.call (HP1.out _)|with_reducible refine Later.call (HP2.out _))))
    refine wpQuiet_nil ?_
    rintro w5 ⟨y5,hw5⟩
    have hb5:Below wr.heap.size wr w5:=by rw[hw5];exact y5.2
    have HB5:=Lib.hid (HB.out.later hb5)
    clear hw5 hb5 x0 x1 c0 c1 c2 c3 d1 d2
    go_wp2_with fail
    rw[S_append]
    refine(writeString_any HB5.out.own _ (by rw[HN.out,S_size,List.length_append,leB_length,leB_length];omega)).mono ?_
    rintro e w6 ⟨rfl,F6,ho,t6,f6⟩
    have hl6:=HB5.out.next ho t6 f6
    rw[data_S,HT.out] at hl6
    have HL6:=Lib.hid hl6
    clear ho t6 f6 hl6
    have q4:IntKind.i64.wrap ((i:Int)+1)=(i:Int)+1:=IntWalk.i64_in _ (by omega)
    go_wp2_with fail
    go_roundw
    case rel=>exact⟨⟨i+1,F6,by go_num,by omega,HL6.out⟩⟩
    case measure=>simp[intOf];omega
   ·obtain rfl:i=n.keys.length:=by omega
    go_wp2_with fail
    refine(stringB_any HB.out.own).mono ?_
    rintro e w5 ⟨rfl,t5⟩
    rw[HA.out]
    have hb5:=HB.out.below.trans (t5.below HB.out.below.size (fun x hx=>by have:=HB.out.ge x hx;omega))
    go_wp2_with fail
    go_ret2
    exact⟨rfl,hb5⟩
end Go.Proofs.YtjgkegkinnlcoaaGreatDoor
namespace Go.Proofs.YtjgkegkinnlcoaaGreatDoor
open Go.RowKit Go.Joins
section
variable {w w':World} {B g n m cap:Nat} {e:TypeId} {xs ys:List Value} {f:Nat→Value}
theorem ownsRow_rowIs (h:w.ownsRow B e 1 (.slice (some ⟨g,0,none⟩) n cap) n xs):B≤g∧n≤cap∧cap≤maxLen∧xs.length=n∧ ∃f,w.rowIs g e cap f∧ ∀i,i<n→xs[i]? =some (f i):=by
 obtain⟨hl,h⟩:=h
 rw[Nat.mul_one] at hl
 rcases h with ⟨hv, -⟩|⟨g',cap',cur,hv,hb,hg,h1,h2,h3,h4⟩
 ·cases hv
 ·cases hv
  rw[Nat.mul_one] at h3 h4
  refine⟨hb,h1,h2,hl,fun i=>cur.getD i (.int .i64 0),⟨cur,hg,h3,fun i hi=> ?_⟩,fun i hi=> ?_⟩
  ·show cur[i]? =some (cur.getD i _)
   rw[Array.getD_eq_getD_getElem?,Array.getElem?_eq_getElem (by omega)];rfl
  ·show xs[i]? =some (cur.getD i _)
   rw[←h4,List.getElem?_take_of_lt hi,Array.getElem?_toList,Array.getD_eq_getD_getElem?,Array.getElem?_eq_getElem (by omega)];rfl
theorem ownsRow_of_rowIs (h:w.rowIs g e cap f) (hB:B≤g) (hn:n≤cap) (hm:cap≤maxLen) (hl:xs.length=n) (hx: ∀i,i<n→xs[i]? =some (f i)):w.ownsRow B e 1 (.slice (some ⟨g,0,none⟩) n cap) n xs:=by
 obtain⟨cur,hg,hs,hc⟩:=h
 refine⟨by rw[Nat.mul_one];exact hl, .inr ⟨g,cap,cur,rfl,hB,hg,hn,hm,by rw[Nat.mul_one];exact hs, ?_⟩⟩
 rw[Nat.mul_one]
 apply List.ext_getElem?
 intro i
 by_cases hi:i<n
 ·rw[List.getElem?_take_of_lt hi,Array.getElem?_toList,hc i (by omega),hx i hi]
 ·rw[List.getElem?_eq_none (by rw[List.length_take];omega),List.getElem?_eq_none (by omega)]
theorem rowIs_drew (h:w.rowIs g e cap f):w.drew.rowIs g e cap f:=h
theorem setCells_touch (g:Nat): ∀(vs:List Value) (o:Nat) (w:World),Touch [g] w (w.setCells g o vs)
 | [],o,w=>Touch.refl _ _
 |v::vs,o,w=>by
  rw[World.setCells]
  exact((Touch.refl [g] w).setCell (p:=⟨g,o,none⟩) (.inl (by simp)) v).trans (setCells_touch g vs (o+1) _) (fun b hb=> .inl hb)
theorem ownsRow_setCell (h:w.ownsRow B e 1 (.slice (some ⟨g,0,none⟩) n cap) n xs) {i:Nat} (hi:i<n) {x:Value} (h1:x.oneCell'=true):(w.setCell ⟨g,i,none⟩ x).ownsRow B e 1 (.slice (some ⟨g,0,none⟩) n cap) n (xs.set i x):=by
 obtain⟨hB,hn,hm,hl,f,hf,hx⟩:=ownsRow_rowIs h
 have hr:=rowIs_setCells [x] i w f hf
 refine ownsRow_of_rowIs (f:=fun j=>if i≤j∧j<i+[x].length then _ else f j) hr hB hn hm (by rw[List.length_set];exact hl) (fun j hj=> ?_)
 by_cases e:j=i
 ·subst e
  rw[List.getElem?_set_self (by omega)]
  simp
 ·rw[List.getElem?_set_ne (Ne.symm e),hx j hj,if_neg (by simp;omega)]
end
end Go.Proofs.YtjgkegkinnlcoaaGreatDoor
