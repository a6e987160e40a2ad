/- Lemmas on the way to the statement: BtPutT, BtChg, BtPut, BtPut2, BtRoot, BtDel1, BtDel2. -/
import Derived.Test.YtjgkegkinnlcoaaGreatDoorJ14
set_option linter.unusedSimpArgs false
set_option linter.unusedVariables false
namespace Go.Proofs.YtjgkegkinnlcoaaGreatDoor
open Go.RowKit Go.Maps Go.Joins
theorem IsI.cells {W:World} {g m:Nat} {k:IntKind} {l:List Int} {t:TypeId} (h:W.heap[g]? =some (.cells (l.map (Value.int k)).toArray t (0,0))) (hl:l.length=m) (h0:0<m) (hm:m≤maxLen):IsI W k (.slice (some ⟨g,0,none⟩) m m) l:=by
 subst hl
 refine .inr ⟨g,0,_,rfl,Nat.le_refl _,hm,(Array.getElem?_eq_some_iff.1 h).1,fun i hi=> ?_⟩
 unfold World.cell?
 rw[Nat.zero_add,h]
 simp only[Option.isSome_none,Bool.false_eq_true,if_false]
 rw[List.getElem?_toArray,List.getElem?_map,getElem?_getD hi]
 rfl
theorem fresh_bd {w0 w:World} {p K:Nat} {M:PM} {X:List Nat} (h:PgX w0 w p K M X) (n:ND):0≤(freshB M n).1∧(freshB M n).1≤4294967295:=by
 have ha:=h.alloc_bd (ndK n)
 unfold freshB
 simp only
 split
 ·simp
 ·exact ha
theorem heap_alloc_old {W:World} {o:Obj} {g:Nat} {c:Obj} (h:W.heap[g]? =some c):(W.alloc o).heap[g]? =some c:=by
 have hg:=(Array.getElem?_eq_some_iff.1 h).1
 show(W.heap.push _)[g]? =_
 rw[Array.getElem?_push_lt hg, ←h,Array.getElem?_eq_getElem hg]
set_option maxRecDepth 100000 in
set_option maxHeartbeats 4000000 in
theorem Put_any {w0 w:World} {p K:Nat} {M:PM} {X:List Nat} (h:PgX w0 w p K M X) (hK:K≤800000000000) (root key val:Int) (hk:0≤key∧key≤18446744073709551615) (hv:0≤val∧val≤18446744073709551615):
  Calls Tryz.prog 14 #[.pointer (some ⟨p,0,none⟩), .int .i64 root, .int .u64 key, .int .u64 val] w fun e w'=>e= .returned (.int .i64 (putB M root key val).1)∧PgX w0 w' p (K+600) (putB M root key val).2 X∧SameX X w w':=by
 have HTP:=Lib.hid (top_any h (by omega) root)
 have HX:=Lib.hid h.lt
 have hbd:0≤(topB M root).1∧(topB M root).1≤2147483647:=by
  obtain⟨b1,b2,b3⟩:=rootP_bd M root
  unfold topB
  simp only
  split
  ·simp
  ·rename_i hn
   by_cases e:(rootP M root).2=0
   ·simp only[e,true_and] at hn;omega
   ·have:=b3 e;omega
 obtain⟨R,hR⟩: ∃R,R=putB M root key val:=⟨_,rfl⟩
 rw[←hR]
 unfold putB at hR
 generalize topB M root=T at HTP hbd hR
 obtain⟨no,er⟩:=T
 simp only at HTP hbd hR
 obtain⟨n0,n1⟩:=hbd
 have HR:=Lib.hid hR
 have HKV:=Lib.hid (And.intro hk hv)
 clear h hR hk hv
 go_enter Tryz.func14,Tryz.ntmps14
 go_wp2_with fail
 refine HTP.out.mono ?_
 rintro e w1 ⟨rfl,hp1,hs1⟩
 have HP1:=Lib.hid hp1
 have HS1:=Lib.hid hs1
 clear hp1 hs1 HTP
 by_cases her:er=0
 rotate_left
 ·have d1:(er != 0)=true:=by simpa using her
  have hq:R=(er,M):=by rw[HR.out,if_pos her]
  subst hq
  go_wp2_with fail
  go_ret
  exact⟨rfl,HP1.out.mono (by omega),HS1.out⟩
 subst her
 have hq:=HR.out
 rw[if_neg (by simp)] at hq
 by_cases hno:no=0
 ·subst hno
  rw[if_pos rfl] at hq
  have HW3:=Lib.hid (below_alloc (o:= .cells #[.int .u64 val] 28) (below_alloc (o:= .cells #[.int .u64 key] 28) (Below.refl w1.heap.size w1)))
  have HG1:Hid (((w1.alloc (.cells #[.int .u64 key] 28)).alloc (.cells #[.int .u64 val] 28)).heap[w1.heap.size]? =some (.cells #[.int .u64 key] 28 (0,0))):=Lib.hid (heap_alloc_old (heap_alloc_new w1 _))
  have HG2:Hid (((w1.alloc (.cells #[.int .u64 key] 28)).alloc (.cells #[.int .u64 val] 28)).heap[w1.heap.size+1]? =some (.cells #[.int .u64 val] 28 (0,0))):=Lib.hid (by
   have:=heap_alloc_new (w1.alloc (.cells #[.int .u64 key] 28)) (.cells #[.int .u64 val] 28)
   rw[World.size_alloc_eq] at this
   exact this)
  have HPX:=Lib.hid (HP1.out.move (Y:=w1.heap.size::(w1.heap.size+1)::X) HW3.out (fun y hy=>by
   simp only[List.mem_cons] at hy
   rcases hy with rfl|rfl|hy
   ·exact .inr ⟨Nat.le_refl _,by rw[World.size_alloc_eq,World.size_alloc_eq];omega⟩
   ·exact .inr ⟨by omega,by rw[World.size_alloc_eq,World.size_alloc_eq];omega⟩
   ·exact .inl hy))
  have hsh:NdSh (⟨true,[key],[val],[]⟩:ND) 1:=⟨by simp,fun k hk=>by simp at hk;subst hk;exact HKV.out.1,fun _=>⟨rfl,rfl,fun v hv=>by simp at hv;subst hv;exact HKV.out.2⟩,fun e=>by cases e⟩
  have hfr:=fresh_any HPX.out (by omega) (kv:= .slice (some ⟨w1.heap.size,0,none⟩) 1 1) (vv:= .slice (some ⟨w1.heap.size+1,0,none⟩) 1 1) (cv:= .slice none 0 0) ⟨IsI.cells (l:=[key]) HG1.out rfl (by simp) (by simp[maxLen]),IsI.cells (l:=[val]) HG2.out rfl (by simp) (by simp[maxLen]),IsI.nil _ _⟩ hsh (by decide) (fun g hg=>by simp[ndBk,blkOf] at hg ⊢;omega)
  have hbd:=fresh_bd HPX.out ⟨true,[key],[val],[]⟩
  unfold ndV at hfr
  generalize freshB M ⟨true,[key],[val],[]⟩=F at hfr hbd hq
  obtain⟨fn,fe,M5⟩:=F
  simp only at hfr hbd hq
  obtain⟨f0,f1⟩:=hbd
  have HFR:=Lib.hid hfr
  have HQ:=Lib.hid hq
  have HSB:=Lib.hid (SameX.of_below HW3.out HP1.out.lt)
  clear hfr hq hsh HG1 HG2 HR
  go_wp2_with fail
  refine HFR.out.mono ?_
  rintro e w5 ⟨rfl,hp5,hs5⟩
  have HP5:=Lib.hid (hp5.sub (Y:=X) (fun y hy=>by simp[hy]))
  have HS5:=Lib.hid ((HS1.out.trans HSB.out).trans (hs5.sub (fun y hy=>by simp[hy])))
  clear hp5 hs5 HFR
  by_cases hfe:fe=0
  rotate_left
  ·have d2:(fe != 0)=true:=by simpa using hfe
   have hq:R=(fe,M5):=by rw[HQ.out,if_pos hfe]
   subst hq
   go_wp2_with fail
   go_ret
   exact⟨rfl,HP5.out.mono (by omega),HS5.out⟩
  subst hfe
  have hq:R=setRootP M5 root fn:=by rw[HQ.out,if_neg (by simp)]
  have HSR:=px_setRoot HP5.out (by omega) root fn f0
  rw[←hq] at HSR
  have HSR:=Lib.hid HSR
  have hw:IntKind.u64.wrap fn=fn:=IntWalk.u64_in _ (by omega)
  clear hq HQ
  go_wp2_with fail
  refine HSR.out.mono ?_
  rintro e w6 ⟨rfl,hp6,hs6⟩
  have HP6:=Lib.hid hp6
  have HS6:=Lib.hid hs6
  clear hp6 hs6
  go_wp2_with fail
  go_ret
  exact⟨rfl,HP6.out.mono (by omega),HS5.out.trans HS6.out⟩
 ·rw[if_neg hno] at hq
  have d1:(no==0)=false:=by simpa using hno
  have hpt:=bput_any key val HKV.out.1 HKV.out.2 16 HP1.out (by omega) no 1 (by decide)
  generalize putL key val 16 M no=G at hpt hq
  obtain⟨k6,n6,e6,M6⟩:=G
  simp only at hq
  have HPT:=Lib.hid hpt
  have HQ:=Lib.hid hq
  clear hpt hq HR
  go_wp2_with fail
  refine HPT.out.mono ?_
  rintro e w6 ⟨rfl,hp6,hs6,hk6,hn6,hn6'⟩
  have HP6:=Lib.hid hp6
  have HS6:=Lib.hid (HS1.out.trans hs6)
  have HK6:=Lib.hid hk6
  simp only at hn6 hn6'
  clear hp6 hs6 hk6 HPT
  by_cases he6:e6=0
  rotate_left
  ·have d6:(e6 != 0)=true:=by simpa using he6
   have hq:R=(e6,M6):=by rw[HQ.out,if_pos (.inl he6)]
   subst hq
   go_wp2_with (refine wpList_store_part rfl (.tmp 11) (.tmp 47) rfl w6.heap.size k6 n6 rfl rfl (ptF_new w6 0 0) ?_;intro w7 hr7 t7;have HB7:=Lib.hid ((((Touch.refl [w6.heap.size] w6).alloc _).trans t7 (fun b hb=> .inl hb)).below (Nat.le_refl _) (fun x hx=>by simp at hx;omega));have HP7:=Lib.hid (HP6.out.moveX HB7.out);have HS7:=Lib.hid (HS6.out.trans (SameX.of_below HB7.out HP6.out.lt));obtain⟨m0,m1⟩:=ptF_cells hr7;have hlt7:=World.rowIs.lt hr7;clear hr7 t7)
   go_ret
   exact⟨rfl,HP7.out.mono (by omega),HS7.out⟩
  subst he6
  by_cases hn0:n6=0
  ·have hq:R=(0,M6):=by rw[HQ.out,if_pos (.inr hn0)]
   subst hn0
   subst hq
   go_wp2_with (refine wpList_store_part rfl (.tmp 11) (.tmp 47) rfl w6.heap.size k6 0 rfl rfl (ptF_new w6 0 0) ?_;intro w7 hr7 t7;have HB7:=Lib.hid ((((Touch.refl [w6.heap.size] w6).alloc _).trans t7 (fun b hb=> .inl hb)).below (Nat.le_refl _) (fun x hx=>by simp at hx;omega));have HP7:=Lib.hid (HP6.out.moveX HB7.out);have HS7:=Lib.hid (HS6.out.trans (SameX.of_below HB7.out HP6.out.lt));obtain⟨m0,m1⟩:=ptF_cells hr7;have hlt7:=World.rowIs.lt hr7;clear hr7 t7)
   go_ret
   exact⟨rfl,HP7.out.mono (by omega),HS7.out⟩
  have d6:(n6==0)=false:=by simpa using hn0
  have hq:=HQ.out
  rw[if_neg (by simp[hn0])] at hq
  go_wp2_with (refine wpList_store_part rfl (.tmp 11) (.tmp 47) rfl w6.heap.size k6 n6 rfl rfl (ptF_new w6 0 0) ?_;intro w7 hr7 t7;have HB7:=Lib.hid ((((Touch.refl [w6.heap.size] w6).alloc _).trans t7 (fun b hb=> .inl hb)).below (Nat.le_refl _) (fun x hx=>by simp at hx;omega));have HP7:=Lib.hid (HP6.out.moveX HB7.out);have HS7:=Lib.hid (HS6.out.trans (SameX.of_below HB7.out HP6.out.lt));obtain⟨m0,m1⟩:=ptF_cells hr7;have hlt7:=World.rowIs.lt hr7;clear hr7 t7)
  have HW9:=Lib.hid (below_alloc (o:= .cells #[.int .i64 no, .int .i64 n6] 3) (below_alloc (o:= .cells #[.int .u64 k6] 28) (Below.refl w7.heap.size w7)))
  have HG1:Hid (((w7.alloc (.cells #[.int .u64 k6] 28)).alloc (.cells #[.int .i64 no, .int .i64 n6] 3)).heap[w7.heap.size]? =some (.cells #[.int .u64 k6] 28 (0,0))):=Lib.hid (heap_alloc_old (heap_alloc_new w7 _))
  have HG2:Hid (((w7.alloc (.cells #[.int .u64 k6] 28)).alloc (.cells #[.int .i64 no, .int .i64 n6] 3)).heap[w7.heap.size+1]? =some (.cells #[.int .i64 no, .int .i64 n6] 3 (0,0))):=Lib.hid (by
   have:=heap_alloc_new (w7.alloc (.cells #[.int .u64 k6] 28)) (.cells #[.int .i64 no, .int .i64 n6] 3)
   rw[World.size_alloc_eq] at this
   exact this)
  have HPX:=Lib.hid (HP7.out.move (Y:=w7.heap.size::(w7.heap.size+1)::X) HW9.out (fun y hy=>by
   simp only[List.mem_cons] at hy
   rcases hy with rfl|rfl|hy
   ·exact .inr ⟨Nat.le_refl _,by rw[World.size_alloc_eq,World.size_alloc_eq];omega⟩
   ·exact .inr ⟨by omega,by rw[World.size_alloc_eq,World.size_alloc_eq];omega⟩
   ·exact .inl hy))
  have hsh:NdSh (⟨false,[k6],[],[no,n6]⟩:ND) 1:=⟨by simp,fun k hk=>by simp at hk;subst hk;exact HK6.out,fun e=>(by cases e),fun _=>⟨rfl,rfl,fun v hv=>by
   simp at hv
   rcases hv with rfl|rfl
   ·omega
   ·omega⟩⟩
  have hfr:=fresh_any HPX.out (by omega) (kv:= .slice (some ⟨w7.heap.size,0,none⟩) 1 1) (vv:= .slice none 0 0) (cv:= .slice (some ⟨w7.heap.size+1,0,none⟩) 2 2) ⟨IsI.cells (l:=[k6]) HG1.out rfl (by simp) (by simp[maxLen]),IsI.nil _ _,IsI.cells (l:=[no,n6]) HG2.out rfl (by simp) (by simp[maxLen])⟩ hsh (by decide) (fun g hg=>by simp[ndBk,blkOf] at hg ⊢;omega)
  have hbd:=fresh_bd HPX.out ⟨false,[k6],[],[no,n6]⟩
  unfold ndV at hfr
  generalize freshB M6 ⟨false,[k6],[],[no,n6]⟩=F at hfr hbd hq
  obtain⟨fn,fe,M5⟩:=F
  simp only at hfr hbd hq
  obtain⟨f0,f1⟩:=hbd
  have HFR:=Lib.hid hfr
  have HQ2:=Lib.hid hq
  have HSB:=Lib.hid (SameX.of_below HW9.out HP7.out.lt)
  clear hfr hq hsh HG1 HG2 HQ
  refine HFR.out.mono ?_
  rintro e w9 ⟨rfl,hp9,hs9⟩
  have HP9:=Lib.hid (hp9.sub (Y:=X) (fun y hy=>by simp[hy]))
  have HS9:=Lib.hid ((HS7.out.trans HSB.out).trans (hs9.sub (fun y hy=>by simp[hy])))
  clear hp9 hs9 HFR m0 m1
  by_cases hfe:fe=0
  rotate_left
  ·have d2:(fe != 0)=true:=by simpa using hfe
   have hq:R=(fe,M5):=by rw[HQ2.out,if_pos hfe]
   subst hq
   go_wp2_with fail
   go_ret
   exact⟨rfl,HP9.out.mono (by omega),HS9.out⟩
  subst hfe
  have hq:R=setRootP M5 root fn:=by rw[HQ2.out,if_neg (by simp)]
  have HSR:=px_setRoot HP9.out (by omega) root fn f0
  rw[←hq] at HSR
  have HSR:=Lib.hid HSR
  have hw:IntKind.u64.wrap fn=fn:=IntWalk.u64_in _ (by omega)
  clear hq HQ2
  go_wp2_with fail
  refine HSR.out.mono ?_
  rintro e wa ⟨rfl,hpa,hsa⟩
  have HPA:=Lib.hid hpa
  have HSA:=Lib.hid hsa
  clear hpa hsa
  go_wp2_with fail
  go_ret
  exact⟨rfl,HPA.out.mono (by omega),HS9.out.trans HSA.out⟩
end Go.Proofs.YtjgkegkinnlcoaaGreatDoor
namespace Go.Proofs.YtjgkegkinnlcoaaGreatDoor
open Go.RowKit
structure Chg (R R':RM) (P P':List Int):Prop where
 room:R'.room=R.room
 most:R'.most=R.most
 roots:R'.way.roots=R.way.roots
 nd:P'.Nodup
 live: ∀q∈P',Live R' q
 sub: ∀q∈P',q∈P∨ ¬Live R q
 oth: ∀q,Live R q→q∉P→Live R' q∧pgC R' q=pgC R q
 cnt:lenR R'+R.way.free.length+P.length=lenR R+R'.way.free.length+P'.length
section
variable {M M':PM} {R R1 R2 R':RM} {N:Nat} {G:Int} {P P1 P2 P' A B:List Int}
theorem Chg.refl (h:P.Nodup) (hl: ∀q∈P,Live R q):Chg R R P P:=⟨rfl,rfl,rfl,h,hl,fun q hq=> .inl hq,fun q h _=>⟨h,rfl⟩,by omega⟩
theorem Chg.trans (h:Chg R R1 P P1) (k:Chg R1 R2 P1 P2):Chg R R2 P P2:=by
 refine⟨k.room.trans h.room,k.most.trans h.most,k.roots.trans h.roots,k.nd,k.live,fun q hq=> ?_,fun q hq hn=> ?_,by have:=h.cnt;have:=k.cnt;omega⟩
 ·rcases k.sub q hq with h1|h1
  ·exact h.sub q h1
  ·by_cases e1:q∈P
   ·exact .inl e1
   ·exact .inr fun e2=>h1 (h.oth q e2 e1).1
 ·obtain⟨a,b⟩:=h.oth q hq hn
  have hn1:q∉P1:=fun hm=>(h.sub q hm).elim hn (fun h=>h hq)
  obtain⟨c,d⟩:=k.oth q a hn1
  exact⟨c,d.trans b⟩
theorem Chg.perm (h:Chg R R1 P P1) (p:P1.Perm P2):Chg R R1 P P2:=
 ⟨h.room,h.most,h.roots,p.nodup_iff.1 h.nd,fun q hq=>h.live q (p.mem_iff.2 hq),fun q hq=>h.sub q (p.mem_iff.2 hq),h.oth,by rw[←p.length_eq];exact h.cnt⟩
theorem Chg.ctx (h:Chg R R1 P P1) (hn:(A++(P++B)).Nodup) (hl: ∀q∈A++(P++B),Live R q):Chg R R1 (A++(P++B)) (A++(P1++B)):=by
 rw[List.nodup_append] at hn
 obtain⟨n1,n2,n3⟩:=hn
 rw[List.nodup_append] at n2
 obtain⟨n4,n5,n6⟩:=n2
 have hA: ∀q∈A,q∉P1∧q∉P:=fun q hq=>by
  have h1:q∉P:=fun hm=>n3 q hq q (by simp[hm]) rfl
  exact⟨fun hm=>(h.sub q hm).elim h1 (fun h=>h (hl q (by simp[hq]))),h1⟩
 have hB: ∀q∈B,q∉P1∧q∉P:=fun q hq=>by
  have h1:q∉P:=fun hm=>n6 q hm q hq rfl
  exact⟨fun hm=>(h.sub q hm).elim h1 (fun h=>h (hl q (by simp[hq]))),h1⟩
 refine⟨h.room,h.most,h.roots, ?_,fun q hq=> ?_,fun q hq=> ?_,fun q hq hn=> ?_, ?_⟩
 ·rw[List.nodup_append]
  refine⟨n1, ?_,fun a ha b hb e=> ?_⟩
  ·rw[List.nodup_append]
   exact⟨h.nd,n5,fun a ha b hb e=>(hB b hb).1 (e▸ha)⟩
  ·subst e
   rcases List.mem_append.1 hb with hb|hb
   ·exact(hA a ha).1 hb
   ·exact n3 a ha a (by simp[hb]) rfl
 ·rcases List.mem_append.1 hq with hq|hq
  ·exact(h.oth q (hl q (by simp[hq])) (hA q hq).2).1
  ·rcases List.mem_append.1 hq with hq|hq
   ·exact h.live q hq
   ·exact(h.oth q (hl q (by simp[hq])) (hB q hq).2).1
 ·rcases List.mem_append.1 hq with hq|hq
  ·exact .inl (by simp[hq])
  ·rcases List.mem_append.1 hq with hq|hq
   ·exact(h.sub q hq).imp (fun h=>by simp[h]) id
   ·exact .inl (by simp[hq])
 ·exact h.oth q hq (fun hm=>hn (by simp[hm]))
 ·have:=h.cnt
  simp only[List.length_append,Int.natCast_add]
  omega
theorem read_same (h:Rel M R N G) (h':Rel M' R' N G) {q:Int} (l:Live R q) (l':Live R' q) (e:pgC R' q=pgC R q):ndRead M' q=ndRead M q:=by
 have e1:=h.readC (no:=q) (by have:=l.1;omega) l.2.1
 have e2:=h'.readC (no:=q) (by have:=l'.1;omega) l'.2.1
 unfold ndRead
 rw[e1,e2,e]
theorem StpC.live {no:Int} (s:StpC R R' no) {q:Int} (h:Live R q) (hq:q≠no):Live R' q∧pgC R' q=pgC R q:=by
 have e:=s.oth q h.1 h.2.1 hq
 exact⟨⟨h.1,Int.lt_of_lt_of_le h.2.1 s.len,by rw[e];exact h.2.2⟩,e⟩
theorem ndK_bd (n:ND):2≤ndK n∧ndK n≤3:=by unfold ndK;split<;>omega
theorem st_writeB (h:Rel M R N G) (hr:R.most≤R.room) {n:ND} (hn:NdOk n) {no:Int} (hP:P.Nodup) (hl: ∀q∈P,Live R q) (hm:no∈P):
  ∃M' R',writeB M no n=(0,M')∧Rel M' R' N G∧Chg R R' P P∧ndRead M' no=(0,n)∧ ∀q,Live R q→q≠no→ndRead M' q=ndRead M q:=by
 have hk:=ndK_bd n
 obtain⟨M',R',e1,e2,e3,e4,e5,e6,e7⟩:=h.stWrite hr (hl no hm) (kind:=ndK n) (room:=S (ndB n)) (by omega) (by omega) (by rw[S_size];exact ndB_size hn)
 have hno:Live R' no:=⟨(hl no hm).1,by rw[e4];exact(hl no hm).2.1,by rw[e7];show ndK n≠255;omega⟩
 refine⟨M',R',e1,e2,⟨e3.room,e3.most,e6,hP,fun q hq=> ?_,fun q hq=> .inl hq,fun q hq hnq=>e3.live hq (fun e=>hnq (e▸hm)),by rw[e4,e5]⟩, ?_,fun q hq hne=> ?_⟩
 ·by_cases e:q=no
  ·rw[e];exact hno
  ·exact(e3.live (hl q hq) e).1
 ·refine ndRead_of hn ?_
  rw[e2.readC (by have:=hno.1;omega) hno.2.1,e7]
 ·obtain⟨a,b⟩:=e3.live hq hne
  exact read_same h e2 hq a b
theorem st_fresh (h:Rel M R N G) (hr:R.most≤R.room) {n:ND} (hn:NdOk n) (hs:lenR R+1≤R.most+R.way.free.length) (hP:P.Nodup) (hl: ∀q∈P,Live R q):
  ∃no M' R',freshB M n=(no,0,M')∧Rel M' R' N G∧Chg R R' P (no::P)∧ ¬Live R no∧1≤no∧no≤65535∧ndRead M' no=(0,n)∧ ∀q,Live R q→ndRead M' q=ndRead M q:=by
 have hk:=ndK_bd n
 have hlen:lenR R=R.way.kinds.length:=rfl
 obtain⟨no,M1,R1,e1,e2,e3,e4,e5,e6,e7,e8⟩:=h.stAlloc hr (kind:=ndK n) (by omega) (by omega) (by omega)
 have hnp:no∉P:=fun hm=>e4 (hl no hm)
 have hl1: ∀q∈no::P,Live R1 q:=fun q hq=>by
  rcases List.mem_cons.1 hq with rfl|hq
  ·exact e5
  ·exact(e3.live (hl q hq) (fun e=>hnp (e▸hq))).1
 have hc1:Chg R R1 P (no::P):=by
  refine⟨e3.room,e3.most,e7,List.nodup_cons.2 ⟨hnp,hP⟩,hl1,fun q hq=> ?_,fun q hq hnq=>e3.live hq (fun e=>e4 (e▸hq)),by rw[List.length_cons];omega⟩
  rcases List.mem_cons.1 hq with rfl|hq
  ·exact .inr e4
  ·exact .inl hq
 obtain⟨M2,R2,g1,g2,g3,g4,g5⟩:=st_writeB e2 (by rw[e3.most,e3.room];exact hr) hn hc1.nd hl1 (no:=no) (by simp)
 have hbig:=e2.big
 have hle:=e2.way.le
 have hlen1:lenR R1=R1.way.kinds.length:=rfl
 refine⟨no,M2,R2, ?_,g2,hc1.trans g3,e4,e5.1,by have:=e5.2.1;omega,g4,fun q hq=> ?_⟩
 ·unfold freshB
  rw[e1]
  simp only
  rw[if_neg (by simp),g1]
 ·have hne:q≠no:=fun e=>e4 (e▸hq)
  obtain⟨a,b⟩:=e3.live hq hne
  rw[g5 q a hne]
  exact read_same h e2 hq a b
end
end Go.Proofs.YtjgkegkinnlcoaaGreatDoor
namespace Go.Proofs.YtjgkegkinnlcoaaGreatDoor
open Go.RowKit
theorem Segs.weakLo: ∀ {ks:List Int} {lo hi:Option Int} {ss:List (List (Int × Int))},Segs lo hi ks ss→Segs none hi ks ss
 | [],lo,hi,[s],h=>fun p hp=>⟨fun l e=>(by cases e),(h p hp).2⟩
 | [],_,_,[],h=>h.elim
 | [],_,_,_::_::_,h=>h.elim
 |k::ks,_,_,[],h=>h.elim
 |k::ks,lo,hi,s::ss,h=>⟨fun p hp=>⟨fun l e=>(by cases e),(h.1 p hp).2⟩,h.2⟩
theorem Segs.weakHi: ∀ {ks:List Int} {lo hi:Option Int} {ss:List (List (Int × Int))},Segs lo hi ks ss→Segs lo none ks ss
 | [],lo,hi,[s],h=>fun p hp=>⟨(h p hp).1,fun l e=>by cases e⟩
 | [],_,_,[],h=>h.elim
 | [],_,_,_::_::_,h=>h.elim
 |k::ks,_,_,[],h=>h.elim
 |k::ks,lo,hi,s::ss,h=>⟨h.1,h.2.weakHi⟩
theorem Segs.cut: ∀ {K1 K2:List Int} {k:Int} {lo hi:Option Int} {S1 S2:List (List (Int × Int))},Segs lo hi (K1++k::K2) (S1++S2)→S1.length=K1.length+1→Segs lo (some k) K1 S1∧Segs (some k) hi K2 S2
 | [],K2,k,lo,hi,S1,S2,h,hl=>by
  cases S1 with
  |nil=>simp at hl
  |cons s S1=>
   have:S1=[]:=List.eq_nil_of_length_eq_zero (by simpa using hl)
   subst this
   exact h
 |a::K1,K2,k,lo,hi,S1,S2,h,hl=>by
  cases S1 with
  |nil=>simp at hl
  |cons s S1=>
   obtain⟨h1,h2⟩:=h
   obtain⟨g1,g2⟩:=Segs.cut h2 (by simpa using hl)
   exact⟨⟨h1,g1⟩,g2⟩
theorem Segs.repl {s s':List (Int × Int)}: ∀ {KA KB:List Int} {lo hi:Option Int} {SA SB:List (List (Int × Int))},Segs lo hi (KA++KB) (SA++s::SB)→SA.length=KA.length→
  (∀lo' hi',InB lo' hi' s→(∀l,lo'=some l→lo=some l∨l∈KA)→(∀u,hi'=some u→hi=some u∨u∈KB)→InB lo' hi' s')→Segs lo hi (KA++KB) (SA++s'::SB)
 | [],KB,lo,hi,SA,SB,h,hl,hs=>by
  have:SA=[]:=List.eq_nil_of_length_eq_zero hl
  subst this
  cases KB with
  |nil=>
   have:=h.length
   simp at this
   subst this
   exact hs lo hi h (fun l e=> .inl e) (fun u e=> .inl e)
  |cons b KB=>exact⟨hs lo (some b) h.1 (fun l e=> .inl e) (fun u e=> .inr (by injection e with e;simp[e])),h.2⟩
 |a::KA,KB,lo,hi,SA,SB,h,hl,hs=>by
  cases SA with
  |nil=>simp at hl
  |cons t SA=>
   obtain⟨h1,h2⟩:=h
   exact⟨h1,Segs.repl h2 (by simpa using hl) (fun lo' hi' g1 g2 g3=>hs lo' hi' g1 (fun l e=> .inr ((g2 l e).elim (fun e=>by injection e with e;simp[e]) (fun e=>by simp[e]))) g3)⟩
theorem Segs.ins {s s1 s2:List (Int × Int)} {k:Int}: ∀ {KA KB:List Int} {lo hi:Option Int} {SA SB:List (List (Int × Int))},Segs lo hi (KA++KB) (SA++s::SB)→SA.length=KA.length→
  (∀lo' hi',InB lo' hi' s→(∀l,lo'=some l→lo=some l∨l∈KA)→(∀u,hi'=some u→hi=some u∨u∈KB)→InB lo' (some k) s1∧InB (some k) hi' s2)→Segs lo hi (KA++k::KB) (SA++s1::s2::SB)
 | [],KB,lo,hi,SA,SB,h,hl,hs=>by
  have:SA=[]:=List.eq_nil_of_length_eq_zero hl
  subst this
  cases KB with
  |nil=>
   have:=h.length
   simp at this
   subst this
   exact hs lo hi h (fun l e=> .inl e) (fun u e=> .inl e)
  |cons b KB=>
   obtain⟨g1,g2⟩:=hs lo (some b) h.1 (fun l e=> .inl e) (fun u e=> .inr (by injection e with e;simp[e]))
   exact⟨g1,g2,h.2⟩
 |a::KA,KB,lo,hi,SA,SB,h,hl,hs=>by
  cases SA with
  |nil=>simp at hl
  |cons t SA=>
   obtain⟨h1,h2⟩:=h
   exact⟨h1,Segs.ins h2 (by simpa using hl) (fun lo' hi' g1 g2 g3=>hs lo' hi' g1 (fun l e=> .inr ((g2 l e).elim (fun e=>by injection e with e;simp[e]) (fun e=>by simp[e]))) g3)⟩
theorem Segs.at_: ∀ {KA KB:List Int} {lo hi:Option Int} {SA SB:List (List (Int × Int))} {s:List (Int × Int)},Segs lo hi (KA++KB) (SA++s::SB)→SA.length=KA.length→(KA++KB).Pairwise (· < ·)→(∀l,lo=some l→ ∀k∈KA++KB,l≤k)→
  (∀l,lo=some l→ ∀p∈s,l≤p.1)∧(∀a∈KA, ∀p∈s,a≤p.1)∧ ∀b∈KB, ∀p∈s,p.1<b
 | [],KB,lo,hi,SA,SB,s,h,hl,hp,hlo=>by
  have:SA=[]:=List.eq_nil_of_length_eq_zero hl
  subst this
  cases KB with
  |nil=>
   have:=h.length
   simp at this
   subst this
   exact⟨fun l e p hp=>(h p hp).1 l e,by simp,by simp⟩
  |cons b KB=>
   refine⟨fun l e p hp=>(h.1 p hp).1 l e,by simp,fun x hx p hpp=> ?_⟩
   have:=(h.1 p hpp).2 b rfl
   rcases List.mem_cons.1 hx with rfl|hx
   ·exact this
   ·have:=(List.pairwise_cons.1 hp).1 x hx;omega
 |a::KA,KB,lo,hi,SA,SB,s,h,hl,hp,hlo=>by
  cases SA with
  |nil=>simp at hl
  |cons t SA=>
   obtain⟨h1,h2⟩:=h
   obtain⟨p1,p2⟩:=List.pairwise_cons.1 hp
   obtain⟨g1,g2,g3⟩:=Segs.at_ h2 (by simpa using hl) p2 (fun l e k hk=>by injection e with e;have:=p1 k hk;omega)
   refine⟨fun l e p hpp=> ?_,fun x hx p hpp=> ?_,g3⟩
   ·have:=g1 a rfl p hpp
    have:=hlo l e a (by simp)
    omega
   ·rcases List.mem_cons.1 hx with rfl|hx
    ·exact g1 x rfl p hpp
    ·exact g2 x hx p hpp
theorem TrAt.some {M:PM}: ∀ {h:Nat} {no:Int} {seg:List (Int × Int)} {pgs:List Int},TrAt M h no seg pgs→seg≠ []
 |0,no,seg,pgs,⟨n,h1,h2,h3,_⟩,e=>by
  have hok:=ndRead_ok h1
  have hvl:=(hok.leafs h2).2.1
  have h1:=hok.k1
  have:seg.length=n.keys.length:=by rw[h3,List.length_zip,hvl,Nat.min_self]
  rw[e] at this
  simp at this
  omega
 |h+1,no,seg,pgs,⟨n,kz,h1,h2,h3,h4,h5,_⟩,e=>by
  have hok:=ndRead_ok h1
  have hkl:=(hok.forks h2).2.1
  cases kz with
  |nil=>rw[h3] at hkl;simp at hkl
  |cons z kz=>
   have:=TrAt.some (h4 z (by simp)).1
   rw[e] at h5
   simp at h5
   exact this h5.1
theorem half_parts (n:ND) (h:1≤n.keys.length):n.keys=n.keys.take (n.keys.length / 2)++halfK n::n.keys.drop (n.keys.length / 2+1):=by
 have hlt:n.keys.length / 2<n.keys.length:=by omega
 have e:halfK n=n.keys[n.keys.length / 2]:=by unfold halfK;rw[List.getD_eq_getElem?_getD,List.getElem?_eq_getElem hlt];rfl
 rw[e,List.getElem_cons_drop hlt,List.take_append_drop]
theorem fullN_leaf {n:ND} (hl:n.leaf=true):fullN n=decide (30<n.keys.length):=by
 unfold fullN
 rw[hl,Bool.eq_iff_iff]
 simp
 omega
theorem fullN_fork {n:ND} (hl:n.leaf=false):fullN n=decide (40<n.keys.length):=by
 unfold fullN
 rw[hl];simp
theorem thinN_leaf {n:ND} (hl:n.leaf=true):thinN n=decide (n.keys.length<15):=by unfold thinN;rw[hl];simp
theorem thinN_fork {n:ND} (hl:n.leaf=false):thinN n=decide (n.keys.length<20):=by
 unfold thinN
 rw[hl,Bool.eq_iff_iff]
 simp
 omega
section
variable {M:PM} {R:RM} {N:Nat} {G:Int} {P:List Int}
theorem st_split (h:Rel M R N G) (hr:R.most≤R.room) {n:ND} {no:Int} (hP:P.Nodup) (hl: ∀q∈P,Live R q) (hm:no∈P) (hs:lenR R+1≤R.most+R.way.free.length) (hok:fullN n=false→NdOk n) (hh:fullN n=true→NdOk (halfA n)∧NdOk (halfB n)):
  ∃k no2 M' R',splitB M no n=(k,no2,0,M')∧Rel M' R' N G∧(∀q,Live R q→q≠no→ndRead M' q=ndRead M q)∧
   ((fullN n=false∧no2=0∧Chg R R' P P∧ndRead M' no=(0,n))∨
    (fullN n=true∧1≤no2∧no2≤65535∧ ¬Live R no2∧Chg R R' P (no2::P)∧ndRead M' no=(0,halfA n)∧ndRead M' no2=(0,halfB n)∧k=halfK n)):=by
 unfold splitB
 cases hf:fullN n
 ·obtain⟨M',R',e1,e2,e3,e4,e5⟩:=st_writeB h hr (hok hf) hP hl hm
  rw[if_pos rfl,e1]
  exact⟨0,0,M',R',rfl,e2,e5, .inl ⟨by first|rfl|trivial,rfl,e3,e4⟩⟩
 ·obtain⟨h1,h2⟩:=hh hf
  obtain⟨no2,M1,R1,e1,e2,e3,e4,e5,e6,e7,e8⟩:=st_fresh h hr h2 hs hP hl
  obtain⟨M2,R2,g1,g2,g3,g4,g5⟩:=st_writeB e2 (by rw[e3.most,e3.room];exact hr) h1 e3.nd e3.live (no:=no) (by simp[hm])
  have hne:no2≠no:=fun e=>e4 (e▸hl no hm)
  rw[if_neg (by decide),e1]
  simp only
  rw[if_neg (by simp),g1]
  refine⟨_,_,M2,R2,rfl,g2,fun q hq hn=> ?_, .inr ⟨by first|rfl|trivial,e5,e6,e4,e3.trans g3,g4, ?_,rfl⟩⟩
  ·have hlq:Live R1 q:=by
    by_cases hm':q∈P
    ·exact e3.live q (by simp[hm'])
    ·exact(e3.oth q hq hm').1
   rw[g5 q hlq hn,e8 q hq]
  ·rw[g5 no2 (e3.live no2 (by simp)) hne,e7]
end
theorem mem_flat {ZA:List KZ} {y:KZ} (hy:y∈ZA): ∀q∈y.2.2,q∈(ZA.map (·.2.2)).flatten:=fun q hq=>List.mem_flatten.2 ⟨_,List.mem_map.2 ⟨y,hy,rfl⟩,hq⟩
def BtPutPost (M:PM) (R:RM) (N:Nat) (G key val:Int) (h:Nat) (no:Int) (seg:List (Int × Int)) (pgs:List Int) (k no2:Int) (M':PM) (R':RM):Prop:=
 Rel M' R' N G∧(∀q,Live R q→q∉pgs→ndRead M' q=ndRead M q)∧
  ((no2=0∧ ∃P',Chg R R' pgs P'∧P'.length≤pgs.length+h∧TrAt M' h no (insP key val seg) P'∧(thinN (ndRead M no).2=false→thinN (ndRead M' no).2=false))∨
   (1≤no2∧no2≤65535∧0≤k∧k≤18446744073709551615∧ ∃s1 s2 P1 P2,Chg R R' pgs (P1++P2)∧(P1++P2).length≤pgs.length+h+1∧TrAt M' h no s1 P1∧TrAt M' h no2 s2 P2∧thinN (ndRead M' no).2=false∧thinN (ndRead M' no2).2=false∧s1++s2=insP key val seg∧(∀p∈s1,p.1<k)∧ ∀p∈s2,k≤p.1))
theorem put_leaf {M:PM} {R:RM} {N:Nat} {G key val:Int} {no:Int} {seg:List (Int × Int)} {pgs:List Int} {f:Nat} (hk:0≤key∧key≤18446744073709551615) (hv:0≤val∧val≤18446744073709551615) (h:Rel M R N G) (hr:R.most≤R.room) (t:TrAt M 0 no seg pgs) (hn:pgs.Nodup) (hl: ∀q∈pgs,Live R q)
  (hs:lenR R+1≤R.most+R.way.free.length): ∃k no2 M' R',putL key val (f+1) M no=(k,no2,0,M')∧BtPutPost M R N G key val 0 no seg pgs k no2 M' R':=by
 obtain⟨n,h1,h2,h3,h4⟩:=t
 subst h4
 have hok:=ndRead_ok h1
 obtain⟨l1,l2,l3,l4⟩:=hok.leafs h2
 obtain⟨z1,z2,z3,⟨z4,z5⟩,z6,z7,z8,z9⟩:=ndPut_zip (n:=n) (key:=key) (val:=val) hok.pw l2
 rw[h2] at z8
 rw[l1] at z9
 have hkb: ∀k∈(ndPut n key val).keys,0≤k∧k≤18446744073709551615:=fun k hk'=>(z6 k hk').elim (fun e=>e▸hk) (fun e=>hok.kb k e)
 have hvb: ∀v∈(ndPut n key val).vals,0≤v∧v≤18446744073709551615:=fun v hv'=>(z7 v hv').elim (fun e=>e▸hv) (fun e=>l4 v e)
 have hk1:=hok.k1
 have hput:putL key val (f+1) M no=splitB M no (ndPut n key val):=by
  show(let x:=ndRead M no;if x.1≠0 then _ else _)=_
  rw[h1]
  simp only
  rw[if_neg (by simp),if_pos h2]
 rw[hput]
 clear hput
 generalize ndPut n key val=m at z1 z2 z3 z4 z5 z6 z7 z8 z9 hkb hvb
 have hfull:=fullN_leaf z8
 have hpar:=half_parts m (by omega)
 have hA:halfA m=⟨true,m.keys.take (m.keys.length / 2),m.vals.take (m.keys.length / 2),[]⟩:=by unfold halfA;rw[if_pos z8]
 have hB:halfB m=⟨true,m.keys.drop (m.keys.length / 2),m.vals.drop (m.keys.length / 2),[]⟩:=by unfold halfB;rw[if_pos z8]
 have pwA:(m.keys.take (m.keys.length / 2)).Pairwise (· < ·):=List.Pairwise.sublist (List.take_sublist _ _) z2
 have pwB:(m.keys.drop (m.keys.length / 2)).Pairwise (· < ·):=List.Pairwise.sublist (List.drop_sublist _ _) z2
 obtain⟨k,no2,M',R',e1,e2,e3,e4⟩:=st_split h hr (n:=m) hn hl (no:=no) (by simp) hs
  (fun hf=>⟨by omega,risL_iff.2 z2,hkb,fun _=>⟨z9,z3,by rw[hfull] at hf;simpa using hf,hvb⟩,fun e=>by rw[z8] at e;cases e⟩)
  (fun hf=>by
   rw[hfull,decide_eq_true_iff] at hf
   rw[hA,hB]
   refine⟨⟨by simp;omega,risL_iff.2 pwA,fun k hk'=>hkb k (List.mem_of_mem_take hk'),fun _=>⟨rfl,by simp;omega,by simp;omega,fun v hv'=>hvb v (List.mem_of_mem_take hv')⟩,fun e=>by cases e⟩,
    ⟨by simp;omega,risL_iff.2 pwB,fun k hk'=>hkb k (List.mem_of_mem_drop hk'),fun _=>⟨rfl,by simp;omega,by simp;omega,fun v hv'=>hvb v (List.mem_of_mem_drop hv')⟩,fun e=>by cases e⟩⟩)
 refine⟨k,no2,M',R',e1,e2,fun q hq hnq=>e3 q hq (by simpa using hnq), ?_⟩
 rcases e4 with ⟨f1,f2,f3,f4⟩|⟨f1,f2,f3,f4,f5,f6,f7,f8⟩
 ·refine .inl ⟨f2,[no],f3,by simp,⟨m,f4,z8,by rw[h3];exact z1.symm,rfl⟩,fun ht=> ?_⟩
  rw[h1] at ht
  rw[f4]
  have ht:thinN n=false:=ht
  rw[thinN_leaf h2,decide_eq_false_iff_not] at ht
  show thinN m=false
  rw[thinN_leaf z8,decide_eq_false_iff_not]
  omega
 ·rw[hfull,decide_eq_true_iff] at f1
  have hkm:k∈m.keys:=by rw[f8,hpar];simp
  have hz:m.keys.zip m.vals=(halfA m).keys.zip (halfA m).vals++(halfB m).keys.zip (halfB m).vals:=by
   rw[hA,hB]
   simp only
   rw[←List.zip_append (by simp;omega),List.take_append_drop,List.take_append_drop]
  rw[hA] at f6
  rw[hB] at f7
  refine .inr ⟨f2,f3,(hkb k hkm).1,(hkb k hkm).2,_,_,[no],[no2],f5.perm (List.Perm.swap _ _ _),by simp,⟨_,f6,rfl,rfl,rfl⟩,⟨_,f7,rfl,rfl,rfl⟩, ?_, ?_, ?_,fun p hp=> ?_,fun p hp=> ?_⟩
  ·rw[f6]
   rw[thinN_leaf rfl,decide_eq_false_iff_not]
   simp;omega
  ·rw[f7]
   rw[thinN_leaf rfl,decide_eq_false_iff_not]
   simp;omega
  ·rw[hA,hB] at hz
   rw[h3, ←z1,hz]
  ·have:=zip_mem hp
   rw[hpar,List.pairwise_append] at z2
   rw[f8]
   exact z2.2.2 _ this _ (by simp)
  ·have hm:=zip_mem hp
   have hd:m.keys.drop (m.keys.length / 2)=halfK m::m.keys.drop (m.keys.length / 2+1):=by
    have e0:=hpar
    rw[List.drop_eq_getElem_cons (by omega)]
    congr 1
    unfold halfK
    rw[List.getD_eq_getElem?_getD,List.getElem?_eq_getElem (by omega)];rfl
   rw[hd] at hm pwB
   rw[f8]
   rcases List.mem_cons.1 hm with e|hm
   ·omega
   ·exact Int.le_of_lt ((List.pairwise_cons.1 pwB).1 _ hm)
end Go.Proofs.YtjgkegkinnlcoaaGreatDoor
namespace Go.Proofs.YtjgkegkinnlcoaaGreatDoor
open Go.RowKit
def pgZ (kz:List KZ):List Int:=(kz.map (·.2.2)).flatten
def sgZ (kz:List KZ):List (Int × Int):=(kz.map (·.2.1)).flatten
theorem pgZ_app (a b:List KZ):pgZ (a++b)=pgZ a++pgZ b:=by unfold pgZ;simp
theorem sgZ_app (a b:List KZ):sgZ (a++b)=sgZ a++sgZ b:=by unfold sgZ;simp
theorem pgZ_mem {kz:List KZ} {y:KZ} (hy:y∈kz): ∀q∈y.2.2,q∈pgZ kz:=fun q hq=>mem_flat hy q hq
section
variable {M M':PM} {R R':RM} {N:Nat} {G:Int}
theorem st_fork {h:Nat} {n:ND} {kz:List KZ} {no:Int} (hR:Rel M R N G) (hr:R.most≤R.room) (hlf:n.leaf=false) (hvl:n.vals=[]) (hkd:n.kids=kz.map (·.1)) (hz: ∀y∈kz,TrAt M h y.1 y.2.1 y.2.2∧thinN (ndRead M y.1).2=false) (hsg:Segs none none n.keys (kz.map (·.2.1)))
  (hpw:n.keys.Pairwise (· < ·)) (hkb: ∀k∈n.keys,0≤k∧k≤18446744073709551615) (hdb: ∀v∈n.kids,0<v∧v≤4294967295) (l1:1≤n.keys.length) (l2:n.keys.length≤41) (hnd:(no::pgZ kz).Nodup) (hlv: ∀q∈no::pgZ kz,Live R q) (hs:lenR R+1≤R.most+R.way.free.length):
  ∃k no2 M' R',splitB M no n=(k,no2,0,M')∧Rel M' R' N G∧(∀q,Live R q→q≠no→ndRead M' q=ndRead M q)∧
   ((no2=0∧Chg R R' (no::pgZ kz) (no::pgZ kz)∧TrAt M' (h+1) no (sgZ kz) (no::pgZ kz)∧ndRead M' no=(0,n))∨
    (1≤no2∧no2≤65535∧0≤k∧k≤18446744073709551615∧ ∃s1 s2 P1 P2,Chg R R' (no::pgZ kz) (P1++P2)∧(P1++P2).length=(no::pgZ kz).length+1∧TrAt M' (h+1) no s1 P1∧TrAt M' (h+1) no2 s2 P2∧thinN (ndRead M' no).2=false∧thinN (ndRead M' no2).2=false∧s1++s2=sgZ kz∧(∀p∈s1,p.1<k)∧ ∀p∈s2,k≤p.1)):=by
 have hkl:n.kids.length=n.keys.length+1:=by rw[hkd,List.length_map, ←List.length_map (f:=fun x:KZ=>x.2.1)];exact hsg.length
 have hfull:=fullN_fork hlf
 have hpar:=half_parts n l1
 have hA:halfA n=⟨false,n.keys.take (n.keys.length / 2),[],n.kids.take (n.keys.length / 2+1)⟩:=by unfold halfA;rw[if_neg (by rw[hlf];decide)]
 have hB:halfB n=⟨false,n.keys.drop (n.keys.length / 2+1),[],n.kids.drop (n.keys.length / 2+1)⟩:=by unfold halfB;rw[if_neg (by rw[hlf];decide)]
 have pwA:(n.keys.take (n.keys.length / 2)).Pairwise (· < ·):=List.Pairwise.sublist (List.take_sublist _ _) hpw
 have pwB:(n.keys.drop (n.keys.length / 2+1)).Pairwise (· < ·):=List.Pairwise.sublist (List.drop_sublist _ _) hpw
 obtain⟨k,no2,M',R',e1,e2,e3,e4⟩:=st_split hR hr (n:=n) hnd hlv (no:=no) (by simp) hs
  (fun hf=>⟨l1,risL_iff.2 hpw,hkb,fun e=>(by rw[hlf] at e;cases e),fun _=>⟨hvl,hkl,by rw[hfull] at hf;simpa using hf,hdb⟩⟩)
  (fun hf=>by
   rw[hfull,decide_eq_true_iff] at hf
   rw[hA,hB]
   refine⟨⟨by simp;omega,risL_iff.2 pwA,fun k hk'=>hkb k (List.mem_of_mem_take hk'),fun e=>(by cases e),fun _=>⟨rfl,by simp;omega,by simp;omega,fun v hv'=>hdb v (List.mem_of_mem_take hv')⟩⟩,
    ⟨by simp;omega,risL_iff.2 pwB,fun k hk'=>hkb k (List.mem_of_mem_drop hk'),fun e=>(by cases e),fun _=>⟨rfl,by simp;omega,by simp;omega,fun v hv'=>hdb v (List.mem_of_mem_drop hv')⟩⟩⟩)
 have hno:no∉pgZ kz:=(List.nodup_cons.1 hnd).1
 have hz': ∀y∈kz,TrAt M' h y.1 y.2.1 y.2.2∧thinN (ndRead M' y.1).2=false:=fun y hy=>by
  obtain⟨a,b⟩:=hz y hy
  have hq: ∀q∈y.2.2,ndRead M' q=ndRead M q:=fun q hq=>e3 q (hlv q (by simp[pgZ_mem hy q hq])) (fun e=>hno (e▸pgZ_mem hy q hq))
  refine⟨a.congr hq, ?_⟩
  obtain⟨_,_,_,_,rest,hrest⟩:=a.head
  rw[hq y.1 (by rw[hrest];simp)]
  exact b
 refine⟨k,no2,M',R',e1,e2,e3, ?_⟩
 rcases e4 with ⟨f1,f2,f3,f4⟩|⟨f1,f2,f3,f4,f5,f6,f7,f8⟩
 ·exact .inl ⟨f2,f3,⟨n,kz,f4,hlf,hkd,hz',rfl,rfl,hsg⟩,f4⟩
 ·rw[hfull,decide_eq_true_iff] at f1
  have hkm:k∈n.keys:=by rw[f8,hpar];simp
  have hkz:kz=kz.take (n.keys.length / 2+1)++kz.drop (n.keys.length / 2+1):=(List.take_append_drop _ _).symm
  have hkzl:kz.length=n.keys.length+1:=by rw[hkd,List.length_map] at hkl;exact hkl
  have hg:Segs none none (n.keys.take (n.keys.length / 2)++k::n.keys.drop (n.keys.length / 2+1)) ((kz.take (n.keys.length / 2+1)).map (·.2.1)++(kz.drop (n.keys.length / 2+1)).map (·.2.1)):=by
   rw[←List.map_append,List.take_append_drop,f8, ←hpar];exact hsg
  obtain⟨g1,g2⟩:=hg.cut (by simp;omega)
  rw[hA] at f6
  rw[hB] at f7
  have hpw2:=hpw
  rw[hpar,List.pairwise_append,List.pairwise_cons, ←f8] at hpw2
  obtain⟨q1,⟨q2,q3⟩,q4⟩:=hpw2
  generalize hZ1:kz.take (n.keys.length / 2+1)=Z1 at hkz g1 g2
  generalize hZ2:kz.drop (n.keys.length / 2+1)=Z2 at hkz g1 g2
  refine .inr ⟨f2,f3,(hkb k hkm).1,(hkb k hkm).2,sgZ Z1,sgZ Z2,no::pgZ Z1,no2::pgZ Z2, ?_, ?_,⟨_,Z1,f6,rfl, ?_,fun y hy=>hz' y (by rw[hkz];simp[hy]),rfl,rfl,g1.weakHi⟩,⟨_,Z2,f7,rfl, ?_,fun y hy=>hz' y (by rw[hkz];simp[hy]),rfl,rfl,g2.weakLo⟩, ?_, ?_, ?_,fun p hp=> ?_,fun p hp=> ?_⟩
  ·refine f5.perm ?_
   rw[hkz,pgZ_app]
   refine List.Perm.trans (List.Perm.swap _ _ _) ?_
   show(no::no2::(pgZ Z1++pgZ Z2)).Perm (no::(pgZ Z1++no2::pgZ Z2))
   exact List.Perm.cons _ List.perm_middle.symm
  ·rw[hkz,pgZ_app];simp;omega
  ·show n.kids.take _=_
   rw[hkd, ←List.map_take,hZ1]
  ·show n.kids.drop _=_
   rw[hkd, ←List.map_drop,hZ2]
  ·rw[f6]
   rw[thinN_fork rfl,decide_eq_false_iff_not]
   simp;omega
  ·rw[f7]
   rw[thinN_fork rfl,decide_eq_false_iff_not]
   simp;omega
  ·rw[←sgZ_app, ←hkz]
  ·obtain⟨t,ht,hp⟩:=List.mem_flatten.1 hp
   exact Segs.high g1 (fun a ha=>Int.le_of_lt (q4 a ha k (by simp))) t ht p hp
  ·obtain⟨t,ht,hp⟩:=List.mem_flatten.1 hp
   exact Segs.low g2 (fun b hb=>Int.le_of_lt (q2 b hb)) q3 t ht p hp
theorem insP_mem {key val:Int} {l:List (Int × Int)} {p:Int × Int} (h:p∈insP key val l):p=(key,val)∨p∈l:=by
 unfold insP at h
 rcases List.mem_append.1 h with h|h
 ·exact .inr (List.mem_filter.1 h).1
 ·rcases List.mem_cons.1 h with h|h
  ·exact .inl h
  ·exact .inr (List.mem_filter.1 h).1
theorem put_tr {key val:Int} (hk:0≤key∧key≤18446744073709551615) (hv:0≤val∧val≤18446744073709551615): ∀ {h:Nat} {M:PM} {R:RM} {no:Int} {seg:List (Int × Int)} {pgs:List Int} {f:Nat},Rel M R N G→R.most≤R.room→TrAt M h no seg pgs→pgs.Nodup→(∀q∈pgs,Live R q)→h<f→
  lenR R+h+1≤R.most+R.way.free.length→ ∃k no2 M' R',putL key val f M no=(k,no2,0,M')∧BtPutPost M R N G key val h no seg pgs k no2 M' R'
 |0,M,R,no,seg,pgs,0,_,_,_,_,_,hf,_=>by omega
 |h+1,M,R,no,seg,pgs,0,_,_,_,_,_,hf,_=>by omega
 |0,M,R,no,seg,pgs,f+1,hR,hr,t,hn,hl,hf,hs=>put_leaf hk hv hR hr t hn hl (by omega)
 |h+1,M,R,no,seg,pgs,f+1,hR,hr,t,hn,hl,hf,hs=>by
  obtain⟨n,KA,KB,ZA,z,ZB,h1,hok,h2,e1,e2,e3,e4,e5,e6,ka,kb,hz,e7,e8,hsg,g1,g2⟩:=t.split key
  obtain⟨fk1,fk2,fk3,fk4⟩:=hok.forks h2
  have e8':pgs=(no::pgZ ZA)++(z.2.2++pgZ ZB):=by rw[e8];rfl
  have hn':=hn
  rw[e8',List.nodup_append] at hn'
  obtain⟨d1,d2,d3⟩:=hn'
  rw[List.nodup_append] at d2
  obtain⟨d4,d5,d6⟩:=d2
  have hzp: ∀q∈z.2.2,q∈pgs:=fun q hq=>by rw[e8'];simp[hq]
  obtain⟨tz,thz⟩:=hz z (.inr (.inl rfl))
  obtain⟨k,no2,M1,R1,c1,cR,cfr,cc⟩:=put_tr hk hv (f:=f) hR hr tz d4 (fun q hq=>hl q (hzp q hq)) (by omega) (by omega)
  have hput:putL key val (f+1) M no=(if (0:Int)≠0∨no2=0 then(0,0,0,M1) else splitB M1 no (moreN n (placeN n key) k no2)):=by
   show(let x:=ndRead M no;if x.1≠0 then _ else _)=_
   rw[h1]
   simp only
   rw[if_neg (by simp),if_neg (by rw[h2];decide),e6,c1]
  rw[hput]
  have hkz0:no∉z.2.2:=fun hm=>d3 no (by simp) no (by simp[hm]) rfl
  have hno1:ndRead M1 no=(0,n):=by rw[cfr no (hl no (by rw[e8];simp)) hkz0];exact h1
  have hsib: ∀y,y∈ZA∨y∈ZB→TrAt M1 h y.1 y.2.1 y.2.2∧thinN (ndRead M1 y.1).2=false:=fun y hy=>by
   obtain⟨a,b⟩:=hz y (hy.imp id .inr)
   have hq: ∀q∈y.2.2,ndRead M1 q=ndRead M q:=fun q hq=>by
    refine cfr q (hl q ?_) (fun hm=> ?_)
    ·rw[e8']
     rcases hy with hy|hy
     ·simp[pgZ_mem hy q hq]
     ·simp[pgZ_mem hy q hq]
    ·rcases hy with hy|hy
     ·exact d3 q (by simp[pgZ_mem hy q hq]) q (by simp[hm]) rfl
     ·exact d6 q hm q (pgZ_mem hy q hq) rfl
   refine⟨a.congr hq, ?_⟩
   obtain⟨_,_,_,_,rest,hrest⟩:=a.head
   rw[hq y.1 (by rw[hrest];simp)]
   exact b
  have hsegs:insP key val seg=sgZ ZA++(insP key val z.2.1++sgZ ZB):=by rw[e7];exact insP_app g1 g2
  obtain⟨w1,w2,w3⟩:=hsg.at_ (by simpa using e3) (by rw[←e1];exact hok.pw) (fun l e=>by cases e)
  rcases cc with ⟨c2,P1,c3,c4,c5,c6⟩|⟨c2,c3,c4,c5,s1,s2,PA,PB,c6,c7,c8,c9,c10,c11,c12,c13,c14⟩
  ·-- the kid is one still
   rw[if_pos (.inr c2)]
   have hch:=c3.ctx (A:=no::pgZ ZA) (B:=pgZ ZB) (by rw[←e8'];exact hn) (by rw[←e8'];exact hl)
   rw[←e8'] at hch
   refine⟨0,0,M1,R1,rfl,cR,fun q hq hnq=>cfr q hq (fun hm=>hnq (hzp q hm)), .inl ⟨rfl,_,hch, ?_,⟨n,ZA++(z.1,insP key val z.2.1,P1)::ZB,hno1,h2,by rw[e2];simp,fun y hy=> ?_, ?_, ?_, ?_⟩,fun ht=> ?_⟩⟩
   ·rw[e8']
    simp only[List.length_append,List.length_cons]
    omega
   ·rcases List.mem_append.1 hy with hy|hy
    ·exact hsib y (.inl hy)
    ·rcases List.mem_cons.1 hy with rfl|hy
     ·exact⟨c5,c6 thz⟩
     ·exact hsib y (.inr hy)
   ·rw[hsegs];unfold sgZ;simp
   ·unfold pgZ;simp
   ·rw[e1,List.map_append,List.map_cons]
    refine Segs.repl hsg (by simpa using e3) (fun lo' hi' hb hlo hhi p hp=> ?_)
    rcases insP_mem hp with rfl|hp
    ·refine⟨fun l e=> ?_,fun u e=> ?_⟩
     ·rcases hlo l e with h|h
      ·cases h
      ·exact ka l h
     ·rcases hhi u e with h|h
      ·cases h
      ·exact kb u h
    ·exact hb p hp
   ·rw[hno1];rw[h1] at ht;exact ht
  ·-- the kid has become two
   rw[if_neg (by simp;omega)]
   have hch:=c6.ctx (A:=no::pgZ ZA) (B:=pgZ ZB) (by rw[←e8'];exact hn) (by rw[←e8'];exact hl)
   rw[←e8'] at hch
   have hm1:moreN n (placeN n key) k no2=⟨false,KA++k::KB,[],(ZA++(z.1,s1,PA)::(no2,s2,PB)::ZB).map (·.1)⟩:=by
    unfold moreN
    rw[e1,e2, ←e5,insertIdx_app rfl,show List.map (fun x=>x.1) ZA++z.1::List.map (fun x=>x.1) ZB=(ZA.map (·.1)++[z.1])++ZB.map (·.1) by simp,insertIdx_app (by simp[e3]),h2,fk1]
    simp
   have hpgk:no::pgZ (ZA++(z.1,s1,PA)::(no2,s2,PB)::ZB)=(no::pgZ ZA)++((PA++PB)++pgZ ZB):=by unfold pgZ;simp
   have hs1:=c8.some
   have hs2:=c9.some
   have hin: ∀p,p∈s1∨p∈s2→p=(key,val)∨p∈z.2.1:=fun p hp=>insP_mem (by rw[←c12];simpa using hp)
   have hlow: ∀a∈KA, ∀p,p∈s1∨p∈s2→a≤p.1:=fun a ha p hp=>by
    rcases hin p hp with rfl|hp
    ·exact ka a ha
    ·exact w2 a ha p hp
   have hhigh: ∀b∈KB, ∀p,p∈s1∨p∈s2→p.1<b:=fun b hb p hp=>by
    rcases hin p hp with rfl|hp
    ·exact kb b hb
    ·exact w3 b hb p hp
   obtain⟨p1,hp1⟩:=List.exists_mem_of_ne_nil _ hs1
   obtain⟨p2,hp2⟩:=List.exists_mem_of_ne_nil _ hs2
   have hpw:=hok.pw
   rw[e1,List.pairwise_append] at hpw
   obtain⟨x1,x2,x3⟩:=hpw
   have hlv1: ∀q∈no::pgZ (ZA++(z.1,s1,PA)::(no2,s2,PB)::ZB),Live R1 q:=by rw[hpgk];exact hch.live
   have hbig:=cR.big
   have hle:=cR.way.le
   have hlen1:lenR R1=R1.way.kinds.length:=rfl
   have hcnt:=hch.cnt
   have hplen:(((no::pgZ ZA)++((PA++PB)++pgZ ZB)).length:Int)≤pgs.length+h+1:=by
    rw[e8']
    simp only[List.length_append,List.length_cons] at c7 ⊢
    omega
   rw[hm1]
   obtain⟨k',no3,M2,R2,u1,u2,u3,u4⟩:=st_fork (h:=h) (n:=⟨false,KA++k::KB,[],(ZA++(z.1,s1,PA)::(no2,s2,PB)::ZB).map (·.1)⟩) (kz:=ZA++(z.1,s1,PA)::(no2,s2,PB)::ZB) (no:=no) cR (by rw[hch.most,hch.room];exact hr) rfl rfl rfl
    (fun y hy=>by
     rcases List.mem_append.1 hy with hy|hy
     ·exact hsib y (.inl hy)
     ·rcases List.mem_cons.1 hy with rfl|hy
      ·exact⟨c8,c10⟩
      ·rcases List.mem_cons.1 hy with rfl|hy
       ·exact⟨c9,c11⟩
       ·exact hsib y (.inr hy))
    (by
     show Segs none none (KA++k::KB) (List.map (fun x:KZ=>x.2.1) (ZA++(z.1,s1,PA)::(no2,s2,PB)::ZB))
     simp only[List.map_append,List.map_cons]
     refine Segs.ins hsg (by simpa using e3) (fun lo' hi' hb hlo hhi=>⟨fun p hp=>⟨fun l e=> ?_,fun u e=> ?_⟩,fun p hp=>⟨fun l e=> ?_,fun u e=> ?_⟩⟩)
     ·rcases hlo l e with h|h
      ·cases h
      ·exact hlow l h p (.inl hp)
     ·injection e with e;subst e;exact c13 p hp
     ·injection e with e;subst e;exact c14 p hp
     ·rcases hhi u e with h|h
      ·cases h
      ·exact hhigh u h p (.inr hp))
    (by
     rw[List.pairwise_append,List.pairwise_cons]
     refine⟨x1,⟨fun b hb=> ?_,x2⟩,fun a ha b hb=> ?_⟩
     ·have:=hhigh b hb p2 (.inr hp2);have:=c14 p2 hp2;omega
     ·rcases List.mem_cons.1 hb with rfl|hb
      ·have:=hlow a ha p1 (.inl hp1);have:=c13 p1 hp1;omega
      ·exact x3 a ha b hb)
    (fun y hy=>by
     simp at hy
     rcases hy with hy|rfl|hy
     ·exact hok.kb y (by rw[e1];simp[hy])
     ·exact⟨c4,c5⟩
     ·exact hok.kb y (by rw[e1];simp[hy]))
    (fun v hv'=>by
     simp at hv'
     rcases hv' with ⟨a,b,hv'⟩|rfl|rfl|⟨a,b,hv'⟩
     ·exact fk4 v (by rw[e2];simp;exact .inl ⟨a,b,hv'⟩)
     ·exact fk4 _ (by rw[e2];simp)
     ·omega
     ·exact fk4 v (by rw[e2];simp;exact .inr (.inr ⟨a,b,hv'⟩)))
    (by simp;omega) (by rw[e1] at fk3;simp at fk3 ⊢;omega) (by rw[hpgk];exact hch.nd) hlv1 (by rw[hch.most];simp only[List.length_append,List.length_cons,Int.natCast_add] at hcnt hplen ⊢;omega)
   have hsgk:sgZ (ZA++(z.1,s1,PA)::(no2,s2,PB)::ZB)=insP key val seg:=by
    rw[hsegs, ←c12];unfold sgZ;simp
   have hfr2: ∀q,Live R q→q∉pgs→ndRead M2 q=ndRead M q:=fun q hq hnq=>by
    rw[u3 q (hch.oth q hq hnq).1 (fun e=>hnq (by rw[e8,e];simp)),cfr q hq (fun hm=>hnq (hzp q hm))]
   refine⟨k',no3,M2,R2,u1,u2,hfr2, ?_⟩
   rcases u4 with ⟨v1,v2,v3,v4⟩|⟨v1,v2,v3,v4,t1,t2,Q1,Q2,v5,v6,v7,v8,v9,v10,v11,v12,v13⟩
   ·refine .inl ⟨v1,_,hch.trans (by rw[←hpgk];exact v2), ?_, ?_,fun ht=> ?_⟩
    ·rw[hpgk];have:=hplen;omega
    ·rw[←hsgk];exact v3
    ·rw[h1] at ht
     have ht:thinN n=false:=ht
     rw[thinN_fork h2,e1,decide_eq_false_iff_not] at ht
     rw[v4]
     rw[thinN_fork rfl,decide_eq_false_iff_not]
     simp at ht ⊢
     omega
   ·refine .inr ⟨v1,v2,v3,v4,t1,t2,Q1,Q2,hch.trans (by rw[←hpgk];exact v5), ?_,v7,v8,v9,v10,by rw[v11,hsgk],v12,v13⟩
    rw[v6,hpgk]
    have:=hplen
    omega
end
end Go.Proofs.YtjgkegkinnlcoaaGreatDoor
namespace Go.Proofs.YtjgkegkinnlcoaaGreatDoor
open Go.RowKit
def RootAt (M:PM) (R:RM) (i:Nat) (h:Nat) (seg:List (Int × Int)) (pgs:List Int):Prop:=
 (R.way.roots.getD i 0=0∧seg=[]∧pgs=[]∧h=0)∨(R.way.roots.getD i 0≠0∧TrAt M h (R.way.roots.getD i 0) seg pgs)
structure ChgT (M:PM) (R:RM) (M':PM) (R':RM) (i:Nat) (P P':List Int):Prop where
 room:R'.room=R.room
 most:R'.most=R.most
 roots: ∃x,R'.way.roots=R.way.roots.set i x
 nd:P'.Nodup
 live: ∀q∈P',Live R' q
 oth: ∀q,Live R q→q∉P→Live R' q∧pgC R' q=pgC R q∧q∉P'
 cnt:lenR R'+R.way.free.length+P.length=lenR R+R'.way.free.length+P'.length
section
variable {M M':PM} {R R':RM} {N:Nat} {G:Int} {P P':List Int}
theorem set_same_self {l:List Int} {i:Nat} (h:i<l.length):l=l.set i (l.getD i 0):=by
 apply List.ext_getElem?
 intro j
 by_cases e:j=i
 ·subst e
  rw[set_same h,List.getD_eq_getElem?_getD,List.getElem?_eq_getElem h];rfl
 ·rw[set_other e]
theorem Chg.toT {i:Nat} (h:Chg R R' P P') (hl:R.way.roots.length=8) (hi:i<8):ChgT M R M' R' i P P':=
 ⟨h.room,h.most,⟨R.way.roots.getD i 0,h.roots.trans (set_same_self (by omega))⟩,h.nd,h.live,fun q hq hn=>⟨(h.oth q hq hn).1,(h.oth q hq hn).2,fun hm=>(h.sub q hm).elim hn (fun h=>h hq)⟩,h.cnt⟩
theorem topB_of (h:Rel M R N G) {i:Nat} (hi:i<8) (hr:R.way.roots.getD i 0≤65536):topB M i=(R.way.roots.getD i 0,0):=by
 unfold topB
 rw[h.rootAt hi]
 simp only
 rw[if_neg (by omega)]
theorem RootAt.small {i h:Nat} {seg:List (Int × Int)} {pgs:List Int} (hR:Rel M R N G) (t:RootAt M R i h seg pgs) (hl: ∀q∈pgs,Live R q):R.way.roots.getD i 0≤65536:=by
 rcases t with ⟨e,_⟩|⟨e,t⟩
 ·rw[e];omega
 ·obtain⟨_,_,_,_,rest,hr⟩:=t.head
  have:=hl (R.way.roots.getD i 0) (by rw[hr];exact List.mem_cons_self)
  have h1:=hR.big
  have h2:=hR.way.le
  have h3:lenR R=R.way.kinds.length:=rfl
  have:=this.2.1
  omega
theorem putB_tr {key val:Int} (hk:0≤key∧key≤18446744073709551615) (hv:0≤val∧val≤18446744073709551615) {i h:Nat} {seg:List (Int × Int)} {pgs:List Int} (hR:Rel M R N G) (hr:R.most≤R.room) (hi:i<8) (t:RootAt M R i h seg pgs) (hn:pgs.Nodup) (hl: ∀q∈pgs,Live R q) (hh:h≤14)
  (hs:lenR R+h+3≤R.most+R.way.free.length): ∃M' R' h' P',putB M i key val=(0,M')∧Rel M' R' N G∧RootAt M' R' i h' (insP key val seg) P'∧ChgT M R M' R' i pgs P'∧h'≤h+1:=by
 have htop:=topB_of hR hi (t.small hR hl)
 have hr8:=hR.way.r8
 have hbig:=hR.big
 unfold putB
 rw[htop]
 simp only
 rw[if_neg (by simp)]
 rcases t with ⟨e,e2,e3,e4⟩|⟨e,t⟩
 ·subst e2 e3 e4
  rw[if_pos e]
  obtain⟨no,M1,R1,f1,f2,f3,f4,f5,f6,f7,f8⟩:=st_fresh hR hr (n:=⟨true,[key],[val],[]⟩) ⟨by simp,by simp[risL],fun k hk'=>by simp at hk';subst hk';exact hk,fun _=>⟨rfl,rfl,by simp,fun v hv'=>by simp at hv';subst hv';exact hv⟩,fun e=>by cases e⟩ (by omega) (P:=[]) List.nodup_nil (by simp)
  obtain⟨M2,R2,g1,g2,g3,g4,g5,g6,g7,g8⟩:=f2.stRoot (by rw[f3.most,f3.room];exact hr) (i:=i) (n:=no) hi (by omega) (by omega)
  rw[f1]
  simp only
  rw[if_neg (by simp),g1]
  have hr81:=f2.way.r8
  have hlv: ∀q,Live R1 q→Live R2 q:=fun q hq=>⟨hq.1,by rw[g5];exact hq.2.1,by rw[g8 q hq.1];exact hq.2.2⟩
  have hroot:R2.way.roots.getD i 0=no:=by rw[g7,getD_set_same (by omega)]
  have hread:ndRead M2 no=(0,⟨true,[key],[val],[]⟩):=by
   rw[←f7]
   exact read_same f2 g2 (f3.live no (by simp)) (hlv no (f3.live no (by simp))) (g8 no f5)
  refine⟨M2,R2,0,[no],rfl,g2, .inr ⟨by rw[hroot];omega,by rw[hroot];exact⟨_,hread,rfl,by simp[insP],rfl⟩⟩,⟨g3.trans f3.room,g4.trans f3.most,⟨no,by rw[g7,f3.roots]⟩,by simp,fun q hq=>hlv q (f3.live q (by simpa using hq)),fun q hq hnq=> ?_, ?_⟩,by omega⟩
  ·obtain⟨a,b⟩:=f3.oth q hq hnq
   refine⟨hlv q a,(g8 q a.1).trans b,fun hm=> ?_⟩
   simp at hm
   exact f4 (hm▸hq)
  ·have:=f3.cnt
   rw[g5,g6]
   simpa using this
 ·rw[if_neg e]
  obtain⟨k,no2,M1,R1,c1,cR,cfr,cc⟩:=put_tr hk hv (f:=16) hR hr t hn hl (by omega) (by omega)
  rw[c1]
  simp only
  rcases cc with ⟨c2,P1,c3,c4,c5,c6⟩|⟨c2,c3,c4,c5,s1,s2,PA,PB,c6,c7,c8,c9,c10,c11,c12,c13,c14⟩
  ·rw[if_pos (.inr c2)]
   refine⟨M1,R1,h,P1,rfl,cR, .inr ⟨by rw[c3.roots];exact e,by rw[c3.roots];exact c5⟩,c3.toT hr8 hi,by omega⟩
  ·rw[if_neg (by simp;omega)]
   obtain⟨_,hd1,hd2,_,rest1,hrest1⟩:=c8.head
   have hno:Live R (R.way.roots.getD i 0):=by
    obtain⟨_,_,_,_,rest,hrest⟩:=t.head
    exact hl _ (by rw[hrest];exact List.mem_cons_self)
   have hnob:R.way.roots.getD i 0≤65536:=by
    have h2:=hR.way.le
    have h3:lenR R=R.way.kinds.length:=rfl
    have:=hno.2.1
    omega
   generalize R.way.roots.getD i 0=no at*
   have hcnt:=c6.cnt
   obtain⟨no3,M2,R2,f1,f2,f3,f4,f5,f6,f7,f8⟩:=st_fresh cR (by rw[c6.most,c6.room];exact hr) (n:=⟨false,[k],[],[no,no2]⟩) ⟨by simp,by simp[risL],fun k' hk'=>by simp at hk';subst hk';exact⟨c4,c5⟩,fun e=>(by cases e),fun _=>⟨rfl,rfl,by simp,fun v hv'=>by
     simp at hv'
     rcases hv' with rfl|rfl
     ·have:=hno.1;omega
     ·omega⟩⟩ (by rw[c6.most];omega) c6.nd c6.live
   obtain⟨M3,R3,g1,g2,g3,g4,g5,g6,g7,g8⟩:=f2.stRoot (by rw[f3.most,f3.room,c6.most,c6.room];exact hr) (i:=i) (n:=no3) hi (by omega) (by omega)
   rw[f1]
   simp only
   rw[if_neg (by simp),g1]
   have hr82:=f2.way.r8
   have hlv: ∀q,Live R2 q→Live R3 q:=fun q hq=>⟨hq.1,by rw[g5];exact hq.2.1,by rw[g8 q hq.1];exact hq.2.2⟩
   have hroot:R3.way.roots.getD i 0=no3:=by rw[g7,getD_set_same (by omega)]
   have hread3: ∀q,Live R2 q→ndRead M3 q=ndRead M2 q:=fun q hq=>read_same f2 g2 hq (hlv q hq) (g8 q hq.1)
   have hread: ∀q,Live R1 q→ndRead M3 q=ndRead M1 q:=fun q hq=>by
    have:Live R2 q:=by
     by_cases hm:q∈PA++PB
     ·exact f3.live q (by simp at hm ⊢;right;exact hm)
     ·exact(f3.oth q hq hm).1
    rw[hread3 q this,f8 q hq]
   have tA:TrAt M3 h no s1 PA:=c8.congr (fun q hq=>hread q (c6.live q (by simp[hq])))
   have tB:TrAt M3 h no2 s2 PB:=c9.congr (fun q hq=>hread q (c6.live q (by simp[hq])))
   obtain⟨_,_,_,_,restA,hrA⟩:=c8.head
   obtain⟨_,_,_,_,restB,hrB⟩:=c9.head
   have hch:=c6.trans f3
   refine⟨M3,R3,h+1,no3::(PA++PB),rfl,g2, .inr ⟨by rw[hroot];omega, ?_⟩,⟨g3.trans hch.room,g4.trans hch.most,⟨no3,by rw[g7,hch.roots]⟩,hch.nd,fun q hq=>hlv q (hch.live q hq),fun q hq hnq=> ?_, ?_⟩,Nat.le_refl _⟩
   ·rw[hroot]
    refine⟨⟨false,[k],[],[no,no2]⟩,[(no,s1,PA),(no2,s2,PB)],by rw[hread3 no3 (f3.live no3 (by simp)),f7],rfl,rfl,fun y hy=> ?_,by rw[←c12];simp,by simp,⟨fun p hp=>⟨fun l e=>(by cases e),fun u e=> ?_⟩,fun p hp=>⟨fun l e=> ?_,fun u e=>by cases e⟩⟩⟩
    ·simp at hy
     rcases hy with rfl|rfl
     ·refine⟨tA, ?_⟩
      rw[hread no (c6.live no (by rw[hrA];simp))];exact c10
     ·refine⟨tB, ?_⟩
      rw[hread no2 (c6.live no2 (by rw[hrB];simp))];exact c11
    ·injection e with e;subst e;exact c13 p hp
    ·injection e with e;subst e;exact c14 p hp
   ·obtain⟨a,b⟩:=hch.oth q hq hnq
    exact⟨hlv q a,(g8 q a.1).trans b,fun hm=>(hch.sub q hm).elim hnq (fun h=>h hq)⟩
   ·have:=hch.cnt
    rw[g5,g6]
    exact this
end
theorem TrAt.much {M:PM}: ∀ {h:Nat} {no:Int} {seg:List (Int × Int)} {pgs:List Int},TrAt M h no seg pgs→thinN (ndRead M no).2=false→14*pgs.length+1≤seg.length∧15*21 ^ h≤seg.length
 |0,no,seg,pgs,⟨n,h1,h2,h3,h4⟩,ht=>by
  have hok:=ndRead_ok h1
  rw[h1] at ht
  have ht:thinN n=false:=ht
  rw[thinN_leaf h2,decide_eq_false_iff_not] at ht
  have hv:=(hok.leafs h2).2.1
  rw[h3,h4,List.length_zip,hv,Nat.min_self]
  simp
  omega
 |h+1,no,seg,pgs,⟨n,kz,h1,h2,h3,h4,h5,h6,h7⟩,ht=>by
  have hok:=ndRead_ok h1
  rw[h1] at ht
  have ht:thinN n=false:=ht
  rw[thinN_fork h2,decide_eq_false_iff_not] at ht
  have hkl:=(hok.forks h2).2.1
  rw[h3,List.length_map] at hkl
  have hsum: ∀l:List KZ,(∀z∈l,z∈kz)→14*((l.map (·.2.2)).flatten).length+l.length≤((l.map (·.2.1)).flatten).length∧l.length*(15*21 ^ h)≤((l.map (·.2.1)).flatten).length:=by
   intro l
   induction l with
   |nil=>intro _;simp
   |cons z l ih=>
    intro hz
    obtain⟨a,b⟩:=ih (fun y hy=>hz y (by simp[hy]))
    obtain⟨tz,thz⟩:=h4 z (hz z (by simp))
    obtain⟨c,d⟩:=tz.much thz
    simp only[List.map_cons,List.flatten_cons,List.length_append,List.length_cons,Nat.add_mul,Nat.one_mul]
    omega
  obtain⟨a,b⟩:=hsum kz (fun _ h=>h)
  rw[h5,h6,List.length_cons]
  refine⟨by omega, ?_⟩
  have:21*(15*21 ^ h)≤kz.length*(15*21 ^ h):=Nat.mul_le_mul_right _ (by omega)
  rw[Nat.pow_succ]
  omega
theorem TrAt.muchR {M:PM} {h:Nat} {no:Int} {seg:List (Int × Int)} {pgs:List Int} (t:TrAt M h no seg pgs):14*pgs.length≤seg.length+13∧(0<h→30*21 ^ (h - 1)≤seg.length):=by
 cases h with
 |zero=>
  obtain⟨n,h1,h2,h3,h4⟩:=t
  have hok:=ndRead_ok h1
  have hv:=(hok.leafs h2).2.1
  have:=hok.k1
  rw[h3,h4,List.length_zip,hv,Nat.min_self]
  simp
  omega
 |succ h=>
  obtain⟨n,kz,h1,h2,h3,h4,h5,h6,h7⟩:=t
  have hok:=ndRead_ok h1
  have hkl:=(hok.forks h2).2.1
  have hk1:=hok.k1
  rw[h3,List.length_map] at hkl
  have hsum: ∀l:List KZ,(∀z∈l,z∈kz)→14*((l.map (·.2.2)).flatten).length+l.length≤((l.map (·.2.1)).flatten).length∧l.length*(15*21 ^ h)≤((l.map (·.2.1)).flatten).length:=by
   intro l
   induction l with
   |nil=>intro _;simp
   |cons z l ih=>
    intro hz
    obtain⟨a,b⟩:=ih (fun y hy=>hz y (by simp[hy]))
    obtain⟨tz,thz⟩:=h4 z (hz z (by simp))
    obtain⟨c,d⟩:=tz.much thz
    simp only[List.map_cons,List.flatten_cons,List.length_append,List.length_cons,Nat.add_mul,Nat.one_mul]
    omega
  obtain⟨a,b⟩:=hsum kz (fun _ h=>h)
  rw[h5,h6,List.length_cons]
  refine⟨by omega,fun _=> ?_⟩
  have:2*(15*21 ^ h)≤kz.length*(15*21 ^ h):=Nat.mul_le_mul_right _ (by omega)
  simp only[Nat.add_sub_cancel]
  omega
end Go.Proofs.YtjgkegkinnlcoaaGreatDoor
namespace Go.Proofs.YtjgkegkinnlcoaaGreatDoor
open Go.RowKit
theorem Segs.strHi {u:Int}: ∀ {ks:List Int} {lo hi:Option Int} {ss:List (List (Int × Int))},Segs lo hi ks ss→(∀t∈ss, ∀p∈t,p.1<u)→Segs lo (some u) ks ss
 | [],lo,hi,[s],h,hu=>fun p hp=>⟨(h p hp).1,fun v e=>by injection e with e;subst e;exact hu s (by simp) p hp⟩
 | [],_,_,[],h,_=>h.elim
 | [],_,_,_::_::_,h,_=>h.elim
 |k::ks,_,_,[],h,_=>h.elim
 |k::ks,lo,hi,s::ss,h,hu=>⟨h.1,h.2.strHi (fun t ht=>hu t (by simp[ht]))⟩
theorem Segs.strLo {l:Int}: ∀ {ks:List Int} {lo hi:Option Int} {ss:List (List (Int × Int))},Segs lo hi ks ss→(∀t∈ss, ∀p∈t,l≤p.1)→Segs (some l) hi ks ss
 | [],lo,hi,[s],h,hl=>fun p hp=>⟨fun v e=>(by injection e with e;subst e;exact hl s (by simp) p hp),(h p hp).2⟩
 | [],_,_,[],h,_=>h.elim
 | [],_,_,_::_::_,h,_=>h.elim
 |k::ks,_,_,[],h,_=>h.elim
 |k::ks,lo,hi,s::ss,h,hl=>⟨fun p hp=>⟨fun v e=>(by injection e with e;subst e;exact hl s (by simp) p hp),(h.1 p hp).2⟩,h.2⟩
theorem Segs.join {k:Int}: ∀ {K1 K2:List Int} {lo hi:Option Int} {S1 S2:List (List (Int × Int))},Segs lo (some k) K1 S1→Segs (some k) hi K2 S2→Segs lo hi (K1++k::K2) (S1++S2)
 | [],K2,lo,hi,[s],S2,h1,h2=>⟨h1,h2⟩
 | [],_,_,_,[],_,h,_=>h.elim
 | [],_,_,_,_::_::_,_,h,_=>h.elim
 |a::K1,_,_,_,[],_,h,_=>h.elim
 |a::K1,K2,lo,hi,s::S1,S2,h1,h2=>⟨h1.1,Segs.join h1.2 h2⟩
theorem Segs.keysLt {u:Int}: ∀ {ks:List Int} {lo hi:Option Int} {ss:List (List (Int × Int))},Segs lo hi ks ss→(∀t∈ss,t≠ [])→(∀t∈ss, ∀p∈t,p.1<u)→(∀l,lo=some l→l<u)∧ ∀k∈ks,k<u
 | [],lo,hi,[s],h,hn,hu=>by
  obtain⟨p,hp⟩:=List.exists_mem_of_ne_nil _ (hn s (by simp))
  have:=hu s (by simp) p hp
  exact⟨fun l e=>by have:=(h p hp).1 l e;omega,by simp⟩
 | [],_,_,[],h,_,_=>h.elim
 | [],_,_,_::_::_,h,_,_=>h.elim
 |k::ks,_,_,[],h,_,_=>h.elim
 |k::ks,lo,hi,s::ss,h,hn,hu=>by
  obtain⟨a,b⟩:=h.2.keysLt (fun t ht=>hn t (by simp[ht])) (fun t ht=>hu t (by simp[ht]))
  obtain⟨p,hp⟩:=List.exists_mem_of_ne_nil _ (hn s (by simp))
  have:=hu s (by simp) p hp
  refine⟨fun l e=>by have:=(h.1 p hp).1 l e;omega,fun x hx=> ?_⟩
  rcases List.mem_cons.1 hx with rfl|hx
  ·exact a x rfl
  ·exact b x hx
theorem Segs.keysGt {l:Int}: ∀ {ks:List Int} {lo hi:Option Int} {ss:List (List (Int × Int))},Segs lo hi ks ss→(∀t∈ss,t≠ [])→(∀t∈ss, ∀p∈t,l≤p.1)→ ∀k∈ks,l<k
 | [],_,_,_,_,_,_=>by simp
 |k::ks,_,_,[],h,_,_=>h.elim
 |k::ks,lo,hi,s::ss,h,hn,hl=>by
  intro x hx
  rcases List.mem_cons.1 hx with rfl|hx
  ·obtain⟨p,hp⟩:=List.exists_mem_of_ne_nil _ (hn s (by simp))
   have:=hl s (by simp) p hp
   have:=(h.1 p hp).2 x rfl
   omega
  ·exact h.2.keysGt (fun t ht=>hn t (by simp[ht])) (fun t ht=>hl t (by simp[ht])) x hx
theorem Segs.merge {s:Int} {sa sb:List (Int × Int)} (na:sa≠ []) (nb:sb≠ []): ∀ {KA KB:List Int} {lo hi:Option Int} {SA SB:List (List (Int × Int))},Segs lo hi (KA++s::KB) (SA++sa::sb::SB)→SA.length=KA.length→Segs lo hi (KA++KB) (SA++(sa++sb)::SB)
 | [],KB,lo,hi,SA,SB,h,hl=>by
  have:SA=[]:=List.eq_nil_of_length_eq_zero hl
  subst this
  obtain⟨h1,h2⟩:=h
  obtain⟨p0,hp0⟩:=List.exists_mem_of_ne_nil _ na
  obtain⟨q0,hq0⟩:=List.exists_mem_of_ne_nil _ nb
  have key: ∀u:Option Int,InB (some s) u sb→InB lo u (sa++sb):=fun u hb p hp=>by
   rcases List.mem_append.1 hp with hp|hp
   ·refine⟨(h1 p hp).1,fun v e=> ?_⟩
    have:=(h1 p hp).2 s rfl
    have:=(hb q0 hq0).1 s rfl
    have:=(hb q0 hq0).2 v e
    omega
   ·refine⟨fun v e=> ?_,(hb p hp).2⟩
    have:=(h1 p0 hp0).1 v e
    have:=(h1 p0 hp0).2 s rfl
    have:=(hb p hp).1 s rfl
    omega
  cases KB with
  |nil=>
   have:=Segs.length h2
   simp at this
   subst this
   exact key hi h2
  |cons b KB=>exact⟨key (some b) h2.1,h2.2⟩
 |a::KA,KB,lo,hi,SA,SB,h,hl=>by
  cases SA with
  |nil=>simp at hl
  |cons t SA=>exact⟨h.1,Segs.merge na nb h.2 (by simpa using hl)⟩
theorem Segs.share {s k:Int} {sa sb sa' sb':List (Int × Int)} (na:sa≠ []) (nb:sb≠ []) (hm: ∀p,p∈sa'∨p∈sb'→p∈sa∨p∈sb) (ha: ∀p∈sa',p.1<k) (hb: ∀p∈sb',k≤p.1): ∀ {KA KB:List Int} {lo hi:Option Int} {SA SB:List (List (Int × Int))},Segs lo hi (KA++s::KB) (SA++sa::sb::SB)→SA.length=KA.length→
  Segs lo hi (KA++k::KB) (SA++sa'::sb'::SB)
 | [],KB,lo,hi,SA,SB,h,hl=>by
  have:SA=[]:=List.eq_nil_of_length_eq_zero hl
  subst this
  obtain⟨h1,h2⟩:=h
  obtain⟨p0,hp0⟩:=List.exists_mem_of_ne_nil _ na
  obtain⟨q0,hq0⟩:=List.exists_mem_of_ne_nil _ nb
  have key: ∀u:Option Int,InB (some s) u sb→InB lo (some k) sa'∧InB (some k) u sb':=fun u hh=>by
   have low: ∀p,p∈sa∨p∈sb→ ∀v,lo=some v→v≤p.1:=fun p hp v e=>by
    have:=(h1 p0 hp0).1 v e
    have:=(h1 p0 hp0).2 s rfl
    rcases hp with hp|hp
    ·exact(h1 p hp).1 v e
    ·have:=(hh p hp).1 s rfl;omega
   have high: ∀p,p∈sa∨p∈sb→ ∀v,u=some v→p.1<v:=fun p hp v e=>by
    have:=(hh q0 hq0).1 s rfl
    have:=(hh q0 hq0).2 v e
    rcases hp with hp|hp
    ·have:=(h1 p hp).2 s rfl;omega
    ·exact(hh p hp).2 v e
   exact⟨fun p hp=>⟨low p (hm p (.inl hp)),fun v e=>(by injection e with e;subst e;exact ha p hp)⟩,fun p hp=>⟨fun v e=>(by injection e with e;subst e;exact hb p hp),high p (hm p (.inr hp))⟩⟩
  cases KB with
  |nil=>
   have:=Segs.length h2
   simp at this
   subst this
   exact key hi h2
  |cons b KB=>exact⟨(key (some b) h2.1).1,(key (some b) h2.1).2,h2.2⟩
 |a::KA,KB,lo,hi,SA,SB,h,hl=>by
  cases SA with
  |nil=>simp at hl
  |cons t SA=>exact⟨h.1,Segs.share na nb hm ha hb h.2 (by simpa using hl)⟩
theorem Segs.parts {s:Int} {sa sb:List (Int × Int)}: ∀ {KA KB:List Int} {lo hi:Option Int} {SA SB:List (List (Int × Int))},Segs lo hi (KA++s::KB) (SA++sa::sb::SB)→SA.length=KA.length→(∀p∈sa,p.1<s)∧ ∀p∈sb,s≤p.1
 | [],KB,lo,hi,SA,SB,h,hl=>by
  have:SA=[]:=List.eq_nil_of_length_eq_zero hl
  subst this
  obtain⟨h1,h2⟩:=h
  refine⟨fun p hp=>(h1 p hp).2 s rfl,fun p hp=> ?_⟩
  cases KB with
  |nil=>
   have:=Segs.length h2
   simp at this
   subst this
   exact(h2 p hp).1 s rfl
  |cons b KB=>exact(h2.1 p hp).1 s rfl
 |a::KA,KB,lo,hi,SA,SB,h,hl=>by
  cases SA with
  |nil=>simp at hl
  |cons t SA=>exact Segs.parts h.2 (by simpa using hl)
theorem half_fork {n:ND} {kz:List KZ} (hlf:n.leaf=false) (hkd:n.kids=kz.map (·.1)) (hsg:Segs none none n.keys (kz.map (·.2.1))) (hpw:n.keys.Pairwise (· < ·)) (l1:1≤n.keys.length):
  ∃Z1 Z2,kz=Z1++Z2∧halfA n=⟨false,n.keys.take (n.keys.length / 2),[],Z1.map (·.1)⟩∧halfB n=⟨false,n.keys.drop (n.keys.length / 2+1),[],Z2.map (·.1)⟩∧Z1.length=n.keys.length / 2+1∧Z2.length+n.keys.length / 2=n.keys.length∧
   Segs none none (n.keys.take (n.keys.length / 2)) (Z1.map (·.2.1))∧Segs none none (n.keys.drop (n.keys.length / 2+1)) (Z2.map (·.2.1))∧(∀p∈sgZ Z1,p.1<halfK n)∧(∀p∈sgZ Z2,halfK n≤p.1)∧halfK n∈n.keys∧
   (n.keys.take (n.keys.length / 2)).Pairwise (· < ·)∧(n.keys.drop (n.keys.length / 2+1)).Pairwise (· < ·):=by
 have hkl:n.kids.length=n.keys.length+1:=by rw[hkd,List.length_map, ←List.length_map (f:=fun x:KZ=>x.2.1)];exact hsg.length
 have hpar:=half_parts n l1
 have hkzl:kz.length=n.keys.length+1:=by rw[hkd,List.length_map] at hkl;exact hkl
 have hg:Segs none none (n.keys.take (n.keys.length / 2)++halfK n::n.keys.drop (n.keys.length / 2+1)) ((kz.take (n.keys.length / 2+1)).map (·.2.1)++(kz.drop (n.keys.length / 2+1)).map (·.2.1)):=by
  rw[←List.map_append,List.take_append_drop, ←hpar];exact hsg
 obtain⟨g1,g2⟩:=hg.cut (by simp;omega)
 have hpw2:=hpw
 rw[hpar,List.pairwise_append,List.pairwise_cons] at hpw2
 obtain⟨q1,⟨q2,q3⟩,q4⟩:=hpw2
 refine⟨kz.take (n.keys.length / 2+1),kz.drop (n.keys.length / 2+1),(List.take_append_drop _ _).symm, ?_, ?_,by simp;omega,by simp;omega,g1.weakHi,g2.weakLo,fun p hp=> ?_,fun p hp=> ?_,by rw[hpar];simp,q1,q3⟩
 ·unfold halfA
  rw[if_neg (by rw[hlf];decide),hkd,List.map_take]
 ·unfold halfB
  rw[if_neg (by rw[hlf];decide),hkd,List.map_drop]
 ·obtain⟨t,ht,hp⟩:=List.mem_flatten.1 hp
  exact Segs.high g1 (fun a ha=>Int.le_of_lt (q4 a ha _ (by simp))) t ht p hp
 ·obtain⟨t,ht,hp⟩:=List.mem_flatten.1 hp
  exact Segs.low g2 (fun b hb=>Int.le_of_lt (q2 b hb)) q3 t ht p hp
end Go.Proofs.YtjgkegkinnlcoaaGreatDoor
namespace Go.Proofs.YtjgkegkinnlcoaaGreatDoor
open Go.RowKit
section
variable {M:PM} {R:RM} {N:Nat} {G:Int} {P:List Int}
theorem st_free (h:Rel M R N G) (hr:R.most≤R.room) {no:Int} {P0:List Int} (hP:P.Nodup) (hl: ∀q∈P,Live R q) (hp:P.Perm (no::P0)):
  ∃M' R',freeP M no=(0,M')∧Rel M' R' N G∧Chg R R' P P0∧ ∀q,Live R q→q≠no→ndRead M' q=ndRead M q:=by
 have hno:Live R no:=hl no (hp.mem_iff.2 (by simp))
 obtain⟨M',R',e1,e2,e3,e4,e5,e6,e7⟩:=h.stFree hr hno
 have hnd:=hp.nodup_iff.1 hP
 obtain⟨n1,n2⟩:=List.nodup_cons.1 hnd
 have hlen:=hp.length_eq
 refine⟨M',R',e1,e2,⟨e3.room,e3.most,e7,n2,fun q hq=> ?_,fun q hq=> .inl (hp.mem_iff.2 (by simp[hq])),fun q hq hnq=>e3.live hq (fun e=>hnq (hp.mem_iff.2 (by simp[e]))), ?_⟩,fun q hq hne=> ?_⟩
 ·exact(e3.live (hl q (hp.mem_iff.2 (by simp[hq]))) (fun e=>n1 (e▸hq))).1
 ·rw[List.length_cons] at hlen;omega
 ·obtain⟨a,b⟩:=e3.live hq hne
  exact read_same h e2 hq a b
theorem join_leaf {a b:ND} {s:Int} (ha:NdOk a) (hb:NdOk b) (la:a.leaf=true) (lb:b.leaf=true) (h1: ∀p∈a.keys.zip a.vals,p.1<s) (h2: ∀p∈b.keys.zip b.vals,s≤p.1):
  joinN a s b=⟨true,a.keys++b.keys,a.vals++b.vals,[]⟩∧(a.keys++b.keys).Pairwise (· < ·)∧(a.keys++b.keys).zip (a.vals++b.vals)=a.keys.zip a.vals++b.keys.zip b.vals:=by
 obtain⟨-,va, -, -⟩:=ha.leafs la
 obtain⟨-,vb, -, -⟩:=hb.leafs lb
 have fa: ∀k∈a.keys,k<s:=fun k hk=>by
  rw[←zip_fst va.symm] at hk
  obtain⟨p,hp,rfl⟩:=List.mem_map.1 hk
  exact h1 p hp
 have fb: ∀k∈b.keys,s≤k:=fun k hk=>by
  rw[←zip_fst vb.symm] at hk
  obtain⟨p,hp,rfl⟩:=List.mem_map.1 hk
  exact h2 p hp
 refine⟨by unfold joinN;rw[if_pos la], ?_,List.zip_append va.symm⟩
 rw[List.pairwise_append]
 refine⟨ha.pw,hb.pw,fun x hx y hy=> ?_⟩
 have:=fa x hx
 have:=fb y hy
 omega
end
def FeedPost (M:PM) (R:RM) (N:Nat) (G:Int) (h:Nat) (n:ND) (KA KB:List Int) (ZA ZB:List KZ) (za zb:KZ):Prop:=
 ∃KM Zm M' R',feedB M n KA.length=(0,⟨n.leaf,KA++(KM++KB),n.vals,(ZA++(Zm++ZB)).map (·.1)⟩,M')∧Rel M' R' N G∧Chg R R' (za.2.2++zb.2.2) (pgZ Zm)∧(∀q,Live R q→q∉za.2.2++zb.2.2→ndRead M' q=ndRead M q)∧
  (∀y∈Zm,TrAt M' h y.1 y.2.1 y.2.2∧thinN (ndRead M' y.1).2=false)∧
  ((KM=[]∧ ∃m:KZ,Zm=[m]∧m.1=za.1∧m.2.1=za.2.1++zb.2.1)∨(∃k, ∃m1 m2:KZ,KM=[k]∧Zm=[m1,m2]∧m1.1=za.1∧m2.1=zb.1∧m1.2.1++m2.2.1=za.2.1++zb.2.1∧0≤k∧k≤18446744073709551615∧(∀p∈m1.2.1,p.1<k)∧ ∀p∈m2.2.1,k≤p.1))
section
variable {M:PM} {R:RM} {N:Nat} {G:Int} {n a b:ND} {KA KB:List Int} {s:Int} {ZA ZB:List KZ} {za zb:KZ}
theorem feed_head (e1:n.keys=KA++s::KB) (e2:n.kids=(ZA++za::zb::ZB).map (·.1)) (e3:ZA.length=KA.length) (ra:ndRead M za.1=(0,a)) (rb:ndRead M zb.1=(0,b)) (hl:a.leaf=b.leaf):
  feedB M n KA.length=(let j:=joinN a s b
   if fullN j=false then(let e:=freeP M zb.1;if e.1≠0 then(e.1,n,e.2) else(let w:=writeB e.2 za.1 j;(w.1,⟨n.leaf,KA++KB,n.vals,(ZA++za::ZB).map (·.1)⟩,w.2)))
   else(let v:=writeB M za.1 (halfA j);if v.1≠0 then(v.1,⟨n.leaf,KA++halfK j::KB,n.vals,n.kids⟩,v.2) else(let w:=writeB v.2 zb.1 (halfB j);(w.1,⟨n.leaf,KA++halfK j::KB,n.vals,n.kids⟩,w.2)))):=by
 have g1:n.kids.getD KA.length 0=za.1:=by
  rw[e2,List.map_append,List.map_cons]
  exact getD_app (by simp[e3])
 have g2:n.kids.getD (KA.length+1) 0=zb.1:=by
  rw[e2,show(ZA++za::zb::ZB).map (·.1)=(ZA++[za]).map (·.1)++zb.1::ZB.map (·.1) by simp]
  exact getD_app (by simp[e3])
 have g3:n.keys.getD KA.length 0=s:=by rw[e1];exact getD_app rfl
 unfold feedB
 rw[g1,g2,g3,ra]
 simp only
 rw[if_neg (by simp),rb]
 simp only
 rw[if_neg (by simp),if_neg (by simp[hl])]
 have k1:n.keys.eraseIdx KA.length=KA++KB:=by rw[e1];exact eraseIdx_app rfl
 have k2:n.kids.eraseIdx (KA.length+1)=(ZA++za::ZB).map (·.1):=by
  rw[e2,show(ZA++za::zb::ZB).map (·.1)=(ZA++[za]).map (·.1)++zb.1::ZB.map (·.1) by simp,eraseIdx_app (by simp[e3])]
  simp
 have k3: ∀k,n.keys.set KA.length k=KA++k::KB:=fun k=>by rw[e1];exact set_app rfl
 simp only[k1,k2,k3]
theorem feed_leaf (hR:Rel M R N G) (hr:R.most≤R.room) (e1:n.keys=KA++s::KB) (e2:n.kids=(ZA++za::zb::ZB).map (·.1)) (e3:ZA.length=KA.length) (ta:TrAt M 0 za.1 za.2.1 za.2.2) (tb:TrAt M 0 zb.1 zb.2.1 zb.2.2) (ra:ndRead M za.1=(0,a)) (rb:ndRead M zb.1=(0,b)) (hsz:29≤a.keys.length+b.keys.length)
  (s1: ∀p∈za.2.1,p.1<s) (s2: ∀p∈zb.2.1,s≤p.1) (hnd:(za.2.2++zb.2.2).Nodup) (hlv: ∀q∈za.2.2++zb.2.2,Live R q):FeedPost M R N G 0 n KA KB ZA ZB za zb:=by
 obtain⟨na,ra',la,ga,pa⟩:=ta
 obtain⟨nb,rb',lb,gb,pb⟩:=tb
 rw[ra] at ra'
 rw[rb] at rb'
 injection ra' with _ ra'
 injection rb' with _ rb'
 subst ra' rb'
 have oka:=ndRead_ok ra
 have okb:=ndRead_ok rb
 obtain⟨ka1,ka2,ka3,ka4⟩:=oka.leafs la
 obtain⟨kb1,kb2,kb3,kb4⟩:=okb.leafs lb
 obtain⟨j1,j2,j3⟩:=join_leaf (s:=s) oka okb la lb (by rw[←ga];exact s1) (by rw[←gb];exact s2)
 unfold FeedPost
 rw[feed_head e1 e2 e3 ra rb (by rw[la,lb])]
 rw[pa,pb] at hnd hlv ⊢
 rw[j1]
 have hkb: ∀k∈a.keys++b.keys,0≤k∧k≤18446744073709551615:=fun k hk=>(List.mem_append.1 hk).elim (oka.kb k) (okb.kb k)
 have hvb: ∀k∈a.vals++b.vals,0≤k∧k≤18446744073709551615:=fun k hk=>(List.mem_append.1 hk).elim (ka4 k) (kb4 k)
 have hjl:(a.keys++b.keys).length=a.keys.length+b.keys.length:=List.length_append
 have hjv:(a.vals++b.vals).length=(a.keys++b.keys).length:=by rw[List.length_append,List.length_append,ka2,kb2]
 have hzip:(a.keys++b.keys).zip (a.vals++b.vals)=za.2.1++zb.2.1:=by rw[j3,ga,gb]
 generalize a.keys++b.keys=K at*
 generalize a.vals++b.vals=V at*
 have hfull:fullN ⟨true,K,V,[]⟩=decide (30<K.length):=fullN_leaf rfl
 have hk1:=oka.k1
 by_cases hf:30<K.length
 ·have hff:fullN ⟨true,K,V,[]⟩=true:=by rw[hfull,decide_eq_true_iff];exact hf
  have hA:halfA ⟨true,K,V,[]⟩=⟨true,K.take (K.length / 2),V.take (K.length / 2),[]⟩:=by unfold halfA;rw[if_pos rfl]
  have hB:halfB ⟨true,K,V,[]⟩=⟨true,K.drop (K.length / 2),V.drop (K.length / 2),[]⟩:=by unfold halfB;rw[if_pos rfl]
  have pwA:(K.take (K.length / 2)).Pairwise (· < ·):=List.Pairwise.sublist (List.take_sublist _ _) j2
  have pwB:(K.drop (K.length / 2)).Pairwise (· < ·):=List.Pairwise.sublist (List.drop_sublist _ _) j2
  have okA:NdOk ⟨true,K.take (K.length / 2),V.take (K.length / 2),[]⟩:=⟨by simp;omega,risL_iff.2 pwA,fun k hk'=>hkb k (List.mem_of_mem_take hk'),fun _=>⟨rfl,by simp;omega,by simp;omega,fun v hv'=>hvb v (List.mem_of_mem_take hv')⟩,fun e=>by cases e⟩
  have okB:NdOk ⟨true,K.drop (K.length / 2),V.drop (K.length / 2),[]⟩:=⟨by simp;omega,risL_iff.2 pwB,fun k hk'=>hkb k (List.mem_of_mem_drop hk'),fun _=>⟨rfl,by simp;omega,by simp;omega,fun v hv'=>hvb v (List.mem_of_mem_drop hv')⟩,fun e=>by cases e⟩
  obtain⟨M1,R1,w1,w2,w3,w4,w5⟩:=st_writeB hR hr okA hnd hlv (no:=za.1) (by simp)
  obtain⟨M2,R2,x1,x2,x3,x4,x5⟩:=st_writeB w2 (by rw[w3.most,w3.room];exact hr) okB w3.nd w3.live (no:=zb.1) (by simp)
  have hne:za.1≠zb.1:=by simpa using hnd
  have rA:ndRead M2 za.1=(0,⟨true,K.take (K.length / 2),V.take (K.length / 2),[]⟩):=by rw[x5 za.1 (w3.live _ (by simp)) hne,w4]
  have hpar:=half_parts ⟨true,K,V,[]⟩ (show 1≤K.length by omega)
  have hpar:K=K.take (K.length / 2)++halfK ⟨true,K,V,[]⟩::K.drop (K.length / 2+1):=hpar
  have hkm:halfK ⟨true,K,V,[]⟩∈K:=by
   have e:halfK ⟨true,K,V,[]⟩=K[K.length / 2]'(by omega):=by unfold halfK;rw[List.getD_eq_getElem?_getD,List.getElem?_eq_getElem (by show K.length / 2<K.length;omega)];rfl
   rw[e];exact List.getElem_mem _
  have hd:K.drop (K.length / 2)=halfK ⟨true,K,V,[]⟩::K.drop (K.length / 2+1):=by
   rw[List.drop_eq_getElem_cons (by omega)]
   congr 1
   unfold halfK
   rw[List.getD_eq_getElem?_getD,List.getElem?_eq_getElem (by show K.length / 2<K.length;omega)];rfl
  refine⟨[halfK ⟨true,K,V,[]⟩],[(za.1,(K.take (K.length / 2)).zip (V.take (K.length / 2)),[za.1]),(zb.1,(K.drop (K.length / 2)).zip (V.drop (K.length / 2)),[zb.1])],M2,R2, ?_,x2, ?_,fun q hq hnq=> ?_,fun y hy=> ?_, .inr ⟨_,_,_,rfl,rfl,rfl,rfl, ?_,(hkb _ hkm).1,(hkb _ hkm).2,fun p hp=> ?_,fun p hp=> ?_⟩⟩
  ·simp only
   rw[hff,if_neg (by decide),hA,w1]
   simp only
   rw[if_neg (by simp),hB,x1,e2]
   simp
  ·exact w3.trans x3
  ·simp at hnq
   have hq1:Live R1 q:=(w3.oth q hq (by simpa using hnq)).1
   rw[x5 q hq1 hnq.2,w5 q hq hnq.1]
  ·simp at hy
   rcases hy with rfl|rfl
   ·refine⟨⟨_,rA,rfl,rfl,rfl⟩, ?_⟩
    rw[rA]
    rw[thinN_leaf rfl,decide_eq_false_iff_not]
    simp;omega
   ·refine⟨⟨_,x4,rfl,rfl,rfl⟩, ?_⟩
    rw[x4]
    rw[thinN_leaf rfl,decide_eq_false_iff_not]
    simp;omega
  ·simp only
   rw[←List.zip_append (by simp;omega),List.take_append_drop,List.take_append_drop,hzip]
  ·have:=zip_mem hp
   rw[hpar,List.pairwise_append] at j2
   exact j2.2.2 _ this _ (by simp[halfK])
  ·have hm:=zip_mem hp
   rw[hd] at hm pwB
   rcases List.mem_cons.1 hm with e|hm
   ·rw[e];exact Int.le_refl _
   ·exact Int.le_of_lt ((List.pairwise_cons.1 pwB).1 _ hm)
 ·have hff:fullN ⟨true,K,V,[]⟩=false:=by rw[hfull,decide_eq_false_iff_not];exact hf
  have ok:NdOk ⟨true,K,V,[]⟩:=⟨by show 1≤K.length;omega,risL_iff.2 j2,hkb,fun _=>⟨rfl,hjv,by show K.length≤30;omega,hvb⟩,fun e=>by cases e⟩
  obtain⟨M1,R1,f1,f2,f3,f4⟩:=st_free hR hr hnd hlv (no:=zb.1) (P0:=[za.1]) (List.Perm.swap _ _ _)
  obtain⟨M2,R2,x1,x2,x3,x4,x5⟩:=st_writeB f2 (by rw[f3.most,f3.room];exact hr) ok f3.nd f3.live (no:=za.1) (by simp)
  refine⟨[],[(za.1,za.2.1++zb.2.1,[za.1])],M2,R2, ?_,x2, ?_,fun q hq hnq=> ?_,fun y hy=> ?_, .inl ⟨rfl,_,rfl,rfl,rfl⟩⟩
  ·simp only
   rw[hff,if_pos rfl,f1]
   simp only
   rw[if_neg (by simp),x1]
   simp
  ·exact f3.trans x3
  ·simp at hnq
   have hq1:Live R1 q:=(f3.oth q hq (by simpa using hnq)).1
   rw[x5 q hq1 hnq.1,f4 q hq hnq.2]
  ·simp at hy
   subst hy
   refine⟨⟨_,x4,rfl,hzip.symm,rfl⟩, ?_⟩
   rw[x4]
   rw[thinN_leaf rfl,decide_eq_false_iff_not]
   show¬K.length<15
   omega
end
end Go.Proofs.YtjgkegkinnlcoaaGreatDoor
