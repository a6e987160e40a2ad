/- Lemmas on the way to the statement: Pager4, Pager5, Pager6, Pager7, LayPlain, Pager8, LayPlain2, Pager9, PagerA, Redo9, PagerC, PagerD. -/
import Derived.Test.YtjgkegkinnlcoaaGreatDoorJ4
set_option linter.unusedSimpArgs false
set_option linter.unusedVariables false
namespace Go.Proofs.YtjgkegkinnlcoaaGreatDoor
open Go.RowKit Go.Maps Go.Joins
section
variable {w w' w1 w2:World} {b d lb pb hb K J k room:Nat} {FD FP F1 F:List Nat} {M M':PM} {fr:Hand}
theorem IsPool.clean_lt (h:IsPool w pb F room K fr) {no:Int} {s:ByteArray} (hs:fr no=some (s,false)):cntDirty fr<room:=by
 obtain⟨mb,n,clock,at_,us,h, -⟩:=h
 cases ha:at_ no with
 |none=>rw[h.out no ha] at hs;cases hs
 |some b=>have:=h.dirty_lt ha hs;have:=h.le;omega
theorem ours_any (w:World) (kind:Int):Calls Tryz.prog 63 #[.int .i64 kind] w fun e w'=>e= .returned (.bool (oursK kind))∧w=w':=by
 unfold oursK
 by_cases h1:2≤kind
 ·by_cases h2:kind≤254
  ·rw[decide_eq_true ⟨h1,h2⟩]
   go_enter Tryz.func63,Tryz.ntmps63
   go_wp2_with fail
   go_ret
   exact⟨rfl,rfl⟩
  ·rw[decide_eq_false (fun h=>h2 h.2)]
   go_enter Tryz.func63,Tryz.ntmps63
   go_wp2_with fail
   go_ret
   exact⟨rfl,rfl⟩
 ·rw[decide_eq_false (fun h=>h1 h.1)]
  go_enter Tryz.func63,Tryz.ntmps63
  go_wp2_with fail
  go_ret
  exact⟨rfl,rfl⟩
theorem setP_no (no kind:Int) (r:ByteArray) (h:pgArg kind no=false):setP M no kind r=(1,M):=by unfold setP;rw[if_pos h]
theorem setP_large (no kind:Int) (r:ByteArray) (h:pgArg kind no=true) (h2:496<r.size):setP M no kind r=(3,M):=by unfold setP;rw[if_neg (by rw[h];decide),if_pos h2]
theorem setP_yes (no kind:Int) (r:ByteArray) (h:pgArg kind no=true) (h2: ¬496<r.size) (h3:(M.dirty no).isSome=true∨cntD M<M.room):setP M no kind r=(0, { M with dirty:=updI M.dirty no (some (pgStr kind no r)) }):=by unfold setP;rw[if_neg (by rw[h];decide),if_neg h2,if_pos h3]
theorem setP_big (no kind:Int) (r:ByteArray) (h:pgArg kind no=true) (h2: ¬496<r.size) (h3: ¬((M.dirty no).isSome=true∨cntD M<M.room)):setP M no kind r=(10,M):=by unfold setP;rw[if_neg (by rw[h];decide),if_neg h2,if_neg h3]
set_option maxRecDepth 100000 in
set_option maxHeartbeats 2000000 in
theorem pgset_any (h:PgIn w b d lb pb hb FD FP K k M) (hK:K≤3000000000000000000) (no kind:Int) (r:ByteArray) (h0:0≤no) (h1:no<M.most):
  Calls Tryz.prog 68 #[.pointer (some ⟨b,0,none⟩), .int .i64 no, .int .i64 kind, .string r] w fun e w'=>e= .returned (.int .i64 (setP M no kind r).1)∧PgStep w w' b d lb pb hb FD FP (K+2) k (setP M no kind r).2:=by
 have H:=Lib.hid h
 have hgeo:=h.ok.geo
 have hfew:=h.ok.disk.few
 clear h
 cases ha:pgArg kind no
 ·rw[setP_no no kind r ha]
  have HPK:=Lib.hid (fun W=>pack_arg kind no r W ha)
  clear ha
  go_enter Tryz.func68,Tryz.ntmps68
  go_wp2_with fail
  refine(HPK.out _).mono ?_
  rintro e w1 ⟨rfl,rfl⟩
  go_wp2_with fail
  go_ret
  exact⟨rfl,(PgStep.refl H.out).mono (by omega)⟩
 by_cases hr:496<r.size
 ·rw[setP_large no kind r ha hr]
  have HPK:=Lib.hid (fun W=>pack_large kind no r W ha hr)
  clear ha
  go_enter Tryz.func68,Tryz.ntmps68
  go_wp2_with fail
  refine(HPK.out _).mono ?_
  rintro e w1 ⟨rfl,rfl⟩
  go_wp2_with fail
  go_ret
  exact⟨rfl,(PgStep.refl H.out).mono (by omega)⟩
 have HPK:=Lib.hid (fun W=>pack_any kind no r W ha (by omega))
 have hsz:=pgStr_size kind no r (by omega)
 go_enter Tryz.func68,Tryz.ntmps68
 go_wp2_with fail
 refine(HPK.out _).mono ?_
 rintro e w1 ⟨rfl,hb1⟩
 have HP:=Lib.hid (H.out.below hb1)
 have HB:=Lib.hid hb1
 obtain⟨c0,c1,c2,c3,c4,c5,c6,c7⟩:=HP.out.cell
 obtain⟨fr,hp,hc⟩:=HP.out.pool
 have HST:=Lib.hid (pset_any hp (by omega) h0 (by omega) (pgStr kind no r))
 have HCO:=Lib.hid hc
 have HPO:=Lib.hid hp
 clear hb1 hp hc
 go_wp2_with fail
 refine HST.out.mono ?_
 rintro e w2 ⟨fr',hgo,⟨rfl,hor,fr1,hf1,rfl⟩|⟨rfl,hn,hnl,rfl⟩⟩
 ·have hyes:(M.dirty no).isSome=true∨cntD M<M.room:=by
   rcases hor with hs|hlt
   ·cases hf:fr no with
    |none=>rw[hf] at hs;cases hs
    |some x=>
     obtain⟨s,dd⟩:=x
     cases dd
     ·have:=HPO.out.clean_lt hf
      rw[HCO.out.cnt] at this
      exact .inr this
     ·rw[(HCO.out.1 no s).1 hf];exact .inl rfl
   ·rw[HCO.out.cnt] at hlt
    exact .inr hlt
  have hst:=HP.out.step hgo ((HCO.out.fewer hf1).set no (pgStr kind no r)) (fun i s hs=>by
   by_cases e:i=no
   ·subst e
    rw[updI_same] at hs
    injection hs with hs
    exact⟨h0,h1,by rw[←hs];exact hsz⟩
   ·rw[updI_other _ _ e] at hs
    exact H.out.ok.dom i s hs)
  have HS:=Lib.hid hst
  have HY:=Lib.hid (setP_yes (M:=M) no kind r ha hr hyes)
  clear hgo hst hor hyes c0 c1 c2 c3 c4 c5 c6 c7 ha
  go_wp2_with fail
  go_ret
  rw[HY.out]
  exact⟨rfl,PgStep.below HB.out HS.out⟩
 ·have hbig: ¬((M.dirty no).isSome=true∨cntD M<M.room):=by
   rintro (hs|hlt)
   ·have:=HCO.out.dirty no
    unfold isDirty at this
    rw[hn,hs] at this;cases this
   ·rw[HCO.out.cnt] at hnl
    exact hnl hlt
  have hst:=HP.out.step_same hgo HCO.out
  have HS:=Lib.hid hst
  have HY:=Lib.hid (setP_big (M:=M) no kind r ha hr hbig)
  clear hgo hst hbig hn hnl c0 c1 c2 c3 c4 c5 c6 c7 ha
  go_wp2_with fail
  go_ret
  rw[HY.out]
  exact⟨rfl,PgStep.below HB.out HS.out⟩
set_option maxRecDepth 100000 in
set_option maxHeartbeats 2000000 in
theorem setHead_any (h:PgIn w b d lb pb hb FD FP K k M) (hK:K≤3000000000000000000) (used free:Int) (r:ByteArray) (u0:0≤used) (u1:used≤4294967296) (f0:0≤free) (f1:free≤4294967296) (hr:r.size=496):
  Calls Tryz.prog 69 #[.pointer (some ⟨b,0,none⟩), .int .i64 used, .int .i64 free, .string r] w fun e w'=>e= .returned (.int .i64 (setHeadP M used free r).1)∧PgStep w w' b d lb pb hb FD FP (K+2) k (setHeadP M used free r).2:=by
 have H:=Lib.hid h
 have hm:=h.ok.most1
 have e1:=u64_int used u0 (by omega)
 have e2:=u64_int free f0 (by omega)
 have HP1:=Lib.hid (fun W=>put_any used 4 W (by omega) u0)
 have HP2:=Lib.hid (fun W=>put_any free 4 W (by omega) f0)
 have z1:(S (leB used 4)).size≤4:=by rw[S_size,leB_length];omega
 have z2:(S (leB free 4)).size≤4:=by rw[S_size,leB_length];omega
 have z3:8≤r.size:=by omega
 have z4:r.size≤496:=by omega
 have z5:(8:Int)≤r.size:=by omega
 clear h
 go_enter Tryz.func69,Tryz.ntmps69
 go_wp2_with fail
 refine wp_region_later_tail 11 (by kernel_rfl) (by kernel_rfl) ?_
 simp only[List.take_succ_cons,List.take_zero,List.drop_succ_cons,List.drop_zero]
 repeat (first|go_big_quiet_step ((first|(go_at_call 71;first|with_reducible refine Later.call (HP1.out _)|with_reducible refine Later.call (HP2.out _))))|quiet_step ((first|(go_at_call 71;first|with_reducible refine Later.call (HP1.out _)|with_reducible refine Later.call (HP2.out _)))))
 refine wpQuiet_nil ?_
 rintro w3 ⟨y3,hw3⟩
 have hb3:Below w.heap.size w w3:=by rw[hw3];exact y3.2
 have HB3:=Lib.hid hb3
 have HS:=Lib.hid (pgset_any (H.out.below hb3) (by omega) 0 1 (headR used free r) (by omega) (by omega))
 clear hw3 hb3
 have hcat:(S (leB used 4)++S (leB free 4))++r.extract 8 496=headR used free r:=by
  unfold headR
  rw[S_append,S_append_s,List.append_assoc,hr]
 rw[hcat]
 go_wp2_with fail
 refine HS.out.mono ?_
 rintro e w5 ⟨rfl,hst⟩
 have HST:=Lib.hid hst
 clear hst
 go_wp2_with fail
 go_ret
 exact⟨rfl,PgStep.below HB3.out HST.out⟩
set_option maxRecDepth 100000 in
set_option maxHeartbeats 1000000 in
theorem within_any (h:PgIn w b d lb pb hb FD FP K k M) (hK:K≤3000000000000000000) (no:Int):
  Calls Tryz.prog 70 #[.pointer (some ⟨b,0,none⟩), .int .i64 no] w fun e w'=>e= .returned (.bool (withinP M no))∧PgStep w w' b d lb pb hb FD FP (K+2) k M:=by
 have H:=Lib.hid h
 have HP:=Lib.hid (pages_any h hK)
 clear h
 unfold withinP
 by_cases h1:1≤no
 ·by_cases h2:no<pagesP M
  ·rw[decide_eq_true ⟨h1,h2⟩]
   go_enter Tryz.func70,Tryz.ntmps70
   go_wp2_with fail
   refine HP.out.mono ?_
   rintro e w1 ⟨rfl,hst⟩
   have HST:=Lib.hid hst
   clear hst
   go_wp2_with fail
   go_ret
   exact⟨rfl,HST.out⟩
  ·rw[decide_eq_false (fun h=>h2 h.2)]
   go_enter Tryz.func70,Tryz.ntmps70
   go_wp2_with fail
   refine HP.out.mono ?_
   rintro e w1 ⟨rfl,hst⟩
   have HST:=Lib.hid hst
   clear hst
   go_wp2_with fail
   go_ret
   exact⟨by show Ending.returned (.bool (decide (no<pagesP M)))=_;rw[decide_eq_false (by omega)],HST.out⟩
 ·rw[decide_eq_false (fun h=>h1 h.1)]
  go_enter Tryz.func70,Tryz.ntmps70
  go_wp2_with fail
  go_ret
  exact⟨rfl,(PgStep.refl H.out).mono (by omega)⟩
theorem within_facts (hs:Snd M) {no:Int} (h:withinP M no=true):1≤no∧no<M.most∧(rdP M 0).2.2=0∧no<usedR (rdP M 0).2.1:=by
 unfold withinP at h
 obtain⟨h1,h2⟩:=of_decide_eq_true h
 unfold pagesP at h2
 by_cases he:(rdP M 0).2.2=0
 ·rw[if_pos he] at h2
  have:=hs he
  exact⟨h1,by omega,he,h2⟩
 ·rw[if_neg he] at h2;omega
set_option maxRecDepth 100000 in
set_option maxHeartbeats 1000000 in
theorem Write_any (h:PgIn w b d lb pb hb FD FP K k M) (hs:Snd M) (hK:K≤2000000000000000000) (no kind:Int) (r:ByteArray):
  Calls Tryz.prog 24 #[.pointer (some ⟨b,0,none⟩), .int .i64 no, .int .i64 kind, .string r] w fun e w'=>e= .returned (.int .i64 (writeP M no kind r).1)∧PgStep w w' b d lb pb hb FD FP (K+4) k (writeP M no kind r).2:=by
 have HW:=Lib.hid (within_any h (by omega) no)
 have HO:=Lib.hid (fun W=>ours_any W kind)
 have HF:=fun hw=>Lib.hid (within_facts (no:=no) hs hw)
 clear h hs
 unfold writeP
 cases hw:withinP M no
 ·rw[if_neg (by simp)]
  rw[hw] at HW
  go_enter Tryz.func24,Tryz.ntmps24
  go_wp2_with fail
  refine HW.out.mono ?_
  rintro e w1 ⟨rfl,hst⟩
  have HST:=Lib.hid hst
  clear hst
  go_wp2_with fail
  go_ret
  exact⟨rfl,HST.out.mono (by omega)⟩
 have hf:=(HF hw).out
 rw[hw] at HW
 cases hk:oursK kind
 ·rw[if_neg (by simp)]
  rw[hk] at HO
  go_enter Tryz.func24,Tryz.ntmps24
  go_wp2_with fail
  refine HW.out.mono ?_
  rintro e w1 ⟨rfl,hst⟩
  have HST:=Lib.hid hst
  clear hst
  go_wp2_with fail
  refine(HO.out _).mono ?_
  rintro e w2 ⟨rfl,rfl⟩
  go_wp2_with fail
  go_ret
  exact⟨rfl,HST.out.mono (by omega)⟩
 ·rw[if_pos ⟨rfl,rfl⟩]
  rw[hk] at HO
  go_enter Tryz.func24,Tryz.ntmps24
  go_wp2_with fail
  refine HW.out.mono ?_
  rintro e w1 ⟨rfl,F1,h1,t1,f1⟩
  have HS:=Lib.hid (pgset_any h1 (by omega) no kind r (by omega) (by omega))
  have HT:=Lib.hid t1
  have HF1:=Lib.hid f1
  clear h1 t1 f1 hf
  go_wp2_with fail
  refine(HO.out _).mono ?_
  rintro e w2 ⟨rfl,rfl⟩
  go_wp2_with fail
  refine HS.out.mono ?_
  rintro e w2 ⟨rfl,hst⟩
  have HST:=Lib.hid hst
  clear hst
  go_wp2_with fail
  go_ret
  exact⟨rfl,PgStep.trans HT.out HF1.out HST.out⟩
end
end Go.Proofs.YtjgkegkinnlcoaaGreatDoor
namespace Go.Proofs.YtjgkegkinnlcoaaGreatDoor
open Go.RowKit Go.Maps Go.Joins
section
variable {w w' w1 w2:World} {b d lb pb hb K J k room:Nat} {FD FP F1 F:List Nat} {M M':PM} {fr:Hand}
set_option maxRecDepth 100000 in
set_option maxHeartbeats 1000000 in
theorem pfill_any (s:ByteArray) (n:Nat) (w:World) (h:s.size≤n) (hn:n≤1000):
  Calls Tryz.prog 67 #[.string s, .int .i64 n] w fun e w'=>e= .returned (.string (fillR s n))∧Below w.heap.size w w':=by
 have hw:IntKind.i64.wrap ((n:Int) - (s.size:Int))=(n:Int) - (s.size:Int):=IntWalk.i64_in _ (by omega)
 have z1:s.size≤1000:=by omega
 have z2:(S (nul (n - s.size))).size≤1000:=by rw[S_size,nul_length];omega
 have hr:=fun W=>repeat_nul ((n:Int) - (s.size:Int)) W (by omega) (by omega)
 rw[show((n:Int) - (s.size:Int)).toNat=n - s.size by omega] at hr
 have HR:=Lib.hid hr
 clear hr
 go_enter Tryz.func67,Tryz.ntmps67
 go_wp2_with fail
 refine(HR.out _).mono ?_
 rintro e w1 ⟨rfl,hb1⟩
 go_wp2_with fail
 go_ret
 refine⟨?_,hb1⟩
 show Ending.returned (.string (s++S (nul (n - s.size))))=_
 rw[append_S]
 rfl
set_option maxRecDepth 100000 in
set_option maxHeartbeats 1000000 in
theorem super_any (first:Int) (size:Nat) (w:World) (h0:0≤first) (hs:size≤65536):
  Calls Tryz.prog 83 #[.int .u64 first, .int .i64 size] w fun e w'=>e= .returned (.string (superT first size))∧Below w.heap.size w w':=by
 have e1:=u64_int (size:Int) (by omega) (by omega)
 have HP1:=Lib.hid (fun W=>put_any first 8 W (by omega) h0)
 have HP2:=Lib.hid (fun W=>put_any (size:Int) 4 W (by omega) (by omega))
 have z1:(S (leB first 8)).size≤8:=by rw[S_size,leB_length];omega
 have z2:(S (leB (size:Int) 4)).size≤4:=by rw[S_size,leB_length];omega
 have hsz:(S (leB first 8)++S (leB (size:Int) 4)).size≤48:=by rw[S_append,S_size,List.length_append,leB_length,leB_length];omega
 have HF:=Lib.hid (fun W=>pfill_any (S (leB first 8)++S (leB (size:Int) 4)) 48 W hsz (by omega))
 have hres:fillR (S (leB first 8)++S (leB (size:Int) 4)) 48=superT first size:=by
  unfold fillR superT
  rw[S_append,data_S,S_size,List.length_append,leB_length,leB_length,List.append_assoc]
 rw[hres] at HF
 clear hsz hres
 go_enter Tryz.func83,Tryz.ntmps83
 go_wp2_with fail
 refine(HP1.out _).mono ?_
 rintro e w1 ⟨rfl,hb1⟩
 go_wp2_with fail
 refine(HP2.out _).mono ?_
 rintro e w2 ⟨rfl,hb2⟩
 go_wp2_with fail
 refine(HF.out _).mono ?_
 rintro e w3 ⟨rfl,hb3⟩
 go_wp2_with fail
 go_ret
 exact⟨rfl,below_step hb3 (below_step hb2 hb1)⟩
theorem alloc_not {kind:Int} (h:oursK kind=false):allocP M kind=(0,1,M):=by unfold allocP;rw[if_pos h]
theorem alloc_err {kind:Int} (h:oursK kind=true) {x:Int × Int × Int × Int} (hq:pickP M=x) (he:x.2.2.2≠0):allocP M kind=(0,x.2.2.2,M):=by
 unfold allocP
 rw[if_neg (by rw[h];decide),hq]
 simp only
 rw[if_pos he]
theorem alloc_set {kind no u f:Int} (h:oursK kind=true) (hq:pickP M=(no,u,f,0)) {s:Int × PM} (hs:setP M no kind ⟨#[]⟩=s) (he:s.1≠0):allocP M kind=(0,s.1,s.2):=by
 unfold allocP
 rw[if_neg (by rw[h];decide),hq]
 simp only
 rw[if_neg (by simp),hs,if_pos he]
theorem alloc_head {kind no u f:Int} (h:oursK kind=true) (hq:pickP M=(no,u,f,0)) {s:Int × PM} (hs:setP M no kind ⟨#[]⟩=s) (he:s.1=0) {t:Int × PM} (ht:setHeadP s.2 u f (rdP M 0).2.1=t):allocP M kind=if t.1≠0 then(0,t.1,t.2) else(no,0,t.2):=by
 unfold allocP
 rw[if_neg (by rw[h];decide),hq]
 simp only
 rw[if_neg (by simp),hs,if_neg (by simp[he]),ht]
theorem setP_most (no kind:Int) (r:ByteArray):(setP M no kind r).2.most=M.most:=by
 unfold setP
 split
 ·rfl
 ·split
  ·rfl
  ·split<;>rfl
set_option maxRecDepth 100000 in
set_option maxHeartbeats 4000000 in
theorem Alloc_any (h:PgIn w b d lb pb hb FD FP K k M) (hs:Snd M) (hK:K≤2000000000000000000) (kind:Int):
  Calls Tryz.prog 23 #[.pointer (some ⟨b,0,none⟩), .int .i64 kind] w fun e w'=>e= .returned (.tuple #[.int .i64 (allocP M kind).1, .int .i64 (allocP M kind).2.1])∧PgStep w w' b d lb pb hb FD FP (K+8) k (allocP M kind).2.2:=by
 have H:=Lib.hid h
 have hm:=h.ok.most1
 have hgeo:=h.ok.geo
 have hfew:=h.ok.disk.few
 have HO:=Lib.hid (fun W=>ours_any W kind)
 have HR:=Lib.hid (pread_int h (by omega) 0 (by omega) (by omega))
 clear h
 cases ho:oursK kind
 ·rw[alloc_not ho]
  rw[ho] at HO
  go_enter Tryz.func23,Tryz.ntmps23
  go_wp2_with fail
  refine(HO.out _).mono ?_
  rintro e w1 ⟨rfl,rfl⟩
  go_wp2_with fail
  go_ret2
  exact⟨rfl,(PgStep.refl H.out).mono (by omega)⟩
 rw[ho] at HO
 have hsz:=rdP_size (M:=M) (no:=0)
 unfold Snd at hs
 obtain⟨kd,r,er,hx⟩: ∃kd r er,rdP M 0=(kd,r,er):=⟨_,_,_,rfl⟩
 rw[hx] at HR hsz hs
 simp only at HR hsz hs
 have HO2:=Lib.hid ho
 by_cases he:er=0
 rotate_left
 ·have HA:=Lib.hid (alloc_err (M:=M) (x:=(0,0,0,er)) ho (by unfold pickP;rw[hx,if_pos he]) he)
  have e1:(er != 0)=true:=by simpa using he
  clear hsz hs ho hx
  go_enter Tryz.func23,Tryz.ntmps23
  go_wp2_with fail
  refine(HO.out _).mono ?_
  rintro e w1 ⟨rfl,rfl⟩
  go_wp2_with fail
  refine HR.out.mono ?_
  rintro e w1 ⟨rfl,F1,h1,t1,f1⟩
  have HST:=Lib.hid (show PgStep w w1 b d lb pb hb FD FP (K+2) k M from⟨F1,h1,t1,f1⟩)
  clear h1 t1 f1
  go_wp2_with fail
  go_ret2
  rw[HA.out]
  exact⟨rfl,HST.out.mono (by omega)⟩
 subst he
 have hz:r.size=496:=hsz rfl
 have hsn:=hs rfl
 have HD:=Lib.hid (fun W p=>head_any W p r (by omega) (by omega))
 have hub:=usedR_bd r
 have hfb:=freeR_bd r
 clear hsz hs
 have HX:=Lib.hid hx
 by_cases hfr:0<freeR r
 ·obtain⟨k2,r2,er2,hx2⟩: ∃k2 r2 er2,rdP M (freeR r)=(k2,r2,er2):=⟨_,_,_,rfl⟩
  have hsz2:=rdP_size (M:=M) (no:=freeR r)
  rw[hx2] at hsz2
  simp only at hsz2
  by_cases he2:er2=0
  rotate_left
  ·have HA:=Lib.hid (alloc_err (M:=M) (x:=(0,0,0,er2)) ho (by unfold pickP;rw[hx];simp only;rw[if_neg (by simp),if_pos hfr,hx2];simp only;rw[if_pos he2]) he2)
   have e1:(er2 != 0)=true:=by simpa using he2
   clear ho hx hsz2
   go_enter Tryz.func23,Tryz.ntmps23
   go_wp2_with fail
   refine(HO.out _).mono ?_
   rintro e w1 ⟨rfl,rfl⟩
   go_wp2_with fail
   refine HR.out.mono ?_
   rintro e w1 ⟨rfl,F1,h1,t1,f1⟩
   obtain⟨c0,c1,c2,c3,c4,c5,c6,c7⟩:=h1.cell
   have HR2:=Lib.hid (pread_int h1 (by omega) (freeR r) (by omega) (by omega))
   rw[hx2] at HR2
   simp only at HR2
   have HT1:=Lib.hid t1
   have HF1:=Lib.hid f1
   clear h1 t1 f1 hx2
   go_wp2_with fail
   refine(HD.out _ _).mono ?_
   rintro e w2 ⟨rfl,rfl⟩
   go_wp2_with fail
   refine HR2.out.mono ?_
   rintro e w2 ⟨rfl,F2,h2,t2,f2⟩
   have HST:=Lib.hid (show PgStep w1 w2 b d lb pb hb FD F1 (K+2+2) k M from⟨F2,h2,t2,f2⟩)
   clear h2 t2 f2 c0 c1 c2 c3 c4 c5 c6 c7
   go_wp2_with fail
   go_ret2
   rw[HA.out]
   exact⟨rfl,PgStep.mono (PgStep.trans HT1.out HF1.out HST.out) (by omega)⟩
  subst he2
  have hz2:r2.size=496:=hsz2 rfl
  have HG:=Lib.hid (fun W=>get_any r2 0 4 W (by omega) (by omega) (by omega))
  have hnb:=cut_bd4 r2 0
  obtain⟨nx,hnx⟩: ∃nx,leN (cut r2 0 4)=nx:=⟨_,rfl⟩
  rw[hnx] at HG hnb
  have hfz:(r2.extract 0 4).size=4:=by rw[ByteArray.size_extract,hz2];rfl
  have HFI:=Lib.hid (fun W=>pfill_any (r2.extract 0 4) 496 W (by omega) (by omega))
  have wn:IntKind.i64.wrap nx=nx:=IntWalk.i64_in _ (by omega)
  have zr1:4≤r2.size:=by omega
  have zr2:(4:Int)≤r2.size:=by omega
  by_cases hk:k2=255
  rotate_left
  ·have e1:(k2 != 255)=true:=by simpa using hk
   have hbad:k2≠255∨r2≠fillR (r2.extract 0 4) 496∨usedR r≤nx:= .inl hk
   have HA:=Lib.hid (alloc_err (M:=M) (x:=(0,0,0,19)) ho (by unfold pickP;rw[hx];simp only;rw[if_neg (by simp),if_pos hfr,hx2];simp only;rw[if_neg (by simp),hnx,if_pos hbad]) (by decide))
   clear ho hx hsz2
   go_enter Tryz.func23,Tryz.ntmps23
   go_wp2_with fail
   refine(HO.out _).mono ?_
   rintro e w1 ⟨rfl,rfl⟩
   go_wp2_with fail
   refine HR.out.mono ?_
   rintro e w1 ⟨rfl,F1,h1,t1,f1⟩
   obtain⟨c0,c1,c2,c3,c4,c5,c6,c7⟩:=h1.cell
   have HR2:=Lib.hid (pread_int h1 (by omega) (freeR r) (by omega) (by omega))
   rw[hx2] at HR2
   simp only at HR2
   have HT1:=Lib.hid t1
   have HF1:=Lib.hid f1
   clear h1 t1 f1 hx2
   go_wp2_with fail
   refine(HD.out _ _).mono ?_
   rintro e w2 ⟨rfl,rfl⟩
   go_wp2_with fail
   refine HR2.out.mono ?_
   rintro e w2 ⟨rfl,F2,h2,t2,f2⟩
   have HST:=Lib.hid (show PgStep w1 w2 b d lb pb hb FD F1 (K+2+2) k M from⟨F2,h2,t2,f2⟩)
   clear h2 t2 f2 c0 c1 c2 c3 c4 c5 c6 c7
   go_wp2_with fail
   refine(HG.out _).mono ?_
   rintro e w3 ⟨rfl,rfl⟩
   go_wp2_with fail
   go_ret2
   rw[HA.out]
   exact⟨rfl,PgStep.mono (PgStep.trans HT1.out HF1.out HST.out) (by omega)⟩
  subst hk
  by_cases hfe:r2=fillR (r2.extract 0 4) 496
  rotate_left
  ·have e1:=str_ne hfe
   have hbad:(255:Int)≠255∨r2≠fillR (r2.extract 0 4) 496∨usedR r≤nx:= .inr (.inl hfe)
   have HA:=Lib.hid (alloc_err (M:=M) (x:=(0,0,0,19)) ho (by unfold pickP;rw[hx];simp only;rw[if_neg (by simp),if_pos hfr,hx2];simp only;rw[if_neg (by simp),hnx,if_pos hbad]) (by decide))
   clear ho hx hsz2
   go_enter Tryz.func23,Tryz.ntmps23
   go_wp2_with fail
   refine(HO.out _).mono ?_
   rintro e w1 ⟨rfl,rfl⟩
   go_wp2_with fail
   refine HR.out.mono ?_
   rintro e w1 ⟨rfl,F1,h1,t1,f1⟩
   obtain⟨c0,c1,c2,c3,c4,c5,c6,c7⟩:=h1.cell
   have HR2:=Lib.hid (pread_int h1 (by omega) (freeR r) (by omega) (by omega))
   rw[hx2] at HR2
   simp only at HR2
   have HT1:=Lib.hid t1
   have HF1:=Lib.hid f1
   clear h1 t1 f1 hx2
   go_wp2_with fail
   refine(HD.out _ _).mono ?_
   rintro e w2 ⟨rfl,rfl⟩
   go_wp2_with fail
   refine HR2.out.mono ?_
   rintro e w2 ⟨rfl,F2,h2,t2,f2⟩
   have HST:=Lib.hid (show PgStep w1 w2 b d lb pb hb FD F1 (K+2+2) k M from⟨F2,h2,t2,f2⟩)
   clear h2 t2 f2 c0 c1 c2 c3 c4 c5 c6 c7
   go_wp2_with fail
   refine(HG.out _).mono ?_
   rintro e w3 ⟨rfl,rfl⟩
   go_wp2_with fail
   refine(HFI.out _).mono ?_
   rintro e w4 ⟨rfl,hb4⟩
   go_wp2_with fail
   go_ret2
   rw[HA.out]
   exact⟨rfl,PgStep.mono (PgStep.after (PgStep.trans HT1.out HF1.out HST.out) hb4) (by omega)⟩
  have e1:=str_eq hfe
  have HFE:=Lib.hid hfe
  clear hfe
  by_cases hun:usedR r≤nx
  ·have hbad:(255:Int)≠255∨r2≠fillR (r2.extract 0 4) 496∨usedR r≤nx:= .inr (.inr hun)
   have HA:=Lib.hid (alloc_err (M:=M) (x:=(0,0,0,19)) ho (by unfold pickP;rw[hx];simp only;rw[if_neg (by simp),if_pos hfr,hx2];simp only;rw[if_neg (by simp),hnx,if_pos hbad]) (by decide))
   clear ho hx hsz2
   go_enter Tryz.func23,Tryz.ntmps23
   go_wp2_with fail
   refine(HO.out _).mono ?_
   rintro e w1 ⟨rfl,rfl⟩
   go_wp2_with fail
   refine HR.out.mono ?_
   rintro e w1 ⟨rfl,F1,h1,t1,f1⟩
   obtain⟨c0,c1,c2,c3,c4,c5,c6,c7⟩:=h1.cell
   have HR2:=Lib.hid (pread_int h1 (by omega) (freeR r) (by omega) (by omega))
   rw[hx2] at HR2
   simp only at HR2
   have HT1:=Lib.hid t1
   have HF1:=Lib.hid f1
   clear h1 t1 f1 hx2
   go_wp2_with fail
   refine(HD.out _ _).mono ?_
   rintro e w2 ⟨rfl,rfl⟩
   go_wp2_with fail
   refine HR2.out.mono ?_
   rintro e w2 ⟨rfl,F2,h2,t2,f2⟩
   have HST:=Lib.hid (show PgStep w1 w2 b d lb pb hb FD F1 (K+2+2) k M from⟨F2,h2,t2,f2⟩)
   clear h2 t2 f2 c0 c1 c2 c3 c4 c5 c6 c7
   go_wp2_with fail
   refine(HG.out _).mono ?_
   rintro e w3 ⟨rfl,rfl⟩
   go_wp2_with fail
   refine(HFI.out _).mono ?_
   rintro e w4 ⟨rfl,hb4⟩
   go_wp2_with fail
   go_ret2
   rw[HA.out]
   exact⟨rfl,PgStep.mono (PgStep.after (PgStep.trans HT1.out HF1.out HST.out) hb4) (by omega)⟩
  ·have HQ:=Lib.hid (show pickP M=(freeR r,usedR r,nx,0) by
    unfold pickP;rw[hx];simp only;rw[if_neg (by simp),if_pos hfr,hx2];simp only;rw[if_neg (by simp),hnx,if_neg (by rintro (h|h|h);exact h rfl;exact h HFE.out;exact hun h)])
   clear ho hx hsz2
   go_enter Tryz.func23,Tryz.ntmps23
   go_wp2_with fail
   refine(HO.out _).mono ?_
   rintro e w1 ⟨rfl,rfl⟩
   go_wp2_with fail
   refine HR.out.mono ?_
   rintro e w1 ⟨rfl,F1,h1,t1,f1⟩
   obtain⟨c0,c1,c2,c3,c4,c5,c6,c7⟩:=h1.cell
   have HR2:=Lib.hid (pread_int h1 (by omega) (freeR r) (by omega) (by omega))
   rw[hx2] at HR2
   simp only at HR2
   have HT1:=Lib.hid t1
   have HF1:=Lib.hid f1
   clear h1 t1 f1 hx2
   go_wp2_with fail
   refine(HD.out _ _).mono ?_
   rintro e w2 ⟨rfl,rfl⟩
   go_wp2_with fail
   refine HR2.out.mono ?_
   rintro e w2 ⟨rfl,F2,h2,t2,f2⟩
   have HT2:=Lib.hid t2
   have HF2:=Lib.hid f2
   have HH2:=Lib.hid h2
   clear h2 t2 f2 c0 c1 c2 c3 c4 c5 c6 c7
   go_wp2_with fail
   refine(HG.out _).mono ?_
   rintro e w3 ⟨rfl,rfl⟩
   go_wp2_with fail
   refine(HFI.out _).mono ?_
   rintro e w4 ⟨rfl,hb4⟩
   have hc1:=HH2.out.below hb4
   have HTC:=Lib.hid ((HT1.out.trans HT2.out HF1.out).trans (Touch.of_below (F:=FP) hb4) (fun x hx=> .inl hx))
   have HFC:=Lib.hid (show∀x∈F2,x∈FP∨w.heap.size≤x from fun x hx=>(HF2.out x hx).elim (HF1.out x) (fun h=> .inr (Nat.le_trans HT1.out.size h)))
   clear hb4
   have HS:=Lib.hid (pgset_any hc1 (by omega) (freeR r) kind ⟨#[]⟩ (by omega) (by omega))
   obtain⟨sx,hsx⟩: ∃sx,setP M (freeR r) kind ⟨#[]⟩=sx:=⟨_,rfl⟩
   have hmo:sx.2.most=M.most:=by rw[←hsx];exact setP_most _ _ _
   rw[hsx] at HS
   clear hc1
   by_cases hs1:sx.1=0
   ·have HA:=Lib.hid (alloc_head HO2.out HQ.out hsx hs1 (t:=setHeadP sx.2 (usedR r) nx (rdP M 0).2.1) rfl)
    rw[HX.out] at HA
    simp only at HA
    obtain⟨s1,M1⟩:=sx
    simp only at hs1 hmo HS HA
    subst hs1
    go_wp2_with fail
    refine HS.out.mono ?_
    rintro e w5 ⟨rfl,F5,h5,t5,f5⟩
    have HT5:=Lib.hid t5
    have HF5:=Lib.hid f5
    have HHD:=Lib.hid (setHead_any h5 (by omega) ((usedR r)) (nx) r (by omega) (by omega) (by omega) (by omega) hz)
    obtain⟨tx,htx⟩: ∃tx,setHeadP M1 ((usedR r)) (nx) r=tx:=⟨_,rfl⟩
    rw[htx] at HHD HA
    obtain⟨t1x,M2⟩:=tx
    simp only at HHD HA
    clear h5 t5 f5 htx hsx
    go_wp2_with fail
    refine HHD.out.mono ?_
    rintro e w6 ⟨rfl,hst⟩
    have HST:=Lib.hid hst
    clear hst
    by_cases ht1:t1x=0
    ·subst ht1
     rw[if_neg (by simp)] at HA
     go_wp2_with fail
     go_ret2
     rw[HA.out]
     exact⟨rfl,PgStep.mono (PgStep.trans HTC.out HFC.out (PgStep.trans HT5.out HF5.out HST.out)) (by omega)⟩
    ·rw[if_pos ht1] at HA
     have e9:(t1x != 0)=true:=by simpa using ht1
     go_wp2_with fail
     go_ret2
     rw[HA.out]
     exact⟨rfl,PgStep.mono (PgStep.trans HTC.out HFC.out (PgStep.trans HT5.out HF5.out HST.out)) (by omega)⟩
   ·have HA:=Lib.hid (alloc_set HO2.out HQ.out hsx hs1)
    obtain⟨s1,M1⟩:=sx
    simp only at hs1 hmo HS HA
    have e9:(s1 != 0)=true:=by simpa using hs1
    clear hsx
    go_wp2_with fail
    refine HS.out.mono ?_
    rintro e w5 ⟨rfl,hst⟩
    have HST:=Lib.hid hst
    clear hst
    go_wp2_with fail
    go_ret2
    rw[HA.out]
    exact⟨rfl,PgStep.mono (PgStep.trans HTC.out HFC.out HST.out) (by omega)⟩
 ·have e2: ¬(0:Int)<freeR r:=hfr
  have hf0:freeR r=0:=by omega
  by_cases hfull:(M.most:Int)≤usedR r
  ·have HA:=Lib.hid (alloc_err (M:=M) (x:=(0,0,0,8)) ho (by unfold pickP;rw[hx];simp only;rw[if_neg (by simp),if_neg hfr,if_pos hfull]) (by decide))
   clear ho hx
   go_enter Tryz.func23,Tryz.ntmps23
   go_wp2_with fail
   refine(HO.out _).mono ?_
   rintro e w1 ⟨rfl,rfl⟩
   go_wp2_with fail
   refine HR.out.mono ?_
   rintro e w1 ⟨rfl,F1,h1,t1,f1⟩
   obtain⟨c0,c1,c2,c3,c4,c5,c6,c7⟩:=h1.cell
   have HST:=Lib.hid (show PgStep w w1 b d lb pb hb FD FP (K+2) k M from⟨F1,h1,t1,f1⟩)
   clear h1 t1 f1
   go_wp2_with fail
   refine(HD.out _ _).mono ?_
   rintro e w2 ⟨rfl,rfl⟩
   go_wp2_with fail
   go_ret2
   rw[HA.out]
   exact⟨rfl,HST.out.mono (by omega)⟩
  ·have HQ:=Lib.hid (show pickP M=(usedR r,usedR r+1,0,0) by unfold pickP;rw[hx];simp only;rw[if_neg (by simp),if_neg hfr,if_neg hfull])
   have q1:IntKind.i64.wrap (usedR r+1)=usedR r+1:=IntWalk.i64_in _ (by omega)
   clear ho hx
   go_enter Tryz.func23,Tryz.ntmps23
   go_wp2_with fail
   refine(HO.out _).mono ?_
   rintro e w1 ⟨rfl,rfl⟩
   go_wp2_with fail
   refine HR.out.mono ?_
   rintro e w1 ⟨rfl,F1,h1,t1,f1⟩
   obtain⟨c0,c1,c2,c3,c4,c5,c6,c7⟩:=h1.cell
   have HTC:=Lib.hid t1
   have HFC:=Lib.hid f1
   have hc1:=h1
   clear h1 t1 f1
   go_wp2_with fail
   refine(HD.out _ _).mono ?_
   rintro e w2 ⟨rfl,rfl⟩
   rw[hf0]
   have HS:=Lib.hid (pgset_any hc1 (by omega) (usedR r) kind ⟨#[]⟩ (by omega) (by omega))
   obtain⟨sx,hsx⟩: ∃sx,setP M (usedR r) kind ⟨#[]⟩=sx:=⟨_,rfl⟩
   have hmo:sx.2.most=M.most:=by rw[←hsx];exact setP_most _ _ _
   rw[hsx] at HS
   clear hc1
   by_cases hs1:sx.1=0
   ·have HA:=Lib.hid (alloc_head HO2.out HQ.out hsx hs1 (t:=setHeadP sx.2 (usedR r+1) 0 (rdP M 0).2.1) rfl)
    rw[HX.out] at HA
    simp only at HA
    obtain⟨s1,M1⟩:=sx
    simp only at hs1 hmo HS HA
    subst hs1
    go_wp2_with fail
    refine HS.out.mono ?_
    rintro e w5 ⟨rfl,F5,h5,t5,f5⟩
    have HT5:=Lib.hid t5
    have HF5:=Lib.hid f5
    have HHD:=Lib.hid (setHead_any h5 (by omega) ((usedR r+1)) (0) r (by omega) (by omega) (by omega) (by omega) hz)
    obtain⟨tx,htx⟩: ∃tx,setHeadP M1 ((usedR r+1)) (0) r=tx:=⟨_,rfl⟩
    rw[htx] at HHD HA
    obtain⟨t1x,M2⟩:=tx
    simp only at HHD HA
    clear h5 t5 f5 htx hsx
    go_wp2_with fail
    refine HHD.out.mono ?_
    rintro e w6 ⟨rfl,hst⟩
    have HST:=Lib.hid hst
    clear hst
    by_cases ht1:t1x=0
    ·subst ht1
     rw[if_neg (by simp)] at HA
     go_wp2_with fail
     go_ret2
     rw[HA.out]
     exact⟨rfl,PgStep.mono (PgStep.trans HTC.out HFC.out (PgStep.trans HT5.out HF5.out HST.out)) (by omega)⟩
    ·rw[if_pos ht1] at HA
     have e9:(t1x != 0)=true:=by simpa using ht1
     go_wp2_with fail
     go_ret2
     rw[HA.out]
     exact⟨rfl,PgStep.mono (PgStep.trans HTC.out HFC.out (PgStep.trans HT5.out HF5.out HST.out)) (by omega)⟩
   ·have HA:=Lib.hid (alloc_set HO2.out HQ.out hsx hs1)
    obtain⟨s1,M1⟩:=sx
    simp only at hs1 hmo HS HA
    have e9:(s1 != 0)=true:=by simpa using hs1
    clear hsx
    go_wp2_with fail
    refine HS.out.mono ?_
    rintro e w5 ⟨rfl,hst⟩
    have HST:=Lib.hid hst
    clear hst
    go_wp2_with fail
    go_ret2
    rw[HA.out]
    exact⟨rfl,PgStep.mono (PgStep.trans HTC.out HFC.out HST.out) (by omega)⟩
end
end Go.Proofs.YtjgkegkinnlcoaaGreatDoor
namespace Go.Proofs.YtjgkegkinnlcoaaGreatDoor
open Go.RowKit Go.Maps Go.Joins
section
variable {w w' w1 w2:World} {b d lb pb hb K J k room:Nat} {FD FP F1 F:List Nat} {M M':PM} {fr:Hand}
set_option maxRecDepth 100000 in
set_option maxHeartbeats 2000000 in
theorem SetRoot_any (h:PgIn w b d lb pb hb FD FP K k M) (hK:K≤2000000000000000000) (i n:Int) (n0:0≤n):
  Calls Tryz.prog 25 #[.pointer (some ⟨b,0,none⟩), .int .i64 i, .int .u64 n] w fun e w'=>e= .returned (.int .i64 (setRootP M i n).1)∧PgStep w w' b d lb pb hb FD FP (K+4) k (setRootP M i n).2:=by
 have hm:=h.ok.most1
 have HR:=Lib.hid (pread_int h (by omega) 0 (by omega) (by omega))
 have hsz:=rdP_size (M:=M) (no:=0)
 unfold setRootP
 by_cases hn:i<0∨8≤i
 ·have H:=Lib.hid h
  rw[if_pos hn]
  clear h hsz
  rcases hn with hn|hn
  ·go_enter Tryz.func25,Tryz.ntmps25
   go_wp2_with fail
   go_ret
   exact⟨rfl,(PgStep.refl H.out).mono (by omega)⟩
  ·have hn2: ¬i<0:=by omega
   go_enter Tryz.func25,Tryz.ntmps25
   go_wp2_with fail
   go_ret
   exact⟨rfl,(PgStep.refl H.out).mono (by omega)⟩
 rw[if_neg hn]
 clear h
 obtain⟨N,rfl⟩: ∃N:Nat,i=N:=⟨i.toNat,by omega⟩
 have hn1: ¬(N:Int)<0:=by omega
 have hn2: ¬(8:Int)≤N:=by omega
 rw[Int.toNat_natCast]
 clear hn
 generalize rdP M 0=x at HR hsz ⊢
 obtain⟨kd,r,er⟩:=x
 by_cases he:er=0
 ·subst he
  rw[if_neg (by simp)]
  have hz:r.size=496:=hsz rfl
  simp only
  obtain⟨A,hA⟩: ∃A:Nat,A=8+8*N:=⟨_,rfl⟩
  have q1:IntKind.i64.wrap (8*(N:Int))=8*(N:Int):=IntWalk.i64_in _ (by omega)
  have q2:IntKind.i64.wrap (8+8*(N:Int))=(A:Int):=by rw[IntWalk.i64_in _ (by omega)];omega
  have q3:IntKind.i64.wrap ((A:Int)+8)=((A+8:Nat):Int):=by rw[IntWalk.i64_in _ (by omega)];omega
  have HP1:=Lib.hid (fun W=>put_any n 8 W (by omega) n0)
  have z1:(S (leB n 8)).size≤8:=by rw[S_size,leB_length];omega
  have z2:(r.extract 0 A).size≤496:=by rw[ByteArray.size_extract];omega
  have z3:A+8≤r.size:=by omega
  have z4:A≤r.size:=by omega
  have z5:(A:Int)≤r.size:=by omega
  have z6:(A:Int)+8≤r.size:=by omega
  have z7:r.size≤496:=by omega
  have hcat:(r.extract 0 A++S (leB n 8))++r.extract (A+8) 496=rootR r N n:=by
   unfold rootR
   rw[append_S,S_append_s,List.append_assoc,hA,hz]
  have HCA:=Lib.hid hcat
  have HA:=Lib.hid hA
  clear hsz hA hcat
  go_enter Tryz.func25,Tryz.ntmps25
  go_wp2_with fail
  refine HR.out.mono ?_
  rintro e w1 ⟨rfl,F1,h1,t1,f1⟩
  have HPG:=Lib.hid h1
  have HT1:=Lib.hid t1
  have HF1:=Lib.hid f1
  clear h1 t1 f1
  go_wp2_with fail
  refine wp_region_later_tail 12 (by kernel_rfl) (by kernel_rfl) ?_
  simp only[List.take_succ_cons,List.take_zero,List.drop_succ_cons,List.drop_zero]
  repeat (first|go_big_quiet_step ((go_at_call 71;refine Later.call (HP1.out _)))|quiet_step ((go_at_call 71;refine Later.call (HP1.out _))))
  refine wpQuiet_nil ?_
  rintro w3 ⟨y3,hw3⟩
  have hb3:Below w1.heap.size w1 w3:=by rw[hw3];exact y3.2
  have HB3:=Lib.hid hb3
  have HS:=Lib.hid (pgset_any (HPG.out.below hb3) (by omega) 0 1 (rootR r N n) (by omega) (by omega))
  clear hw3 hb3
  rw[HCA.out]
  go_wp2_with fail
  refine HS.out.mono ?_
  rintro e w5 ⟨rfl,hst⟩
  have HST:=Lib.hid hst
  clear hst
  go_wp2_with fail
  go_ret
  exact⟨rfl,PgStep.trans HT1.out HF1.out (PgStep.below HB3.out HST.out)⟩
 ·have e1:(er != 0)=true:=by simpa using he
  rw[if_pos he]
  clear hsz
  go_enter Tryz.func25,Tryz.ntmps25
  go_wp2_with fail
  refine HR.out.mono ?_
  rintro e w1 ⟨rfl,hst⟩
  have HST:=Lib.hid hst
  clear hst
  go_wp2_with fail
  go_ret
  exact⟨rfl,HST.out.mono (by omega)⟩
end
end Go.Proofs.YtjgkegkinnlcoaaGreatDoor
namespace Go.Proofs.YtjgkegkinnlcoaaGreatDoor
open Go.RowKit Go.Maps Go.Joins
theorem wp_name {P:Program} {c:Code} {Q:Exit→Act→World→Prop} {a:Act} {w:World} (h: ∀W,w=W→c.wp P Q a W):c.wp P Q a w:=h w rfl
theorem calls_name {P:Program} {f:FuncId} {args:Array Value} {w:World} {Q:Ending→World→Prop} (h: ∀W,w=W→Calls P f args W Q):Calls P f args w Q:=h w rfl
structure ChOn (W:World) (d cb:Nat) (F:List Nat) (m:DM) (e0:Int):Prop where
 disk:IsDisk W d F m
 err:W.cell? ⟨cb,0,none⟩=some (.int .i64 e0)
 errf:W.frozen? ⟨cb,0,none⟩=false
 ne:cb∉F
section
variable {W w w1 w2:World} {d cb k:Nat} {F F1:List Nat} {m:DM} {e0:Int} {x:Int × DM}
theorem ChOn.below (h:ChOn W d cb F m e0) (hb:Below W.heap.size W w):ChOn w d cb F m e0:=
 ⟨h.disk.below hb,(hb.cell (p:=⟨cb,0,none⟩) (cell_lt h.err)).trans h.err,(hb.frozen (p:=⟨cb,0,none⟩) (cell_lt h.err)).trans h.errf,h.ne⟩
theorem ApSt.on (h:ApSt w d cb F w1 x): ∃F',ChOn w1 d cb F' x.2 x.1∧Touch (cb::F) w w1∧ ∀b∈F',b∈F∨w.heap.size≤b:=by
 obtain⟨F',h1,h2,h3,h4,h5,h6⟩:=h
 exact⟨F',⟨h1,h2,h3,h6⟩,h4,h5⟩
theorem ChOn.st (h:ChOn W d cb F m e0):ApSt W d cb F W (e0,m):=⟨F,h.disk,h.err,h.errf,Touch.refl _ _,fun b hb=> .inl hb,h.ne⟩
theorem ApSt.first (h:Below w.heap.size w w1) (k:ApSt w1 d cb F w2 x):ApSt w d cb F w2 x:=ApSt.trans (Touch.of_below h) (fun b hb=> .inl hb) k
theorem ChOn.goes {W' W1:World} (h:ChOn W d cb F m e0) (hg:Goes W W1 d F x.2) (hW:W'=W1.setCell ⟨cb,0,none⟩ (.int .i64 x.1)):ApSt W d cb F W' x:=by
 obtain⟨F',h1,h2,h3⟩:=hg
 have hlt:=cell_lt h.err
 have hne:cb∉F':=fun hm=>(h3 cb hm).elim h.ne (fun h'=>by omega)
 have hc:W1.cell? ⟨cb,0,none⟩=some (.int .i64 e0):=(h2.cell (p:=⟨cb,0,none⟩) hlt h.ne).trans h.err
 have hf:W1.frozen? ⟨cb,0,none⟩=false:=(h2.frozen (p:=⟨cb,0,none⟩) hlt h.ne).trans h.errf
 subst hW
 refine⟨F',h1.touch (F:=[cb]) ((Touch.refl _ _).setCell (.inl (by simp)) _) (fun b hb hm=> ?_),World.cell?_setCell_same _ _ _ hc,by rw[World.frozen?_setCell];exact hf, ?_,h3,hne⟩
 ·simp at hm;subst hm;exact hne hb
 ·exact(h2.mono (fun b hb=> .inl (by simp[hb]))).setCell (.inl (by simp)) _
set_option maxRecDepth 100000 in
set_option maxHeartbeats 1000000 in
theorem then_off (h:ChOn W d cb F m e0) (he:e0≠0) (f:Value):
  Calls Tryz.prog 75 #[.pointer (some ⟨cb,0,none⟩),f] W fun e w'=>e= .returned (.tuple #[])∧W=w':=by
 have c:=h.err
 have t:(e0==0)=false:=by simpa using he
 clear he h
 go_enter Tryz.func75,Tryz.ntmps75
 go_wp2_with fail
 go_end0
 exact⟨rfl,rfl⟩
set_option maxRecDepth 100000 in
set_option maxHeartbeats 1000000 in
theorem then_any (h:ChOn W d cb F m e0) (fid:Nat) (bnd caps:Array Value) (y:Int × DM) (hcf:(callFunc fid (bnd++caps)).run Tryz.prog W= .ok (.enter fid (bnd++caps)) W) (hf:Calls Tryz.prog fid (bnd++caps) W fun e w'=>e= .returned (.int .i64 y.1)∧Goes W w' d F y.2):
  Calls Tryz.prog 75 #[.pointer (some ⟨cb,0,none⟩), .func (Fn.func fid) bnd caps] W fun e w'=>e= .returned (.tuple #[])∧ApSt W d cb F w' (if e0=0 then y else(e0,m)):=by
 by_cases he:e0=0
 ·rw[if_pos he]
  have HW:=Lib.hid hf
  subst he
  have c:=h.err
  have cf:=h.errf
  have hlt:=cell_lt h.err
  clear hf
  go_enter Tryz.func75,Tryz.ntmps75
  go_wp2_with fail
  refine HW.out.mono ?_
  rintro e w7 ⟨rfl,hg⟩
  have HG:=Lib.hid hg
  have c7:w7.cell? ⟨cb,0,none⟩=some (.int .i64 0):=by
   obtain⟨F',_,t,_⟩:=hg
   exact(t.cell (p:=⟨cb,0,none⟩) hlt h.ne).trans c
  have f7:w7.frozen? ⟨cb,0,none⟩=false:=by
   obtain⟨F',_,t,_⟩:=hg
   exact(t.frozen (p:=⟨cb,0,none⟩) hlt h.ne).trans cf
  clear hg c cf
  go_wp2_with fail
  go_end0
  exact⟨rfl,h.goes HG.out rfl⟩
 ·rw[if_neg he]
  exact(then_off h he _).mono fun e w' ⟨h1,h2⟩=>⟨h1,by rw[←h2];exact h.st⟩
theorem pthen_flush (h:ChOn W d cb F m e0) (hk:DOk m k) (hkk:k≤1000000000):
  Calls Tryz.prog 75 #[.pointer (some ⟨cb,0,none⟩), .func (Fn.func 80) #[.pointer (some ⟨d,0,none⟩)] #[]] W fun e w'=>e= .returned (.tuple #[])∧ApSt W d cb F w' (stepF (e0,m)):=
 then_any h _ _ _ (flM m) (by kernel_rfl) (is_flush h.disk hk hkk)
set_option maxRecDepth 100000 in
set_option maxHeartbeats 1000000 in
theorem put_fn (h:IsDisk W d F m) (hk:DOk m k) (hkk:k≤1000000000) {b0 b1 b2 b3:Nat} {a j:Nat} {s:ByteArray} (ha:a+j≤1000000) (hs:s.size≤1000)
  (c0:W.cell? ⟨b0,0,none⟩=some (.pointer (some ⟨d,0,none⟩))) (c1:W.cell? ⟨b1,0,none⟩=some (.int .i64 a)) (c2:W.cell? ⟨b2,0,none⟩=some (.int .i64 j)) (c3:W.cell? ⟨b3,0,none⟩=some (.string s)):
  Calls Tryz.prog 154 #[.pointer (some ⟨b0,0,none⟩), .pointer (some ⟨b1,0,none⟩), .pointer (some ⟨b2,0,none⟩), .pointer (some ⟨b3,0,none⟩)] W
   fun e w'=>e= .returned (.int .i64 (wrM m ((a+j:Nat):Int) s).1)∧Goes W w' d F (wrM m ((a+j:Nat):Int) s).2:=by
 have q:IntKind.i64.wrap ((a:Int)+(j:Int))=((a+j:Nat):Int):=by rw[IntWalk.i64_in _ (by omega)];omega
 have HW:=Lib.hid (is_write h hk hkk ((a+j:Nat):Int) s (by omega) (by omega) (by omega))
 clear h
 go_enter Tryz.func154,Tryz.ntmps154
 go_wp2_with fail
 refine HW.out.mono ?_
 rintro e w7 ⟨rfl,hg⟩
 go_wp2_with fail
 go_ret
 exact⟨rfl,hg⟩
def putN (x:Int × DM) (a:Nat) (s:ByteArray) (n:Nat):Int × DM:=(List.range n).foldl (fun x k=>stepW x ((a+k:Nat):Int) (s.extract (k*64) ((k+1)*64))) x
theorem putN_succ (x:Int × DM) (a:Nat) (s:ByteArray) (n:Nat):putN x a s (n+1)=stepW (putN x a s n) ((a+n:Nat):Int) (s.extract (n*64) ((n+1)*64)):=by
 unfold putN;rw[List.range_succ,List.foldl_append];rfl
theorem putN_ok {x:Int × DM} (h:DOk x.2 k) (a:Nat) (s:ByteArray): ∀n,DOk (putN x a s n).2 (k+n)
 |0=>h
 |n+1=>by rw[putN_succ];exact(putN_ok h a s n).stepW _ _
structure PutLoop (w2:World) (d cb:Nat) (F:List Nat) (x:Int × DM) (a:Nat) (s:ByteArray) (v:Value) (wr:World):Prop where
 ex: ∃j:Nat,j≤8∧v= .int .i64 j∧ApSt w2 d cb F wr (putN x a s j)
set_option maxRecDepth 100000 in
set_option maxHeartbeats 2000000 in
theorem put_page (h:ChOn W d cb F m e0) (hk:DOk m k) (hkk:k≤900000000) (a:Nat) (s:ByteArray) (ha:a≤900000) (hs:s.size=512):
  Calls Tryz.prog 79 #[.pointer (some ⟨cb,0,none⟩), .pointer (some ⟨d,0,none⟩), .int .i64 a, .string s] W fun e w'=>e= .returned (.tuple #[])∧ApSt W d cb F w' (putX (e0,m) a s):=by
 have HCU:=Lib.hid (fun W=>cut_any s W hs)
 have H:=Lib.hid h
 have hlt:=cell_lt h.err
 clear h
 go_enter Tryz.func79,Tryz.ntmps79
 go_wp2_with fail
 first|refine wp_name (fun W0 hW0=> ?_)|refine calls_name (fun W0 hW0=> ?_)
 have hb0:Below W.heap.size W W0:=by rw[←hW0];exact below_alloc (below_alloc (Below.refl _ _))
 have hc0:W0.cell? ⟨W.heap.size,0,none⟩=some (.pointer (some ⟨d,0,none⟩))∧W0.cell? ⟨W.heap.size+1,0,none⟩=some (.int .i64 a)∧W0.heap.size=W.heap.size+1+1:=by
  rw[←hW0]
  refine⟨by clear hW0;go_simp,by clear hW0;go_simp,by simp⟩
 clear hW0
 have HB0:=Lib.hid hb0
 refine(HCU.out _).mono ?_
 rintro e w2 ⟨g,cap,rfl,hrow,hb2⟩
 have HROW:=Lib.hid hrow
 have HB2:=Lib.hid (below_step hb2 hb0)
 have hk0:w2.cell? ⟨W.heap.size,0,none⟩=some (.pointer (some ⟨d,0,none⟩)):=(hb2.cell (p:=⟨_,_,none⟩) (by show W.heap.size<_;omega)).trans hc0.1
 have hk1:w2.cell? ⟨W.heap.size+1,0,none⟩=some (.int .i64 a):=(hb2.cell (p:=⟨_,_,none⟩) (by show W.heap.size+1<_;omega)).trans hc0.2.1
 have HK:=Lib.hid (And.intro hk0 hk1)
 have HS:=Lib.hid (show W.heap.size+1+1≤w2.heap.size by have:=hb2.size;omega)
 clear hrow hb0 hb2 hc0 hk0 hk1
 go_wp2_with fail
 go_loopw [8,9,13] (fun v8 v9 v13 wr=>PutLoop w2 d cb F (e0,m) a s v13 wr) (fun _ _ v13 _=>8 - (intOf v13).toNat)
 case atStart=>exact⟨⟨0,by omega,rfl,(H.out.below HB2.out).st⟩⟩
 case round=>
  obtain⟨⟨j,hj,rfl,hst⟩⟩:=hrel
  obtain⟨F1,hon,ht,hF1⟩:=hst.on
  have HON:=Lib.hid hon
  have HT:=Lib.hid ht
  have HF:=Lib.hid hF1
  clear hst hon ht hF1
  by_cases hlt8:j<8
  ·have hFlt:=H.out.disk.lt
   have hg:=HROW.out.lt g rfl
   have hgc:w2.cell? ⟨g,j,none⟩=some (.string (s.extract (j*64) ((j+1)*64))):=by
    rw[HROW.out.cellAt j (by omega)]
    unfold cutCells
    rw[List.getElem?_map]
    simp[hlt8]
   have gc:wr.cell? ⟨g,j,none⟩=some (.string (s.extract (j*64) ((j+1)*64))):=(HT.out.cell (p:=⟨g,j,none⟩) hg.2 (by
    intro hm
    rcases List.mem_cons.1 hm with e|hm
    ·have e:g=cb:=e
     have:=HS.out;have:=HB0.out.size;omega
    ·have:=hFlt g hm;have:=HB0.out.size;omega)).trans hgc
   have gl:g<wr.heap.size:=Nat.lt_of_lt_of_le hg.2 HT.out.size
   have hq1:(0:Int)≤(j:Int):=by omega
   have hq2:(j:Int)<8:=by omega
   have hwr:w2.heap.size≤wr.heap.size:=HT.out.size
   have hsz:(s.extract (j*64) ((j+1)*64)).size≤1000:=by rw[ByteArray.size_extract];omega
   have hdk:=putN_ok (x:=(e0,m)) hk a s j
   have nb0:W.heap.size∉cb::F:=by
    intro hm
    rcases List.mem_cons.1 hm with e|hm
    ·omega
    ·have:=hFlt _ hm;omega
   have nb1:W.heap.size+1∉cb::F:=by
    intro hm
    rcases List.mem_cons.1 hm with e|hm
    ·omega
    ·have:=hFlt _ hm;omega
   have hs2:=HS.out
   have k0:wr.cell? ⟨W.heap.size,0,none⟩=some (.pointer (some ⟨d,0,none⟩)):=(HT.out.cell (p:=⟨W.heap.size,0,none⟩) (by show W.heap.size<_;omega) nb0).trans HK.out.1
   have k1:wr.cell? ⟨W.heap.size+1,0,none⟩=some (.int .i64 a):=(HT.out.cell (p:=⟨W.heap.size+1,0,none⟩) (by show W.heap.size+1<_;omega) nb1).trans HK.out.2
   have hpos: ∀(W1:World) (hb:Below wr.heap.size wr W1) (h2:W1.cell? ⟨wr.heap.size,0,none⟩=some (.int .i64 j)) (h3:W1.cell? ⟨wr.heap.size+1,0,none⟩=some (.string (s.extract (j*64) ((j+1)*64)))),Hid (Calls Tryz.prog 75 #[.pointer (some ⟨cb,0,none⟩), .func (Fn.func 154) #[] #[.pointer (some ⟨W.heap.size,0,none⟩), .pointer (some ⟨W.heap.size+1,0,none⟩), .pointer (some ⟨wr.heap.size,0,none⟩), .pointer (some ⟨wr.heap.size+1,0,none⟩)]] W1 fun e w'=>e= .returned (.tuple #[])∧ApSt W1 d cb F1 w' (if (putN (e0,m) a s j).1=0 then wrM (putN (e0,m) a s j).2 ((a+j:Nat):Int) (s.extract (j*64) ((j+1)*64)) else((putN (e0,m) a s j).1,(putN (e0,m) a s j).2))):=fun W1 hb h2 h3=>
    Lib.hid (then_any (HON.out.below hb) _ _ _ (wrM (putN (e0,m) a s j).2 ((a+j:Nat):Int) (s.extract (j*64) ((j+1)*64))) (by kernel_rfl) (put_fn (HON.out.below hb).disk hdk (by omega) (by omega) hsz ((hb.cell (p:=⟨W.heap.size,0,none⟩) (by show W.heap.size<_;omega)).trans k0) ((hb.cell (p:=⟨W.heap.size+1,0,none⟩) (by show W.heap.size+1<_;omega)).trans k1) h2 h3))
   clear k0 k1 nb0 nb1 hdk hsz
   go_wp2_with fail
   first|refine wp_name (fun W3 hW3=> ?_)|refine calls_name (fun W3 hW3=> ?_)
   have hb3:Below wr.heap.size wr W3:=by rw[←hW3];exact below_alloc (below_alloc (Below.refl _ _))
   have h2:W3.cell? ⟨wr.heap.size,0,none⟩=some (.int .i64 j):=by rw[←hW3];clear hW3;go_simp
   have h3:W3.cell? ⟨wr.heap.size+1,0,none⟩=some (.string (s.extract (j*64) ((j+1)*64))):=by rw[←hW3];clear hW3;go_simp
   clear hW3 gc gl
   refine(hpos W3 hb3 h2 h3).out.mono ?_
   rintro e w5 ⟨rfl,hst5⟩
   have hst5':ApSt w2 d cb F w5 (putN (e0,m) a s (j+1)):=by
    rw[putN_succ]
    exact ApSt.trans (HT.out.trans (Touch.of_below (F:=cb::F) hb3) (fun x hx=> .inl hx)) (fun x hx=>HF.out x hx) hst5
   have HST:=Lib.hid hst5'
   clear hst5 hst5' h2 h3 hb3 hpos
   go_wp2_with fail
   go_roundw
   case rel=>exact⟨⟨j+1,by omega,by go_num,HST.out⟩⟩
   case measure=>simp[intOf];omega
  ·obtain rfl:j=8:=by omega
   go_wp2_with fail
   go_end0
   exact⟨rfl,ApSt.first HB2.out ⟨F1,HON.out.disk,HON.out.err,HON.out.errf,HT.out,HF.out,HON.out.ne⟩⟩
end
end Go.Proofs.YtjgkegkinnlcoaaGreatDoor
namespace Go.Proofs.YtjgkegkinnlcoaaGreatDoor
open Go.RowKit
theorem lastW_acc (k:Int): ∀(l:List (Int × ByteArray)) (acc:Option ByteArray),l.foldl (fun acc x=>if x.1=k then some x.2 else acc) acc=(lastW l k).or acc
 | [],acc=>rfl
 |x::l,acc=>by
  have e:lastW (x::l) k=l.foldl (fun acc x=>if x.1=k then some x.2 else acc) (if x.1=k then some x.2 else none):=rfl
  rw[e,List.foldl_cons,lastW_acc k l,lastW_acc k l]
  cases lastW l k with
  |some s=>rfl
  |none=>
   by_cases h:x.1=k
   ·rw[if_pos h,if_pos h];rfl
   ·rw[if_neg h,if_neg h];rfl
theorem lastW_cons (x:Int × ByteArray) (l:List (Int × ByteArray)) (k:Int):lastW (x::l) k=(lastW l k).or (if x.1=k then some x.2 else none):=lastW_acc k l _
theorem getD_setL (su:List ByteArray) (j i:Nat) (s z:ByteArray) (hj:j<su.length):(su.set j s).getD i z=if j=i then s else su.getD i z:=by
 rw[List.getD_eq_getElem?_getD,List.getElem?_set,List.getD_eq_getElem?_getD]
 by_cases h:j=i
 ·rw[if_pos h,if_pos h,if_pos hj];rfl
 ·rw[if_neg h,if_neg h]
theorem flTo_get (i:Nat): ∀(l:List (Int × ByteArray)) (su:List ByteArray),(∀x∈l, ∃j:Nat,x.1=j∧j<su.length)→(flTo su l).getD i ⟨#[]⟩=(lastW l i).getD (su.getD i ⟨#[]⟩)
 | [],su,_=>rfl
 |x::l,su,h=>by
  obtain⟨j,hj,hlt⟩:=h x (by simp)
  have e:flTo su (x::l)=flTo (su.set x.1.toNat x.2) l:=rfl
  rw[e,flTo_get i l _ (fun y hy=>by rw[List.length_set];exact h y (by simp[hy])),lastW_cons,hj,Int.toNat_natCast,getD_setL _ _ _ _ _ hlt]
  cases lastW l i with
  |some s=>rfl
  |none=>
   by_cases hji:j=i
   ·rw[if_pos hji,if_pos (by omega)];rfl
   ·rw[if_neg hji,if_neg (by omega)];rfl
theorem secM_flush {m:DM} (hw:WaitOk m) (i:Nat):secM (flM m).2 i=secM m i:=by
 unfold flM
 obtain⟨e1,e2⟩:=burnM_wait m
 split
 ·rfl
 ·split
  ·unfold secM
   show(lastW [] i).getD ((flTo m.sure m.wait).getD i ⟨#[]⟩)=_
   rw[flTo_get i m.wait m.sure hw]
   rfl
  ·unfold secM;rw[e1,e2]
theorem secM_write_other {m:DM} {i:Int} {j:Nat} (s:ByteArray) (h:i≠(j:Int)):secM (wrM m i s).2 j=secM m j:=by
 unfold wrM
 obtain⟨e1,e2⟩:=burnM_wait m
 split
 ·rfl
 ·split
  ·rfl
  ·split
   ·unfold secM
    show(lastW ((burnM m).2.wait++[(i,s)]) j).getD ((burnM m).2.sure.getD j ⟨#[]⟩)=_
    rw[lastW_snoc,if_neg h,e1,e2]
   ·unfold secM;rw[e1,e2]
theorem secM_write_same {m:DM} {i:Nat} {s:ByteArray} (h:(wrM m i s).1=0):secM (wrM m i s).2 i=s:=by
 unfold wrM at h ⊢
 split at h
 ·cases h
 ·rename_i hd
  rw[if_neg hd]
  split at h
  ·cases h
  ·rename_i hb
   rw[if_neg hb]
   split at h
   ·rename_i hu
    rw[if_pos hu]
    unfold secM
    show(lastW ((burnM m).2.wait++[((i:Int),s)]) i).getD _=s
    rw[lastW_snoc,if_pos rfl];rfl
   ·cases h
theorem stepW_zero {x:Int × DM} {i:Int} {s:ByteArray} (h:(stepW x i s).1=0):x.1=0:=by
 unfold stepW at h
 by_cases hx:x.1=0
 ·exact hx
 ·rw[if_neg hx] at h;exact h
theorem stepF_zero {x:Int × DM} (h:(stepF x).1=0):x.1=0:=by
 unfold stepF at h
 by_cases hx:x.1=0
 ·exact hx
 ·rw[if_neg hx] at h;exact h
theorem stepW_other {x:Int × DM} {i:Int} {j:Nat} (s:ByteArray) (h:i≠(j:Int)):secM (stepW x i s).2 j=secM x.2 j:=by
 unfold stepW
 split
 ·exact secM_write_other s h
 ·rfl
theorem stepW_same {x:Int × DM} {i:Nat} {s:ByteArray} (h:(stepW x i s).1=0):secM (stepW x i s).2 i=s:=by
 have h0:=stepW_zero h
 unfold stepW at h ⊢
 rw[if_pos h0] at h ⊢
 exact secM_write_same h
theorem stepF_sec {x:Int × DM} (hw:WaitOk x.2) (i:Nat):secM (stepF x).2 i=secM x.2 i:=by
 unfold stepF
 split
 ·exact secM_flush hw i
 ·rfl
theorem putN_other {x:Int × DM} {a:Nat} {s:ByteArray} {j:Nat}: ∀ {n:Nat},(j<a∨a+n≤j)→secM (putN x a s n).2 j=secM x.2 j
 |0,_=>rfl
 |n+1,h=>by rw[putN_succ,stepW_other _ (by omega),putN_other (n:=n) (by omega)]
theorem putN_same {x:Int × DM} {a:Nat} {s:ByteArray}: ∀ {n:Nat},(putN x a s n).1=0→ ∀k,k<n→secM (putN x a s n).2 (a+k)=s.extract (k*64) ((k+1)*64)
 |0,_,k,hk=>absurd hk (by omega)
 |n+1,h,k,hk=>by
  rw[putN_succ] at h ⊢
  by_cases e:k=n
  ·subst e;exact stepW_same h
  ·rw[stepW_other _ (by omega)]
   exact putN_same (stepW_zero h) k (by omega)
theorem pgOf_congr {m m':DM} {a:Nat} (h: ∀k,k<8→secM m (a+k)=secM m' (a+k)):pgOf m a=pgOf m' a:=by
 unfold pgOf
 congr 1
 exact List.map_congr_left (fun k hk=>h k (List.mem_range.1 hk))
theorem extracts_flat (s:ByteArray): ∀n,n*64≤s.size→(((List.range n).map fun k=>s.extract (k*64) ((k+1)*64)).map (·.data.toList)).flatten=s.data.toList.take (n*64)
 |0,_=>by simp
 |n+1,h=>by
  rw[List.range_succ,List.map_append,List.map_append,List.flatten_append,extracts_flat s n (by omega),Nat.succ_mul,List.take_add]
  congr 1
  simp only[List.map_cons,List.map_nil,List.flatten_cons,List.flatten_nil,List.append_nil]
  rw[extract_cut,data_S,show(n+1)*64 - n*64=64 by omega]
  rfl
theorem pgOf_put {x:Int × DM} {a:Nat} {s:ByteArray} (hs:s.size=512) (h:(putX x a s).1=0):pgOf (putX x a s).2 a=s:=by
 have h':(putN x a s 8).1=0:=h
 show pgOf (putN x a s 8).2 a=s
 unfold pgOf imgM
 rw[show((List.range 8).map fun k=>secM (putN x a s 8).2 (a+k))=(List.range 8).map fun k=>s.extract (k*64) ((k+1)*64) from List.map_congr_left (fun k hk=>putN_same h' k (List.mem_range.1 hk))]
 rw[extracts_flat s 8 (by omega),List.take_of_length_le (by rw[data_length];omega),S_data]
end Go.Proofs.YtjgkegkinnlcoaaGreatDoor
namespace Go.Proofs.YtjgkegkinnlcoaaGreatDoor
open Go.RowKit Go.Maps Go.Joins
section
variable {W w w1 w2:World} {b d lb pb hb pp k:Nat} {F F1:List Nat} {m:DM} {l:LM} {e0:Int} {x:Int × DM}
theorem superT_size (first:Int) (size:Nat):(superT first size).size=48:=by
 unfold superT
 rw[S_size,List.length_append,List.length_append,leB_length,leB_length,nul_length]
end
end Go.Proofs.YtjgkegkinnlcoaaGreatDoor
namespace Go.Proofs.YtjgkegkinnlcoaaGreatDoor
open Go.RowKit Go.Maps Go.Joins
theorem IsPool.dom {w:World} {pb room K:Nat} {F:List Nat} {fr:Hand} (h:IsPool w pb F room K fr) {i:Int} {x:ByteArray × Bool} (hx:fr i=some x):0≤i∧i<100000:=by
 obtain⟨mb,n,clock,at_,us,h, -⟩:=h
 cases ha:at_ i with
 |none=>rw[h.out i ha] at hx;cases hx
 |some b=>exact h.dom i b ha
theorem Coh.rebase {w:World} {pb room K:Nat} {F:List Nat} {fr:Hand} {D:Int→Option ByteArray} {B B':Int→ByteArray} (h:Coh fr D B) (hp:IsPool w pb F room K fr) (hB: ∀i,0≤i→B' i=B i):Coh fr D B':=
 ⟨h.1,fun i s hs=>(hB i (hp.dom hs).1).trans (h.2 i s hs)⟩
end Go.Proofs.YtjgkegkinnlcoaaGreatDoor
namespace Go.Proofs.YtjgkegkinnlcoaaGreatDoor
open Go.RowKit Go.Maps Go.Joins
theorem cntI_leN (p:Int→Bool): ∀N,cntI p N≤N
 |0=>Nat.le_refl _
 |N+1=>by rw[cntI_succ];have:=cntI_leN p N;split<;>omega
theorem cntI_none: ∀N,cntI (fun i=>((fun _=>none:Int→Option ByteArray) i).isSome) N=0
 |0=>rfl
 |N+1=>by rw[cntI_succ,cntI_none N];rfl
def LayGo (w w':World) (b d lb pb hb:Nat) (FD FP:List Nat) (K k:Nat) (M:PM):Prop:= ∃FD',PgIn w' b d lb pb hb FD' FP K k M∧Touch (b::lb::hb::FD) w w'∧ ∀x∈FD',x∈FD∨w.heap.size≤x
theorem PgIn.laid {w w8 w11 w12:World} {b d lb pb hb cb K k k':Nat} {FD FP F1:List Nat} {M M':PM} {m':DM} (H:PgIn w b d lb pb hb FD FP K k M) (HB:Below w.heap.size w w8) (t:Touch (cb::FD) w8 w11) (hcb:w.heap.size≤cb) (hd:IsDisk w11 d F1 m') (hF: ∀x∈F1,x∈FD∨w8.heap.size≤x)
  (t2:Touch [b,lb,hb] w11 w12) (hc:w12.rowIs b 132 8 (pgF d lb pb hb M')) (hl:LogAt w12 lb d M'.l) (hh: ∃n,n=cntI (fun i=>(M'.hot i).isSome) 100000∧MapN w12 Tryz.prog 3 hb n (Value.int .i64) Value.string M'.hot)
  (hp: ∃fr,IsPool w11 pb FP M.room K fr∧Coh fr M.dirty (baseP M)) (hB: ∀i,0≤i→baseP M' i=baseP M i) (ok:PgOk M' k') (e1:M'.m=m') (e2:M'.dirty=M.dirty) (e3:M'.room=M.room):LayGo w w12 b d lb pb hb FD FP K k' M':=by
 have hlt:=H.lt
 have hs:=HB.size
 have out: ∀x,x<w.heap.size→x∉FD→x∉F1:=fun x hx hf hm=>(hF x hm).elim hf (by omega)
 obtain⟨fr,hp1,hp2⟩:=hp
 refine⟨F1,⟨hc, ?_,hl,⟨fr, ?_, ?_⟩,hh,ok, ?_, ?_, ?_, ?_⟩, ?_, ?_⟩
 ·rw[e1]
  exact hd.touch t2 (fun x hx hm=>by
   simp at hm
   rcases hm with rfl|rfl|rfl
   ·exact out _ hlt.1 H.nb.1 hx
   ·exact out _ hlt.2.1 H.nl.1 hx
   ·exact out _ hlt.2.2.1 H.nh.1 hx)
 ·rw[e3]
  exact hp1.touch t2 (fun x hx hm=>by
   simp at hm
   rcases hm with rfl|rfl|rfl
   ·exact H.nb.2.1 hx
   ·exact H.nl.2.1 hx
   ·exact H.nh.2 hx)
 ·rw[e2]
  exact hp2.rebase hp1 hB
 ·exact⟨out _ hlt.1 H.nb.1,H.nb.2.1,H.nb.2.2⟩
 ·exact⟨out _ hlt.2.1 H.nl.1,H.nl.2.1,H.nl.2.2⟩
 ·exact⟨out _ hlt.2.2.1 H.nh.1,H.nh.2⟩
 ·intro x hx hx'
  have:=hlt.2.2.2.2 x hx'
  exact(hF x hx).elim (fun hf=>H.nd x hf hx') (by omega)
 ·refine((Touch.of_below (F:=b::lb::hb::FD) HB).trans t (fun x hx=> ?_)).trans t2 (fun x hx=> ?_)
  ·rcases List.mem_cons.1 hx with rfl|hx
   ·exact .inr hcb
   ·exact .inl (by simp[hx])
  ·simp at hx
   rcases hx with rfl|rfl|rfl<;>simp
 ·intro x hx
  exact(hF x hx).imp id (fun h=>by omega)
end Go.Proofs.YtjgkegkinnlcoaaGreatDoor
namespace Go.Proofs.YtjgkegkinnlcoaaGreatDoor
open Go.RowKit Go.Maps Go.Joins
section
variable {w w' w1 w2:World} {b d lb pb hb K J k:Nat} {FD FP F1:List Nat} {M M':PM}
theorem PgOk.rek (h:PgOk M k) {j:Nat} (hd:DOk M.m j):PgOk M j:=
 ⟨hd,h.geo,h.size1,h.most1,h.room1,h.room2,h.frm,h.lsize,h.lat,h.next0,h.next1,h.gen0,h.gen1,h.dom,h.hdom⟩
theorem PgIn.rek (h:PgIn w b d lb pb hb FD FP K k M) {j:Nat} (hd:DOk M.m j):PgIn w b d lb pb hb FD FP K j M:=
 ⟨h.cells,h.disk,h.log,h.pool,h.hot,h.ok.rek hd,h.nb,h.nl,h.nh,h.nd⟩
theorem LayGo.same (h:PgIn w b d lb pb hb FD FP K k M) (hb':Below w.heap.size w w') {j:Nat} (hj:k≤j):LayGo w w' b d lb pb hb FD FP K j M:=
 ⟨FD,(h.below hb').rek (h.ok.disk.mono hj),Touch.of_below hb',fun x hx=> .inl hx⟩
end
end Go.Proofs.YtjgkegkinnlcoaaGreatDoor
namespace Go.Proofs.YtjgkegkinnlcoaaGreatDoor
open Go.RowKit Go.Joins
structure UpM (m:DM) (N:Nat):Prop where
 down:m.down=false
 fuse:m.fuse= -1
 len:m.sure.length=N
theorem UpM.burn {m:DM} {N:Nat} (h:UpM m N):burnM m=(true,m):=by
 unfold burnM;rw[h.fuse,if_neg (by decide),if_neg (by decide)]
theorem UpM.write {m:DM} {N:Nat} (h:UpM m N) (i:Nat) (s:ByteArray) (hi:i<N) (hs:s.size=64):(wrM m i s).1=0∧UpM (wrM m i s).2 N:=by
 unfold wrM
 rw[h.down,if_neg (by decide),if_neg (by rw[h.len];omega),h.burn,if_pos rfl]
 exact⟨rfl,h.down,h.fuse,h.len⟩
theorem UpM.flush {m:DM} {N:Nat} (h:UpM m N):(flM m).1=0∧UpM (flM m).2 N:=by
 unfold flM
 rw[h.down,if_neg (by decide),h.burn,if_pos rfl]
 exact⟨rfl,h.down,h.fuse,by show(flTo m.sure m.wait).length=N;rw[flTo_length];exact h.len⟩
theorem UpM.stepW {x:Int × DM} {N:Nat} (h0:x.1=0) (h:UpM x.2 N) (i:Nat) (s:ByteArray) (hi:i<N) (hs:s.size=64):(stepW x i s).1=0∧UpM (stepW x i s).2 N:=by
 unfold Proofs.YtjgkegkinnlcoaaGreatDoor.stepW;rw[if_pos h0];exact h.write i s hi hs
theorem UpM.stepF {x:Int × DM} {N:Nat} (h0:x.1=0) (h:UpM x.2 N):(stepF x).1=0∧UpM (stepF x).2 N:=by
 unfold Proofs.YtjgkegkinnlcoaaGreatDoor.stepF;rw[if_pos h0];exact h.flush
theorem UpM.new (n:Nat):UpM (newM (newSu n)) n:=⟨rfl,rfl,by simp[newM,newSu]⟩
theorem nul_N:mN (S (nul 64))=0:=by decide+kernel
end Go.Proofs.YtjgkegkinnlcoaaGreatDoor
namespace Go.Proofs.YtjgkegkinnlcoaaGreatDoor
open Go.RowKit Go.Maps Go.Joins
def PgGo (w w':World) (b d lb pb hb:Nat) (FD FP:List Nat) (K k:Nat) (M:PM):Prop:= ∃FD' FP',PgIn w' b d lb pb hb FD' FP' K k M∧Touch (b::lb::hb::(FD++FP)) w w'∧(∀x∈FD',x∈FD∨w.heap.size≤x)∧ ∀x∈FP',x∈FP∨w.heap.size≤x
theorem flM_wait {m:DM} (h:(flM m).1=0):(flM m).2.wait=[]:=by
 unfold flM at h ⊢
 split at h
 ·cases h
 ·rename_i hd
  rw[if_neg hd]
  split at h
  ·rename_i hb;rw[if_pos hb]
  ·cases h
theorem stepF_wait {x:Int × DM} (h:(stepF x).1=0):(stepF x).2.wait=[]:=by
 have h0:=stepF_zero h
 unfold stepF at h ⊢
 rw[if_pos h0] at h ⊢
 exact flM_wait h
theorem DOk.calm {m:DM} {k:Nat} (h:DOk m k) (hw:m.wait=[]):DOk m 0:=⟨h.size,h.wait,h.fuse,h.fuse1,h.pos,h.few,by rw[hw];exact Nat.zero_le _⟩
section
variable {w w' w1 w2:World} {b d lb pb hb K J k:Nat} {FD FP F1:List Nat} {M M':PM}
theorem PgGo.of_step (h:PgStep w w' b d lb pb hb FD FP K k M):PgGo w w' b d lb pb hb FD FP K k M:=by
 obtain⟨F',h1,h2,h3⟩:=h
 exact⟨FD,F',h1,h2.mono (fun x hx=> .inl (by simp[hx])),fun x hx=> .inl hx,h3⟩
theorem PgGo.trans {FD1 FP1:List Nat} (t:Touch (b::lb::hb::(FD++FP)) w w1) (hD: ∀x∈FD1,x∈FD∨w.heap.size≤x) (hP: ∀x∈FP1,x∈FP∨w.heap.size≤x) (h:PgGo w1 w2 b d lb pb hb FD1 FP1 K k M):PgGo w w2 b d lb pb hb FD FP K k M:=by
 obtain⟨D2,P2,h1,h2,h3,h4⟩:=h
 refine⟨D2,P2,h1,t.trans h2 (fun x hx=> ?_),fun x hx=>(h3 x hx).elim (hD x) (fun h=> .inr (Nat.le_trans t.size h)),fun x hx=>(h4 x hx).elim (hP x) (fun h=> .inr (Nat.le_trans t.size h))⟩
 simp only[List.mem_cons,List.mem_append] at hx ⊢
 rcases hx with rfl|rfl|rfl|hx|hx
 ·exact .inl (.inl rfl)
 ·exact .inl (.inr (.inl rfl))
 ·exact .inl (.inr (.inr (.inl rfl)))
 ·exact(hD x hx).imp (fun h=> .inr (.inr (.inr (.inl h)))) id
 ·exact(hP x hx).imp (fun h=> .inr (.inr (.inr (.inr h)))) id
theorem PgGo.fin {w w2 wr w4 w5:World} {D4:List Nat} (hb2:Below w.heap.size w w2) (t:Touch FP w2 wr) (hF: ∀x∈F1,x∈FP∨w2.heap.size≤x) (t4:Touch (b::lb::hb::FD) wr w4) (f4: ∀x∈D4,x∈FD∨wr.heap.size≤x) (t5:Touch [b,lb,hb] w4 w5)
  (h:PgIn w5 b d lb pb hb D4 F1 K k M):PgGo w w5 b d lb pb hb FD FP K k M:=by
 have s1:=hb2.size
 have s2:=t.size
 refine⟨D4,F1,h, ?_,fun x hx=>(f4 x hx).imp id (fun h=>by omega),fun x hx=>(hF x hx).imp id (fun h=>by omega)⟩
 refine(((Touch.of_below (F:=b::lb::hb::(FD++FP)) hb2).trans t (fun x hx=> .inl (by simp[hx]))).trans t4 (fun x hx=> .inl ?_)).trans t5 (fun x hx=> .inl ?_)
 ·simp only[List.mem_cons] at hx
  rcases hx with rfl|rfl|rfl|hx<;>simp[*]
 ·simp at hx
  rcases hx with rfl|rfl|rfl<;>simp
end
end Go.Proofs.YtjgkegkinnlcoaaGreatDoor
namespace Go.Proofs.YtjgkegkinnlcoaaGreatDoor
open Go.RowKit Go.Maps Go.Joins
def mostI (n:Nat) (log:Int):Nat:=if log<10∨(n:Int)<log then 0 else(n - 2 - log.toNat) / 8
def fmtN (x:Int × DM) (n:Nat):Int × DM:=(List.range n).foldl (fun x (i:Nat)=>stepW x (i:Int) (S (nul 64))) x
theorem fmtN_succ (x:Int × DM) (n:Nat):fmtN x (n+1)=stepW (fmtN x n) (n:Int) (S (nul 64)):=by
 unfold fmtN;rw[List.range_succ,List.foldl_append];rfl
theorem fmtN_ok {x:Int × DM} {k:Nat} (h:DOk x.2 k): ∀n,DOk (fmtN x n).2 (k+n)
 |0=>h
 |n+1=>by rw[fmtN_succ];exact(fmtN_ok h n).stepW _ _
def page0:ByteArray:=pgStr 1 0 (S (leB 1 4))
theorem page0_size:page0.size=512:=pgStr_size 1 0 _ (by rw[S_size,leB_length];omega)
def formatX (m:DM) (log:Nat):Int × DM:=stepF (stepW (stepF (putX (fmtN (0,m) (2+log)) (2+log) page0)) 1 (mkStr 1 (superT 1 log)))
def formatP (m:DM) (log:Int):Int × DM:=if mostI m.sure.length log<1 then(1,m) else formatX m log.toNat
structure FmLoop (w2:World) (d cb:Nat) (F:List Nat) (m:DM) (n:Nat) (v:Value) (wr:World):Prop where
 ex: ∃j:Nat,j≤n∧v= .int .i64 j∧ApSt w2 d cb F wr (fmtN (0,m) j)
section
variable {W w w1 w2:World} {d cb k:Nat} {F F1:List Nat} {m:DM} {e0:Int} {x:Int × DM}
theorem Goes.same (h:IsDisk w d F m) (hb:Below w.heap.size w w1):Goes w w1 d F m:=⟨F,h.below hb,Touch.of_below hb,fun _ hb=> .inl hb⟩
theorem ApSt.goes {w0:World} (h:ApSt w d cb F w1 x) (hb:Below w0.heap.size w0 w) (hc:w0.heap.size≤cb):Goes w0 w1 d F x.2:=by
 obtain⟨F',hon,ht,hF⟩:=h.on
 exact⟨F',hon.disk,(Touch.of_below (F:=F) hb).trans ht (fun x hx=>(List.mem_cons.1 hx).elim (fun e=> .inr (by omega)) .inl),fun x hx=>(hF x hx).imp id (fun h=>Nat.le_trans hb.size h)⟩
set_option maxRecDepth 100000 in
set_option maxHeartbeats 1000000 in
theorem most_pages (h:IsDisk W d F m) (hn:m.sure.length≤65536) (log:Int) (l1: -9223372036854775808≤log) (l2:log≤9223372036854775807):
  Calls Tryz.prog 74 #[.pointer (some ⟨d,0,none⟩), .int .i64 log] W fun e w'=>e= .returned (.int .i64 (mostI m.sure.length log))∧W=w':=by
 have HL:=Lib.hid (is_len h)
 clear h
 unfold mostI
 by_cases h1:log<10
 ·rw[if_pos (.inl h1)]
  go_enter Tryz.func74,Tryz.ntmps74
  go_wp2_with fail
  go_ret
  exact⟨rfl,rfl⟩
 by_cases h2:(m.sure.length:Int)<log
 ·rw[if_pos (.inr h2)]
  go_enter Tryz.func74,Tryz.ntmps74
  go_wp2_with fail
  refine HL.out.mono ?_
  rintro e w1 ⟨rfl,rfl⟩
  go_wp2_with fail
  go_ret
  exact⟨rfl,rfl⟩
 rw[if_neg (by omega)]
 obtain⟨L,rfl⟩: ∃L:Nat,log=L:=⟨log.toNat,by omega⟩
 have q1:IntKind.i64.wrap ((m.sure.length:Int) - 2)=(m.sure.length:Int) - 2:=IntWalk.i64_in _ (by omega)
 have q2:IntKind.i64.wrap ((m.sure.length:Int) - 2 - (L:Int))=(m.sure.length:Int) - 2 - (L:Int):=IntWalk.i64_in _ (by omega)
 have q0:((m.sure.length:Int) - 2 - (L:Int)).tdiv 8=(((m.sure.length - 2 - (L:Int).toNat) / 8:Nat):Int):=by
  by_cases hz:(0:Int)≤(m.sure.length:Int) - 2 - (L:Int)
  ·rw[Int.tdiv_eq_ediv_of_nonneg hz];omega
  ·have:(m.sure.length:Int) - 2 - (L:Int)= -1∨(m.sure.length:Int) - 2 - (L:Int)= -2:=by omega
   have e:(m.sure.length - 2 - (L:Int).toNat) / 8=0:=by omega
   rw[e]
   rcases this with h|h<;>rw[h]<;>decide
 have q3:IntKind.i64.wrap ((((m.sure.length - 2 - (L:Int).toNat) / 8:Nat)):Int)=(((m.sure.length - 2 - (L:Int).toNat) / 8:Nat):Int):=IntWalk.i64_in _ (by omega)
 generalize (m.sure.length - 2 - (L:Int).toNat) / 8=X at q0 q3 ⊢
 go_enter Tryz.func74,Tryz.ntmps74
 go_wp2_with fail
 refine HL.out.mono ?_
 rintro e w1 ⟨rfl,rfl⟩
 go_wp2_with fail
 refine HL.out.mono ?_
 rintro e w1 ⟨rfl,rfl⟩
 go_wp2_with fail
 go_ret
 exact⟨rfl,rfl⟩
set_option maxRecDepth 100000 in
set_option maxHeartbeats 1000000 in
theorem fmt_fn1 (h:IsDisk W d F m) (hk:DOk m k) (hkk:k≤1000000000) {b0 b1 b2 i:Nat} {s:ByteArray} (hi:i≤1000000) (hs:s.size≤1000)
  (c0:W.cell? ⟨b0,0,none⟩=some (.pointer (some ⟨d,0,none⟩))) (c1:W.cell? ⟨b1,0,none⟩=some (.int .i64 i)) (c2:W.cell? ⟨b2,0,none⟩=some (.string s)):
  Calls Tryz.prog 76 #[.pointer (some ⟨b0,0,none⟩), .pointer (some ⟨b1,0,none⟩), .pointer (some ⟨b2,0,none⟩)] W
   fun e w'=>e= .returned (.int .i64 (wrM m (i:Int) s).1)∧Goes W w' d F (wrM m (i:Int) s).2:=by
 have HW:=Lib.hid (is_write h hk hkk (i:Int) s (by omega) (by omega) (by omega))
 clear h
 go_enter Tryz.func76,Tryz.ntmps76
 go_wp2_with fail
 refine HW.out.mono ?_
 rintro e w7 ⟨rfl,hg⟩
 go_wp2_with fail
 go_ret
 exact⟨rfl,hg⟩
set_option maxRecDepth 100000 in
set_option maxHeartbeats 1000000 in
theorem fmt_fn2 (h:IsDisk W d F m) (hk:DOk m k) (hkk:k≤1000000000) {b0 b1 log:Nat} (hs:log≤65536)
  (c0:W.cell? ⟨b0,0,none⟩=some (.int .i64 log)) (c1:W.cell? ⟨b1,0,none⟩=some (.pointer (some ⟨d,0,none⟩))):
  Calls Tryz.prog 81 #[.pointer (some ⟨b0,0,none⟩), .pointer (some ⟨b1,0,none⟩)] W
   fun e w'=>e= .returned (.int .i64 (wrM m 1 (mkStr 1 (superT 1 log))).1)∧Goes W w' d F (wrM m 1 (mkStr 1 (superT 1 log))).2:=by
 have lt1:=cell_lt c1
 have HSU:=Lib.hid (fun W=>super_any 1 log W (by omega) hs)
 have HMK:=Lib.hid (fun W=>markPut_any 1 (superT 1 log) W (by omega) (by rw[superT_size];omega))
 have hms:(mkStr 1 (superT 1 log)).size=64:=mkStr_size _ _ (by rw[superT_size];omega)
 have HW:=Lib.hid (fun(W1:World) (hb:Below W.heap.size W W1)=>is_write (h.below hb) hk hkk 1 (mkStr 1 (superT 1 log)) (by omega) (by omega) (by omega))
 have HC:=Lib.hid c1
 have HD:=Lib.hid h
 clear h hms c1
 go_enter Tryz.func81,Tryz.ntmps81
 go_wp2_with fail
 refine(HSU.out _).mono ?_
 rintro e w1 ⟨rfl,hb1⟩
 go_wp2_with fail
 refine(HMK.out _).mono ?_
 rintro e w2 ⟨rfl,hb2⟩
 have hb:=below_step hb2 hb1
 have c1:=(hb.cell (p:=⟨b1,0,none⟩) lt1).trans HC.out
 have l2:=Nat.lt_of_lt_of_le lt1 hb.size
 have HB:=Lib.hid hb
 clear hb1 hb2 hb
 go_wp2_with fail
 refine(HW.out _ HB.out).mono ?_
 rintro e w7 ⟨rfl,hg⟩
 go_wp2_with fail
 go_ret
 exact⟨rfl,Goes.after (Touch.of_below HB.out) hg⟩
set_option maxRecDepth 100000 in
set_option maxHeartbeats 4000000 in
theorem Format_any (h:IsDisk w d F m) (hk:DOk m k) (hkk:k≤100000) (log:Int) (l1: -9223372036854775808≤log) (l2:log≤9223372036854775807):
  Calls Tryz.prog 28 #[.pointer (some ⟨d,0,none⟩), .int .i64 log] w fun e w'=>e= .returned (.int .i64 (formatP m log).1)∧Goes w w' d F (formatP m log).2:=by
 have hm:=fun(W:World) (hb:Below w.heap.size w W)=>most_pages (h.below hb) hk.few log l1 l2
 have H:=Lib.hid h
 have hfew:=hk.few
 have hFlt:=h.lt
 clear h
 unfold formatP
 obtain⟨N,hN⟩: ∃N,N=mostI m.sure.length log:=⟨_,rfl⟩
 rw[←hN] at hm ⊢
 have HM:=Lib.hid hm
 clear hm
 by_cases hm1:N<1
 ·rw[if_pos hm1]
  have t:(N:Int)<1:=by omega
  go_enter Tryz.func28,Tryz.ntmps28
  go_wp2_with fail
  refine(HM.out _ (below_alloc (below_alloc (Below.refl _ _)))).mono ?_
  rintro e w1 ⟨rfl,rfl⟩
  go_wp2_with fail
  go_ret
  exact⟨rfl,Goes.same H.out (below_alloc (below_alloc (Below.refl _ _)))⟩
 rw[if_neg hm1]
 have t: ¬(N:Int)<1:=by omega
 obtain⟨hl10,hll⟩:10≤log∧log≤m.sure.length:=by
  unfold mostI at hN
  by_cases e:log<10∨(m.sure.length:Int)<log
  ·rw[if_pos e] at hN;omega
  ·omega
 obtain⟨L,rfl⟩: ∃L:Nat,log=L:=⟨log.toNat,by omega⟩
 rw[Int.toNat_natCast]
 have HFI:=Lib.hid (fun W=>pfill_any ⟨#[]⟩ 64 W (by decide) (by omega))
 have HPU:=Lib.hid (fun W=>put_any 1 4 W (by omega) (by omega))
 have HPK:=Lib.hid (fun W=>pack_any 1 0 (S (leB 1 4)) W (by decide) (by rw[S_size,leB_length];omega))
 rw[show fillR ⟨#[]⟩ 64=S (nul 64) from rfl] at HFI
 rw[show pgStr 1 0 (S (leB 1 4))=page0 from rfl] at HPK
 clear hN hm1
 go_enter Tryz.func28,Tryz.ntmps28
 go_wp2_with fail
 refine(HM.out _ (below_alloc (below_alloc (Below.refl _ _)))).mono ?_
 rintro e w1 ⟨rfl,rfl⟩
 go_wp2_with fail
 first|refine wp_name (fun W0 hW0=> ?_)|refine calls_name (fun W0 hW0=> ?_)
 have hb0:Below w.heap.size w W0:=by rw[←hW0];exact below_alloc (below_alloc (below_alloc (Below.refl _ _)))
 have hc0:W0.cell? ⟨w.heap.size,0,none⟩=some (.pointer (some ⟨d,0,none⟩))∧W0.cell? ⟨w.heap.size+1,0,none⟩=some (.int .i64 L)∧W0.cell? ⟨w.heap.size+1+1,0,none⟩=some (.int .i64 0)∧W0.frozen? ⟨w.heap.size+1+1,0,none⟩=false∧W0.heap.size=w.heap.size+1+1+1:=by
  rw[←hW0]
  refine⟨?_, ?_, ?_, ?_, ?_⟩
  ·clear hW0;go_simp
  ·clear hW0;go_simp
  ·clear hW0;go_simp
  ·clear hW0;go_simp
  ·simp
 clear hW0
 have HB0:=Lib.hid hb0
 have HC0:=Lib.hid hc0
 clear hb0 hc0
 refine(HFI.out _).mono ?_
 rintro e w1 ⟨rfl,hb1⟩
 have hs1:=hb1.size
 have hz:=HC0.out.2.2.2.2
 have k0:w1.cell? ⟨w.heap.size,0,none⟩=some (.pointer (some ⟨d,0,none⟩)):=(hb1.cell (p:=⟨_,_,none⟩) (by show w.heap.size<_;omega)).trans HC0.out.1
 have k1:w1.cell? ⟨w.heap.size+1,0,none⟩=some (.int .i64 L):=(hb1.cell (p:=⟨_,_,none⟩) (by show w.heap.size+1<_;omega)).trans HC0.out.2.1
 have k2:w1.cell? ⟨w.heap.size+1+1,0,none⟩=some (.int .i64 0):=(hb1.cell (p:=⟨_,_,none⟩) (by show w.heap.size+1+1<_;omega)).trans HC0.out.2.2.1
 have kf:w1.frozen? ⟨w.heap.size+1+1,0,none⟩=false:=(hb1.frozen (p:=⟨_,_,none⟩) (by show w.heap.size+1+1<_;omega)).trans HC0.out.2.2.2.1
 have l1':w.heap.size+1<w1.heap.size:=by omega
 have HS1:=Lib.hid (show w.heap.size+1+1<w1.heap.size by omega)
 have HB1:=Lib.hid (below_step hb1 HB0.out)
 have HK1:=Lib.hid (And.intro k0 (And.intro k1 (And.intro k2 kf)))
 have q0:IntKind.i64.wrap (2+(L:Int))=((2+L:Nat):Int):=by rw[IntWalk.i64_in _ (by omega)];omega
 clear hb1 k0 k2 kf hs1 hz
 go_wp2_with fail
 refine wp_name (fun w2 hw2=> ?_)
 have hb2:Below w1.heap.size w1 w2:=by rw[←hw2];exact below_alloc (Below.refl _ _)
 have k3:w2.cell? ⟨w1.heap.size,0,none⟩=some (.string (S (nul 64))):=by rw[←hw2];exact cell_new _ _ _
 have hs2:w1.heap.size<w2.heap.size:=by rw[←hw2];simp
 have HS2:=Lib.hid hs2
 have HB2:=Lib.hid (below_step hb2 HB1.out)
 have HON2:Hid (ChOn w2 d (w.heap.size+1+1) F m 0):=Lib.hid ⟨H.out.below HB2.out,(hb2.cell (p:=⟨_,_,none⟩) HS1.out).trans HK1.out.2.2.1,(hb2.frozen (p:=⟨_,_,none⟩) HS1.out).trans HK1.out.2.2.2,fun hm=>by have:=hFlt _ hm;omega⟩
 have HCX: ∀w',Touch ((w.heap.size+1+1)::F) w2 w'→Hid (w'.cell? ⟨w.heap.size,0,none⟩=some (.pointer (some ⟨d,0,none⟩))∧w'.cell? ⟨w.heap.size+1,0,none⟩=some (.int .i64 L)∧w'.cell? ⟨w1.heap.size,0,none⟩=some (.string (S (nul 64)))∧w1.heap.size<w'.heap.size):=fun w' t=>by
  have far: ∀q,w.heap.size≤q→q≠w.heap.size+1+1→q∉(w.heap.size+1+1)::F:=fun q hq hn hm=>by
   rcases List.mem_cons.1 hm with e|hm
   ·exact hn e
   ·have:=hFlt _ hm;omega
  have:=HS1.out
  have:=HS2.out
  exact Lib.hid ⟨(t.cell (p:=⟨w.heap.size,0,none⟩) (by show w.heap.size<_;omega) (far w.heap.size (by omega) (by omega))).trans ((hb2.cell (p:=⟨_,_,none⟩) (by show w.heap.size<_;omega)).trans HK1.out.1),(t.cell (p:=⟨w.heap.size+1,0,none⟩) (by show w.heap.size+1<_;omega) (far (w.heap.size+1) (by omega) (by omega))).trans ((hb2.cell (p:=⟨_,_,none⟩) (by show w.heap.size+1<_;omega)).trans HK1.out.2.1),(t.cell (p:=⟨w1.heap.size,0,none⟩) (by show w1.heap.size<_;omega) (far w1.heap.size (by omega) (by omega))).trans k3,Nat.lt_of_lt_of_le HS2.out t.size⟩
 clear hw2 hb2 k3 hs2 k1 l1' q0
 go_loopw [7,23] (fun v7 v23 wr=>FmLoop w2 d (w.heap.size+1+1) F m (2+L) v23 wr) (fun _ v23 _=>2+L - (intOf v23).toNat)
 case atStart=>exact⟨⟨0,Nat.zero_le _,rfl,HON2.out.st⟩⟩
 case round=>
  obtain⟨⟨j,hj,rfl,hst⟩⟩:=hrel
  obtain⟨F1,hon,ht,hF1⟩:=hst.on
  have HON:=Lib.hid hon
  have HT:=Lib.hid ht
  have HF:=Lib.hid hF1
  have CX:=HCX _ ht
  clear hst hon ht hF1
  by_cases hltj:j<2+L
  ·have hq2:(j:Int)<((2+L:Nat):Int):=by omega
   have hdk:=fmtN_ok (x:=(0,m)) hk j
   have hpos: ∀(W1:World) (hb:Below wr.heap.size wr W1) (h2:W1.cell? ⟨wr.heap.size,0,none⟩=some (.int .i64 j)),Hid (Calls Tryz.prog 75 #[.pointer (some ⟨w.heap.size+1+1,0,none⟩), .func (Fn.func 76) #[] #[.pointer (some ⟨w.heap.size,0,none⟩), .pointer (some ⟨wr.heap.size,0,none⟩), .pointer (some ⟨w1.heap.size,0,none⟩)]] W1 fun e w'=>e= .returned (.tuple #[])∧ApSt W1 d (w.heap.size+1+1) F1 w' (if (fmtN (0,m) j).1=0 then wrM (fmtN (0,m) j).2 (j:Int) (S (nul 64)) else((fmtN (0,m) j).1,(fmtN (0,m) j).2))):=fun W1 hb h2=>by
    have hlw:=CX.out.2.2.2
    have hls:=HS1.out
    exact Lib.hid (then_any (HON.out.below hb) _ _ _ (wrM (fmtN (0,m) j).2 (j:Int) (S (nul 64))) (by kernel_rfl) (fmt_fn1 (HON.out.below hb).disk hdk (by omega) (by omega) (by rw[S_size,nul_length];omega) ((hb.cell (p:=⟨w.heap.size,0,none⟩) (by show w.heap.size<_;omega)).trans CX.out.1) h2 ((hb.cell (p:=⟨w1.heap.size,0,none⟩) (by show w1.heap.size<_;omega)).trans CX.out.2.2.1)))
   clear hdk
   go_wp2_with fail
   first|refine wp_name (fun W3 hW3=> ?_)|refine calls_name (fun W3 hW3=> ?_)
   have hb3:Below wr.heap.size wr W3:=by rw[←hW3];exact below_alloc (Below.refl _ _)
   have h2:W3.cell? ⟨wr.heap.size,0,none⟩=some (.int .i64 j):=by rw[←hW3];clear hW3;go_simp
   clear hW3
   refine(hpos W3 hb3 h2).out.mono ?_
   rintro e w5 ⟨rfl,hst5⟩
   have hst5':ApSt w2 d (w.heap.size+1+1) F w5 (fmtN (0,m) (j+1)):=by
    rw[fmtN_succ]
    exact ApSt.trans (HT.out.trans (Touch.of_below (F:=(w.heap.size+1+1)::F) hb3) (fun x hx=> .inl hx)) (fun x hx=>HF.out x hx) hst5
   have HST:=Lib.hid hst5'
   clear hst5 hst5' h2 hb3 hpos
   go_wp2_with fail
   go_roundw
   case rel=>exact⟨⟨j+1,by omega,by go_num,HST.out⟩⟩
   case measure=>simp[intOf];omega
  obtain rfl:2+L=j:=by omega
  have hok1:=fmtN_ok (x:=(0,m)) hk (2+L)
  obtain⟨y1,hy1⟩: ∃y1,y1=fmtN (0,m) (2+L):=⟨_,rfl⟩
  rw[←hy1] at HON hok1
  have hok2:DOk (putX y1 (2+L) page0).2 (k+(2+L)+8):=putN_ok hok1 (2+L) page0 8
  have hok3:=hok2.stepF
  have hok4:=hok3.stepW 1 (mkStr 1 (superT 1 L))
  have HX:=Lib.hid (show formatX m L=stepF (stepW (stepF (putX y1 (2+L) page0)) 1 (mkStr 1 (superT 1 L))) by rw[hy1];rfl)
  have HOK:=Lib.hid (And.intro hok1 (And.intro hok2 (And.intro hok3 hok4)))
  clear hy1 hok1 hok2 hok3 hok4 hltj
  go_wp2_with fail
  refine(HPU.out _).mono ?_
  rintro e w3 ⟨rfl,hb3⟩
  have HB3:=Lib.hid hb3
  clear hb3
  go_wp2_with fail
  refine(HPK.out _).mono ?_
  rintro e w4 ⟨rfl,hb4⟩
  have hb34:=below_step hb4 HB3.out
  have hst:ApSt wr d (w.heap.size+1+1) F1 w4 y1:=ApSt.first hb34 (HON.out.below hb34).st
  clear hb4 hb34
  obtain⟨F1,hon,t,f⟩:=hst.on
  have HON:=Lib.hid hon
  have HF':=Lib.hid (show∀x∈F1,x∈F∨w2.heap.size≤x from fun x hx=>(f x hx).elim (HF.out x) (fun h=> .inr (Nat.le_trans HT.out.size h)))
  have HT':=Lib.hid (HT.out.trans t (fun x hx=>(List.mem_cons.1 hx).elim (fun e=> .inl (by simp[e])) (fun hm=>(HF.out x hm).imp (fun h=>by simp[h]) id)))
  have HF:=HF'
  have HT:=HT'
  have CX:=HCX _ HT.out
  clear hst hon t f HF' HT'
  have HPP:=Lib.hid (put_page HON.out HOK.out.1 (by omega) (2+L) page0 (by omega) page0_size)
  have q0:IntKind.i64.wrap (2+(L:Int))=((2+L:Nat):Int):=by rw[IntWalk.i64_in _ (by omega)];omega
  have k0:=CX.out.1
  have k1:=CX.out.2.1
  have lw:=CX.out.2.2.2
  have ls:=HS1.out
  have l0:w.heap.size<w4.heap.size:=by omega
  have l1':w.heap.size+1<w4.heap.size:=by omega
  go_wp2_with fail
  refine HPP.out.mono ?_
  rintro e w5 ⟨rfl,hst0⟩
  have hst:ApSt w4 d (w.heap.size+1+1) F1 w5 (putX y1 (2+L) page0):=hst0
  clear hst0 k0 k1 lw l0 l1' q0 HPP
  obtain⟨F1,hon,t,f⟩:=hst.on
  have HON:=Lib.hid hon
  have HF':=Lib.hid (show∀x∈F1,x∈F∨w2.heap.size≤x from fun x hx=>(f x hx).elim (HF.out x) (fun h=> .inr (Nat.le_trans HT.out.size h)))
  have HT':=Lib.hid (HT.out.trans t (fun x hx=>(List.mem_cons.1 hx).elim (fun e=> .inl (by simp[e])) (fun hm=>(HF.out x hm).imp (fun h=>by simp[h]) id)))
  have HF:=HF'
  have HT:=HT'
  have CX:=HCX _ HT.out
  clear hst hon t f HF' HT'
  have HFL:=Lib.hid (pthen_flush HON.out HOK.out.2.1 (by omega))
  have k0:=CX.out.1
  have k1:=CX.out.2.1
  have lw:=CX.out.2.2.2
  have ls:=HS1.out
  have l0:w.heap.size<w5.heap.size:=by omega
  have l1':w.heap.size+1<w5.heap.size:=by omega
  go_wp2_with fail
  refine HFL.out.mono ?_
  rintro e w6 ⟨rfl,hst0⟩
  have hst:ApSt w5 d (w.heap.size+1+1) F1 w6 (stepF (putX y1 (2+L) page0)):=hst0
  clear hst0 k0 k1 lw l0 l1' HFL
  obtain⟨F1,hon,t,f⟩:=hst.on
  have HON:=Lib.hid hon
  have HF':=Lib.hid (show∀x∈F1,x∈F∨w2.heap.size≤x from fun x hx=>(f x hx).elim (HF.out x) (fun h=> .inr (Nat.le_trans HT.out.size h)))
  have HT':=Lib.hid (HT.out.trans t (fun x hx=>(List.mem_cons.1 hx).elim (fun e=> .inl (by simp[e])) (fun hm=>(HF.out x hm).imp (fun h=>by simp[h]) id)))
  have HF:=HF'
  have HT:=HT'
  have CX:=HCX _ HT.out
  clear hst hon t f HF' HT'
  have HFN:=Lib.hid (fmt_fn2 HON.out.disk HOK.out.2.2.1 (by omega) (by omega) CX.out.2.1 CX.out.1)
  have HTH:=Lib.hid (then_any HON.out 81 #[] #[.pointer (some ⟨w.heap.size+1,0,none⟩), .pointer (some ⟨w.heap.size,0,none⟩)] (wrM (stepF (putX y1 (2+L) page0)).2 1 (mkStr 1 (superT 1 L))) (by kernel_rfl) HFN.out)
  go_wp2_with fail
  refine HTH.out.mono ?_
  rintro e w7 ⟨rfl,hst0⟩
  have hst:ApSt w6 d (w.heap.size+1+1) F1 w7 (stepW (stepF (putX y1 (2+L) page0)) 1 (mkStr 1 (superT 1 L))):=hst0
  clear hst0 HTH HFN
  obtain⟨F1,hon,t,f⟩:=hst.on
  have HON:=Lib.hid hon
  have HF':=Lib.hid (show∀x∈F1,x∈F∨w2.heap.size≤x from fun x hx=>(f x hx).elim (HF.out x) (fun h=> .inr (Nat.le_trans HT.out.size h)))
  have HT':=Lib.hid (HT.out.trans t (fun x hx=>(List.mem_cons.1 hx).elim (fun e=> .inl (by simp[e])) (fun hm=>(HF.out x hm).imp (fun h=>by simp[h]) id)))
  have HF:=HF'
  have HT:=HT'
  have CX:=HCX _ HT.out
  clear hst hon t f HF' HT'
  have HFL:=Lib.hid (pthen_flush HON.out HOK.out.2.2.2 (by omega))
  have k0:=CX.out.1
  have k1:=CX.out.2.1
  have lw:=CX.out.2.2.2
  have ls:=HS1.out
  have l0:w.heap.size<w7.heap.size:=by omega
  have l1':w.heap.size+1<w7.heap.size:=by omega
  go_wp2_with fail
  refine HFL.out.mono ?_
  rintro e w8 ⟨rfl,hst0⟩
  obtain⟨X,hXE⟩: ∃X,X=formatX m L:=⟨_,rfl⟩
  have hst:ApSt w7 d (w.heap.size+1+1) F1 w8 X:=by rw[hXE,HX.out];exact hst0
  have HXE:=Lib.hid hXE
  clear hst0 k0 k1 lw l0 l1' HFL hXE HX
  obtain⟨F1,hon,t,f⟩:=hst.on
  have HON:=Lib.hid hon
  have HF':=Lib.hid (show∀x∈F1,x∈F∨w2.heap.size≤x from fun x hx=>(f x hx).elim (HF.out x) (fun h=> .inr (Nat.le_trans HT.out.size h)))
  have HT':=Lib.hid (HT.out.trans t (fun x hx=>(List.mem_cons.1 hx).elim (fun e=> .inl (by simp[e])) (fun hm=>(HF.out x hm).imp (fun h=>by simp[h]) id)))
  have HF:=HF'
  have HT:=HT'
  have CX:=HCX _ HT.out
  clear hst hon t f HF' HT'
  have ce:=HON.out.err
  have cl:=cell_lt HON.out.err
  have hgo:Goes w w8 d F X.2:=ApSt.goes (w:=w2) (cb:=w.heap.size+1+1) ⟨F1,HON.out.disk,HON.out.err,HON.out.errf,HT.out,HF.out,HON.out.ne⟩ HB2.out (by omega)
  have HGO:=Lib.hid hgo
  clear hgo
  go_wp2_with fail
  go_ret
  rw[←HXE.out]
  exact⟨rfl,HGO.out⟩
end
end Go.Proofs.YtjgkegkinnlcoaaGreatDoor
