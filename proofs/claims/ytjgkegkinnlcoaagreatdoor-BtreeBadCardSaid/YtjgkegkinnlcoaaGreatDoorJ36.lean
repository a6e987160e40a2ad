/- Lemmas on the way to the statement: BtBadWalk. -/
import Derived.Test.YtjgkegkinnlcoaaGreatDoorJ35
set_option linter.unusedSimpArgs false
set_option linter.unusedVariables false
namespace Go.Proofs.YtjgkegkinnlcoaaGreatDoor
open Go.RowKit Go.Maps Go.Joins
structure BbRnd (w0 wr:World) (p i:Nat):Prop where
 ex: ∃M R,PgX w0 wr p (12*i+2) M []∧Rel M R 6000 1∧R.most=637∧R.room=2000∧lenR R=R.way.free.length+i+1
theorem BbRnd.below {w0 wr:World} {p i:Nat} (h:BbRnd w0 wr p i):Below w0.heap.size w0 wr:=by
 obtain⟨M,R,h, -⟩:=h.ex
 exact h.below
structure KdOk (v:Value) (w wx:World):Prop where
 ex: ∃k:Int,v= .int .i64 k∧2≤k∧k≤4
 eq:wx=w
theorem bb_alloc {w0 w:World} {p i:Nat} (h:BbRnd w0 w p i) (hi:i≤20) (k:Int) (k1:2≤k) (k2:k≤4):
  Calls Tryz.prog 23 #[.pointer (some ⟨p,0,none⟩), .int .i64 k] w fun e w'=> ∃no,e= .returned (.tuple #[.int .i64 no, .int .i64 0])∧Below w0.heap.size w0 w'∧ ∀room:ByteArray,room.size≤496→
   Calls Tryz.prog 24 #[.pointer (some ⟨p,0,none⟩), .int .i64 no, .int .i64 k, .string room] w' fun e w2=>e= .returned (.int .i64 0)∧BbRnd w0 w2 p (i+1):=by
 obtain⟨M,R,hp,hr,hm,hro,hl⟩:=h.ex
 have hlen:lenR R=R.way.kinds.length:=rfl
 obtain⟨no,M',R',e1,e2,e3,e4,e5,e6,e7,e8⟩:=hr.stAlloc (kind:=k) (by omega) k1 (by omega) (by omega)
 refine(px_alloc hp (by omega) k).mono ?_
 rw[e1]
 rintro e w' ⟨he,hp',hs⟩
 refine⟨no,he,hp'.below,fun room hroom=> ?_⟩
 obtain⟨M2,R2,f1,f2,f3,f4,f5,f6,f7⟩:=e2.stWrite (by rw[e3.most,e3.room];omega) e5 k1 (by omega) hroom
 refine(px_write hp' (by omega) no k room).mono ?_
 have f1':writeP M' no k room=(0,M2):=f1
 rw[f1']
 rintro e w2 ⟨he2,hp2,hs2⟩
 exact⟨he2,M2,R2,hp2.mono (by omega),f2,by rw[f3.most,e3.most,hm],by rw[f3.room,e3.room,hro],by rw[f4,f5];omega⟩
theorem bb_root {w0 w:World} {p i:Nat} (h:BbRnd w0 w p i) (hi:i≤20) (n:Int) (n0:0≤n) (n1:n≤18446744073709551615):
  Calls Tryz.prog 25 #[.pointer (some ⟨p,0,none⟩), .int .i64 2, .int .u64 n] w fun e w'=>e= .returned (.int .i64 0)∧ ∃M,PgX w0 w' p 1000 M []∧M.most=637:=by
 obtain⟨M,R,hp,hr,hm,hro,hl⟩:=h.ex
 obtain⟨M',R',e1,e2,e3,e4, -⟩:=hr.stRoot (by omega) (i:=2) (n:=n) (by decide) n0 n1
 refine(px_setRoot hp (by omega) 2 n n0).mono ?_
 have e1':setRootP M 2 n=(0,M'):=e1
 rw[e1']
 rintro e w' ⟨he,hp',hs⟩
 exact⟨he,M',hp'.mono (by omega),by rw[e2.most,e4,hm]⟩
theorem whole_tells (M:PM) (i key:Int):RisP (wholeB M i).1∧((wholeB M i).2.2=0→getB M i key=findP key (wholeB M i).1)∧((wholeB M i).2.2≠0→(wholeB M i).1=[]):=by
 by_cases h:(wholeB M i).2.2=0
 ·obtain⟨a,b⟩:=wholeB_any (key:=key) h
  exact⟨a,fun _=>b,fun e=>absurd h e⟩
 ·have hn:(wholeB M i).1=[]:=by
   unfold wholeB at h ⊢
   simp only at h ⊢
   split
   ·rfl
   ·split
    ·rfl
    ·rename_i a b
     rw[if_neg a,if_neg b] at h
     exact absurd rfl h
  exact⟨by rw[hn];exact List.Pairwise.nil,fun e=>absurd e h,fun _=>hn⟩
set_option maxRecDepth 1000000 in
set_option maxHeartbeats 8000000 in
theorem btreeBad_walk {w:World} {n c m c2:Nat} {a a2:Option Addr} {l:List ByteArray} {ks:List Int} (hl:StrArg w a n l) (hk:IntArg w .u8 255 a2 m ks) (top key:Int) (t0:0≤top) (t1:top≤18446744073709551615) (k0:0≤key) (k1:key≤18446744073709551615):
  Calls Tryz.prog 4 #[.slice a n c, .slice a2 m c2, .int .u64 top, .int .u64 key] w fun e w'=>e= .returned (.bool true)∧Below w.heap.size w w':=by
 have HAW:=Lib.hid (fun W=>awake13_any W)
 have hfit:=hl.max
 have hfit2:=hk.max
 have HL:=Lib.hid hl
 have HK:=Lib.hid hk
 have HT:=Lib.hid (And.intro t0 t1)
 have HKY:=Lib.hid (And.intro k0 k1)
 clear hl hk t0 t1 k0 k1
 by_cases h20:20<n
 ·have d1:(20:Int)<(n:Int):=by omega
  clear h20
  go_enter Tryz.func4,Tryz.ntmps4
  go_wp2_with fail
  refine(HAW.out _).mono ?_
  rintro e w1 ⟨rfl,hb1⟩
  go_wp2_with fail
  refine(HAW.out _).mono ?_
  rintro e w2 ⟨rfl,hb2⟩
  go_wp2_with fail
  go_ret
  exact⟨rfl,below_step hb2 hb1⟩
 have d1: ¬((20:Int)<(n:Int)):=by omega
 by_cases h20b:20<m
 ·have d2:(20:Int)<(m:Int):=by omega
  clear h20b
  go_enter Tryz.func4,Tryz.ntmps4
  go_wp2_with fail
  refine(HAW.out _).mono ?_
  rintro e w1 ⟨rfl,hb1⟩
  go_wp2_with fail
  refine(HAW.out _).mono ?_
  rintro e w2 ⟨rfl,hb2⟩
  go_wp2_with fail
  go_ret
  exact⟨rfl,below_step hb2 hb1⟩
 have d2: ¬((20:Int)<(m:Int)):=by omega
 go_enter Tryz.func4,Tryz.ntmps4
 go_wp2_with fail
 refine(HAW.out _).mono ?_
 rintro e w1 ⟨rfl,hb1⟩
 have HB1:=Lib.hid hb1
 clear hb1
 go_wp2_with fail
 refine(made13_any w1).mono ?_
 rintro e w2 ⟨p,M,rfl,⟨nd,hp⟩,hr⟩
 have HR0:=Lib.hid (⟨M,newR 637 2000,hp,hr,rfl,rfl,rfl⟩:BbRnd (atD w1 nd) w2 p 0)
 clear hp hr d1 d2
 go_wp2_with fail
 go_loopw [10] (fun v10 wr=> ∃i:Nat,i≤n∧v10= .int .i64 i∧BbRnd (atD w1 nd) wr p i) (fun v10 _=>n - (intOf v10).toNat)
 case atStart=>exact⟨0,Nat.zero_le _,rfl,HR0.out⟩
 case round=>
  clear HR0
  obtain⟨i,hi,rfl,hr⟩:=hrel
  have HR:=Lib.hid hr
  clear hr
  by_cases hlt:i<n
  ·obtain⟨lb,off,rfl,hlb,hc⟩:=HL.out.at_.resolve_left (by omega)
   have hil:i<l.length:=by have:=HL.out.len;omega
   have hx:=hc i _ (List.getElem?_eq_getElem hil)
   obtain⟨s,hs⟩: ∃s,s=l[i]:=⟨_,rfl⟩
   rw[←hs] at hx
   have hsz:s.size≤9223372036854775807:=by rw[hs];exact HL.out.sizes _ (List.getElem_mem hil)
   have HB:=Lib.hid (below_step (below_atD HR.out.below) HB1.out)
   have hx1:=(HB.out.cell (p:=⟨lb,off+i,none⟩) hlb).trans hx
   have HX:=Lib.hid hx
   have y1:(i:Int)<(n:Int):=by omega
   clear hc hs hx
   go_upto_if 44 with fail
   go_cut [11] (fun v11 wx=>KdOk v11 wr wx)
   case first=>
    by_cases him:i<m
    ·obtain⟨lb2,off2,rfl,hlb2,hc2⟩:=HK.out.at_.resolve_left (by omega)
     have him2:i<ks.length:=by have:=HK.out.len;omega
     have hq:=hc2 i _ (List.getElem?_eq_getElem him2)
     obtain⟨kv,hkv⟩: ∃s,s=ks[i]:=⟨_,rfl⟩
     rw[←hkv] at hq
     have hkb:0≤kv∧kv≤255:=by rw[hkv];exact HK.out.bd _ (List.getElem_mem him2)
     have hq1:=(HB.out.cell (p:=⟨lb2,off2+i,none⟩) hlb2).trans hq
     have y2:(i:Int)<(m:Int):=by omega
     clear hc2 hkv hq
     go_wp2_with fail
     go_meet
     exact⟨⟨_,rfl,by omega,by omega⟩,rfl⟩
    ·have y2: ¬((i:Int)<(m:Int)):=by omega
     go_wp2_with fail
     go_meet
     exact⟨⟨2,rfl,by omega,by omega⟩,rfl⟩
   case rest=>
   obtain⟨⟨k,rfl,q1,q2⟩,rfl⟩:=hcut
   by_cases hbig:496<s.size
   ·have y3:(496:Int)<(s.size:Int):=by omega
    go_wp2_with fail
    go_ret
    exact⟨rfl,HB.out⟩
   have y3: ¬((496:Int)<(s.size:Int)):=by omega
   go_wp2_with fail
   refine(bb_alloc HR.out (by omega) k q1 q2).mono ?_
   rintro e w5 ⟨no,rfl,hb5,hw5⟩
   have HW:=Lib.hid (hw5 s (by omega))
   clear hx1
   have hx1:=((below_step (below_atD hb5) HB1.out).cell (p:=⟨lb,off+i,none⟩) hlb).trans HX.out
   clear hb5 hw5
   go_wp2_with fail
   refine HW.out.mono ?_
   rintro e w6 ⟨rfl,hr6⟩
   have HR6:=Lib.hid hr6
   clear hr6 HW hx1
   go_wp2_with fail
   go_roundw
   case rel=>exact⟨i+1,by omega,by go_num,HR6.out⟩
   case measure=>simp[intOf];omega
  ·obtain rfl:i=n:=by omega
   go_wp2_with fail
   refine(bb_root HR.out (by omega) top HT.out.1 HT.out.2).mono ?_
   rintro e w5 ⟨rfl,M5,hp5,hm5⟩
   have hfew:=whole_few hp5.s 2
   rw[hm5] at hfew
   have HAL:=Lib.hid (All_any hp5 (by omega) 2)
   obtain⟨t1,t2,t3⟩:=whole_tells M5 2 key
   have HGT:=Lib.hid (fun(W:World) (J:Nat) (X:List Nat) (h:PgX (atD w1 nd) W p J M5 X) (hJ:J≤900000000000)=>Get_any h hJ 2 key)
   generalize wholeB M5 2=WB at HAL t1 t2 t3 hfew
   generalize getB M5 2 key=GB at HGT t2
   obtain⟨sg,pg,er⟩:=WB
   simp only at HAL t1 t2 t3 hfew
   have H1:=Lib.hid t1
   have H2:=Lib.hid t2
   have H3:=Lib.hid t3
   clear hp5 t1 t2 t3
   go_wp2_with fail
   refine HAL.out.mono ?_
   rintro e w6 ⟨vo,rfl,ho,hp6,hx6,hl6⟩
   obtain⟨va,vc,rfl⟩:=(IsP.own ho).form
   have HI:=Lib.hid (IsP.own ho)
   have HP6:=Lib.hid hp6
   have HO:=Lib.hid ho
   clear ho hp6 hx6 HAL
   go_wp2_with fail
   go_loopw [16] (fun v16 wr=>(∃j:Nat,v16= .int .i64 ((j:Int)+1)∧j≤sg.length)∧Below w6.heap.size w6 wr) (fun v16 _=>sg.length+1 - (intOf v16).toNat)
   case atStart=>exact⟨⟨0,rfl,Nat.zero_le _⟩,Below.refl _ _⟩
   case round=>
    obtain⟨⟨j,rfl,hj2⟩,hbr⟩:=hrel
    have HBR:=Lib.hid hbr
    clear hbr
    by_cases hjl:j+1<sg.length
    ·obtain⟨g,o,c3,hv,hg,hcs⟩:=HI.out.at_ (by omega)
     injection hv with hva hvn hvc
     subst hva
     subst hvc
     have hj0:j<sg.length:=by omega
     have e1:=hcs j _ (List.getElem?_eq_getElem hj0)
     have e2:=hcs (j+1) _ (List.getElem?_eq_getElem hjl)
     have hlt1:sg[j].1<sg[j+1].1:=List.pairwise_iff_getElem.1 H1.out j (j+1) hj0 hjl (by omega)
     generalize sg[j]=x1 at e1 hlt1
     generalize sg[j+1]=x2 at e2 hlt1
     have f1:=(HBR.out.cell (p:=⟨g,o+j*2,none⟩) hg).trans e1.1
     have f2:=(HBR.out.cell (p:=⟨g,o+(j+1)*2,none⟩) hg).trans e2.1
     have q5:IntKind.i64.wrap ((j:Int)+1 - 1)=(j:Int):=by rw[show(j:Int)+1 - 1=j by omega];exact IntWalk.i64_in _ (by omega)
     have q6:((j:Int)+1).toNat=j+1:=by omega
     have y5:(j:Int)+1<(sg.length:Int):=by omega
     have y6:(j:Int)<(sg.length:Int):=by omega
     have y7: ¬(x2.1≤x1.1):=by omega
     clear hcs e1 e2 hvn hlt1 hg
     go_wp2_with fail
     go_quiet (fail)
     go_wp2_with fail
     go_roundw
     case rel=>exact⟨⟨j+1,by go_num,by omega⟩,drewN_below HBR.out _⟩
     case measure=>simp[intOf];omega
    ·have y5: ¬((j:Int)+1<(sg.length:Int)):=by omega
     have HG:=Lib.hid (HGT.out wr _ _ (HP6.out.moveX HBR.out) (by omega))
     go_wp2_with fail
     refine HG.out.mono ?_
     rintro e w7 ⟨rfl,hp7,hx7⟩
     have HP7:=Lib.hid hp7
     have HI7:=Lib.hid ((HI.out.below HBR.out).same hx7 (fun g hg=>by simp[hg]))
     clear hp7 hx7 HG hjl
     by_cases her:er=0
     ·subst her
      have hG:GB=findP key sg:=by first|exact H2.out rfl|exact H2.out trivial
      subst hG
      have HPL:=Lib.hid (plain_any HI7.out (by omega))
      generalize hff:findP key sg=ff
      have HFF:=Lib.hid hff
      clear hff
      go_wp2_with fail
      refine HPL.out.mono ?_
      rintro e w8 ⟨v',rfl,hv⟩
      have hrg:=rget_any (IsP.own hv.own) (by omega) key
      rw[HFF.out] at hrg
      have HRG:=Lib.hid hrg
      have HP8:=Lib.hid (HP7.out.moveX hv.below)
      clear hv HPL hrg
      go_wp2_with fail
      refine HRG.out.mono ?_
      rintro e w9 ⟨rfl,rfl⟩
      go_wp2_with fail
      refine(Deep_any HP8.out (by omega) 2).mono ?_
      rintro e w9 ⟨rfl,hp9, -⟩
      have HPT:=Lib.hid (Put_any hp9 (by omega) 2 key 7 HKY.out (by omega))
      clear hp9
      generalize deepB M5 2=DB
      generalize putB M5 2 key 7=PB at HPT
      go_wp2_with fail
      refine HPT.out.mono ?_
      rintro e w10 ⟨rfl,hp10, -⟩
      have HDL:=Lib.hid (Del_any hp10 (by omega) 2 key HKY.out)
      clear hp10 HPT
      generalize delB PB.2 2 key=DL at HDL
      go_wp2_with fail
      refine HDL.out.mono ?_
      rintro e w11 ⟨rfl,hp11, -⟩
      have HB:=Lib.hid (below_step (below_atD hp11.below) HB1.out)
      clear hp11 HDL
      go_wp2_with fail
      go_ret
      exact⟨rfl,HB.out⟩
     ·have hs0:sg=[]:=H3.out her
      have dd:(er==0)=false:=by simpa using her
      subst hs0
      have HP8:=HP7
      go_wp2_with fail
      refine(Deep_any HP8.out (by omega) 2).mono ?_
      rintro e w9 ⟨rfl,hp9, -⟩
      have HPT:=Lib.hid (Put_any hp9 (by omega) 2 key 7 HKY.out (by omega))
      clear hp9
      generalize deepB M5 2=DB
      generalize putB M5 2 key 7=PB at HPT
      go_wp2_with fail
      refine HPT.out.mono ?_
      rintro e w10 ⟨rfl,hp10, -⟩
      have HDL:=Lib.hid (Del_any hp10 (by omega) 2 key HKY.out)
      clear hp10 HPT
      generalize delB PB.2 2 key=DL at HDL
      go_wp2_with fail
      refine HDL.out.mono ?_
      rintro e w11 ⟨rfl,hp11, -⟩
      have HB:=Lib.hid (below_step (below_atD hp11.below) HB1.out)
      clear hp11 HDL
      go_wp2_with fail
      go_ret
      exact⟨rfl,HB.out⟩
end Go.Proofs.YtjgkegkinnlcoaaGreatDoor
