/- The reference's disk: making one, writing, reading. -/
import Derived.Test.YteijagojagfecaaDiskRef
namespace Go.Proofs.Yteijagojagfecaa
open Go.RowKit Go.Maps Go.Joins
set_option linter.unusedVariables false

theorem Try.infoByteR : (Try.prog.info? 5).map (fun i => (i.zero, i.size, i.bytes)) = some (some (.int .u8 0), 1, 1) := by kernel_rfl
theorem Try.infoRefW : (Try.prog.info? 109).map (fun i => (i.zero, i.size, i.bytes)) = some (some (.agg #[.int .i64 0, .string ⟨#[]⟩]), 2, 24) := by kernel_rfl

/-- After the call, the reference's disk is m. -/
def GoesR (w w' : World) (d : Nat) (F : List Nat) (m : DM) : Prop := ∃ F', IsRef w' d F' m ∧ Touch F w w' ∧ ∀ b ∈ F', b ∈ F ∨ w.heap.size ≤ b
theorem GoesR.of_at {w w' : World} {d : Nat} {wv : Value} {m : DM} {G : List Nat} (h : RefAt w' d wv m) (t : Touch G w w') (hG : ∀ b ∈ G, b ∈ refB d wv) : GoesR w w' d (refB d wv) m :=
  ⟨_, ⟨wv, h, rfl⟩, t.mono (fun b hb => .inl (hG b hb)), fun b hb => .inl hb⟩
def NewRef (w w' : World) (d : Nat) (m : DM) : Prop := ∃ F, IsRef w' d F m ∧ Below w.heap.size w w' ∧ ∀ b ∈ F, w.heap.size ≤ b

theorem conv_nul6 (w : World) (B g n : Nat) (h : w.ownsRow B 5 1 (.slice (some ⟨g, 0, none⟩) n n) n (madeCells (Value.int .u8 0).cells (n * 1)).toList) :
    (convert 92 9 (.slice (some ⟨g, 0, none⟩) n n)).run Try.prog w = .ok (.string (S (nul n))) w := by
  have h1 := toList_madeCells_one (Value.int .u8 0) n
  have h2 : (Value.int .u8 0).cells = #[Value.int .u8 0] := rfl
  rw [h2, Nat.mul_one, h1] at h
  have hc := run_convert_bytes_back (P := Try.prog) w 92 9 5 ⟨g, 0, none⟩ n (nul n) Try.underlying92 Try.underlying5 Try.underlying9 (by
    intro t ht
    rw [nul_length] at ht
    have : (⟨g, 0, none⟩ : Addr).add t = ⟨g, t, none⟩ := by unfold Addr.add; split <;> simp_all
    rw [this, h.cellAt t (by omega)]
    simp [nul, ht])
  rw [nul_length] at hc
  exact hc
theorem imgM_newSu (n : Nat) : imgM (newSu n) = S (nul (n * 64)) := by
  unfold imgM newSu
  congr 1
  rw [List.map_replicate, show (S (nul 64)).data.toList = nul 64 from by simp [S]]
  unfold nul
  rw [List.flatten_replicate_replicate]
theorem ref_made {w : World} {su : List ByteArray} :
    RefAt (w.alloc (.cells #[.string (imgM su), .slice none 0 0, .int .i64 (-1), .bool false] 62)) w.heap.size (.slice none 0 0) (newM su) := by
  have r := World.rowIs_alloc w #[.string (imgM su), .slice none 0 0, .int .i64 (-1), .bool false] 62 (refF (.slice none 0 0) (newM su))
    (fun i hi => by
      have hi5 : i < 4 := hi
      rcases i with _ | _ | _ | _ | i <;> first | rfl | omega)
  exact ⟨r, World.ownsRow_nil _ _ _ _, fun g hg => by cases hg⟩

set_option maxRecDepth 100000 in
set_option maxHeartbeats 1000000 in
theorem rnew_any (n : Nat) (w : World) (h2 : n ≤ 65536) :
    Calls Try.prog 30 #[.int .i64 n] w fun e w' => ∃ d, e = .returned (.pointer (some ⟨d, 0, none⟩)) ∧ NewRef w w' d (newM (newSu n)) := by
  obtain ⟨i0, hi, hz0, hz1, hz2⟩ := info_parts Try.infoByteR
  have him := imgM_newSu n
  have HI := Lib.hid him
  clear him
  go_enter Try.func30, Try.ntmps30
  go_wp2_with (at_make; refine wpList_make_full _ rfl (.tmp 5) (.tmp 5) 92 rfl w.heap.size 5 i0 (.int .u8 0) 1 Try.underlying92 hi hz0 hz1 .i64 .i64 (n * 64) (n * 64) (n * 64) (by rfl) (by rfl) rfl rfl (by rw [hz2]; omega) (by unfold maxLen; omega) (Nat.le_refl _) ?_; intro w1 hown hgr; have hv := conv_nul6 _ _ _ _ hown; clear hown)
  go_ret
  have R := ref_made (w := w1) (su := newSu n)
  rw [HI.out] at R
  have hb : Below w.heap.size w w1 := (Below.refl _ _).grown hgr (Nat.le_refl _) (by intro k h; cases h)
  refine ⟨_, rfl, _, ⟨_, R, rfl⟩, below_alloc hb, ?_⟩
  intro b hb'
  simp only [refB, List.mem_cons, Option.mem_toList] at hb'
  rcases hb' with rfl | hb'
  · exact hb.size
  · cases hb'

theorem ref_written {w1 w2 : World} {d g cap : Nat} {wv : Value} {m : DM} {o : Obj} {i : Int} {s : ByteArray} (h : RefAt w1 d wv m)
    (hown : w2.ownsRow 0 109 2 (.slice (some ⟨g, 0, none⟩) (m.wait.length + 1) cap) (m.wait.length + 1) (waitCells m.wait ++ [.int .i64 i, .string s])) (hgrow : (w1.alloc o).grownBy w2 wv.ownBlock) :
    RefAt (w2.setCell ⟨d, 1, none⟩ (.slice (some ⟨g, 0, none⟩) (m.wait.length + 1) cap)) d (.slice (some ⟨g, 0, none⟩) (m.wait.length + 1) cap) { m with wait := m.wait ++ [(i, s)] } ∧
      Touch (refB d wv) w1 (w2.setCell ⟨d, 1, none⟩ (.slice (some ⟨g, 0, none⟩) (m.wait.length + 1) cap)) := by
  have t1 : Touch wv.ownBlock.toList w1 w2 := ((Touch.refl _ _).alloc o).trans (Touch.of_grown hgrow) (fun b hb => .inl hb)
  have hd2 := rowIs_touch h.cells t1 (by simp; exact fun e => h.ne d e rfl)
  obtain ⟨gg, hgg⟩ : ∃ cur, w2.heap[g]? = some (.cells cur 109 (0, 0)) := by
    rcases hown.2 with ⟨h0, _⟩ | ⟨g', cap', cur, hv, _, hg', _⟩
    · cases h0
    · cases hv; exact ⟨cur, hg'⟩
  have n1 : g ≠ d := cells_ne hd2 hgg (by decide)
  have t2 : Touch [d] w2 (w2.setCell ⟨d, 1, none⟩ (.slice (some ⟨g, 0, none⟩) (m.wait.length + 1) cap)) := (Touch.refl _ _).setCell (.inl (by simp)) _
  refine ⟨⟨World.rowIs.congr (World.rowIs.set hd2 1 _) (fun i hi => by rcases i with _ | _ | _ | _ | i <;> first | rfl | omega), ?_, fun g' hg' => by cases hg'; exact n1⟩, ?_⟩
  · have := ownsRow_touch hown t2 (fun g' hg' => by cases hg'; simp; exact n1)
    rw [waitCells_snoc] at this
    simp only [List.length_append, List.length_cons, List.length_nil]
    exact this
  · exact (t1.mono (fun b hb => .inl (by simp [refB] at hb ⊢; exact .inr hb))).trans t2 (fun b hb => .inl (by simp at hb; subst hb; simp [refB]))

set_option maxRecDepth 100000 in
set_option maxHeartbeats 2000000 in
theorem rwrite_any {w : World} {d : Nat} {wv : Value} {m : DM} (h : RefAt w d wv m) (hsz : ∀ t ∈ m.sure, t.size = 64) (hn : m.sure.length ≤ 65536) (i : Int) (s : ByteArray) (h1 : -9223372036854775808 ≤ i) (h2 : i ≤ 9223372036854775807) (hf : m.fuse ≤ 9223372036854775807)
    (hs : s.size ≤ 9223372036854775807) (hw : m.wait.length ≤ 1000000000) :
    Calls Try.prog 31 #[.pointer (some ⟨d, 0, none⟩), .int .i64 i, .string s] w fun e w' => e = .returned (.int .i64 (wrM m i s).1) ∧ GoesR w w' d (refB d wv) (wrM m i s).2 := by
  obtain ⟨_, _, _, c4⟩ := h.cell
  obtain ⟨i0, hi, hz0, hz1, hz2⟩ := info_parts Try.infoRefW
  have HLn := Lib.hid (rlen_any h hsz hn)
  by_cases hd : m.down = true
  · have F := Lib.hid (show wrM m i s = (11, m) by simp [wrM, hd])
    rw [hd] at c4
    clear hd
    go_enter Try.func31, Try.ntmps31
    go_wp2_with fail
    go_ret
    rw [F.out]
    exact ⟨rfl, GoesR.of_at h (Touch.refl [] _) (by simp)⟩
  · have hd : m.down = false := by simpa using hd
    rw [hd] at c4
    by_cases hneg : i < 0
    · have F := Lib.hid (show wrM m i s = (1, m) by simp [wrM, hd, hneg])
      clear hd
      go_enter Try.func31, Try.ntmps31
      go_wp2_with fail
      go_ret
      rw [F.out]
      exact ⟨rfl, GoesR.of_at h (Touch.refl [] _) (by simp)⟩
    · obtain ⟨i, rfl⟩ := Int.eq_ofNat_of_zero_le (show 0 ≤ i by omega)
      by_cases hbig : m.sure.length ≤ i
      · have F := Lib.hid (show wrM m i s = (1, m) by simp [wrM, hd, hbig])
        clear hd hneg
        go_enter Try.func31, Try.ntmps31
        go_wp2_with fail
        refine HLn.out.mono ?_
        rintro e w1 ⟨rfl, rfl⟩
        go_wp2_with fail
        go_ret
        rw [F.out]
        exact ⟨rfl, GoesR.of_at h (Touch.refl [] _) (by simp)⟩
      · have hlt : i < m.sure.length := by omega
        by_cases hz : s.size = 64
        · have hz' : ((s.size : Int) != 64) = false := by simp [hz]
          have hsp : wrM m i s = if (burnM m).1 then (0, { (burnM m).2 with wait := (burnM m).2.wait ++ [((i : Int), s)] }) else (11, (burnM m).2) := by
            have h1 : ¬ ((i : Int) < 0 ∨ (m.sure.length : Int) ≤ i ∨ s.size ≠ 64) := by omega
            unfold wrM; rw [hd, if_neg (by decide), if_neg h1]
          have hB := burnM_wait m
          have hb := rburn_any h hf
          have HB := Lib.hid hb
          clear hb hd hneg hbig hz
          cases hbb : (burnM m).1
          · rw [hbb] at hsp HB
            have F := Lib.hid hsp
            clear hsp hB hbb
            go_enter Try.func31, Try.ntmps31
            go_wp2_with fail
            refine HLn.out.mono ?_
            rintro e w1 ⟨rfl, rfl⟩
            go_wp2_with fail
            refine HB.out.mono ?_
            rintro e w1 ⟨rfl, hD1, ht1⟩
            go_wp2_with fail
            go_ret
            rw [F.out]
            exact ⟨rfl, GoesR.of_at hD1 ht1 (by simp [refB])⟩
          · rw [hbb] at hsp HB
            have F := Lib.hid hsp
            clear hsp hbb
            go_enter Try.func31, Try.ntmps31
            go_wp2_with fail
            refine HLn.out.mono ?_
            rintro e w1 ⟨rfl, rfl⟩
            go_wp2_with fail
            refine HB.out.mono ?_
            rintro e w1 ⟨rfl, hD1, ht1⟩
            clear c4
            have hl : (burnM m).2.wait.length ≤ 1000000000 := by rw [hB.1]; exact hw
            clear hB hw
            have H1 := Lib.hid hD1
            generalize (burnM m).2 = m1 at *
            obtain ⟨_, c1, _, _⟩ := hD1.cell
            have f1 := hD1.frozen 1
            have hown := hD1.wait
            have hdF : d ∉ wv.ownBlock.toList := by simp; exact fun e => (H1.out.ne d e) rfl
            have hdl : d < w1.heap.size := World.rowIs.lt H1.out.cells
            have HX := Lib.hid (And.intro hdF hdl)
            clear hD1 hdF hdl
            go_wp2_with (first
              | (at_builtin; refine wpList_append_near _ rfl (.tmp 31) (.tmp 35) 60 rfl 0 109 i0 _ 2 24 Try.underlying60 hi hz0 hz1 hz2 rfl (by decide) _ _ _ rfl (hown.alloc _) ⟨w1.heap.size, 0, none⟩ 1 1 [.int .i64 i, .string s] rfl (by decide) rfl ?c1 ?c2 ?c3 ?c4 ?c5 ?_)
              | fail)
            case c1 => exact cell_pair _ _ _ _
            case c2 => intro u hu; simp at hu; rcases hu with rfl | rfl <;> rfl
            case c3 => unfold maxLen; omega
            case c4 => omega
            case c5 => exact Nat.zero_le _
            · intro g cap w2 hown' hgrow hnear
              have HN := Lib.hid hnear
              clear hnear
              have t1 : Touch wv.ownBlock.toList w1 w2 := ((Touch.refl _ _).alloc _).trans (Touch.of_grown hgrow) (fun b hb => .inl hb)
              have k1 : w2.cell? ⟨d, 1, none⟩ = some wv := (t1.cell (p := ⟨d, 1, none⟩) HX.out.2 HX.out.1).trans c1
              have kf : w2.frozen? ⟨d, 1, none⟩ = false := (t1.frozen (p := ⟨d, 1, none⟩) HX.out.2 HX.out.1).trans f1
              have HO := Lib.hid hown'
              have HG := Lib.hid hgrow
              clear hown' hgrow t1 c1 f1 hown
              go_wp2_with fail
              go_ret
              rw [F.out]
              obtain ⟨hA, hT⟩ := ref_written H1.out HO.out HG.out
              refine ⟨rfl, _, ⟨_, hA, rfl⟩, (ht1.mono (fun b hb => .inl ?_)).trans hT (fun b hb => .inl hb), ?_⟩
              · simp at hb; subst hb; simp [refB]
              · intro b hb
                simp only [refB, List.mem_cons, Option.mem_toList] at hb ⊢
                rcases hb with rfl | hb
                · exact .inl (.inl rfl)
                · cases hb
                  rcases HN.out with hn | hn
                  · exact .inl (.inr hn)
                  · exact .inr (Nat.le_trans ht1.size (by first | exact hn | exact Nat.le_trans (by simp) hn))
        · have hz' : ((s.size : Int) != 64) = true := by simp; omega
          have F := Lib.hid (show wrM m i s = (1, m) by simp [wrM, hd, hz])
          clear hd hneg hbig hz
          go_enter Try.func31, Try.ntmps31
          go_wp2_with fail
          refine HLn.out.mono ?_
          rintro e w1 ⟨rfl, rfl⟩
          go_wp2_with fail
          go_ret
          rw [F.out]
          exact ⟨rfl, GoesR.of_at h (Touch.refl [] _) (by simp)⟩

end Go.Proofs.Yteijagojagfecaa
