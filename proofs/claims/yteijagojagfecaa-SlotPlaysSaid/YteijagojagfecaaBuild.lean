/- strings.Builder: writing and reading, with a frame that tells two builders apart. -/
import Derived.Test.YteijagojagfecaaShelf
import Derived.Test.YteijagojagfecaaFrame
import Derived.Test.YteijagojagfecaaWord
import Derived.Shelf.Strings.BuilderF
namespace Go.Proofs.Yteijagojagfecaa
open Go.RowKit Go.Joins
set_option linter.unusedVariables false

section
variable {P : Program} (w : World)
/-- Appending a string's bytes to a row of the call's own: the row stays where it was, or is new. -/
theorem run_append_near_string (t u ty e : TypeId) (i : TypeInfo) (ht : P.underlying t = some (.slice e)) (hu : P.underlying u = some .string) (hi : P.info? e = some i) (hz : i.zero = some (.int .u8 0)) (hsize : i.size = 1) (hby : i.bytes = 1)
    (v : Value) (n : Nat) (xs : List Value) (hown : w.ownsRow 0 e 1 v n xs) (s : ByteArray) (h63 : n + s.size ≤ maxLen) (hbytes : n + s.size ≤ 140737488355328) :
    ∃ v' w', (Builtin.append_ #[t, u] ty #[v, .string s]).run P w = .ok v' w' ∧ w'.ownsRow 0 e 1 v' (n + s.size) (xs ++ Lib.strCells s) ∧ w.grownBy w' v.ownBlock ∧ (∀ g, v'.ownBlock = some g → v.ownBlock = some g ∨ w.heap.size ≤ g) ∧ (v = .slice none 0 0 → s.size = 0 → v' = .slice none 0 0) := by
  have m : maxLen = 9223372036854775807 := rfl
  rcases hown.2 with ⟨rfl, rfl⟩ | ⟨g, cap, cur, rfl, _, hg, hnc, hcm, hcs, htk⟩
  · have hx : xs = [] := List.eq_nil_of_length_eq_zero (by simpa using hown.1)
    subst hx
    obtain ⟨v', w', h1, h2, h3, h4⟩ := Lib.run_append_own_string (P := P) w w.heap.size t u ty e i ht hu hi hz hsize hby (.slice none 0 0) 0 [] (World.ownsRow_nil _ _ _ _) s h63 hbytes (Nat.le_refl _)
    exact ⟨v', w', h1, ownsRow_le h2 (Nat.zero_le _), h3, fun g hg => .inr (h2.lt g hg).1, fun _ h0 => h4.2 ⟨rfl, h0⟩⟩
  · have hxl : xs.length = n := by simpa using hown.1
    have hlen : (xs ++ Lib.strCells s).length = (n + s.size) * 1 := by rw [List.length_append, hxl, Lib.strCells_length, Nat.mul_one]
    by_cases hroom : n + s.size ≤ cap
    · have hr := Lib.run_append_room_string (P := P) w t u ty e i ht hu hi hsize g n cap cur hg s hroom (by omega)
      refine ⟨_, _, hr, ⟨hlen, .inr ⟨g, cap, _, rfl, Nat.zero_le _, setRow_heap w g cur _ e _ hg, hroom, hcm, ?_, ?_⟩⟩, ⟨rfl, rfl, rfl, by simp, fun k _ hk => setRow_other w g k _ (fun e => hk (by simp [Value.ownBlock, e]))⟩, fun g' hg' => .inl hg', fun h => by cases h⟩
      · simp only [List.size_toArray, List.length_append, List.length_take, List.length_drop, Array.length_toList, Lib.strCells_length]; omega
      · have ht' : cur.toList.take n = xs := by simpa using htk
        rw [ht', ← hlen]
        exact List.take_left
    · have hr := Lib.run_append_grow_string (P := P) w t u ty e i (.int .u8 0) ht hu hi hz ⟨g, 0, none⟩ n cap xs (by rw [hsize]; simpa using hxl) (hown.cells (g := g) rfl) s (by omega) (by omega) (by rw [hby]; exact growslice_fits (by omega) (by omega))
      refine ⟨_, _, hr, ⟨hlen, .inr ⟨w.heap.size, _, _, rfl, Nat.zero_le _, heap_alloc_new w.drew _, grownCap_ge w (n + s.size) cap e, grownCap_le_maxLen w (n + s.size) cap e h63, ?_, ?_⟩⟩, ⟨rfl, rfl, rfl, by simp, fun k hk _ => heap_alloc_old w.drew _ hk⟩, fun g' hg' => .inr (by simp [Value.ownBlock] at hg'; omega), fun h => by cases h⟩
      · have hz1 : (Value.int IntKind.u8 0).cells.size = 1 := rfl
        have := grownCap_ge w (n + s.size) cap e
        simp only [Array.size_append, List.size_toArray, size_zeroCells, hz1, hxl, Lib.strCells_length]; omega
      · simp only [Array.toList_append, List.append_assoc]
        rw [← List.append_assoc, ← hlen]
        exact List.take_left
theorem wpList_append_near_string {ops : Array Oper} {rest : List Oper} {o : Oper} {a : Act} {Q : Exit → Act → World → Prop} (hgd : o.guard = none) (sl x : Operand) (t u : TypeId)
    (ho : o.op = .call { callee := .builtin .append, args := #[sl, x], argTypes := #[t, u] })
    (e : TypeId) (i : TypeInfo) (ht : P.underlying t = some (.slice e)) (hu : P.underlying u = some .string) (hi : P.info? e = some i) (hz : i.zero = some (.int .u8 0)) (hsize : i.size = 1) (hby : i.bytes = 1)
    (v : Value) (n : Nat) (xs : List Value) (hs : a.eval sl = v) (hown : w.ownsRow 0 e 1 v n xs) (s : ByteArray) (hx : a.eval x = .string s) (h63 : n + s.size ≤ maxLen) (hbytes : n + s.size ≤ 140737488355328)
    (h : ∀ v' w', w'.ownsRow 0 e 1 v' (n + s.size) (xs ++ Lib.strCells s) → w.grownBy w' v.ownBlock → (∀ g, v'.ownBlock = some g → v.ownBlock = some g ∨ w.heap.size ≤ g) → (v = .slice none 0 0 → s.size = 0 → v' = .slice none 0 0) → wpList P ops Q rest (a.put o.dst v') w') : wpList P ops Q (o :: rest) a w := by
  refine wpList_plain hgd fun K hK => ?_
  obtain ⟨v', w', hr, h2, h3, h4, h5⟩ := run_append_near_string (P := P) w t u o.type e i ht hu hi hz hsize hby v n xs hown s h63 hbytes
  unfold Oper.wp execOp
  simp only [ho, resolve, invoke, builtin, Sem.run_bind, Sem.run_pure, Result.andThen_ok, List.map_toArray, List.map_cons, List.map_nil, hs, hx, hr]
  exact hK _ _ (h v' w' h2 h3 h4 h5)
end

/-- A builder in block b: its pointer p, its row v, its bytes. -/
structure BAt (w : World) (b : Nat) (p v : Value) (l : List UInt8) : Prop where
  blk : w.heap[b]? = some (.cells #[p, v] 99 (0, 0))
  row : w.ownsRow 0 5 1 v l.length (Lib.byteCells l)
  ne : v.ownBlock ≠ some b
  ptr : p = .pointer none ∨ p = .pointer (some ⟨b, 0, none⟩)
  nil0 : l = [] → v = .slice none 0 0
def bldB (b : Nat) (v : Value) : List Nat := b :: v.ownBlock.toList
/-- A builder, wherever its row lies. -/
def IsB (w : World) (b : Nat) (F : List Nat) (l : List UInt8) : Prop := ∃ p v, BAt w b p v l ∧ F = bldB b v
theorem BAt.lt {w : World} {b : Nat} {p v : Value} {l : List UInt8} (h : BAt w b p v l) : ∀ x ∈ bldB b v, x < w.heap.size := by
  intro x hx
  simp only [bldB, List.mem_cons, Option.mem_toList] at hx
  rcases hx with rfl | hx
  · exact (Array.getElem?_eq_some_iff.1 h.blk).1
  · exact (h.row.lt x hx).2
theorem BAt.touch {w w' : World} {b : Nat} {p v : Value} {l : List UInt8} {F : List Nat} (h : BAt w b p v l) (t : Touch F w w') (hF : ∀ x ∈ bldB b v, x ∉ F) : BAt w' b p v l :=
  ⟨(t.block (h.lt b (by simp [bldB])) (hF b (by simp [bldB]))).trans h.blk, ownsRow_touch h.row t (fun g hg => hF g (by simp [bldB, hg])), h.ne, h.ptr, h.nil0⟩
theorem IsB.lt {w : World} {b : Nat} {F : List Nat} {l : List UInt8} (h : IsB w b F l) : ∀ x ∈ F, x < w.heap.size := by
  obtain ⟨p, v, h, rfl⟩ := h
  exact h.lt
theorem IsB.touch {w w' : World} {b : Nat} {l : List UInt8} {F G : List Nat} (h : IsB w b G l) (t : Touch F w w') (hF : ∀ x ∈ G, x ∉ F) : IsB w' b G l := by
  obtain ⟨p, v, h, rfl⟩ := h
  exact ⟨p, v, h.touch t hF, rfl⟩
theorem IsB.new (w : World) : IsB (w.alloc (.cells #[.pointer none, .slice none 0 0] 99)) w.heap.size [w.heap.size] [] :=
  ⟨_, _, ⟨heap_alloc_new w _, World.ownsRow_nil _ _ _ _, (fun h => by cases h), .inl rfl, fun _ => rfl⟩, rfl⟩

theorem Try.sizeB : (Try.prog.info? 99).map (fun i => i.size) = some 2 := by kernel_rfl
theorem neBU : (99 : Nat) ≠ 5 := by decide

set_option maxRecDepth 100000 in
theorem copyCheck_fresh (b : Nat) (w : World) (h0 : w.cell? ⟨b, 0, none⟩ = some (.pointer none)) (hsh : w.shape? b = some (99, 2)) (hfz : w.frozen? ⟨b, 0, none⟩ = false) :
    Calls Try.prog 76 #[.pointer (some ⟨b, 0, none⟩)] w fun e w' => e = .returned (.tuple #[]) ∧ w' = w.setCell ⟨b, 0, none⟩ (.pointer (some ⟨b, 0, none⟩)) :=
  Any.Builder_copyCheck_fresh (ρ := Try.lays105_ren) { Try.lays105 with } Try.Builder_Extra_105.toX72 b w h0 hsh hfz
set_option maxRecDepth 100000 in
theorem copyCheck_used (b : Nat) (w : World) (h0 : w.cell? ⟨b, 0, none⟩ = some (.pointer (some ⟨b, 0, none⟩))) :
    Calls Try.prog 76 #[.pointer (some ⟨b, 0, none⟩)] w fun e w' => e = .returned (.tuple #[]) ∧ w' = w :=
  Any.Builder_copyCheck_used (ρ := Try.lays105_ren) { Try.lays105 with } Try.Builder_Extra_105.toX72 b w h0
theorem copyCheck_at {w : World} {b : Nat} {p v : Value} {l : List UInt8} (h : BAt w b p v l) :
    Calls Try.prog 76 #[.pointer (some ⟨b, 0, none⟩)] w fun e w' => e = .returned (.tuple #[]) ∧ BAt w' b (.pointer (some ⟨b, 0, none⟩)) v l ∧ Touch [b] w w' := by
  rcases h.ptr with rfl | rfl
  · refine (copyCheck_fresh b w (by rw [Lib.cell_of_heap h.blk]; rfl) (by simp [World.shape?, h.blk]) (by simp [World.frozen?, h.blk])).mono ?_
    rintro e w' ⟨rfl, rfl⟩
    have t : Touch [b] w (w.setCell ⟨b, 0, none⟩ (.pointer (some ⟨b, 0, none⟩))) := (Touch.refl _ _).setCell (.inl (by simp)) _
    refine ⟨rfl, ⟨?_, ownsRow_touch h.row t (fun g hg => by simp; exact fun e => h.ne (by rw [hg, e])), h.ne, .inr rfl, h.nil0⟩, t⟩
    simp [World.setCell, Array.getElem?_modify, h.blk]
  · refine (copyCheck_used b w (by rw [Lib.cell_of_heap h.blk]; rfl)).mono ?_
    rintro e w' ⟨rfl, rfl⟩
    exact ⟨rfl, h, Touch.refl _ _⟩

theorem strCells_bytes (l : List UInt8) (s : ByteArray) : Lib.byteCells l ++ Lib.strCells s = Lib.byteCells (l ++ s.data.toList) := by
  simp [Lib.byteCells, Lib.strCells]

set_option maxRecDepth 100000 in
set_option maxHeartbeats 1000000 in
theorem writeString_any {w : World} {b : Nat} {F : List Nat} {l : List UInt8} (h : IsB w b F l) (s : ByteArray) (hlen : l.length + s.size ≤ 140737488355328) :
    Calls Try.prog 57 #[.pointer (some ⟨b, 0, none⟩), .string s] w fun e w' => e = .returned (.tuple #[.int .i64 s.size, .nilIface]) ∧ ∃ F', IsB w' b F' (l ++ s.data.toList) ∧ Touch F w w' ∧ ∀ x ∈ F', x ∈ F ∨ w.heap.size ≤ x := by
  obtain ⟨p, v, h, rfl⟩ := h
  obtain ⟨i0, hi, hz0, hz1, hz2⟩ := info_parts Try.infoByte
  have HC := Lib.hid (copyCheck_at h)
  have hlt := h.lt
  have HL := Lib.hid hlt
  clear hlt h
  go_enter Try.func57, Try.ntmps57
  go_wp2_with fail
  refine HC.out.mono ?_
  rintro e w1 ⟨rfl, h1, t1⟩
  have c0 : w1.cell? ⟨b, 0, none⟩ = some (.pointer (some ⟨b, 0, none⟩)) := by rw [Lib.cell_of_heap h1.blk]; rfl
  have c1 : w1.cell? ⟨b, 1, none⟩ = some v := by rw [Lib.cell_of_heap h1.blk]; rfl
  have H1 := Lib.hid h1
  have hrow := h1.row
  clear h1
  go_wp2_with (at_builtin; refine wpList_append_near_string _ rfl _ _ 92 9 rfl 5 i0 Try.underlying92 Try.underlying9 hi hz0 hz1 hz2 _ _ _ rfl hrow s rfl ?c3 ?c4 ?_)
  case c3 => unfold maxLen; omega
  case c4 => omega
  intro v' w2 hown' hgrow hnear hnil
  have h1 := H1.out
  have hb2 : w2.heap[b]? = some (.cells #[.pointer (some ⟨b, 0, none⟩), v] 99 (0, 0)) := by
    rw [hgrow.block b (h1.lt b (by simp [bldB])) (fun e => h1.ne e.symm)]
    exact h1.blk
  have d0 : w2.cell? ⟨b, 0, none⟩ = some (.pointer (some ⟨b, 0, none⟩)) := by rw [Lib.cell_of_heap hb2]; rfl
  have d1 : w2.cell? ⟨b, 1, none⟩ = some v := by rw [Lib.cell_of_heap hb2]; rfl
  have f1 : w2.frozen? ⟨b, 1, none⟩ = false := Lib.frozen_of_heap hb2 1
  obtain ⟨ao, n', cap, rfl⟩ : ∃ ao n' cap, v' = .slice ao n' cap := by
    rcases ownsRow_forms hown' with ⟨hv, _⟩ | ⟨g, cap, hv⟩
    · exact ⟨_, _, _, hv⟩
    · exact ⟨_, _, _, hv⟩
  have HO := Lib.hid hown'
  have HG := Lib.hid hgrow
  have HN := Lib.hid hnear
  have HZ := Lib.hid hnil
  clear h1 hown' hgrow hnear hnil
  go_wp2
  go_ret2
  have h1 := H1.out
  have tg : Touch v.ownBlock.toList w1 w2 := Touch.of_grown HG.out
  have t2 : Touch [b] w2 (w2.setCell ⟨b, 1, none⟩ (.slice ao n' cap)) := (Touch.refl _ _).setCell (.inl (by simp)) _
  have hnb : (Value.slice ao n' cap).ownBlock ≠ some b := by
    intro e
    rcases HN.out b e with h' | h'
    · exact h1.ne h'
    · have := h1.lt b (by simp [bldB]); omega
  refine ⟨rfl, bldB b (.slice ao n' cap), ⟨.pointer (some ⟨b, 0, none⟩), .slice ao n' cap, ⟨?_, ?_, hnb, .inr rfl, fun e => HZ.out (h1.nil0 (List.append_eq_nil_iff.1 e).1) (by have := (List.append_eq_nil_iff.1 e).2; simpa using congrArg List.length this)⟩, rfl⟩, ?_, ?_⟩
  · simp [World.setCell, Array.getElem?_modify, hb2]
  · have := ownsRow_touch HO.out t2 (fun g hg => by simp; exact fun e => hnb (by rw [hg, e]))
    rw [strCells_bytes] at this
    simpa using this
  · refine ((t1.mono (fun x hx => .inl ?_)).trans tg (fun x hx => .inl ?_)).trans t2 (fun x hx => .inl ?_)
    · simp at hx; subst hx; simp [bldB]
    · simp [bldB]; simp at hx; exact .inr hx
    · simp at hx; subst hx; simp [bldB]
  · intro x hx
    simp only [bldB, List.mem_cons, Option.mem_toList] at hx ⊢
    rcases hx with rfl | hx
    · exact .inl (.inl rfl)
    · rcases HN.out x hx with h' | h'
      · exact .inl (.inr h')
      · exact .inr (Nat.le_trans t1.size h')

theorem Touch.freeze {F : List Nat} {w w' : World} (h : Touch F w w') {p : Addr} (hp : p.block ∈ F ∨ w.heap.size ≤ p.block) (n : Nat) : Touch F w (w'.freeze p n) := by
  unfold World.freeze
  split
  · exact h
  · refine ⟨h.1, h.2.1, h.2.2.1, by simpa using h.size, fun b hb hF => ?_⟩
    simp only [Array.getElem?_modify]
    rw [if_neg (by
      rintro rfl
      rcases hp with hp | hp
      · exact hF hp
      · omega)]
    exact h.block hb hF

set_option maxRecDepth 100000 in
set_option maxHeartbeats 1000000 in
theorem stringB_any {w : World} {b : Nat} {F : List Nat} {l : List UInt8} (h : IsB w b F l) :
    Calls Try.prog 59 #[.pointer (some ⟨b, 0, none⟩)] w fun e w' => e = .returned (.string (S l)) ∧ Touch F w w' := by
  obtain ⟨p, v, h, rfl⟩ := h
  have hbk : w.drew.heap[b]? = some (.cells #[p, v] 99 (0, 0)) := h.blk
  have c1 : w.drew.cell? ⟨b, 1, none⟩ = some v := by rw [Lib.cell_of_heap hbk]; rfl
  have hrow := h.row
  have HT := Lib.hid h
  by_cases h0 : l = []
  · subst h0
    have hv := h.nil0 rfl
    subst hv
    have hSD : (Builtin.unsafeSliceData_ #[92] 121 #[.slice none 0 0]).run Try.prog w.drew = .ok (.pointer none) w.drew := rfl
    have hUS : (Builtin.unsafeString_ #[121, 3] 9 #[.pointer none, .int .i64 0]).run Try.prog w.drew = .ok (.string .empty) w.drew := Lib.run_unsafeString_none _ _ _ _ _
    clear h hrow
    go_enter Try.func59, Try.ntmps59
    go_wp2_with fail
    go_region
    all_goals (go_wp2_with fail; go_ret; exact ⟨rfl, (Touch.refl _ _).drew⟩)
  · have hl0 : l.length ≠ 0 := by simpa using h0
    obtain ⟨g, cap, cur, rfl, hg, hnc, hcm, hcs⟩ : ∃ g cap cur, v = .slice (some ⟨g, 0, none⟩) l.length cap ∧ w.heap[g]? = some (.cells cur 5 (0, 0)) ∧ l.length ≤ cap ∧ cap ≤ maxLen ∧ cur.size = cap * 1 := by
      rcases h.row.2 with ⟨_, hz⟩ | ⟨g, cap, cur, hv, _, hg, hnc, hcm, hcs, _⟩
      · exact absurd hz hl0
      · exact ⟨g, cap, cur, hv, hg, hnc, hcm, hcs⟩
    have m : maxLen = 9223372036854775807 := rfl
    have hSD : (Builtin.unsafeSliceData_ #[92] 121 #[.slice (some ⟨g, 0, none⟩) l.length cap]).run Try.prog w.drew = .ok (.pointer (some ⟨g, 0, none⟩)) w.drew := Lib.run_unsafeSliceData_row _ _ _ _ _ _ (by omega)
    have hUS : (Builtin.unsafeString_ #[121, 3] 9 #[.pointer (some ⟨g, 0, none⟩), .int .i64 l.length]).run Try.prog w.drew = .ok (.string ⟨l.toArray⟩) (w.drew.freeze ⟨g, 0, none⟩ l.length) := by
      refine Lib.run_unsafeString_row w.drew 121 3 9 5 Try.underlying121 (by kernel_rfl) g cur.size (by have hg' : w.drew.heap[g]? = some (.cells cur 5 (0, 0)) := hg; simp [World.shape?, hg']) l h0 (by omega) (by omega) ?_
      intro j x hx
      exact h.row.cells (g := g) rfl j (.int .u8 x.toNat) (by simp [Lib.byteCells, hx])
    have hlb : (l.length : Int) ≤ 9223372036854775807 := by omega
    clear h hrow hg hnc hcm hcs
    go_enter Try.func59, Try.ntmps59
    go_wp2_with fail
    go_region
    all_goals (go_wp2_with fail; go_ret; exact ⟨rfl, (Touch.refl _ _).drew.freeze (p := ⟨g, 0, none⟩) (.inl (by simp [bldB, Value.ownBlock])) _⟩)

end Go.Proofs.Yteijagojagfecaa
