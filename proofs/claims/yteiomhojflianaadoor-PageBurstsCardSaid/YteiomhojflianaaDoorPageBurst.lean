/- The walk of the law PageBursts. -/
import Derived.Test.YteiomhojflianaaDoorPageLawsD
import Derived.Test.YteiomhojflianaaDoorBurstPlain
import Derived.Lib.ConvBytes
namespace Go.Proofs.YteiomhojflianaaDoor
open Go.RowKit
set_option linter.unusedVariables false

/-- Block g holds these bytes. -/
def BytesAt (w : World) (g : Nat) (l : List UInt8) : Prop := ∀ j, j < l.length → w.cell? ⟨g, j, none⟩ = some (.int .u8 (l.getD j 0).toNat) ∧ w.frozen? ⟨g, j, none⟩ = false
theorem bytes_below (w : World) (e : TypeId) (s : ByteArray) : Below w.heap.size w (Lib.bytesWorld w e s) := by
  refine ⟨?_, ?_, ?_, ?_, fun j hj => Lib.bytesWorld_at_old w e s j hj⟩
  · simp [Lib.bytesWorld, World.freeze, World.alloc, World.drew, -World.alloc_eq, -World.drew_eq]
  · simp [Lib.bytesWorld, World.freeze, World.alloc, World.drew, -World.alloc_eq, -World.drew_eq]
  · simp [Lib.bytesWorld, World.freeze, World.alloc, World.drew, -World.alloc_eq, -World.drew_eq]
  · rw [Lib.bytesWorld_size]; omega
theorem bytes_at (w : World) (e : TypeId) (s : ByteArray) : BytesAt (Lib.bytesWorld w e s) w.heap.size s.data.toList := by
  intro j hj
  rw [data_length] at hj
  refine ⟨Lib.bytesWorld_cell w e s j hj, ?_⟩
  simp only [World.frozen?, Lib.bytesWorld_at_new, Lib.bytesCells]
  simp
  omega
theorem BytesAt.set {w : World} {g : Nat} {l : List UInt8} (h : BytesAt w g l) (i : Nat) (b : UInt8) (hi : i < l.length) : BytesAt (w.setCell ⟨g, i, none⟩ (.int .u8 b.toNat)) g (l.set i b) := by
  intro j hj
  rw [List.length_set] at hj
  refine ⟨?_, ?_⟩
  · by_cases e : i = j
    · subst e
      have hc := (h i hi).1
      rw [World.cell?_setCell_same _ _ _ hc]
      simp [List.getD, hi]
    · rw [World.cell?_setCell_other _ _ _ _ (by intro e'; injection e' with _ e'; exact e e'), (h j hj).1]
      simp [List.getD, List.getElem?_set, e]
  · rw [World.frozen?_setCell]; exact (h j hj).2

theorem bit_int (m k : Nat) : ((m : Int) / 2 ^ k).tmod 2 = ((m / 2 ^ k % 2 : Nat) : Int) := by
  have : (m : Int) / 2 ^ k = ((m / 2 ^ k : Nat) : Int) := by simp
  rw [this, Int.tmod_eq_emod_of_nonneg (Int.natCast_nonneg _)]; omega
/-- Has a bit been turned? -/
def tB (m k : Nat) : Bool := decide (m % 2 ^ k ≠ 0)

theorem tB_yes {m k : Nat} (h : m / 2 ^ k % 2 = 1) : Value.bool true = Value.bool (tB m (k + 1)) := by
  have := (mask_yes m k h).2
  unfold tB; simp [this]
theorem tB_true {m k : Nat} (h : tB m k = true) : m % 2 ^ k ≠ 0 := by simpa [tB] using h
theorem tB_false {m k : Nat} (h : tB m k = false) : m % 2 ^ k = 0 := by simpa [tB] using h
/-- The byte that is stored. -/
theorem burst_bit (b : UInt8) (j : Nat) (hj : j < 8) : bits .xor .u8 (b.toNat : Int) (2 ^ j % 256) = ((UInt8.ofNat (b.toNat ^^^ 2 ^ j)).toNat : Nat) := by
  have hb := b.toNat_lt
  have hp : 2 ^ j < 2 ^ 8 := Nat.pow_lt_pow_right (by decide) hj
  have hx : b.toNat ^^^ 2 ^ j < 2 ^ 8 := Nat.xor_lt_two_pow (by omega) hp
  have h1 : (2 : Int) ^ j % 256 = ((2 ^ j : Nat) : Int) := by
    have : (2 : Int) ^ j = ((2 ^ j : Nat) : Int) := by simp
    rw [this]; generalize 2 ^ j = x at hp; omega
  rw [h1, u8_xor_nat _ _ (by omega) (by omega), UInt8.toNat_ofNat', Nat.mod_eq_of_lt hx]
/-- What page.Unpack says of a page with bits turned. -/
theorem burst_turned {p : ByteArray} {l : List UInt8} {f m : Nat} (hz : p.size = 512) (hE : pgE p = 0) (h : Turned p.data.toList l f m) (hm : m ≠ 0) (hm' : m < 4294967296)
    (hf : (2 ^ f * m < 2 ^ 32) ∨ (32 ≤ f ∧ f ≤ 4096)) : pgE (S l) = 12 := by
  obtain ⟨-, hs, -⟩ := pgE_inv hE
  have hl : p.data.toList.length = 512 := by rw [data_length, hz]
  have hll : l.length = 512 := by rw [h.1, hl]
  refine pgE_sum (by rw [S_size, hll]) ?_
  have c0 : ∀ q : ByteArray, cut q 0 4 = q.data.toList.take 4 := fun q => by unfold cut; rw [List.drop_zero]
  have c4 : ∀ q : ByteArray, q.size = 512 → q.extract 4 512 = S (q.data.toList.drop 4) := fun q hq => by
    rw [extract_cut]; unfold cut; rw [List.take_of_length_le]; rw [List.length_drop, data_length, hq]; omega
  rw [c0, c4 p hz] at hs
  rw [c0, c4 (S l) (by rw [S_size, hll]), data_S]
  rcases hf with hf | ⟨hf1, hf2⟩
  · obtain ⟨e1, e2⟩ := h.sum (by omega) hm hf
    rw [e1, ← hs]
    intro e
    exact e2 (leN_inj (by rw [List.length_take, List.length_take, hll, hl]) e)
  · obtain ⟨g, rfl⟩ : ∃ g, f = 32 + g := ⟨f - 32, by omega⟩
    obtain ⟨e1, e2⟩ := h.rest (by omega) hm hm' (by omega)
    rw [e1, hs]
    refine fun e => crcV_turn (s := S (p.data.toList.drop 4)) (t := S (l.drop 4)) ?_ e
    rw [data_S, data_S]
    exact fun e => e2 e.symm

theorem burst_low {m f k : Nat} (h : f + k ≤ 32) : m % 2 ^ k * 2 ^ f < 2 ^ 32 := by
  have hk : m % 2 ^ k < 2 ^ k := Nat.mod_lt _ (Nat.pow_pos (by decide))
  have hp : 0 < 2 ^ f := Nat.pow_pos (by decide)
  calc m % 2 ^ k * 2 ^ f < 2 ^ k * 2 ^ f := Nat.mul_lt_mul_of_pos_right hk hp
    _ = 2 ^ (k + f) := (Nat.pow_add _ _ _).symm
    _ ≤ 2 ^ 32 := Nat.pow_le_pow_right (by decide) (by omega)
theorem turned_none {p : ByteArray} {l : List UInt8} {f m k : Nat} (h : Turned p.data.toList l f (m % 2 ^ k)) (hb : tB m k = false) : S l = p := by
  rw [tB_false hb] at h
  rw [h.none, S_data]
/-- 'string(b)'. -/
theorem conv_back (w : World) (g cap : Nat) (l : List UInt8) (n : Nat) (hn : l.length = n) (h : BytesAt w g l) :
    (convert 33 9 (.slice (some ⟨g, 0, none⟩) n cap)).run Tryd.prog w = .ok (.string (S l)) w := by
  subst hn
  refine run_convert_bytes_back (P := Tryd.prog) w 33 9 5 ⟨g, 0, none⟩ cap l Tryd.underlying33 Tryd.underlying5 Tryd.underlying9 ?_
  intro j hj
  have : (⟨g, 0, none⟩ : Addr).add j = ⟨g, j, none⟩ := by unfold Addr.add; split <;> simp_all
  rw [this, (h j hj).1]
  simp [List.getD, hj]

set_option maxRecDepth 100000 in
set_option maxHeartbeats 4000000 in
theorem pageBursts_walk (kind no : Int) (room : ByteArray) (at_ mask : Int) (w : World) (k1 : 0 ≤ kind) (k2 : kind ≤ 255) (n1 : 0 ≤ no) (n2 : no ≤ 255) (hs0 : room.size ≤ 140737488351232) (a1 : 0 ≤ at_) (a2 : at_ ≤ 65535) (m1 : 0 ≤ mask) (m2 : mask ≤ 4294967295) :
    Calls Tryd.prog 4 #[.int .u8 kind, .int .u8 no, .string room, .int .u16 at_, .int .u32 mask] w fun e w' => e = .returned (.bool true) ∧ Below w.heap.size w w' := by
  have ha : pgArg (1 + kind % 255) no = true := by unfold pgArg; simp; omega
  have HA := Lib.hid ha
  clear ha
  obtain ⟨m, rfl⟩ := Int.eq_ofNat_of_zero_le m1
  have hm32 : m < 4294967296 := by omega
  by_cases hr : room.size ≤ 496
  · by_cases hm : m = 0
    · subst hm
      go_enter Tryd.func4, Tryd.ntmps4
      go_wp2_with fail
      refine (pack_any _ no room _ HA.out hr).mono ?_
      rintro e w1 ⟨rfl, hb1⟩
      go_wp2_with fail
      refine (awake08_any _).mono ?_
      rintro e w2 ⟨rfl, hb2⟩
      go_wp2_with fail
      go_ret
      exact ⟨rfl, below_step hb2 hb1⟩
    · have e1 : ((m : Int) == 0) = false := by simpa using hm
      have e2 : (m == 0) = false := by simpa using hm
      have hz := pgStr_size (1 + kind % 255) no room hr
      have hok := fun W => unpack_packed (1 + kind % 255) no room W HA.out hr
      have hE := pack_E (1 + kind % 255) no room HA.out hr
      generalize hp : pgStr (1 + kind % 255) no room = p at hz hok hE
      have hz1 : 512 ≤ p.size := by omega
      have hz2 : p.size ≤ 512 := by omega
      have d1 : ((p.size : Int) != 512) = false := by rw [hz]; rfl
      have HP := Lib.hid hp
      have HZ := Lib.hid hz
      have HOK := Lib.hid hok
      have HE := Lib.hid hE
      obtain ⟨f, hf⟩ : ∃ f : Nat, at_ % 4096 = (f : Int) := ⟨(at_ % 4096).toNat, by omega⟩
      have hf1 : f ≤ 4095 := by omega
      clear hp hz hm hok hE
      by_cases hlow : f < 32
      · have hl1 : decide ((f : Int) < 32) = true := by simp; omega
        go_enter Tryd.func4, Tryd.ntmps4
        go_wp2_with fail
        refine (pack_any _ no room _ HA.out hr).mono ?_
        rintro e w1 ⟨rfl, hb1⟩
        rw [HP.out]
        have hcv := Lib.run_convert_string_bytes (P := Tryd.prog) w1 9 33 5 p Tryd.underlying9 Tryd.underlying33 Tryd.underlying5
        have hbb := bytes_below w1 5 p
        have hat := bytes_at w1 5 p
        generalize Lib.bytesWorld w1 5 p = wb at hcv hbb hat
        generalize grownCap w1 p.size 0 5 = cap at hcv
        have HBB := Lib.hid hbb
        have HAT := Lib.hid hat
        clear hbb hat
        go_wp2_with fail
        clear hcv
        rw [hf]
        clear hf
        go_loopw [16, 17] (fun t c wr => ∃ (k : Nat) (l : List UInt8), k ≤ 32 ∧ f + k ≤ 32 ∧ c = .int .i64 k ∧ t = .bool (tB m k) ∧ Turned p.data.toList l f (m % 2 ^ k) ∧ BytesAt wr w1.heap.size l ∧ Below w1.heap.size w1 wr) (fun _ c _ => 32 - (intOf c).toNat)
        case atStart =>
          refine ⟨0, p.data.toList, by omega, by omega, rfl, ?_, ?_, HAT.out, HBB.out⟩
          · unfold tB; rw [Nat.pow_zero, Nat.mod_one]; rfl
          · rw [Nat.pow_zero, Nat.mod_one]; exact Turned.refl _ _
        case round =>
          clear HAT HBB
          obtain ⟨k, l, hk, hfk, rfl, rfl, ht, hba, hbel⟩ := hrel
          have hll : l.length = 512 := by rw [ht.1, data_length, HZ.out]
          have HT := Lib.hid ht
          have HBA := Lib.hid hba
          have HBE := Lib.hid hbel
          have HL := Lib.hid hll
          clear ht hba hbel hll
          by_cases hkl : k < 32
          · by_cases hfl : f + k < 32
            · by_cases hbit : m / 2 ^ k % 2 = 1
              · have hi : (f + k) / 8 < l.length := by rw [HL.out]; omega
                obtain ⟨hc, hfz⟩ := HBA.out ((f + k) / 8) hi
                have hst := HBA.out.set ((f + k) / 8) (UInt8.ofNat (l[(f + k) / 8].toNat ^^^ 2 ^ ((f + k) % 8))) hi
                have htt := HT.out.step hbit hi
                have HST := Lib.hid hst
                have HTT := Lib.hid htt
                have b1 : ((m / 2 ^ k % 2 : Nat) : Int) = 1 := by omega
                have b2 : (((m : Int) / 2 ^ k).tmod 2 == 1) = true := by rw [bit_int m k, hbit]; rfl
                have hbit' := Lib.hid hbit
                clear hst htt hbit
                go_wp2
                go_roundw
                case rel =>
                  refine ⟨k + 1, l.set ((f + k) / 8) (UInt8.ofNat (l[(f + k) / 8].toNat ^^^ 2 ^ ((f + k) % 8))), by omega, by omega, by go_num, ?_, HTT.out, ?_, ?_⟩
                  · rw [tB_yes hbit'.out]
                  · rw [burst_bit _ _ (by omega)]; exact HST.out
                  · exact HBE.out.setCell (by simp) _
                case measure => simp [intOf]; omega
              · have hno : m / 2 ^ k % 2 = 0 := by omega
                have b2 : (((m : Int) / 2 ^ k).tmod 2 == 1) = false := by rw [bit_int m k, hno]; rfl
                have MN := Lib.hid (mask_no m k hbit)
                clear hbit hno
                go_wp2
                go_roundw
                case rel =>
                  refine ⟨k + 1, l, by omega, by omega, by go_num, ?_, by rw [MN.out]; exact HT.out, HBA.out, HBE.out⟩
                  unfold tB; rw [MN.out]
                case measure => simp [intOf]; omega
            · have hcv := conv_back wr w1.heap.size cap l p.size (by rw [HL.out, HZ.out]) HBA.out
              cases htb : tB m k
              · have hsl := Lib.hid (turned_none (HT.out) htb)
                clear htb
                go_wp2_with fail
                rw [hsl.out]
                refine (HOK.out _).mono ?_
                rintro e w2 ⟨rfl, hb2⟩
                go_wp2_with fail
                refine (awake08_any _).mono ?_
                rintro e w3 ⟨rfl, hb3⟩
                go_wp2_with fail
                go_ret
                exact ⟨rfl, below_step hb3 (below_step hb2 (below_step HBE.out hb1))⟩
              · have h12 := burst_turned HZ.out HE.out HT.out (tB_true htb) (by have := Nat.mod_le m (2 ^ k); omega) (.inl (by rw [← Nat.mul_comm]; exact burst_low (by omega)))
                have hub := fun W => unpack_bad (S l) no W (by rw [h12]; decide)
                rw [h12] at hub
                have HUB := Lib.hid hub
                clear htb h12 hub
                go_wp2_with fail
                refine (HUB.out _).mono ?_
                rintro e w2 ⟨rfl, hb2⟩
                go_wp2_with fail
                refine (awake08_any _).mono ?_
                rintro e w3 ⟨rfl, hb3⟩
                go_wp2_with fail
                go_ret
                exact ⟨rfl, below_step hb3 (below_step hb2 (below_step HBE.out hb1))⟩
          · have hcv := conv_back wr w1.heap.size cap l p.size (by rw [HL.out, HZ.out]) HBA.out
            cases htb : tB m k
            · have hsl := Lib.hid (turned_none (HT.out) htb)
              clear htb
              go_wp2_with fail
              rw [hsl.out]
              refine (HOK.out _).mono ?_
              rintro e w2 ⟨rfl, hb2⟩
              go_wp2_with fail
              refine (awake08_any _).mono ?_
              rintro e w3 ⟨rfl, hb3⟩
              go_wp2_with fail
              go_ret
              exact ⟨rfl, below_step hb3 (below_step hb2 (below_step HBE.out hb1))⟩
            · have h12 := burst_turned HZ.out HE.out HT.out (tB_true htb) (by have := Nat.mod_le m (2 ^ k); omega) (.inl (by rw [← Nat.mul_comm]; exact burst_low (by omega)))
              have hub := fun W => unpack_bad (S l) no W (by rw [h12]; decide)
              rw [h12] at hub
              have HUB := Lib.hid hub
              clear htb h12 hub
              go_wp2_with fail
              refine (HUB.out _).mono ?_
              rintro e w2 ⟨rfl, hb2⟩
              go_wp2_with fail
              refine (awake08_any _).mono ?_
              rintro e w3 ⟨rfl, hb3⟩
              go_wp2_with fail
              go_ret
              exact ⟨rfl, below_step hb3 (below_step hb2 (below_step HBE.out hb1))⟩
      · have hl1 : decide ((f : Int) < 32) = false := by simp; omega
        go_enter Tryd.func4, Tryd.ntmps4
        go_wp2_with fail
        refine (pack_any _ no room _ HA.out hr).mono ?_
        rintro e w1 ⟨rfl, hb1⟩
        rw [HP.out]
        have hcv := Lib.run_convert_string_bytes (P := Tryd.prog) w1 9 33 5 p Tryd.underlying9 Tryd.underlying33 Tryd.underlying5
        have hbb := bytes_below w1 5 p
        have hat := bytes_at w1 5 p
        generalize Lib.bytesWorld w1 5 p = wb at hcv hbb hat
        generalize grownCap w1 p.size 0 5 = cap at hcv
        have HBB := Lib.hid hbb
        have HAT := Lib.hid hat
        clear hbb hat
        go_wp2_with fail
        clear hcv
        rw [hf]
        clear hf
        go_loopw [16, 17] (fun t c wr => ∃ (k : Nat) (l : List UInt8), k ≤ 32 ∧ f + k ≤ 4096 ∧ c = .int .i64 k ∧ t = .bool (tB m k) ∧ Turned p.data.toList l f (m % 2 ^ k) ∧ BytesAt wr w1.heap.size l ∧ Below w1.heap.size w1 wr) (fun _ c _ => 32 - (intOf c).toNat)
        case atStart =>
          refine ⟨0, p.data.toList, by omega, by omega, rfl, ?_, ?_, HAT.out, HBB.out⟩
          · unfold tB; rw [Nat.pow_zero, Nat.mod_one]; rfl
          · rw [Nat.pow_zero, Nat.mod_one]; exact Turned.refl _ _
        case round =>
          clear HAT HBB
          obtain ⟨k, l, hk, hfk, rfl, rfl, ht, hba, hbel⟩ := hrel
          have hll : l.length = 512 := by rw [ht.1, data_length, HZ.out]
          have HT := Lib.hid ht
          have HBA := Lib.hid hba
          have HBE := Lib.hid hbel
          have HL := Lib.hid hll
          clear ht hba hbel hll
          by_cases hkl : k < 32
          · by_cases hfl : f + k < 4096
            · by_cases hbit : m / 2 ^ k % 2 = 1
              · have hi : (f + k) / 8 < l.length := by rw [HL.out]; omega
                obtain ⟨hc, hfz⟩ := HBA.out ((f + k) / 8) hi
                have hst := HBA.out.set ((f + k) / 8) (UInt8.ofNat (l[(f + k) / 8].toNat ^^^ 2 ^ ((f + k) % 8))) hi
                have htt := HT.out.step hbit hi
                have HST := Lib.hid hst
                have HTT := Lib.hid htt
                have b1 : ((m / 2 ^ k % 2 : Nat) : Int) = 1 := by omega
                have b2 : (((m : Int) / 2 ^ k).tmod 2 == 1) = true := by rw [bit_int m k, hbit]; rfl
                have hbit' := Lib.hid hbit
                clear hst htt hbit
                go_wp2
                go_roundw
                case rel =>
                  refine ⟨k + 1, l.set ((f + k) / 8) (UInt8.ofNat (l[(f + k) / 8].toNat ^^^ 2 ^ ((f + k) % 8))), by omega, by omega, by go_num, ?_, HTT.out, ?_, ?_⟩
                  · rw [tB_yes hbit'.out]
                  · rw [burst_bit _ _ (by omega)]; exact HST.out
                  · exact HBE.out.setCell (by simp) _
                case measure => simp [intOf]; omega
              · have hno : m / 2 ^ k % 2 = 0 := by omega
                have b2 : (((m : Int) / 2 ^ k).tmod 2 == 1) = false := by rw [bit_int m k, hno]; rfl
                have MN := Lib.hid (mask_no m k hbit)
                clear hbit hno
                go_wp2
                go_roundw
                case rel =>
                  refine ⟨k + 1, l, by omega, by omega, by go_num, ?_, by rw [MN.out]; exact HT.out, HBA.out, HBE.out⟩
                  unfold tB; rw [MN.out]
                case measure => simp [intOf]; omega
            · have hcv := conv_back wr w1.heap.size cap l p.size (by rw [HL.out, HZ.out]) HBA.out
              cases htb : tB m k
              · have hsl := Lib.hid (turned_none (HT.out) htb)
                clear htb
                go_wp2_with fail
                rw [hsl.out]
                refine (HOK.out _).mono ?_
                rintro e w2 ⟨rfl, hb2⟩
                go_wp2_with fail
                refine (awake08_any _).mono ?_
                rintro e w3 ⟨rfl, hb3⟩
                go_wp2_with fail
                go_ret
                exact ⟨rfl, below_step hb3 (below_step hb2 (below_step HBE.out hb1))⟩
              · have h12 := burst_turned HZ.out HE.out HT.out (tB_true htb) (by have := Nat.mod_le m (2 ^ k); omega) (.inr ⟨by omega, by omega⟩)
                have hub := fun W => unpack_bad (S l) no W (by rw [h12]; decide)
                rw [h12] at hub
                have HUB := Lib.hid hub
                clear htb h12 hub
                go_wp2_with fail
                refine (HUB.out _).mono ?_
                rintro e w2 ⟨rfl, hb2⟩
                go_wp2_with fail
                refine (awake08_any _).mono ?_
                rintro e w3 ⟨rfl, hb3⟩
                go_wp2_with fail
                go_ret
                exact ⟨rfl, below_step hb3 (below_step hb2 (below_step HBE.out hb1))⟩
          · have hcv := conv_back wr w1.heap.size cap l p.size (by rw [HL.out, HZ.out]) HBA.out
            cases htb : tB m k
            · have hsl := Lib.hid (turned_none (HT.out) htb)
              clear htb
              go_wp2_with fail
              rw [hsl.out]
              refine (HOK.out _).mono ?_
              rintro e w2 ⟨rfl, hb2⟩
              go_wp2_with fail
              refine (awake08_any _).mono ?_
              rintro e w3 ⟨rfl, hb3⟩
              go_wp2_with fail
              go_ret
              exact ⟨rfl, below_step hb3 (below_step hb2 (below_step HBE.out hb1))⟩
            · have h12 := burst_turned HZ.out HE.out HT.out (tB_true htb) (by have := Nat.mod_le m (2 ^ k); omega) (.inr ⟨by omega, by omega⟩)
              have hub := fun W => unpack_bad (S l) no W (by rw [h12]; decide)
              rw [h12] at hub
              have HUB := Lib.hid hub
              clear htb h12 hub
              go_wp2_with fail
              refine (HUB.out _).mono ?_
              rintro e w2 ⟨rfl, hb2⟩
              go_wp2_with fail
              refine (awake08_any _).mono ?_
              rintro e w3 ⟨rfl, hb3⟩
              go_wp2_with fail
              go_ret
              exact ⟨rfl, below_step hb3 (below_step hb2 (below_step HBE.out hb1))⟩
  · have hr' : 496 < room.size := by omega
    go_enter Tryd.func4, Tryd.ntmps4
    go_wp2_with fail
    refine (pack_large _ no room _ HA.out hr').mono ?_
    rintro e w1 ⟨rfl, rfl⟩
    go_wp2_with fail
    refine (awake08_any _).mono ?_
    rintro e w1 ⟨rfl, hb1⟩
    go_wp2_with fail
    go_ret
    exact ⟨rfl, hb1⟩

end Go.Proofs.YteiomhojflianaaDoor
