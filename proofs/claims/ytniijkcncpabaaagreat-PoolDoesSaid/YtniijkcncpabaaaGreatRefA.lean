/- The reference's sum of bytes. -/
import Derived.Test.YtniijkcncpabaaaGreatCrc
namespace Go.Proofs.YtniijkcncpabaaaGreat
open Go.RowKit Go.MapKept
set_option maxRecDepth 100000
set_option maxHeartbeats 1000000

theorem laid1_mod (n : Int) (h0 : 0 ≤ n) (h1 : n < 4294967296) : laid1 n = if n % 2 = 1 then bits .xor .u32 (n / 2) 2197175160 else n / 2 := by
  unfold laid1
  rw [bits_and1 n h0 h1]
  by_cases h : n % 2 = 1 <;> simp [h]
theorem xor_max (m : Int) (h0 : 0 ≤ m) (h1 : m < 4294967296) : bits .xor .u32 IntKind.u32.max m = 4294967295 - m := by
  rw [u32_xor _ _ (by decide) (by decide) h0 h1]
  have e : IntKind.u32.max.toNat = 2 ^ 32 - 1 := by decide
  rw [e]
  have key : (2 ^ 32 - 1) ^^^ m.toNat = 2 ^ 32 - (m.toNat + 1) := by
    apply Nat.eq_of_testBit_eq
    intro i
    rw [Nat.testBit_xor, Nat.testBit_two_pow_sub_one, Nat.testBit_two_pow_sub_succ (by omega)]
    by_cases hi : i < 32
    · simp [hi]
    · have : m.toNat.testBit i = false := Nat.testBit_lt_two_pow (Nat.lt_of_lt_of_le (show m.toNat < 2 ^ 32 by omega) (Nat.pow_le_pow_right (by decide) (by omega)))
      simp [hi, this]
  rw [key]; omega
theorem of2_ok (s : ByteArray) (w : World) (hs : s.size ≤ 140737488351232) :
    Calls Tryz.prog 43 #[.string s] w fun e w' => e = .returned (.int .u32 (crc s.data.toList)) ∧ w = w' := by
  have hlen : s.data.toList.length = s.size := by simp
  go_enter Tryz.func43, Tryz.ntmps43
  go_wp2
  go_loop [3, 4] (fun x i => ∃ (k : Nat) (m : Int), k ≤ s.size ∧ i = .int .i64 k ∧ x = .int .u32 m ∧ m = crcL (s.data.toList.take k)) (fun _ i => s.size - (intOf i).toNat)
  case atStart => exact ⟨0, _, by omega, rfl, rfl, rfl⟩
  case round =>
    obtain ⟨k, m, hk, rfl, rfl, hm⟩ := hrel
    have hr : 0 ≤ m ∧ m < 4294967296 := by rw [hm]; exact crcF_range _ _ (by omega)
    by_cases hlt : k < s.size
    · have hn : crcL (s.data.toList.take (k + 1)) = laidN 8 (bits .xor .u32 m ((s.data.toList[k]'(by omega)).toNat : Int)) := by
        rw [crc_take _ _ (by omega), ← hm, crc1_eight _ _ hr]
      have h0 := crc0_range m (s.data.toList[k]'(by omega)) hr
      have hgc : (s.data.toList[k]'(by omega)) = s[k]'hlt := by simp [ByteArray.getElem_eq_getElem_data]
      rw [hgc] at hn h0
      generalize hx0 : bits .xor .u32 m ((s[k]'hlt).toNat : Int) = x0 at *
      have HN := Lib.hid hn
      have hcl := (s[k]'hlt).toNat_lt
      have hmod : ((s[k]'hlt).toNat : Int) % 4294967296 = (s[k]'hlt).toNat := by omega
      obtain ⟨c0, d0⟩ := h0
      obtain ⟨a0, b0⟩ := hr
      clear hn hm hgc
      go_wp2
      go_loop [3, 5] (fun x j => ∃ (q : Nat) (y : Int), q ≤ 8 ∧ j = .int .i64 q ∧ x = .int .u32 y ∧ y = laidN q x0) (fun _ j => 8 - (intOf j).toNat)
      case atStart => exact ⟨0, x0, by omega, rfl, rfl, rfl⟩
      case round =>
        obtain ⟨q, y, hq, rfl, rfl, hy⟩ := hrel
        have hyr := laidN_range x0 ⟨c0, d0⟩ q
        rw [← hy] at hyr
        obtain ⟨e0, f0⟩ := hyr
        have HY := Lib.hid hy
        clear hy
        by_cases hq8 : q < 8
        · have hst := laid1_mod y e0 f0
          by_cases hb : y % 2 = 1
          · rw [if_pos hb] at hst
            have hbb : (y % 2 == 1) = true := by simpa using hb
            have HST := Lib.hid hst
            clear hst hb
            go_wp2
            go_round
            case rel => exact ⟨q + 1, _, by omega, by go_num, rfl, by rw [laidN, ← HY.out, HST.out]⟩
            case measure => simp [intOf]; omega
          · rw [if_neg hb] at hst
            have hbb : (y % 2 == 1) = false := by simpa using hb
            have HST := Lib.hid hst
            clear hst hb
            go_wp2
            go_round
            case rel => exact ⟨q + 1, _, by omega, by go_num, rfl, by rw [laidN, ← HY.out, HST.out]⟩
            case measure => simp [intOf]; omega
        · have hq' : q = 8 := by omega
          subst hq'
          go_wp2
          go_round
          case rel => exact ⟨k + 1, _, by omega, by go_num, rfl, by rw [HN.out, HY.out]⟩
          case measure => simp [intOf]; omega
    · have hk' : k = s.size := by omega
      subst hk'
      have hfin : crc s.data.toList = 4294967295 - m := by
        rw [List.take_of_length_le (by omega)] at hm
        rw [crc, ← hm]
        exact xor_max m hr.1 hr.2
      have HF := Lib.hid hfin
      clear hfin hm
      go_wp2
      go_ret
      exact ⟨by rw [HF.out]; rfl, rfl⟩
end Go.Proofs.YtniijkcncpabaaaGreat
