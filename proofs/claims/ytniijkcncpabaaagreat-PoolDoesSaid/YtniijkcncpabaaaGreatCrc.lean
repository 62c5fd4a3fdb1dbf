/- Four bit steps at once: the table's half byte is four steps of the reference. -/
import Derived.Test.YtniijkcncpabaaaGreatSum
namespace Go.Proofs.YtniijkcncpabaaaGreat
open Go.RowKit
set_option maxRecDepth 100000

def st (x : Nat) : Nat := if x % 2 = 1 then x / 2 ^^^ 2197175160 else x / 2
def stN : Nat → Nat → Nat
  | 0, x => x
  | k + 1, x => st (stN k x)
theorem xor_mod2 (x y : Nat) : (x ^^^ y) % 2 = (x % 2 + y % 2) % 2 := by
  have h1 := Nat.testBit_xor x y 0
  simp only [Nat.testBit_zero] at h1
  rcases Nat.mod_two_eq_zero_or_one x with hx | hx <;> rcases Nat.mod_two_eq_zero_or_one y with hy | hy <;> rcases Nat.mod_two_eq_zero_or_one (x ^^^ y) with hz | hz <;> simp [hx, hy, hz] at h1 ⊢
theorem xor_div2 (x y : Nat) : (x ^^^ y) / 2 = x / 2 ^^^ y / 2 := by
  apply Nat.eq_of_testBit_eq
  intro i
  rw [Nat.testBit_xor, Nat.testBit_div_two, Nat.testBit_div_two, Nat.testBit_div_two, Nat.testBit_xor]
theorem st_xor (x y : Nat) : st (x ^^^ y) = st x ^^^ st y := by
  unfold st
  rw [xor_mod2, xor_div2]
  rcases Nat.mod_two_eq_zero_or_one x with hx | hx <;> rcases Nat.mod_two_eq_zero_or_one y with hy | hy <;> simp [hx, hy]
  · rw [Nat.xor_assoc]
  · rw [Nat.xor_assoc (x / 2) 2197175160, Nat.xor_comm 2197175160 (y / 2)]; exact Nat.xor_assoc ..
  · rw [Nat.xor_assoc, ← Nat.xor_assoc 2197175160, Nat.xor_comm 2197175160, Nat.xor_assoc, Nat.xor_self, Nat.xor_zero]
theorem stN_xor (x y : Nat) : ∀ k, stN k (x ^^^ y) = stN k x ^^^ stN k y
  | 0 => rfl
  | k + 1 => by rw [stN, stN, stN, stN_xor x y k, st_xor]
theorem st_two (a : Nat) : st (2 * a) = a := by unfold st; rw [if_neg (by omega)]; omega
theorem split16 (x : Nat) : x = (16 * (x / 16)) ^^^ (x % 16) := by
  apply Nat.eq_of_testBit_eq
  intro i
  rw [Nat.testBit_xor, show (16 : Nat) = 2 ^ 4 from rfl, Nat.testBit_two_pow_mul, Nat.testBit_div_two_pow, Nat.testBit_mod_two_pow]
  by_cases h : i < 4
  · simp [h, show ¬ 4 ≤ i from by omega]
  · have : 4 + (i - 4) = i := by omega
    have h2 : i - 4 + 4 = i := by omega
    simp [h, show 4 ≤ i from by omega, h2]
theorem stN4 (x : Nat) : stN 4 x = (x / 16) ^^^ stN 4 (x % 16) := by
  conv => lhs; rw [split16 x]
  rw [stN_xor]
  congr 1
  show st (st (st (st (16 * (x / 16))))) = x / 16
  rw [show 16 * (x / 16) = 2 * (2 * (2 * (2 * (x / 16)))) from by omega, st_two, st_two, st_two, st_two]
theorem bits_and1 (n : Int) (h0 : 0 ≤ n) (h1 : n < 4294967296) : bits .and .u32 n 1 = n % 2 := by
  rw [u32_and n 1 h0 h1 (by decide) (by decide), show (1 : Int).toNat = 1 from rfl, Nat.and_one_is_mod]; omega
theorem laid1_st (n : Int) (h0 : 0 ≤ n) (h1 : n < 4294967296) : laid1 n = (st n.toNat : Nat) := by
  unfold laid1 st
  rw [bits_and1 n h0 h1]
  by_cases h : n % 2 = 1
  · rw [if_pos (by simpa using h), if_pos (by omega), u32_xor _ _ (by omega) (by omega) (by decide) (by decide)]
    have : (n / 2).toNat = n.toNat / 2 := by omega
    rw [this]; rfl
  · rw [if_neg (by simpa using h), if_neg (by omega)]; omega
theorem laidN_st (n : Int) (h0 : 0 ≤ n) (h1 : n < 4294967296) : ∀ k, laidN k n = (stN k n.toNat : Nat)
  | 0 => by simp [laidN, stN]; omega
  | k + 1 => by
    have hr := laidN_range n ⟨h0, h1⟩ k
    rw [laidN, laid1_st _ hr.1 hr.2, laidN_st n h0 h1 k, stN, Int.toNat_natCast]
theorem half1_four (n : Int) (h0 : 0 ≤ n) (h1 : n < 4294967296) : half1 n = laidN 4 n := by
  have ht := tab_range (n % 16).toNat (by omega)
  rw [half1, u32_xor _ _ (by omega) (by omega) ht.1 ht.2, laidN_st n h0 h1, stN4, tab, laidN_st _ (by omega) (by omega)]
  have e1 : (n / 16).toNat = n.toNat / 16 := by omega
  have e2 : ((n % 16).toNat : Int).toNat = n.toNat % 16 := by omega
  rw [e1, e2, Int.toNat_natCast]
theorem laidN_add (n : Int) (j : Nat) : ∀ k, laidN k (laidN j n) = laidN (k + j) n
  | 0 => by simp [laidN]
  | k + 1 => by rw [laidN, laidN_add n j k, show k + 1 + j = (k + j) + 1 from by omega, laidN]
/-- a byte of the sum is eight steps -/
theorem crc1_eight (n : Int) (c : UInt8) (h : 0 ≤ n ∧ n < 4294967296) : crc1 n c = laidN 8 (bits .xor .u32 n (c.toNat : Int)) := by
  have h0 := crc0_range n c h
  have h4 := laidN_range _ h0 4
  rw [crc1, half1_four _ h0.1 h0.2, half1_four _ h4.1 h4.2, laidN_add]
end Go.Proofs.YtniijkcncpabaaaGreat
