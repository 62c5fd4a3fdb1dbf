/- The table of package sum. -/
import Derived.Test.YtniijkcncpabaaaGreatField
namespace Go.Proofs.YtniijkcncpabaaaGreat
open Go.RowKit Go.MapKept
set_option maxRecDepth 100000
set_option maxHeartbeats 400000

/-- one round of the closure -/
def laid1 (n : Int) : Int := if (bits .and .u32 n 1 == 1) = true then bits .xor .u32 (n / 2) 2197175160 else n / 2
def laidN : Nat → Int → Int
  | 0, n => n
  | k + 1, n => laid1 (laidN k n)
theorem xor_range (a b : Int) (h1 : 0 ≤ a) (h2 : a < 4294967296) (h3 : 0 ≤ b) (h4 : b < 4294967296) : 0 ≤ bits .xor .u32 a b ∧ bits .xor .u32 a b < 4294967296 := by
  rw [u32_xor a b h1 h2 h3 h4]
  have := Nat.xor_lt_two_pow (x := a.toNat) (y := b.toNat) (n := 32) (by omega) (by omega)
  omega
theorem laid1_range (n : Int) (h : 0 ≤ n ∧ n < 4294967296) : 0 ≤ laid1 n ∧ laid1 n < 4294967296 := by
  unfold laid1
  split
  · exact xor_range _ _ (by omega) (by omega) (by omega) (by omega)
  · omega
theorem laidN_range (n : Int) (h : 0 ≤ n ∧ n < 4294967296) : ∀ k, 0 ≤ laidN k n ∧ laidN k n < 4294967296
  | 0 => h
  | k + 1 => laid1_range _ (laidN_range n h k)
theorem laid1_odd {n : Int} (h : (bits .and .u32 n 1 == 1) = true) : laid1 n = bits .xor .u32 (n / 2) 2197175160 := by rw [laid1, if_pos h]
theorem laid1_even {n : Int} (h : (bits .and .u32 n 1 == 1) = false) : laid1 n = n / 2 := by rw [laid1, if_neg (by simp [h])]
theorem table1_ok (n : Int) (w : World) (h0 : 0 ≤ n) (h1 : n < 4294967296) :
    Calls Tryz.prog 100 #[.int .u32 n] w fun e w' => e = .returned (.int .u32 (laidN 4 n)) ∧ w = w' := by
  go_enter Tryz.func100, Tryz.ntmps100
  go_wp2
  go_loop [0, 4] (fun x i => ∃ (k : Nat) (m : Int), k ≤ 4 ∧ i = .int .i64 k ∧ x = .int .u32 m ∧ m = laidN k n) (fun _ i => 4 - (intOf i).toNat)
  case atStart => exact ⟨0, n, by omega, rfl, rfl, rfl⟩
  case round =>
    obtain ⟨k, m, hk, rfl, rfl, hm⟩ := hrel
    have hr := laidN_range n ⟨h0, h1⟩ k
    rw [← hm] at hr
    obtain ⟨r1, r2⟩ := hr
    have HM := Lib.hid hm
    clear hm
    by_cases hlt : k < 4
    · by_cases hb : (bits .and .u32 m 1 == 1) = true
      · have HB := Lib.hid (laid1_odd hb)
        go_wp2
        go_round
        case rel => exact ⟨k + 1, _, by omega, by go_num, rfl, by rw [laidN, ← HM.out, HB.out]⟩
        case measure => simp [intOf]; omega
      · have hb : (bits .and .u32 m 1 == 1) = false := by simpa using hb
        have HB := Lib.hid (laid1_even hb)
        go_wp2
        go_round
        case rel => exact ⟨k + 1, _, by omega, by go_num, rfl, by rw [laidN, ← HM.out, HB.out]⟩
        case measure => simp [intOf]; omega
    · have hk4 : k = 4 := by omega
      go_wp2
      go_ret
      subst hk4
      exact ⟨by rw [← HM.out]; rfl, rfl⟩

/-- the table -/
def tab (i : Nat) : Int := laidN 4 i
theorem tab_range (i : Nat) (h : i < 16) : 0 ≤ tab i ∧ tab i < 4294967296 := laidN_range _ (by omega) 4
def tabV : Value := .agg #[.int .u32 (tab 0), .int .u32 (tab 1), .int .u32 (tab 2), .int .u32 (tab 3), .int .u32 (tab 4), .int .u32 (tab 5), .int .u32 (tab 6), .int .u32 (tab 7), .int .u32 (tab 8), .int .u32 (tab 9), .int .u32 (tab 10), .int .u32 (tab 11), .int .u32 (tab 12), .int .u32 (tab 13), .int .u32 (tab 14), .int .u32 (tab 15)]
theorem tabi_ok (i : Nat) (h : i < 16) (w : World) : Calls Tryz.prog 100 #[.int .u32 (i : Int)] w fun e w' => e = .returned (.int .u32 (tab i)) ∧ w = w' := table1_ok i w (by omega) (by omega)
set_option maxHeartbeats 4000000 in
theorem table_ok (w : World) : Calls Tryz.prog 91 #[] w fun e w' => e = .returned tabV ∧ Chg No w w' := by
  go_enter Tryz.func91, Tryz.ntmps91
  go_wp2
  refine wp_loop_rounds 17 ?_
  rw [rounds_succ]
  go_wp2_with fail
  refine (tabi_ok 0 (by omega) _).mono ?_
  rintro e w' ⟨rfl, rfl⟩
  go_wp2
  rw [rounds_succ]
  go_wp2_with fail
  refine (tabi_ok 1 (by omega) _).mono ?_
  rintro e w' ⟨rfl, rfl⟩
  go_wp2
  rw [rounds_succ]
  go_wp2_with fail
  refine (tabi_ok 2 (by omega) _).mono ?_
  rintro e w' ⟨rfl, rfl⟩
  go_wp2
  rw [rounds_succ]
  go_wp2_with fail
  refine (tabi_ok 3 (by omega) _).mono ?_
  rintro e w' ⟨rfl, rfl⟩
  go_wp2
  rw [rounds_succ]
  go_wp2_with fail
  refine (tabi_ok 4 (by omega) _).mono ?_
  rintro e w' ⟨rfl, rfl⟩
  go_wp2
  rw [rounds_succ]
  go_wp2_with fail
  refine (tabi_ok 5 (by omega) _).mono ?_
  rintro e w' ⟨rfl, rfl⟩
  go_wp2
  rw [rounds_succ]
  go_wp2_with fail
  refine (tabi_ok 6 (by omega) _).mono ?_
  rintro e w' ⟨rfl, rfl⟩
  go_wp2
  rw [rounds_succ]
  go_wp2_with fail
  refine (tabi_ok 7 (by omega) _).mono ?_
  rintro e w' ⟨rfl, rfl⟩
  go_wp2
  rw [rounds_succ]
  go_wp2_with fail
  refine (tabi_ok 8 (by omega) _).mono ?_
  rintro e w' ⟨rfl, rfl⟩
  go_wp2
  rw [rounds_succ]
  go_wp2_with fail
  refine (tabi_ok 9 (by omega) _).mono ?_
  rintro e w' ⟨rfl, rfl⟩
  go_wp2
  rw [rounds_succ]
  go_wp2_with fail
  refine (tabi_ok 10 (by omega) _).mono ?_
  rintro e w' ⟨rfl, rfl⟩
  go_wp2
  rw [rounds_succ]
  go_wp2_with fail
  refine (tabi_ok 11 (by omega) _).mono ?_
  rintro e w' ⟨rfl, rfl⟩
  go_wp2
  rw [rounds_succ]
  go_wp2_with fail
  refine (tabi_ok 12 (by omega) _).mono ?_
  rintro e w' ⟨rfl, rfl⟩
  go_wp2
  rw [rounds_succ]
  go_wp2_with fail
  refine (tabi_ok 13 (by omega) _).mono ?_
  rintro e w' ⟨rfl, rfl⟩
  go_wp2
  rw [rounds_succ]
  go_wp2_with fail
  refine (tabi_ok 14 (by omega) _).mono ?_
  rintro e w' ⟨rfl, rfl⟩
  go_wp2
  rw [rounds_succ]
  go_wp2_with fail
  refine (tabi_ok 15 (by omega) _).mono ?_
  rintro e w' ⟨rfl, rfl⟩
  go_wp2
  rw [rounds_succ]
  go_wp2
  exact bodyPost_ret (v := tabV) (by simp [results, Tryz.results91, tabV, go_sem]) rfl ⟨rfl, ((Chg.refl _ _).alloc _).alloc _⟩
end Go.Proofs.YtniijkcncpabaaaGreat
