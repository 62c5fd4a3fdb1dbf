/- The reference's pages with their sums. -/
import Derived.Test.YtniijkcncpabaaaGreatRefA
import Derived.Test.YtniijkcncpabaaaGreatLittle
import Derived.Test.YtniijkcncpabaaaGreatSeal
import Derived.Deep.RegionWith
namespace Go.Proofs.YtniijkcncpabaaaGreat
open Go.RowKit Go.MapKept
set_option maxRecDepth 100000
set_option maxHeartbeats 1000000

theorem r1bad_ok (s : ByteArray) (at_ size : Int) (w : World) (h1 : 1 ≤ size) (h2 : size ≤ 8) (h3 : 0 ≤ at_) (h4 : at_ + size ≤ s.size) (hs : s.size ≤ 140737488351232) :
    Calls Tryz.prog 64 #[.string s, .int .i64 at_, .int .i64 size] w fun e w' => e = .returned (.int .i64 0) ∧ w = w' := by
  go_enter Tryz.func64, Tryz.ntmps64
  go_wp2
  go_ret
  exact ⟨rfl, rfl⟩
theorem leL4 (n : Nat) (h : n < 4294967296) : leL n 4 = le4 n := by
  have e0 : ((n : Int) % 256).toNat = n % 256 := by omega
  have e1 : ((n : Int) / 256 % 256).toNat = n / 256 % 256 := by omega
  have e2 : ((n : Int) / 65536 % 256).toNat = n / 256 / 256 % 256 := by omega
  have e3 : ((n : Int) / 16777216).toNat = n / 256 / 256 / 256 % 256 := by omega
  simp only [leL, le4, e0, e1, e2, e3]
theorem r1put_ok (n : Nat) (hn : n < 4294967296) (w : World) :
    Calls Tryz.prog 42 #[.string ⟨#[32, 32, 32, 32]⟩, .int .i64 0, .int .i64 4, .int .u64 n] w fun e w' => e = .returned (.tuple #[.string (leB n 4), .int .i64 0]) ∧ Chg No w w' := by
  have HB := Lib.hid (fun w' => r1bad_ok ⟨#[32, 32, 32, 32]⟩ 0 4 w' (by decide) (by decide) (by decide) (by decide) (by decide))
  have HL := Lib.hid (fun w' => little_ok 4 n w' (by omega) (by decide))
  go_enter Tryz.func42, Tryz.ntmps42
  go_wp2_with fail
  refine (HB.out _).mono ?_
  rintro e w1 ⟨rfl, rfl⟩
  go_wp2
  go_loop [11, 12] (fun x i => ∃ (k q : Nat), k ≤ 4 ∧ i = .int .i64 k ∧ x = .int .u64 q ∧ q = n / 256 ^ k) (fun _ i => 4 - (intOf i).toNat)
  case atStart => exact ⟨0, n, by omega, rfl, rfl, by simp⟩
  case round =>
    obtain ⟨k, q, hk, rfl, rfl, hq⟩ := hrel
    by_cases hlt : k < 4
    · have hq2 : q / 256 = n / 256 ^ (k + 1) := by rw [hq, Nat.div_div_eq_div_mul, Nat.pow_succ]
      have hqn : q ≤ n := by rw [hq]; exact Nat.div_le_self _ _
      have HQ := Lib.hid hq2
      have d1 : (q : Int).tdiv 256 = ((q / 256 : Nat) : Int) := by rw [Int.tdiv_eq_ediv_of_nonneg (by omega)]; omega
      clear hq hq2
      go_wp2
      go_round
      case rel => exact ⟨k + 1, q / 256, by omega, by go_num, by first | rfl | (congr 1; omega), HQ.out⟩
      case measure => simp [intOf]; omega
    · have hk4 : k = 4 := by omega
      subst hk4
      have hq0 : q = 0 := by rw [hq, show 256 ^ 4 = 4294967296 from rfl]; omega
      subst hq0
      clear hq
      have h8 := leB_size n 4
      have x0 : (⟨#[32, 32, 32, 32]⟩ : ByteArray).extract 0 0 = ⟨#[]⟩ := by decide
      have x4 : (⟨#[32, 32, 32, 32]⟩ : ByteArray).extract 4 4 = ⟨#[]⟩ := by decide
      have y1 : (⟨#[]⟩ : ByteArray) ++ leB n 4 = leB n 4 := by apply ByteArray.ext; simp
      have y2 : leB n 4 ++ (⟨#[]⟩ : ByteArray) = leB n 4 := by apply ByteArray.ext; simp
      have HCH0 : Hid (Chg No w w.drew) := Lib.hid ((Chg.refl No w).drew)
      go_wp2
      go_region_with (go_at_call 63; refine (HL.out _).mono ?_; rintro e wl ⟨rfl, hch⟩)
      all_goals
        have HCH := Lib.hid (HCH0.out.then hch)
        clear hch
        go_wp2
        go_ret2
        exact ⟨by first | rfl | simp [x0, x4, y1, y2], HCH.out⟩
theorem padTo_all (s : ByteArray) (h : s.size = 252) : padTo s 252 = s := by
  rw [padTo, h]
  apply ByteArray.ext
  simp [zeros]
theorem seal2_ok (s : ByteArray) (w : World) (hs : s.size ≤ 252) :
    Calls Tryz.prog 22 #[.string s] w fun e w' => e = .returned (.tuple #[.string (page (padTo s 252)), .int .i64 0]) ∧ Chg No w w' := by
  have HP := Lib.hid (fun w' => r1pad_ok s 252 w' hs (by decide))
  have hps := padTo_size s 252 hs
  obtain ⟨n, hn⟩ : ∃ n : Nat, crc (padTo s 252).data.toList = (n : Int) := ⟨(crc (padTo s 252).data.toList).toNat, by have := crc_range (padTo s 252).data.toList; omega⟩
  have hn1 : n < 4294967296 := by have := crc_range (padTo s 252).data.toList; omega
  have HO := Lib.hid (fun w' => of2_ok (padTo s 252) w' (by omega))
  rw [hn] at HO
  have HQ := Lib.hid (fun w' => r1put_ok n hn1 w')
  have HPG : Hid (page (padTo s 252) = padTo s 252 ++ leB n 4) := Lib.hid (by
    apply ByteArray.ext
    simp [page, hn, leB, leL4 n hn1])
  have h8 := leB_size n 4
  have hcv : IntKind.u64.wrap (n : Int) = n := by simp [IntKind.wrap, IntKind.signed, IntKind.bits]; omega
  rw [HPG.out]
  clear hn
  generalize padTo s 252 = t at *
  go_enter Tryz.func22, Tryz.ntmps22
  go_wp2_with fail
  refine (HP.out _).mono ?_
  rintro e w1 ⟨rfl, hc1⟩
  go_wp2_with fail
  refine (HO.out _).mono ?_
  rintro e w2 ⟨rfl, rfl⟩
  go_wp2_with fail
  --DBG
  refine (HQ.out _).mono ?_
  rintro e w3 ⟨rfl, hc3⟩
  have HC := Lib.hid (hc1.then hc3)
  clear hc1 hc3
  go_wp2
  go_ret2
  exact ⟨rfl, HC.out⟩
theorem open2_ok (c : ByteArray) (w : World) (hc : c.size = 252) :
    Calls Tryz.prog 68 #[.string (page c)] w fun e w' => e = .returned (.tuple #[.string c, .int .i64 0]) ∧ Chg No w w' := by
  have hsz := page_size c
  rw [hc] at hsz
  have hx := page_head c hc
  have HS := Lib.hid (fun w' => seal2_ok c w' (by omega))
  rw [padTo_all c hc] at HS
  generalize page c = pg at *
  go_enter Tryz.func68, Tryz.ntmps68
  go_wp2_with fail
  refine (HS.out _).mono ?_
  rintro e w1 ⟨rfl, hch⟩
  go_wp2
  go_ret2
  exact ⟨rfl, hch⟩
end Go.Proofs.YtniijkcncpabaaaGreat
