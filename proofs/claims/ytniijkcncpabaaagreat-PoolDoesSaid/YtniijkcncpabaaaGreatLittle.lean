/- The reference's little, Pad. -/
import Derived.Test.YtniijkcncpabaaaGreatField
import Derived.Test.YtniijkcncpabaaaGreatSlices
import Derived.Deep.RegionWith
import Derived.IntWalk
namespace Go.Proofs.YtniijkcncpabaaaGreat
open Go.RowKit Go.MapKept
set_option maxRecDepth 100000
set_option maxHeartbeats 1000000

def leL : Nat → Nat → List UInt8
  | _, 0 => []
  | n, k + 1 => UInt8.ofNat (n % 256) :: leL (n / 256) k
def leB (n k : Nat) : ByteArray := ⟨(leL n k).toArray⟩
theorem leL_length : ∀ n k, (leL n k).length = k
  | _, 0 => rfl
  | n, k + 1 => by simp [leL, leL_length]
theorem leB_size (n k : Nat) : (leB n k).size = k := by simp [leB, ByteArray.size, leL_length]
theorem leB_succ (n k : Nat) : leB n (k + 1) = (⟨#[UInt8.ofNat (n % 256)]⟩ : ByteArray) ++ leB (n / 256) k := by
  apply ByteArray.ext
  simp [leB, leL]
theorem leL_zero : ∀ k, leL 0 k = List.replicate k 0
  | 0 => rfl
  | k + 1 => by simp [leL, leL_zero k, List.replicate_succ]
theorem leB_zero (k : Nat) : leB 0 k = zeros k := by simp [leB, zeros, leL_zero]
theorem little_ok (k : Nat) : ∀ (n : Nat) (w : World), n < 18446744073709551616 → k ≤ 100000 →
    Calls Tryz.prog 63 #[.int .u64 n, .int .i64 k] w fun e w' => e = .returned (.string (leB n k)) ∧ Chg No w w' := by
  induction k with
  | zero =>
    intro n w hn hk
    have e : leB n 0 = ⟨#[]⟩ := rfl
    rw [e]
    go_enter Tryz.func63, Tryz.ntmps63
    go_wp2
    go_ret
    exact ⟨rfl, Chg.refl _ _⟩
  | succ k ih =>
    intro n w hn hk
    have HI : Hid (∀ w', Calls Tryz.prog 63 #[.int .u64 (n / 256 : Nat), .int .i64 k] w' fun e w'' => e = .returned (.string (leB (n / 256) k)) ∧ Chg No w' w'') := Lib.hid fun w' => ih (n / 256) w' (by omega) (by omega)
    clear ih
    have HB := Lib.hid (leB_succ n k)
    obtain ⟨b8, hb8⟩ : ∃ b8, b8 = UInt8.ofNat (n % 256) := ⟨_, rfl⟩
    rw [← hb8] at HB
    have h3 : ((n : Int)).tmod 256 = (b8.toNat : Int) := by
      have hbn : b8.toNat = n % 256 := by rw [hb8]; simp
      rw [Int.tmod_eq_emod_of_nonneg (by omega), hbn]; omega
    have h5 : IntKind.u8.wrap (b8.toNat : Int) = b8.toNat := by
      have := b8.toNat_lt
      simp [IntKind.wrap, IntKind.signed, IntKind.bits]; omega
    clear hb8
    obtain ⟨m, hm⟩ : ∃ m, m = n / 256 := ⟨_, rfl⟩
    rw [← hm] at HI HB
    have h2 : ((n : Int)).tdiv 256 = (m : Int) := by rw [hm, Int.tdiv_eq_ediv_of_nonneg (by omega)]; omega
    have h7 : IntKind.u64.wrap (m : Int) = m := by
      simp [IntKind.wrap, IntKind.signed, IntKind.bits]; omega
    clear hm
    obtain ⟨K, hK⟩ : ∃ K, K = k + 1 := ⟨_, rfl⟩
    rw [← hK] at HB hk ⊢
    have h1 : (K : Int) - 1 = k := by omega
    have h4 : ((K : Int) == 0) = false := by simp; omega
    have h6 : IntKind.i64.wrap (k : Int) = k := IntWalk.i64_in _ (by omega)
    have h8 := leB_size m k
    clear hK
    have hcv : ∀ w' b, bytesAt w' b [b8] → (convert 97 9 (.slice (some ⟨b, 0, none⟩) 1 1)).run Tryz.prog w' = .ok (.string ⟨#[b8]⟩) w' := fun w' b hb => run_string_bytes (P := Tryz.prog) (src := 97) (dst := 9) Tryz.underlying97 Tryz.underlying5 Tryz.underlying9 hb 1
    have hba : ∀ w' : World, bytesAt (w'.alloc (.cells #[.int .u8 b8.toNat] 5)) w'.heap.size [b8] := fun w' => bytesAt_alloc w' 5 [b8]
    have hb1 : bytesAt (w.alloc (.cells #[.int .u8 b8.toNat] 5)).drew w.heap.size [b8] := hba w
    have E1 := hcv _ _ hb1
    have HB1 := Lib.hid hb1
    clear hb1
    have HCV := Lib.hid hcv
    have HBA := Lib.hid hba
    clear hcv hba
    go_enter Tryz.func63, Tryz.ntmps63
    go_wp2
    go_region_with (go_at_call 63; refine (HI.out _).mono ?_; rintro e w1 ⟨rfl, hch⟩; have E2 := HCV.out _ _ (HBA.out w1); try have E3 := HCV.out _ _ (HB1.out.chg hch (by simp) (fun e => e)))
    all_goals
      have HCH : Hid (Chg No w _) := Lib.hid (by first | exact ((Chg.refl No w).alloc _).drew.then hch | exact (((Chg.refl No w).drew.then hch).alloc (.cells #[.int .u8 b8.toNat] 5)))
      clear hch E1 E2
      try clear E3
      go_wp2
      go_ret
      exact ⟨by rw [HB.out]; rfl, HCH.out⟩
theorem r1pad_ok (s : ByteArray) (n : Nat) (w : World) (h1 : s.size ≤ n) (hn : n ≤ 65536) :
    Calls Tryz.prog 41 #[.string s, .int .i64 n] w fun e w' => e = .returned (.tuple #[.string (padTo s n), .int .i64 0]) ∧ Chg No w w' := by
  obtain ⟨k, rfl⟩ : ∃ k : Nat, n = s.size + k := ⟨n - s.size, by omega⟩
  have hp : padTo s (s.size + k) = s ++ leB 0 k := by rw [padTo, leB_zero, Nat.add_sub_cancel_left]
  rw [hp]
  have HL : Hid (∀ w', Calls Tryz.prog 63 #[.int .u64 0, .int .i64 k] w' fun e w'' => e = .returned (.string (leB 0 k)) ∧ Chg No w' w'') := Lib.hid fun w' => little_ok k 0 w' (by decide) (by omega)
  have h8 := leB_size 0 k
  have hsub : ((s.size + k : Nat) : Int) - s.size = k := by omega
  clear hp
  obtain ⟨K, hK⟩ : ∃ K, s.size + k = K := ⟨_, rfl⟩
  rw [hK] at hsub ⊢
  have hK1 : (s.size : Int) ≤ K := by omega
  have hK2 : (K : Int) ≤ 65536 := by omega
  clear hK
  go_enter Tryz.func41, Tryz.ntmps41
  go_wp2_with fail
  refine (HL.out _).mono ?_
  rintro e w1 ⟨rfl, hch⟩
  go_wp2
  go_ret2
  exact ⟨rfl, hch⟩
theorem row_form {w : World} {v : Value} {l : List Int} (h : IntRow w v l) : ∃ a c, v = .slice a l.length c ∧ (0 < l.length → ∃ g, a = some ⟨g, 0, none⟩ ∧ ∀ j, (hj : j < l.length) → w.cell? ⟨g, j, none⟩ = some (.int .i64 l[j])) := by
  have h0 := h
  rcases h.2 with ⟨rfl, hn⟩ | ⟨g, cap, cur, rfl, _⟩
  · exact ⟨_, _, by rw [hn], fun h => by omega⟩
  · exact ⟨_, _, rfl, fun _ => ⟨g, rfl, fun j hj => row_cell h0 j hj⟩⟩
theorem eq_of_take {l m : List Int} (hl : l.length = m.length) (h : l.take l.length = m.take l.length) : l = m := by
  rw [List.take_length, hl, List.take_length] at h; exact h
theorem ints_ok {w : World} {v v' : Value} {l m : List Int} (hv : IntRow w v l) (hm : IntRow w v' m) (h1 : l.length ≤ 1000000) (h2 : m.length ≤ 1000000) :
    Calls Tryz.prog 11 #[v, v'] w fun e w' => e = .returned (.bool (l == m)) ∧ Chg No w w' := by
  obtain ⟨a, c, rfl, ha⟩ := row_form hv
  obtain ⟨a', c', rfl, ha'⟩ := row_form hm
  have HA := Lib.hid ha
  have HA' := Lib.hid ha'
  clear hv hm ha ha'
  by_cases hl : l.length = m.length
  · have HE : Hid (l.length = m.length) := Lib.hid hl
    rw [← hl] at h2 ⊢
    clear hl
    go_enter Tryz.func11, Tryz.ntmps11
    go_wp2
    go_loopw [5] (fun si wr => ∃ k : Nat, k ≤ l.length ∧ si = .int .i64 k ∧ l.take k = m.take k ∧ Chg No w wr) (fun si _ => l.length - (intOf si).toNat)
    case atStart => exact ⟨0, by omega, rfl, rfl, Chg.refl _ _⟩
    case round =>
      obtain ⟨k, hk, rfl, htk, hch⟩ := hrel
      have HT := Lib.hid htk
      clear htk
      by_cases hlt : k < l.length
      · obtain ⟨g, rfl, hg⟩ := HA.out (by omega)
        obtain ⟨g', rfl, hg'⟩ := HA'.out (by have := HE.out; omega)
        have hlt' : k < m.length := by have := HE.out; omega
        have c1 := hch.cell (hg k hlt) (fun e => e)
        have c2 := hch.cell (hg' k hlt') (fun e => e)
        have HS1 := Lib.hid (List.take_succ_eq_append_getElem hlt)
        have HS2 := Lib.hid (List.take_succ_eq_append_getElem hlt')
        have HNE : Hid (l[k] ≠ m[k] → (l == m) = false) := Lib.hid fun hne => by
          rw [beq_eq_false_iff_ne]; intro e; subst e; exact hne rfl
        have HCH := Lib.hid hch
        clear hg hg' hch
        generalize l[k] = p at *
        generalize m[k] = q at *
        by_cases hpq : p = q
        · subst hpq
          clear HNE
          go_wp2
          go_quiet (fail)
          go_wp2
          go_roundw
          case rel => exact ⟨k + 1, by omega, by go_num, by rw [HS1.out, HS2.out, HT.out], HCH.out.drewN _⟩
          case measure => simp [intOf]; omega
        · have HR := Lib.hid (HNE.out hpq)
          have hb : (p != q) = true := by simpa using hpq
          clear HNE hpq
          go_wp2
          go_quiet (fail)
          go_wp2
          go_ret
          exact ⟨by rw [HR.out]; rfl, HCH.out.drewN _⟩
      · have hke : k = l.length := by omega
        subst hke
        have HR : Hid ((l == m) = true) := Lib.hid (by rw [beq_iff_eq]; exact eq_of_take HE.out HT.out)
        go_wp2
        go_ret
        exact ⟨by rw [HR.out]; rfl, hch⟩
  · have HR : Hid ((l == m) = false) := Lib.hid (by rw [beq_eq_false_iff_ne]; intro e; exact hl (by rw [e]))
    have hb : ((l.length : Int) != m.length) = true := by simp; omega
    go_enter Tryz.func11, Tryz.ntmps11
    go_wp2
    go_ret
    exact ⟨by rw [HR.out]; rfl, Chg.refl _ _⟩
end Go.Proofs.YtniijkcncpabaaaGreat
