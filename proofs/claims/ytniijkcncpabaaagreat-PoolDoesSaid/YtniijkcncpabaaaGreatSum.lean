/- Contracts of package sum: sums of bytes, pages with their sums. -/
import Derived.Test.YtniijkcncpabaaaGreatTab
namespace Go.Proofs.YtniijkcncpabaaaGreat
open Go.RowKit Go.MapKept
set_option maxRecDepth 100000
set_option maxHeartbeats 400000

/-- half a byte -/
def half1 (n : Int) : Int := bits .xor .u32 (n / 16) (tab (n % 16).toNat)
/-- a byte -/
def crc1 (n : Int) (c : UInt8) : Int := half1 (half1 (bits .xor .u32 n (c.toNat : Int)))
def crcL (l : List UInt8) : Int := l.foldl crc1 4294967295
theorem half1_range (n : Int) (h : 0 ≤ n ∧ n < 4294967296) : 0 ≤ half1 n ∧ half1 n < 4294967296 := by
  have := tab_range (n % 16).toNat (by omega)
  exact xor_range _ _ (by omega) (by omega) this.1 this.2
theorem crc0_range (n : Int) (c : UInt8) (h : 0 ≤ n ∧ n < 4294967296) : 0 ≤ bits .xor .u32 n (c.toNat : Int) ∧ bits .xor .u32 n (c.toNat : Int) < 4294967296 := by
  have := c.toNat_lt
  exact xor_range _ _ h.1 h.2 (by omega) (by omega)
theorem crc1_range (n : Int) (c : UInt8) (h : 0 ≤ n ∧ n < 4294967296) : 0 ≤ crc1 n c ∧ crc1 n c < 4294967296 :=
  half1_range _ (half1_range _ (crc0_range n c h))
theorem crcF_range (l : List UInt8) : ∀ n, 0 ≤ n ∧ n < 4294967296 → 0 ≤ l.foldl crc1 n ∧ l.foldl crc1 n < 4294967296 := by
  induction l with
  | nil => exact fun n h => h
  | cons c r ih => exact fun n h => ih _ (crc1_range n c h)
/-- the sum of bytes -/
def crc (l : List UInt8) : Int := bits .xor .u32 IntKind.u32.max (crcL l)
theorem crc_range (l : List UInt8) : 0 ≤ crc l ∧ crc l < 4294967296 := by
  have := crcF_range l 4294967295 (by omega)
  exact xor_range _ _ (by decide) (by decide) this.1 this.2
theorem crc_take (l : List UInt8) (k : Nat) (h : k < l.length) : crcL (l.take (k + 1)) = crc1 (crcL (l.take k)) l[k] := by
  rw [List.take_succ_eq_append_getElem h, crcL, List.foldl_append]; rfl

/-- the cells of the table -/
theorem tab_cells (w : World) (e : TypeId) (i : Nat) (h : i < 16) :
    (w.alloc (.cells #[.int .u32 (tab 0), .int .u32 (tab 1), .int .u32 (tab 2), .int .u32 (tab 3), .int .u32 (tab 4), .int .u32 (tab 5), .int .u32 (tab 6), .int .u32 (tab 7), .int .u32 (tab 8), .int .u32 (tab 9), .int .u32 (tab 10), .int .u32 (tab 11), .int .u32 (tab 12), .int .u32 (tab 13), .int .u32 (tab 14), .int .u32 (tab 15)] e)).cell? ⟨w.heap.size, i, none⟩ = some (.int .u32 (tab i)) := by
  rw [World.cell?_alloc_new]
  have : i = 0 ∨ i = 1 ∨ i = 2 ∨ i = 3 ∨ i = 4 ∨ i = 5 ∨ i = 6 ∨ i = 7 ∨ i = 8 ∨ i = 9 ∨ i = 10 ∨ i = 11 ∨ i = 12 ∨ i = 13 ∨ i = 14 ∨ i = 15 := by omega
  rcases this with h | h | h | h | h | h | h | h | h | h | h | h | h | h | h | h <;> subst h <;> rfl

theorem of_ok (s : ByteArray) (w : World) (hs : s.size ≤ 140737488351232) :
    Calls Tryz.prog 76 #[.string s] w fun e w' => e = .returned (.int .u32 (crc s.data.toList)) ∧ Chg No w w' := by
  have hcv := fun w => Lib.run_convert_string_bytes (P := Tryz.prog) w 9 97 5 s Tryz.underlying9 Tryz.underlying97 Tryz.underlying5
  go_enter Tryz.func76, Tryz.ntmps76
  go_wp2_with fail
  refine (table_ok _).mono ?_
  rintro e w1 ⟨rfl, hch⟩
  rw [tabV]
  go_wp2_with fail
  obtain ⟨w2, hw2⟩ : ∃ w2 : World, w2 = w1.alloc (.cells #[.int .u32 (tab 0), .int .u32 (tab 1), .int .u32 (tab 2), .int .u32 (tab 3), .int .u32 (tab 4), .int .u32 (tab 5), .int .u32 (tab 6), .int .u32 (tab 7), .int .u32 (tab 8), .int .u32 (tab 9), .int .u32 (tab 10), .int .u32 (tab 11), .int .u32 (tab 12), .int .u32 (tab 13), .int .u32 (tab 14), .int .u32 (tab 15)] 126) := ⟨_, rfl⟩
  rw [← hw2]
  have hT : ∀ i, i < 16 → (Lib.bytesWorld w2 5 s).cell? ⟨w1.heap.size, i, none⟩ = some (.int .u32 (tab i)) := fun i hi => by
    rw [Lib.bytesWorld_old _ _ _ _ (by rw [hw2]; simp), hw2]; exact tab_cells w1 _ i hi
  have hB := bytesWorld_bytes w2 5 s
  have hC : Chg No w (Lib.bytesWorld w2 5 s) := Chg.then (by rw [hw2]; exact hch.alloc _) (bytesWorld_chg w2 _ s)
  have hsz : w2.heap.size = w1.heap.size + 1 := by rw [hw2]; simp
  rw [hsz] at hB
  generalize Lib.bytesWorld w2 5 s = w3 at hT hB hC ⊢
  generalize grownCap w2 s.size 0 5 = cap
  clear hcv hw2 hsz hch
  go_loop [4, 11] (fun n i => ∃ (k : Nat) (m : Int), k ≤ s.size ∧ i = .int .i64 k ∧ n = .int .u32 m ∧ m = crcL (s.data.toList.take k)) (fun _ i => s.size - (intOf i).toNat)
  case atStart => exact ⟨0, 4294967295, by omega, rfl, rfl, rfl⟩
  case round =>
    obtain ⟨k, m, hk, rfl, rfl, hm⟩ := hrel
    have hr := crcF_range (s.data.toList.take k) 4294967295 (by omega)
    rw [show List.foldl crc1 4294967295 (s.data.toList.take k) = m from hm.symm] at hr
    by_cases hlt : k < s.size
    · have hkl : k < s.data.toList.length := by simpa using hlt
      have hc := (hB k hkl).1
      have r0 := crc0_range m s.data.toList[k] hr
      have r1 := half1_range _ r0
      have hstep := crc_take s.data.toList k hkl
      rw [← hm] at hstep
      unfold crc1 at hstep
      generalize s.data.toList[k] = c at hc r0 r1 hstep
      have hcl : c.toNat < 256 := c.toNat_lt
      generalize hx0 : bits .xor .u32 m (c.toNat : Int) = x0 at r0 r1 hstep
      have t1 := hT (x0 % 16).toNat (by omega)
      have r2 := half1_range _ r1
      have hx1 : bits .xor .u32 (x0 / 16) (tab (x0 % 16).toNat) = half1 x0 := rfl
      generalize half1 x0 = x1 at r1 r2 hstep hx1
      have t2 := hT (x1 % 16).toNat (by omega)
      have hx2 : bits .xor .u32 (x1 / 16) (tab (x1 % 16).toNat) = half1 x1 := rfl
      generalize half1 x1 = x2 at r2 hstep hx2
      obtain ⟨a0, b0⟩ := hr
      obtain ⟨c0, d0⟩ := r0
      obtain ⟨e0, f0⟩ := r1
      obtain ⟨g0, h0⟩ := r2
      have HS := Lib.hid hstep
      clear hm hT hB hC hkl hstep
      go_wp2
      go_round
      case rel => exact ⟨k + 1, _, by omega, by go_num, rfl, HS.out.symm⟩
      case measure => simp [intOf]; omega
    · have hk' : k = s.size := by omega
      subst hk'
      obtain ⟨a0, b0⟩ := hr
      have hfin : bits .xor .u32 IntKind.u32.max m = crc s.data.toList := by rw [crc, hm, List.take_of_length_le (by simp)]
      have HF := Lib.hid hfin
      clear hm hT hB hfin
      go_wp2
      go_ret
      exact ⟨by rw [← HF.out]; rfl, hC⟩
end Go.Proofs.YtniijkcncpabaaaGreat
