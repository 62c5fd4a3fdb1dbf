/- Contracts of package field: places of bytes. -/
import Derived.Test.YtniijkcncpabaaaGreatCore
import Derived.Test.YtniijkcncpabaaaGreatProg
import Derived.Laws.BitsAllLaws
namespace Go.Proofs.YtniijkcncpabaaaGreat
open Go.RowKit Go.MapKept
set_option maxRecDepth 100000
set_option maxHeartbeats 400000

theorem place_ok (s : ByteArray) (i : Int) (w : World) (h0 : 0 ≤ i) (h1 : i ≤ s.size) (hs : s.size ≤ 140737488351232) :
    Calls Tryz.prog 99 #[.string s, .int .i64 i] w fun e w' => e = .returned (.int .i64 0) ∧ w = w' := by
  go_enter Tryz.func99, Tryz.ntmps99
  go_wp2
  go_ret
  exact ⟨rfl, rfl⟩

theorem room_ok (s : ByteArray) (i n : Int) (w : World) (h0 : 0 ≤ i) (h1 : i + n ≤ s.size) (hs : s.size ≤ 140737488351232) (hn : 1 ≤ n) (hn8 : n ≤ 8) :
    Calls Tryz.prog 90 #[.string s, .int .i64 i, .int .i64 n] w fun e w' => e = .returned (.int .i64 0) ∧ w = w' := by
  go_enter Tryz.func90, Tryz.ntmps90
  go_wp2_with (go_at_call 99; refine (place_ok _ _ _ h0 (by omega) hs).mono ?_; rintro e w' ⟨rfl, rfl⟩)
  go_ret
  exact ⟨rfl, rfl⟩

theorem infoU8 : (Tryz.prog.info? 5).map (fun i => (i.zero, i.size, i.bytes)) = some (some (.int .u8 0), 1, 1) := by kernel_rfl
/-- bytes with zeros behind them -/
def padTo (s : ByteArray) (n : Nat) : ByteArray := s ++ zeros (n - s.size)
theorem padTo_size (s : ByteArray) (n : Nat) (h : s.size ≤ n) : (padTo s n).size = n := by simp [padTo, zeros_size]; omega

theorem fpad_ok (s : ByteArray) (n : Int) (w : World) (h1 : (s.size : Int) ≤ n) (hn : n ≤ 65536) :
    Calls Tryz.prog 88 #[.string s, .int .i64 n] w fun e w' => e = .returned (.tuple #[.string (padTo s n.toNat), .int .i64 0]) ∧ Chg No w w' := by
  obtain ⟨i, hi, hz0, hz1, hz2⟩ := info_parts infoU8
  obtain ⟨k, rfl⟩ : ∃ k : Nat, n = s.size + k := ⟨(n - s.size).toNat, by omega⟩
  have hmk := run_make_bytes (P := Tryz.prog) (t := 97) Tryz.underlying97 hi hz0 hz1 hz2 k (by omega)
  have hcv := run_string_zeros (P := Tryz.prog) (src := 97) (dst := 9) Tryz.underlying97 Tryz.underlying5 Tryz.underlying9 k k
  have hz := zeros_size k
  have hsub : ((s.size : Int) + k - s.size) = k := by omega
  have hp : padTo s ((s.size : Int) + k).toNat = s ++ zeros k := by rw [padTo, show ((s.size : Int) + k).toNat - s.size = k from by omega]
  rw [hp]
  clear hp
  go_enter Tryz.func88, Tryz.ntmps88
  go_wp2_with fail
  go_ret2
  exact ⟨rfl, (Chg.refl _ _).alloc _⟩

/-- over: bytes with others at a place. -/
theorem over_ok (s : ByteArray) (k bt cp : Nat) (m : List UInt8) (w : World) (hb : bytesAt w bt m) (hbt : bt < w.heap.size) (h0 : 0 < m.length) (h1 : k + m.length ≤ s.size) (hs : s.size ≤ 140737488351232) :
    Calls Tryz.prog 98 #[.string s, .int .i64 (k : Int), .slice (some ⟨bt, 0, none⟩) m.length cp] w fun e w' => e = .returned (.string ⟨(splice s.data.toList k m).toArray⟩) ∧ Chg No w w' := by
  have hcv := Lib.run_convert_string_bytes (P := Tryz.prog) w 9 97 5 s Tryz.underlying9 Tryz.underlying97 Tryz.underlying5
  have hge := grownCap_ge w s.size 0 5
  have hle := grownCap_le_maxLen w s.size 0 5 (by unfold maxLen; omega)
  unfold maxLen at hle
  have hch := bytesWorld_chg w 5 s
  have hby := bytesWorld_bytes w 5 s
  have hb' := hb.chg hch hbt (fun h => h)
  have hsz : w.heap.size < (Lib.bytesWorld w 5 s).heap.size := by rw [Lib.bytesWorld_size]; omega
  generalize grownCap w s.size 0 5 = cap at hcv hge hle
  generalize Lib.bytesWorld w 5 s = w1 at hcv hch hby hb' hsz
  obtain ⟨w2, hcp, hby2, hch2⟩ := run_copy_splice (P := Tryz.prog) (dT := 97) (sT := 97) (ty := 3) Tryz.underlying97 (by kernel_rfl) hby hb' k (s.size - k) (cap - k) cp (by simpa using h1) (by omega)
  have hst := run_string_bytes (P := Tryz.prog) (src := 97) (dst := 9) Tryz.underlying97 Tryz.underlying5 Tryz.underlying9 hby2 cap
  rw [splice_length _ _ _ (by simpa using h1), show s.data.toList.length = s.size from rfl] at hst
  have hne : ¬ cap = k := by omega
  have hk : (k : Int) ≤ s.size := by omega
  have hgs : (0 : Int) ≤ k := by omega
  have hfin : Chg No w w2 := hch.trans hch2 fun i hi e => by have := hch.size; omega
  clear hle h1 hs hge hch hch2 hby hb' hsz hby2 hb hbt h0
  go_enter Tryz.func98, Tryz.ntmps98
  go_wp2_with fail
  go_ret
  exact ⟨rfl, hfin⟩

/-- a number's four bytes, the lowest first -/
def le4 (n : Int) : List UInt8 := [UInt8.ofNat (n % 256).toNat, UInt8.ofNat (n / 256 % 256).toNat, UInt8.ofNat (n / 65536 % 256).toNat, UInt8.ofNat (n / 16777216).toNat]
theorem byte_of (x : Int) (h0 : 0 ≤ x) (h1 : x < 256) : ((UInt8.ofNat x.toNat).toNat : Int) = x := by
  rw [UInt8.toNat_ofNat_of_lt' (by show x.toNat < 256; omega)]; omega
theorem le4_bytes (n : Int) (h0 : 0 ≤ n) (hn : n < 4294967296) (w : World) (e : TypeId) :
    bytesAt (w.alloc (.cells #[.int .u8 (n % 256), .int .u8 (n / 256 % 256), .int .u8 (n / 65536 % 256), .int .u8 (n / 16777216)] e)) w.heap.size (le4 n) := by
  have h := bytesAt_alloc w e (le4 n)
  simp only [le4, List.map_cons, List.map_nil] at h
  rw [byte_of _ (by omega) (by omega), byte_of _ (by omega) (by omega), byte_of _ (by omega) (by omega), byte_of _ (by omega) (by omega)] at h
  exact h

/-- field.Put of four bytes: the bytes with a number at a place. -/
theorem fput4_ok (s : ByteArray) (at_ : Nat) (n : Int) (w : World) (h1 : at_ + 4 ≤ s.size) (hs : s.size ≤ 140737488351232) (h0 : 0 ≤ n) (hn : n < 4294967296) :
    Calls Tryz.prog 89 #[.string s, .int .i64 (at_ : Int), .int .i64 4, .int .u64 n] w fun e w' => e = .returned (.tuple #[.string ⟨(splice s.data.toList at_ (le4 n)).toArray⟩, .int .i64 0]) ∧ Chg No w w' := by
  obtain ⟨i, hi, hz0, hzz1, hzz2⟩ := info_parts infoU8
  have hmk : ∀ w : World, (Instr.makeSlice 97 (.int .i64 4) (.int .i64 4)).run Tryz.prog w = .ok (.slice (some ⟨w.heap.size, 0, none⟩) 4 4) (w.alloc (.cells #[.int .u8 0, .int .u8 0, .int .u8 0, .int .u8 0] 5)) :=
    run_make_bytes (P := Tryz.prog) (t := 97) Tryz.underlying97 hi hz0 hzz1 hzz2 4 (by omega)
  go_enter Tryz.func89, Tryz.ntmps89
  go_wp2_with (go_at_call 90; refine (room_ok _ _ _ _ (by omega) (by omega) hs (by omega) (by omega)).mono ?_; rintro e w' ⟨rfl, rfl⟩)
  refine wp_loop_rounds 5 ?_
  rw [rounds_succ]
  go_wp2
  rw [rounds_succ]
  go_wp2
  rw [rounds_succ]
  go_wp2
  rw [rounds_succ]
  go_wp2
  rw [rounds_succ]
  go_wp2_with fail
  refine (over_ok s at_ w.heap.size 4 (le4 n) _ (le4_bytes n h0 hn w _) (by simp) (by simp [le4]) (by simpa [le4] using h1) hs).mono ?_
  rintro e w' ⟨rfl, hch⟩
  go_wp2
  go_ret2
  exact ⟨rfl, ((Chg.refl No w).alloc _).then hch⟩

theorem or_above (a b k : Nat) (h : a < 2 ^ k) : a ||| (b * 2 ^ k) = a + b * 2 ^ k := by
  have := Nat.two_pow_add_eq_or_of_lt h b
  rw [Nat.or_comm, Nat.mul_comm b, ← this, Nat.add_comm]
theorem or_u64 (a b k : Nat) (ha : a < 2 ^ k) (hb : a + b * 2 ^ k < 18446744073709551616) (ha' : a < 18446744073709551616) (hb' : b * 2 ^ k < 18446744073709551616) : bits .or .u64 (a : Int) ((b * 2 ^ k : Nat) : Int) = ((a + b * 2 ^ k : Nat) : Int) := by
  rw [u64_or_nat _ _ ha' hb', or_above _ _ _ ha]
/-- four bytes put together -/
def four (a b c d : Int) : Int :=
  bits .or .u64 (bits .or .u64 (bits .or .u64 (bits .or .u64 0 (IntKind.u64.wrap (IntKind.u64.wrap a))) (IntKind.u64.wrap (IntKind.u64.wrap b * 256))) (IntKind.u64.wrap (IntKind.u64.wrap c * 65536))) (IntKind.u64.wrap (IntKind.u64.wrap d * 16777216))
theorem wrap_u64 (x : Int) (h0 : 0 ≤ x) (h1 : x < 18446744073709551616) : IntKind.u64.wrap x = x := by
  simp [IntKind.wrap, IntKind.signed, IntKind.bits]; omega
theorem four_eq (a b c d : Nat) (ha : a < 256) (hb : b < 256) (hc : c < 256) (hd : d < 256) : four a b c d = ((a + 256 * b + 65536 * c + 16777216 * d : Nat) : Int) := by
  unfold four
  rw [wrap_u64 a (by omega) (by omega), wrap_u64 b (by omega) (by omega), wrap_u64 c (by omega) (by omega), wrap_u64 d (by omega) (by omega), wrap_u64 a (by omega) (by omega), wrap_u64 _ (by omega) (by omega), wrap_u64 _ (by omega) (by omega), wrap_u64 _ (by omega) (by omega)]
  have e0 : bits .or .u64 0 (a : Int) = (a : Int) := by
    have := u64_or_nat 0 a (by omega) (by omega); simpa using this
  rw [e0]
  have e1 := or_u64 a b 8 (by omega) (by omega) (by omega) (by omega)
  have e2 := or_u64 (a + b * 256) c 16 (by omega) (by omega) (by omega) (by omega)
  have e3 := or_u64 (a + b * 256 + c * 65536) d 24 (by omega) (by omega) (by omega) (by omega)
  rw [show (b : Int) * 256 = ((b * 2 ^ 8 : Nat) : Int) from by omega, e1, show (c : Int) * 65536 = ((c * 2 ^ 16 : Nat) : Int) from by omega, e2, show (d : Int) * 16777216 = ((d * 2 ^ 24 : Nat) : Int) from by omega, e3]
  omega
/-- field.Get of four bytes. -/
theorem fget4_ok (s : ByteArray) (k : Nat) (w : World) (h1 : k + 4 ≤ s.size) (hs : s.size ≤ 140737488351232) :
    Calls Tryz.prog 75 #[.string s, .int .i64 (k : Int), .int .i64 4] w fun e w' => e = .returned (.tuple #[.int .u64 (four s[k].toNat s[k + 1].toNat s[k + 2].toNat s[k + 3].toNat), .int .i64 0]) ∧ w = w' := by
  go_enter Tryz.func75, Tryz.ntmps75
  go_wp2_with (go_at_call 90; refine (room_ok _ _ _ _ (by omega) (by omega) hs (by omega) (by omega)).mono ?_; rintro e w' ⟨rfl, rfl⟩)
  refine wp_loop_rounds 5 ?_
  rw [rounds_succ]
  go_wp2
  rw [rounds_succ]
  go_wp2
  rw [rounds_succ]
  go_wp2
  rw [rounds_succ]
  go_wp2
  rw [rounds_succ]
  go_wp2
  go_ret2
  exact ⟨rfl, rfl⟩
end Go.Proofs.YtniijkcncpabaaaGreat
