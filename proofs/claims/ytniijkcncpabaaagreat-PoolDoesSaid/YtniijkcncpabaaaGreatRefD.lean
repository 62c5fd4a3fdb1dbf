/- The reference's disk: Raw, Read. -/
import Derived.Test.YtniijkcncpabaaaGreatRefC
namespace Go.Proofs.YtniijkcncpabaaaGreat
open Go.RowKit Go.MapKept
set_option maxRecDepth 100000
set_option maxHeartbeats 1000000

def rawTo (l : List (Int × ByteArray)) (p : Int) : ByteArray := (lastW l p).getD emptyPage
theorem rawTo_snoc (l : List (Int × ByteArray)) (q : Int) (r : ByteArray) (p : Int) : rawTo (l ++ [(q, r)]) p = if q = p then r else rawTo l p := by
  unfold rawTo; rw [lastW_snoc]; split <;> rfl
theorem r4raw_ok {w : World} {rd : Nat} {lv wv : Value} {D : Disk} (h : RDisk w rd lv wv D) (p : Int) (hp0 : 0 ≤ p) (hp : p < D.n) :
    Calls Tryz.prog 20 #[.pointer (some ⟨rd, 0, none⟩), .int .i64 p] w fun e w' => e = .returned (.string (D.raw p)) ∧ w = w' := by
  have hraw : D.raw p = rawTo D.writes p := by unfold Disk.raw rawTo; rw [h.dry]; rfl
  rw [hraw]
  obtain ⟨g, cap, rfl, hpc⟩ := h.page_cell
  obtain ⟨a, cap', rfl, hwc⟩ := h.write_cell
  have c0 := cell_at h.self 0 (v := .slice (some ⟨g, 0, none⟩) D.n.toNat cap) rfl
  have c1 := cell_at h.self 1 (v := .slice a D.writes.length cap') rfl
  obtain ⟨m, hm⟩ : ∃ m : Nat, D.n = m := ⟨D.n.toNat, by have := h.range; omega⟩
  obtain ⟨q, rfl⟩ : ∃ q : Nat, p = q := ⟨p.toNat, by omega⟩
  have hcell := hpc q (by omega)
  have hfew := h.few
  rw [hm, Int.toNat_natCast] at c0
  rw [hm] at hp
  have HW := Lib.hid hwc
  have H0 : Hid (emptyPage = rawTo [] q) := Lib.hid rfl
  clear h hpc hwc hraw hm
  generalize emptyPage = ep at *
  go_enter Tryz.func20, Tryz.ntmps20
  go_wp2
  go_loop [5, 6] (fun s i => ∃ (k : Nat) (r : ByteArray), k ≤ D.writes.length ∧ i = .int .i64 k ∧ s = .string r ∧ r = rawTo (D.writes.take k) q) (fun _ i => D.writes.length - (intOf i).toNat)
  case atStart => exact ⟨0, ep, by omega, rfl, rfl, H0.out⟩
  case round =>
    obtain ⟨k, r, hk, rfl, rfl, hr⟩ := hrel
    have HR := Lib.hid hr
    clear hr
    by_cases hlt : k < D.writes.length
    · obtain ⟨gw, rfl, hg⟩ := HW.out (by omega)
      obtain ⟨w0, w1⟩ := hg k hlt
      have hsn : rawTo (D.writes.take (k + 1)) q = if D.writes[k].1 = q then D.writes[k].2 else rawTo (D.writes.take k) q := by
        rw [List.take_succ_eq_append_getElem hlt]; exact rawTo_snoc ..
      rw [← HR.out] at hsn
      generalize D.writes[k].1 = x at *
      generalize D.writes[k].2 = y at *
      clear hg
      by_cases hx : x = q
      · rw [if_pos hx] at hsn
        subst hx
        have HS := Lib.hid hsn
        clear hsn
        go_wp2
        go_round
        case rel => exact ⟨k + 1, y, by omega, by go_num, rfl, HS.out.symm⟩
        case measure => simp [intOf]; omega
      · rw [if_neg hx] at hsn
        have hb : (x == (q : Int)) = false := by simpa using hx
        have HS := Lib.hid hsn
        clear hsn hx
        go_wp2
        go_round
        case rel => exact ⟨k + 1, r, by omega, by go_num, rfl, HS.out.symm⟩
        case measure => simp [intOf]; omega
    · have hke : k = D.writes.length := by omega
      subst hke
      rw [List.take_length] at HR
      go_wp2
      go_ret
      exact ⟨by rw [← HR.out]; rfl, rfl⟩
theorem r4read_ok {w : World} {rd : Nat} {lv wv : Value} {D : Disk} (h : RDisk w rd lv wv D) (p : Int) (hp0 : 0 ≤ p) (hp : p < D.n) (c : ByteArray) (hc : c.size = 252) (hr : D.raw p = page c) :
    Calls Tryz.prog 48 #[.pointer (some ⟨rd, 0, none⟩), .int .i64 p] w fun e w' => e = .returned (.tuple #[.string c, .int .i64 0]) ∧ Chg No w w' := by
  have hraw := r4raw_ok h p hp0 hp
  rw [hr] at hraw
  have HR := Lib.hid hraw
  have HO := Lib.hid (fun w' => open2_ok c w' hc)
  obtain ⟨g, cap, rfl, _⟩ := h.page_cell
  have c0 := cell_at h.self 0 (v := .slice (some ⟨g, 0, none⟩) D.n.toNat cap) rfl
  obtain ⟨m, hm⟩ : ∃ m : Nat, D.n = m := ⟨D.n.toNat, by have := h.range; omega⟩
  rw [hm, Int.toNat_natCast] at c0
  rw [hm] at hp
  generalize page c = pg at *
  clear h hraw hr hm
  go_enter Tryz.func48, Tryz.ntmps48
  go_wp2_with fail
  refine HR.out.mono ?_
  rintro e w1 ⟨rfl, rfl⟩
  go_wp2_with fail
  refine (HO.out _).mono ?_
  rintro e w1 ⟨rfl, hch⟩
  go_wp2
  go_ret2
  exact ⟨rfl, hch⟩
end Go.Proofs.YtniijkcncpabaaaGreat
