/- The disk: Dirty. -/
import Derived.Test.YtniijkcncpabaaaGreatRefF
namespace Go.Proofs.YtniijkcncpabaaaGreat
open Go.RowKit Go.MapKept
set_option maxRecDepth 100000
set_option maxHeartbeats 1000000

theorem DiskIs.write_cell {w : World} {bd bs : Nat} {wv : Value} {D : Disk} (h : DiskIs w bd bs wv D) : ∃ a cap, wv = .slice a D.writes.length cap ∧ (0 < D.writes.length → ∃ g, a = some ⟨g, 0, none⟩ ∧ ∀ j, (hj : j < D.writes.length) → w.cell? ⟨g, j * 2, none⟩ = some (.int .i64 D.writes[j].1) ∧ w.cell? ⟨g, j * 2 + 1, none⟩ = some (.string D.writes[j].2)) := by
  have h0 := h.writes
  rcases h.writes.2 with ⟨rfl, hn⟩ | ⟨g, cap, cur, rfl, _⟩
  · exact ⟨_, _, by rw [hn], fun h => by omega⟩
  · refine ⟨_, _, rfl, fun _ => ⟨g, rfl, fun j hj => ?_⟩⟩
    have e := wcells_get D.writes j hj
    have h1 := h0.cells (g := g) rfl (j * 2) _ e.1
    have h2 := h0.cells (g := g) rfl (j * 2 + 1) _ e.2
    rw [add_mid] at h1 h2
    exact ⟨h1, h2⟩
theorem ddirty_ok {w : World} {bd bs : Nat} {wv : Value} {D : Disk} (h : DiskIs w bd bs wv D) :
    Calls Tryz.prog 17 #[.pointer (some ⟨bd, 0, none⟩)] w fun e w' => ∃ v, e = .returned v ∧ IntRow w' v (pagesOf D.writes) ∧ Chg No w w' ∧ ∀ b, v.ownBlock = some b → w.heap.size ≤ b := by
  obtain ⟨i0, hi, hz0, hz1, hz2⟩ := info_parts infoInt
  obtain ⟨a, cap, rfl, hwc⟩ := h.write_cell
  have hfew := h.few
  have c2 := cell_at h.self 2 (v := .slice a D.writes.length cap) rfl
  have HW := Lib.hid hwc
  clear h hwc
  go_enter Tryz.func17, Tryz.ntmps17
  go_wp2
  go_loopw [3, 11] (fun sv si wr => ∃ k : Nat, k ≤ D.writes.length ∧ si = .int .i64 k ∧ wr.ownsRow w.heap.size 3 1 sv k (ints (pagesOf (D.writes.take k))) ∧ Chg No w wr) (fun _ si _ => D.writes.length - (intOf si).toNat)
  case atStart => exact ⟨0, by omega, rfl, World.ownsRow_nil _ _ _ _, Chg.refl _ _⟩
  case round =>
    obtain ⟨k, hk, rfl, hrow, hch⟩ := hrel
    by_cases hlt : k < D.writes.length
    · obtain ⟨g, rfl, hg⟩ := HW.out (by omega)
      have w0 := hch.cell (hg k hlt).1 (fun e => e)
      have w1 := hch.cell (hg k hlt).2 (fun e => e)
      have HPT := Lib.hid (pagesOf_take D.writes k hlt)
      generalize D.writes[k].1 = x at *
      generalize D.writes[k].2 = y at *
      have hrow1 : (wr.alloc (.cells #[.int .i64 x, .string y] 83)).ownsRow w.heap.size 3 1 u3 k (ints (pagesOf (D.writes.take k))) := hrow.alloc _
      clear hg
      go_wp2_with (at_builtin; refine wpList_append_own_at _ rfl (.tmp 15) (.tmp 18) 42 rfl w.heap.size 3 i0 (.int .i64 0) 1 8 Tryz.underlying42 hi hz0 hz1 hz2 rfl (by decide) _ k (ints (pagesOf (D.writes.take k))) rfl (hrow1.alloc _) ⟨wr.heap.size + 1, 0, none⟩ 1 1 [.int .i64 x] rfl rfl ?c1 ?c2 ?c3 ?c4 ?c5 ?_)
      --DBG
      case c1 => intro j u hj; match j, hj with | 0, hj => simp at hj; subst hj; simp [Addr.add]
      case c2 => intro u hu; simp at hu; subst hu; rfl
      case c3 => unfold maxLen; omega
      case c4 => omega
      case c5 => simp; have := hch.size; omega
      intro v' w2 hown hgrow hnil hloc
      have HC : Hid (Chg No w w2) := Lib.hid (((hch.alloc _).alloc _).trans (Chg.ofGrown hgrow) (fun b hb e => by
        have := (hrow.lt b e).1; omega))
      have HO : Hid (w2.ownsRow w.heap.size 3 1 v' (k + 1) (ints (pagesOf (D.writes.take (k + 1))))) := Lib.hid (by
        rw [HPT.out]; simpa [ints] using hown)
      clear hown hgrow hnil hloc hrow hch hrow1
      go_wp2
      go_roundw
      case rel => exact ⟨k + 1, by omega, by go_num, HO.out, HC.out⟩
      case measure => simp [intOf]; omega
    · have hke : k = D.writes.length := by omega
      subst hke
      rw [List.take_length] at hrow
      have hpl : (pagesOf D.writes).length = D.writes.length := by simp [pagesOf]
      have HO := Lib.hid hrow
      have HC := Lib.hid hch
      clear hrow hch
      go_wp2
      go_ret
      exact ⟨_, rfl, by unfold IntRow; rw [hpl]; exact ownsRow_base_a HO.out (Nat.zero_le _), HC.out, fun b hb => (HO.out.lt b hb).1⟩
end Go.Proofs.YtniijkcncpabaaaGreat
