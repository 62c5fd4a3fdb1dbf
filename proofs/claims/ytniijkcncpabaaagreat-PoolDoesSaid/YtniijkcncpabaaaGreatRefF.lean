/- Both disks: Dirty. -/
import Derived.Test.YtniijkcncpabaaaGreatRefE
import Derived.Test.YtniijkcncpabaaaGreatPoolE
import Derived.Shelf.SlIter.Collect
namespace Go.Proofs.YtniijkcncpabaaaGreat
open Go.RowKit Go.MapKept
set_option maxRecDepth 100000
set_option maxHeartbeats 1000000

def pagesOf (l : List (Int × ByteArray)) : List Int := l.map (·.1)
theorem pagesOf_take (l : List (Int × ByteArray)) (k : Nat) (h : k < l.length) : pagesOf (l.take (k + 1)) = pagesOf (l.take k) ++ [l[k].1] := by
  rw [List.take_succ_eq_append_getElem h, pagesOf, List.map_append]; rfl
theorem empty_row (w : World) : (w.alloc (.cells #[] 3)).ownsRow w.heap.size 3 1 (.slice (some ⟨w.heap.size, 0, none⟩) 0 0) 0 [] :=
  ⟨rfl, .inr ⟨w.heap.size, 0, #[], rfl, Nat.le_refl _, (MapKept.heap_alloc w (.cells #[] 3)).1, Nat.le_refl _, by decide, rfl, rfl⟩⟩
theorem r4dirty_ok {w : World} {rd : Nat} {lv wv : Value} {D : Disk} (h : RDisk w rd lv wv D) :
    Calls Tryz.prog 18 #[.pointer (some ⟨rd, 0, none⟩)] w fun e w' => ∃ v, e = .returned v ∧ IntRow w' v (pagesOf D.writes) ∧ Chg No w w' ∧ ∀ b, v.ownBlock = some b → w.heap.size ≤ b := by
  obtain ⟨i0, hi, hz0, hz1, hz2⟩ := info_parts infoInt
  obtain ⟨a, cap, rfl, hwc⟩ := h.write_cell
  have hfew := h.few
  have c1 := cell_at h.self 1 (v := .slice a D.writes.length cap) rfl
  have HW := Lib.hid hwc
  have H := Lib.hid h
  clear h hwc
  go_enter Tryz.func18, Tryz.ntmps18
  go_wp2
  go_loopw [3, 4] (fun sv si wr => ∃ k : Nat, k ≤ D.writes.length ∧ si = .int .i64 k ∧ wr.ownsRow w.heap.size 3 1 sv k (ints (pagesOf (D.writes.take k))) ∧ Chg No w wr) (fun _ si _ => D.writes.length - (intOf si).toNat)
  case atStart => exact ⟨0, by omega, rfl, empty_row w, (Chg.refl _ _).alloc _⟩
  case round =>
    obtain ⟨k, hk, rfl, hrow, hch⟩ := hrel
    have c1' := hch.cell c1 (fun e => e)
    by_cases hlt : k < D.writes.length
    · obtain ⟨g, rfl, hg⟩ := HW.out (by omega)
      have w0 := hch.cell (hg k hlt).1 (fun e => e)
      have HPT := Lib.hid (pagesOf_take D.writes k hlt)
      generalize D.writes[k].1 = x at *
      clear hg
      go_wp2_with (at_builtin; refine wpList_append_own_at _ rfl (.tmp 15) (.tmp 24) 42 rfl w.heap.size 3 i0 (.int .i64 0) 1 8 Tryz.underlying42 hi hz0 hz1 hz2 rfl (by decide) _ k (ints (pagesOf (D.writes.take k))) rfl (hrow.alloc _) ⟨wr.heap.size, 0, none⟩ 1 1 [.int .i64 x] rfl rfl ?c1 ?c2 ?c3 ?c4 ?c5 ?_)
      case c1 => intro j u hj; match j, hj with | 0, hj => simp at hj; subst hj; simp [Addr.add]
      case c2 => intro u hu; simp at hu; subst hu; rfl
      case c3 => unfold maxLen; omega
      case c4 => omega
      case c5 => simp; have := hch.size; omega
      intro v' w2 hown hgrow hnil hloc
      have HC : Hid (Chg No w w2) := Lib.hid ((hch.alloc _).trans (Chg.ofGrown hgrow) (fun b hb e => by
        have := (hrow.lt b e).1; omega))
      have HO : Hid (w2.ownsRow w.heap.size 3 1 v' (k + 1) (ints (pagesOf (D.writes.take (k + 1))))) := Lib.hid (by
        rw [HPT.out]; simpa [ints] using hown)
      clear hown hgrow hnil hloc hrow hch
      go_wp2
      go_roundw
      case rel => exact ⟨k + 1, by omega, by go_num, HO.out, HC.out⟩
      case measure => simp [intOf]; omega
    · have hke : k = D.writes.length := by omega
      subst hke
      rw [List.take_length] at hrow
      have hpl : (pagesOf D.writes).length = D.writes.length := by simp [pagesOf]
      have HO := Lib.hid hrow
      have HC := Lib.hid hch
      clear hrow hch
      go_wp2
      go_ret
      exact ⟨_, rfl, by unfold IntRow; rw [hpl]; exact ownsRow_base_a HO.out (Nat.zero_le _), HC.out, fun b hb => (HO.out.lt b hb).1⟩
end Go.Proofs.YtniijkcncpabaaaGreat
