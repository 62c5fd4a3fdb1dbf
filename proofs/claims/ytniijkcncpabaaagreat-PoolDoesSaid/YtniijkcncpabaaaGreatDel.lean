/- Contract of slices.Delete at []int, of one element. -/
import Derived.Shelf.Slices.Cells
import Derived.Test.YtniijkcncpabaaaGreatLaid
import Derived.Test.YtniijkcncpabaaaGreatDelf
namespace Go.Proofs.YtniijkcncpabaaaGreat
open Go.RowKit Go.MapKept
set_option maxRecDepth 100000
set_option maxHeartbeats 400000

theorem at_setCells_get {e : TypeId} {f : Nat × Nat} (b : Nat) : ∀ (vs : List Value) (o : Nat) (w : World) (cs : Array Value), w.heap[b]? = some (.cells cs e f) → o + vs.length ≤ cs.size →
    ∃ cs' : Array Value, (w.setCells b o vs).heap[b]? = some (.cells cs' e f) ∧ cs'.size = cs.size ∧ (∀ t, t < o → cs'[t]? = cs[t]?) ∧ ∀ t, (h : t < vs.length) → cs'[o + t]? = some vs[t]
  | [], o, w, cs, h, _ => ⟨cs, h, rfl, fun _ _ => rfl, fun t h => by simp at h⟩
  | v :: r, o, w, cs, h, hl => by
    simp only [List.length_cons] at hl
    obtain ⟨cs', h1, h2, h3, h4⟩ := at_setCells_get b r (o + 1) (w.setCell ⟨b, o, none⟩ v) _ (at_setCell h o v) (by simp; omega)
    refine ⟨cs', h1, by simpa using h2, fun t ht => ?_, fun t ht => ?_⟩
    · rw [h3 t (by omega), Array.getElem?_setIfInBounds, if_neg (by omega)]
    · cases t with
      | zero => rw [Nat.add_zero, h3 o (by omega), Array.getElem?_setIfInBounds]; simp; omega
      | succ t =>
        have := h4 t (by simpa using ht)
        rw [show o + (t + 1) = o + 1 + t from by omega, this]; simp
theorem delete_ok {w : World} {v : Value} {l : List Int} (hv : IntRow w v l) (i : Nat) (hi : i < l.length) :
    Calls Tryz.prog 66 #[v, .int .i64 i, .int .i64 ((i : Int) + 1)] w fun e w' => ∃ v', e = .returned v' ∧ IntRow w' v' (l.eraseIdx i) ∧ Chg (fun k => v.ownBlock = some k) w w' ∧ v'.ownBlock = v.ownBlock := by
  rcases hv.2 with ⟨rfl, hn⟩ | ⟨b, cap, cur, rfl, _, hb, hnc, hcm, hcs, htake⟩
  · omega
  · have hcm' : cap ≤ 9223372036854775807 := hcm
    have h := Go.Proofs.Any.slices_Delete_int_cells Tryz.delA b 0 l.length cap i (i + 1) l w (Nat.le_refl _) hnc hcm' (by omega) (by omega) (fun j hj => by
      have := row_cell hv j hj
      rw [Nat.zero_add, this]; simp [hj]) (fun j hj => by rw [Nat.zero_add]; exact free_at hb j)
    rw [List.take_length] at h
    refine Calls.mono h ?_
    rintro e w' ⟨rfl, q, rfl⟩
    have hlen : (l.take i ++ l.drop (i + 1)).length = l.length - 1 := by simp; omega
    have hb' : (w.drewN q).heap[b]? = some (.cells cur 3 (0, 0)) := hb
    obtain ⟨cs', h1, h2, h3, h4⟩ := at_setCells_get b ((l.take i ++ l.drop (i + 1) ++ List.replicate (i + 1 - i) 0).map (Value.int .i64)) 0 (w.drewN q) cur hb' (by simp; omega)
    have he : l.eraseIdx i = l.take i ++ l.drop (i + 1) := List.eraseIdx_eq_take_drop_succ ..
    refine ⟨_, rfl, ?_, ((Chg.refl No w).drewN q).ofNo.then ((chg_setCells b _ 0 _).mono fun k _ e => by simp [Value.ownBlock, e]), rfl⟩
    refine ⟨by simp [ints], .inr ⟨b, cap, cs', by rw [he, hlen]; congr 1; omega, Nat.zero_le _, h1, by rw [he, hlen]; omega, hcm, by rw [h2]; exact hcs, ?_⟩⟩
    rw [Nat.mul_one]
    apply List.ext_getElem?
    intro t
    rw [List.getElem?_take]
    by_cases ht : t < (l.eraseIdx i).length
    · rw [if_pos ht, Array.getElem?_toList]
      have h5 := h4 t (by rw [he] at ht; simp at ht ⊢; omega)
      rw [Nat.zero_add] at h5
      have hl3 : t < (l.take i ++ l.drop (i + 1)).length := by rw [← he]; exact ht
      rw [h5, ← List.getElem?_eq_getElem, List.map_append, List.getElem?_append_left (by rw [List.length_map]; exact hl3), ints, he]
    · rw [if_neg ht, List.getElem?_eq_none (by simpa [ints] using ht)]
end Go.Proofs.YtniijkcncpabaaaGreat
