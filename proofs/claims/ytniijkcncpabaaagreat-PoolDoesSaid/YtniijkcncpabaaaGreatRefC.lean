/- The reference's disk. -/
import Derived.Test.YtniijkcncpabaaaGreatRefB
import Derived.Test.YtniijkcncpabaaaGreatPoolF
namespace Go.Proofs.YtniijkcncpabaaaGreat
open Go.RowKit Go.MapKept
set_option maxRecDepth 100000
set_option maxHeartbeats 1000000

def strs (n : Nat) : List Value := List.replicate n (.string emptyPage)
/-- the reference's disk at block rd: its pages lv, its writes wv -/
structure RDisk (w : World) (rd : Nat) (lv wv : Value) (D : Disk) : Prop where
  self : w.heap[rd]? = some (.cells #[lv, wv] 56 (0, 0))
  pages : w.ownsRow 0 9 1 lv D.n.toNat (strs D.n.toNat)
  writes : w.ownsRow 0 85 2 wv D.writes.length (wcells D.writes)
  few : D.writes.length ≤ 1000000000
  range : 0 < D.n ∧ D.n ≤ 1024
  dry : D.stays = []
theorem RDisk.chg {S : Nat → Prop} {w w' : World} {rd : Nat} {lv wv : Value} {D : Disk} (h : RDisk w rd lv wv D) (hc : Chg S w w') (h1 : ¬ S rd) (h2 : ∀ k, lv.ownBlock = some k → ¬ S k) (h3 : ∀ k, wv.ownBlock = some k → ¬ S k) : RDisk w' rd lv wv D :=
  ⟨hc.at h.self h1, hc.row h.pages h2, hc.row h.writes h3, h.few, h.range, h.dry⟩
theorem RDisk.no {w w' : World} {rd : Nat} {lv wv : Value} {D : Disk} (h : RDisk w rd lv wv D) (hc : Chg No w w') : RDisk w' rd lv wv D := h.chg hc (fun e => e) (fun _ _ e => e) (fun _ _ e => e)
theorem add_mid (g j : Nat) : (⟨g, 0, none⟩ : Addr).add j = ⟨g, j, none⟩ := by unfold Addr.add; split <;> simp_all
/-- the pages, as cells -/
theorem RDisk.page_cell {w : World} {rd : Nat} {lv wv : Value} {D : Disk} (h : RDisk w rd lv wv D) : ∃ g cap, lv = .slice (some ⟨g, 0, none⟩) D.n.toNat cap ∧ ∀ j, j < D.n.toNat → w.cell? ⟨g, j, none⟩ = some (.string emptyPage) := by
  rcases h.pages.2 with ⟨_, hn⟩ | ⟨g, cap, cur, rfl, _⟩
  · have := h.range; omega
  · refine ⟨g, cap, rfl, fun j hj => ?_⟩
    have := h.pages.cells (g := g) rfl j (.string emptyPage) (by simp [strs, hj])
    rwa [add_mid] at this
theorem wcells_get (l : List (Int × ByteArray)) : ∀ j, (h : j < l.length) → (wcells l)[j * 2]? = some (.int .i64 l[j].1) ∧ (wcells l)[j * 2 + 1]? = some (.string l[j].2) := by
  induction l with
  | nil => intro j h; simp at h
  | cons p r ih =>
    intro j h
    have e : wcells (p :: r) = .int .i64 p.1 :: .string p.2 :: wcells r := rfl
    cases j with
    | zero => rw [e]; exact ⟨rfl, rfl⟩
    | succ j =>
      have := ih j (by simpa using h)
      rw [e, show (j + 1) * 2 = j * 2 + 1 + 1 from by omega]
      simpa using this
theorem RDisk.write_cell {w : World} {rd : Nat} {lv wv : Value} {D : Disk} (h : RDisk w rd lv wv D) : ∃ a cap, wv = .slice a D.writes.length cap ∧ (0 < D.writes.length → ∃ g, a = some ⟨g, 0, none⟩ ∧ ∀ j, (hj : j < D.writes.length) → w.cell? ⟨g, j * 2, none⟩ = some (.int .i64 D.writes[j].1) ∧ w.cell? ⟨g, j * 2 + 1, none⟩ = some (.string D.writes[j].2)) := by
  have h0 := h.writes
  rcases h.writes.2 with ⟨rfl, hn⟩ | ⟨g, cap, cur, rfl, _⟩
  · exact ⟨_, _, by rw [hn], fun h => by omega⟩
  · refine ⟨_, _, rfl, fun _ => ⟨g, rfl, fun j hj => ?_⟩⟩
    have e := wcells_get D.writes j hj
    have h1 := h0.cells (g := g) rfl (j * 2) _ e.1
    have h2 := h0.cells (g := g) rfl (j * 2 + 1) _ e.2
    rw [add_mid] at h1 h2
    exact ⟨h1, h2⟩
end Go.Proofs.YtniijkcncpabaaaGreat
