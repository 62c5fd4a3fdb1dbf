/- The pool: a page more in memory. -/
import Derived.Test.YtniijkcncpabaaaGreatPoolG
namespace Go.Proofs.YtniijkcncpabaaaGreat
open Go.RowKit Go.MapKept
set_option maxRecDepth 100000
set_option maxHeartbeats 400000

theorem tabOf_congr {pb pb' : Int → Nat} {L : List (Int × Pl)} (h : ∀ k ∈ keys L, pb' k = pb k) : tabOf pb' L = tabOf pb L := by
  unfold tabOf
  exact List.map_congr_left fun p hp => by rw [h p.1 (List.mem_map_of_mem hp)]
theorem PoolIs.add {w w2 : World} {bp : Nat} {x : Locs} {σ : Pool} (h : PoolIs w bp x σ) {k : Int} (hk : aget σ.L k = none) (p : Pl) (hc : Chg (· = x.bm) (w.alloc (.cells p.cells 71)) w2)
    (hm : kmap (Value.int .i64) ptrB w2 x.bm (aput (tabOf x.pb σ.L) k w.heap.size)) :
    PoolIs w2 bp { x with pb := fun j => if j = k then w.heap.size else x.pb j } { σ with L := aput σ.L k p } := by
  have h1 := h.no ((Chg.refl No w).alloc (.cells p.cells 71))
  have hkk : k ∉ keys σ.L := aget_none.1 hk
  have hnew := (MapKept.heap_alloc w (.cells p.cells 71)).1
  refine ⟨hc.at h1.self (map_ne h1.self h1.tab), ?_, ?_, hc.row h1.ages (fun b hb e => by subst e; exact row_ne_map h1.ages h1.tab hb), h1.disk.chg hc (map_ne h1.disk.self h1.tab) (fun e => h.ne e.symm) (fun b hb e => by subst e; exact row_ne_map h1.disk.writes h1.tab hb), ?_, h.ne, h.few⟩
  · show kmap _ _ w2 x.bm (tabOf _ (aput σ.L k p))
    have e : tabOf (fun j => if j = k then w.heap.size else x.pb j) (aput σ.L k p) = aput (tabOf x.pb σ.L) k w.heap.size := by
      rw [aput_new hkk, aput_new (by rw [tabOf_keys]; exact hkk)]
      have := tabOf_congr (pb' := fun j => if j = k then w.heap.size else x.pb j) (pb := x.pb) (L := σ.L) (fun j hj => by
        have : j ≠ k := fun e => hkk (e ▸ hj)
        simp [this])
      unfold tabOf at this ⊢
      rw [List.map_append, this]; simp
    rw [e]; exact hm
  · intro j q hq
    simp only [aget_aput] at hq
    by_cases hj : k = j
    · subst hj
      simp only [if_true, Option.some.injEq] at hq; subst hq
      simp only [if_true]
      exact hc.at hnew (map_ne hnew h1.tab)
    · rw [if_neg hj] at hq
      have hj' : ¬ j = k := fun e => hj e.symm
      simp only [hj', if_false]
      exact hc.at (h1.place j q hq) (map_ne (h1.place j q hq) h1.tab)
  · have hlt : ∀ i q, aget σ.L i = some q → x.pb i < w.heap.size := fun i q hq => lt_of_block (h.place i q hq)
    intro i j q r hq hr e
    simp only [aget_aput] at hq hr
    simp only at e
    by_cases hi : k = i
    · by_cases hj : k = j
      · exact hi.symm.trans hj
      · rw [if_neg hj] at hr
        have hj' : ¬ j = k := fun e => hj e.symm
        have hi' : i = k := hi.symm
        simp only [hi', hj', if_true, if_false] at e
        have := hlt j r hr; omega
    · rw [if_neg hi] at hq
      have hi' : ¬ i = k := fun e => hi e.symm
      by_cases hj : k = j
      · have hj' : j = k := hj.symm
        simp only [hi', hj', if_true, if_false] at e
        have := hlt i q hq; omega
      · rw [if_neg hj] at hr
        have hj' : ¬ j = k := fun e => hj e.symm
        simp only [hi', hj', if_false] at e
        exact h.inj i j q r hq hr e
theorem Own.add {bp : Nat} {x : Locs} {σ : Pool} {S : Nat → Prop} (hS : ∀ k, Own bp x σ k → S k) (k : Int) (p : Pl) {n : Nat} (hn : S n) : ∀ b, Own bp { x with pb := fun j => if j = k then n else x.pb j } { σ with L := aput σ.L k p } b → S b := by
  intro b h
  rcases h with h | h | h | h | h | h | ⟨j, q, hq, h⟩
  · exact hS b (.inl h)
  · exact hS b (.inr (.inl h))
  · exact hS b (.inr (.inr (.inl h)))
  · exact hS b (.inr (.inr (.inr (.inl h))))
  · exact hS b (.inr (.inr (.inr (.inr (.inl h)))))
  · exact hS b (.inr (.inr (.inr (.inr (.inr (.inl h))))))
  · simp only [aget_aput] at hq
    simp only at h
    by_cases hj : k = j
    · have : j = k := hj.symm
      simp only [this, if_true] at h
      subst h; exact hn
    · have hj' : ¬ j = k := fun e => hj e.symm
      rw [if_neg hj] at hq
      simp only [hj', if_false] at h
      exact hS b (.inr (.inr (.inr (.inr (.inr (.inr ⟨j, q, hq, h⟩))))))
/-- what Pin tells, and leaves (of a page of the disk, that has c) -/
def pinE (σ : Pool) (k : Int) : Int := match aget σ.L k with
  | some _ => 0
  | none => freeE σ
def fresh (c : ByteArray) : Pl := ⟨c, 0, false, 0, 0⟩
def pinIn (σ : Pool) (k : Int) (c : ByteArray) : Pool := match aget σ.L k with
  | some _ => σ
  | none => { freeS σ with L := aput (freeS σ).L k (fresh c) }
def up (p : Pl) : Pl := { p with pins := p.pins + 1 }
def pinUp (σ : Pool) (k : Int) : Pool := match aget σ.L k with
  | some p => { σ with L := aput σ.L k (up p), ages := youngL σ.ages k }
  | none => σ
def pinS (σ : Pool) (k : Int) (c : ByteArray) : Pool := if pinE σ k = 0 then pinUp (pinIn σ k c) k else σ
def pinC (σ : Pool) (k : Int) (c : ByteArray) : ByteArray := if pinE σ k = 0 then (match aget σ.L k with | some p => p.s | none => c) else ByteArray.empty
theorem freeS_bad {σ : Pool} (h : freeE σ ≠ 0) : freeS σ = σ := by
  unfold freeE at h
  unfold freeS
  split at h
  · exact absurd rfl h
  · rename_i hlt
    rw [if_neg hlt]
    cases hf : σ.ages.findIdx? (goesB σ) with
    | none => rfl
    | some i =>
      have : idxI (goesB σ) σ.ages = i := by rw [idxI, hf]
      rw [this, if_neg (by omega)] at h
      exact absurd rfl h
end Go.Proofs.YtniijkcncpabaaaGreat
