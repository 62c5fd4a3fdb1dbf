/- The pool: what a page less in memory leaves. -/
import Derived.Test.YtniijkcncpabaaaGreatPoolE
import Derived.Test.YtniijkcncpabaaaGreatDel
namespace Go.Proofs.YtniijkcncpabaaaGreat
open Go.RowKit Go.MapKept
set_option maxRecDepth 100000
set_option maxHeartbeats 400000

theorem Own.lt {w : World} {bp : Nat} {x : Locs} {σ : Pool} (h : PoolIs w bp x σ) {k : Nat} (hk : Own bp x σ k) : k < w.heap.size := by
  rcases hk with e | e | e | e | e | e | ⟨j, p, hp, e⟩
  · subst e; exact lt_of_block h.self
  · subst e; exact h.tab.lt
  · subst e; exact lt_of_block h.disk.self
  · subst e; exact h.disk.stays.lt
  · exact own_lt h.disk.writes e
  · exact own_lt h.ages e
  · subst e; exact lt_of_block (h.place j p hp)
theorem PoolAt.mono {w : World} {bp bd : Nat} {S T : Nat → Prop} {σ : Pool} (h : PoolAt w bp bd S σ) (hS : ∀ k, S k → T k) : PoolAt w bp bd T σ := by
  obtain ⟨x, hx, h1, h2⟩ := h; exact ⟨x, hx, h1, fun k hk => hS k (h2 k hk)⟩
theorem tabOf_adel (pb : Int → Nat) (L : List (Int × Pl)) (k : Int) : tabOf pb (adel L k) = adel (tabOf pb L) k := by
  induction L with
  | nil => rfl
  | cons q r ih =>
    obtain ⟨j, u⟩ := q
    simp only [adel, tabOf, List.map_cons] at ih ⊢
    by_cases hj : j = k
    · subst hj; simp
    · simp only [hj, if_false, List.map_cons, ih]
theorem PoolIs.nodup {w : World} {bp : Nat} {x : Locs} {σ : Pool} (h : PoolIs w bp x σ) : (keys σ.L).Nodup := by
  have := h.tab.nodup keyInt; rwa [tabOf_keys] at this
theorem PoolIs.drop {w w' : World} {bp : Nat} {x : Locs} {σ : Pool} (h : PoolIs w bp x σ) (k : Int) (hc : Chg (· = x.bm) w w') (hn : kmap (Value.int .i64) ptrB w' x.bm (tabOf x.pb (adel σ.L k))) :
    PoolIs w' bp x { σ with L := adel σ.L k } := by
  have hnd := h.nodup
  refine ⟨hc.at h.self (map_ne h.self h.tab), hn, ?_, hc.row h.ages (fun b hb e => by subst e; exact row_ne_map h.ages h.tab hb), h.disk.chg hc (map_ne h.disk.self h.tab) (fun e => h.ne e.symm) (fun b hb e => by subst e; exact row_ne_map h.disk.writes h.tab hb), ?_, h.ne, h.few⟩
  · intro j q hq
    simp only [aget_adel hnd] at hq
    by_cases hj : k = j
    · simp [hj] at hq
    · rw [if_neg hj] at hq
      exact hc.at (h.place j q hq) (map_ne (h.place j q hq) h.tab)
  · intro i j q r hq hr e
    simp only [aget_adel hnd] at hq hr
    have a1 : aget σ.L i = some q := by by_cases hi : k = i; simp [hi] at hq; rwa [if_neg hi] at hq
    have a2 : aget σ.L j = some r := by by_cases hi : k = j; simp [hi] at hr; rwa [if_neg hi] at hr
    exact h.inj i j q r a1 a2 e
theorem Own.drop {bp : Nat} {x : Locs} {σ : Pool} (hnd : (keys σ.L).Nodup) (k : Int) {b : Nat} (h : Own bp x { σ with L := adel σ.L k } b) : Own bp x σ b := by
  rcases h with h | h | h | h | h | h | ⟨j, q, hq, h⟩
  · exact .inl h
  · exact .inr (.inl h)
  · exact .inr (.inr (.inl h))
  · exact .inr (.inr (.inr (.inl h)))
  · exact .inr (.inr (.inr (.inr (.inl h))))
  · exact .inr (.inr (.inr (.inr (.inr (.inl h)))))
  · refine .inr (.inr (.inr (.inr (.inr (.inr ?_)))))
    simp only [aget_adel hnd] at hq
    by_cases hj : k = j
    · simp [hj] at hq
    · rw [if_neg hj] at hq; exact ⟨j, q, hq, h⟩
def wrote (σ : Pool) (k : Int) : Pool := match aget σ.L k with
  | none => σ
  | some p => if p.dirty then { σ with L := aput σ.L k { p with dirty := false }, D := σ.D.put k p.s } else σ
def dropAt (σ : Pool) (i : Nat) (k : Int) : Pool := { σ with L := adel σ.L k, ages := σ.ages.eraseIdx i }
def freeE (σ : Pool) : Int := if (σ.L.length : Int) < σ.places then 0 else if idxI (goesB σ) σ.ages = -1 then 6 else 0
def freeS (σ : Pool) : Pool := if (σ.L.length : Int) < σ.places then σ else match σ.ages.findIdx? (goesB σ) with
  | none => σ
  | some i => dropAt (wrote σ (σ.ages.getD i 0)) i (σ.ages.getD i 0)
end Go.Proofs.YtniijkcncpabaaaGreat
