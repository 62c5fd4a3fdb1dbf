/- The pool: what a change of one page in memory leaves; Unpin, Sure, Put, New. -/
import Derived.Test.YtniijkcncpabaaaGreatPool
namespace Go.Proofs.YtniijkcncpabaaaGreat
open Go.RowKit Go.MapKept
set_option maxRecDepth 100000
set_option maxHeartbeats 400000

theorem cells_ne {w : World} {a b : Nat} {cs cs' : Array Value} {t t' : TypeId} {f f' : Nat × Nat} (ha : w.heap[a]? = some (.cells cs t f)) (hb : w.heap[b]? = some (.cells cs' t' f')) (ht : t ≠ t') : a ≠ b := by
  intro e; subst e; rw [ha] at hb; injection hb with hb; injection hb with _ hb; exact ht hb
theorem map_ne {w : World} {a b : Nat} {cs : Array Value} {t : TypeId} {f : Nat × Nat} {α β : Type} {eK : α → Value} {eV : β → Value} {l : List (α × β)} (ha : w.heap[a]? = some (.cells cs t f)) (hb : kmap eK eV w b l) : a ≠ b := by
  intro e; subst e; obtain ⟨_, _, hm, _⟩ := hb; rw [ha] at hm; cases hm
theorem row_ne_map {w : World} {base : Nat} {e : TypeId} {size : Nat} {v : Value} {n : Nat} {xs : List Value} (h : w.ownsRow base e size v n xs) {α β : Type} {eK : α → Value} {eV : β → Value} {l : List (α × β)} {b : Nat} (hb : kmap eK eV w b l) : v.ownBlock ≠ some b := by
  obtain ⟨_, _, hm, _⟩ := hb; exact own_ne_map h hm
theorem rows_ne {w : World} {base base' : Nat} {e e' : TypeId} {size size' : Nat} {v v' : Value} {n n' : Nat} {xs xs' : List Value} (h : w.ownsRow base e size v n xs) (h' : w.ownsRow base' e' size' v' n' xs') (he : e ≠ e') (k : Nat) (hk : v.ownBlock = some k) : v'.ownBlock ≠ some k := by
  rcases h.2 with ⟨rfl, _⟩ | ⟨g, cap, cur, rfl, _, hg, _⟩
  · cases hk
  · simp only [Value.ownBlock, Option.some.injEq] at hk
    subst hk
    exact own_ne h' hg he

theorem tabOf_put_same (pb : Int → Nat) {L : List (Int × Pl)} {k : Int} {p : Pl} (h : aget L k = some p) (p' : Pl) : tabOf pb (aput L k p') = tabOf pb L := by
  induction L with
  | nil => cases h
  | cons q r ih =>
    obtain ⟨j, u⟩ := q
    simp only [aget] at h
    simp only [aput]
    by_cases hj : j = k
    · subst hj; simp [tabOf]
    · rw [if_neg hj] at h ⊢
      simp only [tabOf, List.map_cons, List.cons.injEq, true_and] at ih ⊢
      exact ih h
/-- One page in memory turns. -/
theorem PoolIs.put {w w' : World} {bp : Nat} {x : Locs} {σ : Pool} (h : PoolIs w bp x σ) {k : Int} {p : Pl} (hg : aget σ.L k = some p) (p' : Pl) (hc : Chg (· = x.pb k) w w') (hn : w'.heap[x.pb k]? = some (.cells p'.cells 71 (0, 0))) :
    PoolIs w' bp x { σ with L := aput σ.L k p' } := by
  have hp := h.place k p hg
  refine ⟨hc.at h.self (cells_ne h.self hp (by decide)), ?_, ?_, hc.row h.ages (fun b hb e => by subst e; exact own_ne h.ages hp (by decide) hb), h.disk.chg hc (cells_ne h.disk.self hp (by decide)) (fun e => map_ne hp h.disk.stays e.symm) (fun b hb e => by subst e; exact own_ne h.disk.writes hp (by decide) hb), ?_, h.ne, h.few⟩
  · show kmap _ _ w' x.bm (tabOf x.pb (aput σ.L k p'))
    rw [tabOf_put_same x.pb hg]
    exact h.tab.chg hc (fun e => map_ne hp h.tab e.symm)
  · intro j q hq
    simp only [aget_aput] at hq
    by_cases hj : k = j
    · subst hj; simp only [if_true, Option.some.injEq] at hq; subst hq; exact hn
    · rw [if_neg hj] at hq
      exact hc.at (h.place j q hq) (fun e => hj (h.inj j k q p hq hg e).symm)
  · intro i j q r hq hr e
    simp only [aget_aput] at hq hr
    have a1 : ∃ q', aget σ.L i = some q' := by by_cases hi : k = i; exact ⟨p, hi ▸ hg⟩; rw [if_neg hi] at hq; exact ⟨q, hq⟩
    have a2 : ∃ q', aget σ.L j = some q' := by by_cases hi : k = j; exact ⟨p, hi ▸ hg⟩; rw [if_neg hi] at hr; exact ⟨r, hr⟩
    obtain ⟨q1, a1⟩ := a1
    obtain ⟨q2, a2⟩ := a2
    exact h.inj i j q1 q2 a1 a2 e
theorem Own.put {bp : Nat} {x : Locs} {σ : Pool} {k : Int} {p : Pl} (hg : aget σ.L k = some p) (p' : Pl) {b : Nat} (h : Own bp x { σ with L := aput σ.L k p' } b) : Own bp x σ b := by
  rcases h with h | h | h | h | h | h | ⟨j, q, hq, h⟩
  · exact .inl h
  · exact .inr (.inl h)
  · exact .inr (.inr (.inl h))
  · exact .inr (.inr (.inr (.inl h)))
  · exact .inr (.inr (.inr (.inr (.inl h))))
  · exact .inr (.inr (.inr (.inr (.inr (.inl h)))))
  · refine .inr (.inr (.inr (.inr (.inr (.inr ?_)))))
    simp only [aget_aput] at hq
    by_cases hj : k = j
    · subst hj; exact ⟨k, p, hg, h⟩
    · rw [if_neg hj] at hq; exact ⟨j, q, hq, h⟩

def unpin (σ : Pool) (k : Int) : Pool := match aget σ.L k with
  | none => σ
  | some p => if p.pins = 0 then σ else { σ with L := aput σ.L k { p with pins := p.pins - 1 } }
theorem unpin_ok {w : World} {bp bd : Nat} {S : Nat → Prop} {σ : Pool} (h : PoolAt w bp bd S σ) (k : Int) (hp0 : 0 ≤ pinsOf σ k) (hp1 : pinsOf σ k ≤ 1000000) :
    Calls Tryz.prog 25 #[ptrB bp, .int .i64 k] w fun e w' => e = .returned (.int .i64 (heldE σ k)) ∧ PoolAt w' bp bd S (unpin σ k) ∧ Chg S w w' := by
  obtain ⟨x, hx, h, hS⟩ := h
  have hh := held_ok h k
  by_cases he : heldE σ k = 0
  · obtain ⟨p, hg, hpn⟩ : ∃ p, aget σ.L k = some p ∧ p.pins ≠ 0 := by
      unfold heldE at he
      cases hg : aget σ.L k with
      | none => rw [hg] at he; cases he
      | some p => rw [hg] at he; exact ⟨p, rfl, fun e => by simp [e] at he⟩
    have hpin : pinsOf σ k = p.pins := by rw [pinsOf, hg]
    rw [hpin] at hp0 hp1
    have hu : unpin σ k = { σ with L := aput σ.L k { p with pins := p.pins - 1 } } := by rw [unpin, hg]; simp [hpn]
    have hpl := h.place k p hg
    have c1 := cell_at hpl 1 (v := .int .i64 p.pins) rfl
    have f1 := free_at hpl 1
    have hn := at_setCell hpl 1 (.int .i64 (p.pins - 1))
    have hfin : PoolAt (w.setCell ⟨x.pb k, 1, none⟩ (.int .i64 (p.pins - 1))) bp bd S (unpin σ k) := by
      rw [hu]
      exact ⟨x, hx, h.put hg _ (chg_setCell w (x.pb k) 1 _) hn, fun b hb => hS b (Own.put hg _ hb)⟩
    have hch : Chg S w (w.setCell ⟨x.pb k, 1, none⟩ (.int .i64 (p.pins - 1))) := (chg_setCell w (x.pb k) 1 _).mono fun b _ e => by subst e; exact hS _ (.inr (.inr (.inr (.inr (.inr (.inr ⟨k, p, hg, rfl⟩))))))
    rw [he] at hh ⊢
    have HH := Lib.hid hh
    have HF := Lib.hid hfin
    have HC := Lib.hid hch
    clear hh hfin hch hn hpl h hS hu hpin hg he
    simp only [ptrB] at *
    go_enter Tryz.func25, Tryz.ntmps25
    go_wp2_with fail
    refine HH.out.mono ?_
    rintro e w1 ⟨rfl, rfl⟩
    simp only [if_true, ptrB]
    go_wp2
    go_ret
    exact ⟨rfl, HF.out, HC.out⟩
  · have hu : unpin σ k = σ := by
      unfold heldE at he
      unfold unpin
      cases hg : aget σ.L k with
      | none => rfl
      | some p => rw [hg] at he; by_cases hp : p.pins = 0; simp [hp]; simp [hp] at he
    rw [hu]
    rw [if_neg he] at hh
    have hb : (heldE σ k == 0) = false := by simpa using he
    have HH := Lib.hid hh
    have HF := Lib.hid (show PoolAt w bp bd S σ from ⟨x, hx, h, hS⟩)
    clear hh h hS hu hp0 hp1 he
    generalize heldE σ k = ee at *
    simp only [ptrB] at *
    go_enter Tryz.func25, Tryz.ntmps25
    go_wp2_with fail
    refine HH.out.mono ?_
    rintro e w1 ⟨rfl, rfl⟩
    go_wp2
    go_ret
    exact ⟨rfl, HF.out, Chg.refl _ _⟩

theorem sure_ok {w : World} {bp bd : Nat} {S : Nat → Prop} {σ : Pool} (h : PoolAt w bp bd S σ) (n : Int) :
    Calls Tryz.prog 29 #[ptrB bp, .int .i64 n] w fun e w' => e = .returned (.tuple #[]) ∧ PoolAt w' bp bd S { σ with sure := max σ.sure n } ∧ Chg S w w' := by
  obtain ⟨x, hx, h, hS⟩ := h
  have c4 := cell_at h.self 4 (v := .int .i64 σ.sure) rfl
  have f4 := free_at h.self 4
  have hfin : ∀ m, m = max σ.sure n → PoolAt (w.setCell ⟨bp, 4, none⟩ (.int .i64 m)) bp bd S { σ with sure := max σ.sure n } := fun m hm => by
    subst hm
    have hc := chg_setCell w bp 4 (.int .i64 (max σ.sure n))
    exact ⟨x, hx, ⟨at_setCell h.self 4 _, h.tab.chg hc (fun e => map_ne h.self h.tab e.symm), fun k p hp => hc.at (h.place k p hp) (fun e => cells_ne h.self (h.place k p hp) (by decide) e.symm), hc.row h.ages (fun b hb e => by subst e; exact own_ne h.ages h.self (by decide) hb),
      h.disk.chg hc (fun e => cells_ne h.self h.disk.self (by decide) e.symm) (fun e => map_ne h.self h.disk.stays e.symm) (fun b hb e => by subst e; exact own_ne h.disk.writes h.self (by decide) hb), h.inj, h.ne, h.few⟩, hS⟩
  have hch : ∀ m, Chg S w (w.setCell ⟨bp, 4, none⟩ (.int .i64 m)) := fun m => (chg_setCell w bp 4 _).mono fun b _ e => by subst e; exact hS _ (.inl rfl)
  have HF := Lib.hid hfin
  have HC := Lib.hid hch
  clear h hS hfin hch
  simp only [ptrB] at *
  go_enter Tryz.func29, Tryz.ntmps29
  go_wp2
  --DBG
  all_goals (go_end0; exact ⟨rfl, HF.out _ (by omega), HC.out _⟩)
end Go.Proofs.YtniijkcncpabaaaGreat
