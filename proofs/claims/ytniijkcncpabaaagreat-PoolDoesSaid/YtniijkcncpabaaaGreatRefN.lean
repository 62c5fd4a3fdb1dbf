/- The reference's pool: Pin. -/
import Derived.Test.YtniijkcncpabaaaGreatRefM
import Derived.Test.YtniijkcncpabaaaGreatPoolH
namespace Go.Proofs.YtniijkcncpabaaaGreat
open Go.RowKit Go.MapKept
set_option maxRecDepth 100000
set_option maxHeartbeats 1000000

theorem aput_aput {α β : Type} [DecidableEq α] (l : List (α × β)) (k : α) (a b : β) : aput (aput l k a) k b = aput l k b := by
  induction l with
  | nil => simp [aput]
  | cons p r ih =>
    obtain ⟨x, u⟩ := p
    simp only [aput]
    by_cases h : x = k
    · subst h; simp [aput]
    · simp only [if_neg h, aput, ih]
theorem kept_out {l : List Int} {k : Int} (h : k ∉ l) : kept (fun y => y == k) l = l := by
  unfold kept
  rw [List.filter_eq_self]
  intro y hy
  have : y ≠ k := fun e => h (e ▸ hy)
  simpa using this
theorem youngL_out {l : List Int} {k : Int} (h : k ∉ l) : youngL l k = l ++ [k] := by rw [youngL, kept_out h]
theorem youngL_at {l : List Int} (hn : l.Nodup) {j : Nat} (hj : j < l.length) {k : Int} (hk : l[j] = k) : youngL l k = l.eraseIdx j ++ [k] := by
  subst hk
  have h1 : kept (fun y => y == l[j]) l = l.eraseIdx j := by
    have e : l = l.take j ++ l[j] :: l.drop (j + 1) := by simp
    have hno := out_of_erase hn hj
    rw [List.eraseIdx_eq_take_drop_succ] at hno ⊢
    have h2 : l[j] ∉ l.take j := fun h => hno (List.mem_append.2 (.inl h))
    have h3 : l[j] ∉ l.drop (j + 1) := fun h => hno (List.mem_append.2 (.inr h))
    have k2 := kept_out h2
    have k3 := kept_out h3
    generalize hq : l[j] = q at *
    conv => lhs; rw [e]
    unfold kept at *
    rw [List.filter_append, List.filter_cons, k2, k3]
    simp
  rw [youngL, h1]
section
variable {S T : Nat → Prop} {w w' w2 : World} {rb rd : Nat} {x : RLocs} {σ : Pool}
/-- a page comes to the row's end -/
theorem RPoolIs.push (h : RPoolIs w rb x σ) {k : Int} {p : Pl} (hg : aget σ.L k = some p) (hk : k ∉ σ.ages) (hlen : σ.ages.length + 1 ≤ 1000) {v : Value} (hr : w2.ownsRow 0 75 1 v (σ.ages.length + 1) (ptrs x.pb σ.ages ++ [ptrB (x.pb k)])) (hc : Chg (fun b => x.av.ownBlock = some b) w w2) :
    RPoolIs (w2.setCell ⟨rb, 3, none⟩ v) rb { x with av := v } { σ with ages := σ.ages ++ [k] } ∧ Chg (fun b => b = rb ∨ x.av.ownBlock = some b) w (w2.setCell ⟨rb, 3, none⟩ v) := by
  have hcs := chg_setCell w2 rb 3 v
  have hs2 := hc.at h.self (own_ne h.row h.self (by decide))
  have hch : Chg (fun b => b = rb ∨ x.av.ownBlock = some b) w (w2.setCell ⟨rb, 3, none⟩ v) := (hc.mono fun _ _ e => .inr e).trans hcs (fun _ _ e => .inl e)
  have hrow : (w2.setCell ⟨rb, 3, none⟩ v).ownsRow 0 75 1 v (σ.ages ++ [k]).length (ptrs x.pb (σ.ages ++ [k])) := by
    have := hcs.row hr (fun b hb e => by subst e; exact own_ne hr hs2 (by decide) hb)
    have e1 : (σ.ages ++ [k]).length = σ.ages.length + 1 := by simp
    have e2 : ptrs x.pb (σ.ages ++ [k]) = ptrs x.pb σ.ages ++ [ptrB (x.pb k)] := by simp [ptrs]
    rw [e1, e2]; exact this
  refine ⟨h.setRow hrow hch ?_ ?_ (by simp; omega) (at_setCell hs2 3 v), hch⟩
  · intro j hj
    rcases List.mem_append.1 hj with hj | hj
    · exact h.mem j hj
    · simp only [List.mem_singleton] at hj; subst hj; exact ⟨p, hg⟩
  · exact List.nodup_append.2 ⟨h.nd, by simp, fun a ha b hb e => by simp only [List.mem_singleton] at hb; subst hb; subst e; exact hk ha⟩
/-- a place that is new -/
theorem RPoolIs.addPlace (h : RPoolIs w rb x σ) {k : Int} (hk : aget σ.L k = none) (p : Pl) {nb : Nat} (hn : w.heap[nb]? = some (.cells (p.rcells k) 74 (0, 0))) (ho : ¬ ROwn rb x σ nb) :
    RPoolIs w rb { x with pb := fun j => if j = k then nb else x.pb j } { σ with L := aput σ.L k p } := by
  have hka : k ∉ σ.ages := fun hh => by obtain ⟨q, hq⟩ := h.mem k hh; rw [hk] at hq; cases hq
  have old : ∀ {j q}, aget (aput σ.L k p) j = some q → (j = k ∧ q = p) ∨ (j ≠ k ∧ aget σ.L j = some q) := by
    intro j q hq
    rw [aget_aput] at hq
    by_cases hj : k = j
    · subst hj; simp only [if_true, Option.some.injEq] at hq; exact .inl ⟨rfl, hq.symm⟩
    · rw [if_neg hj] at hq; exact .inr ⟨fun e => hj e.symm, hq⟩
  refine ⟨h.self, ?_, ?_, h.disk, ?_, ?_, h.nd, h.few⟩
  · have e : ptrs (fun j => if j = k then nb else x.pb j) σ.ages = ptrs x.pb σ.ages := List.map_congr_left (fun j hj => by
      have : j ≠ k := fun e => hka (e ▸ hj)
      simp [this])
    show w.ownsRow 0 75 1 x.av σ.ages.length (ptrs (fun j => if j = k then nb else x.pb j) σ.ages)
    rw [e]; exact h.row
  · intro j q hq
    rcases old hq with ⟨rfl, rfl⟩ | ⟨hj, hq⟩
    · simpa using hn
    · simpa [hj] using h.place j q hq
  · intro i j q r hq hr e
    rcases old hq with ⟨rfl, rfl⟩ | ⟨hi, hq2⟩ <;> rcases old hr with ⟨rfl, rfl⟩ | ⟨hj, hr2⟩
    · rfl
    · simp [hj] at e; exact absurd (e ▸ ROwn.at hr2) ho
    · simp [hi] at e; exact absurd (e.symm ▸ ROwn.at hq2) ho
    · simp [hi, hj] at e; exact h.inj i j q r hq2 hr2 e
  · intro j hj
    obtain ⟨q, hq⟩ := h.mem j hj
    show ∃ p_1, aget (aput σ.L k p) j = some p_1
    rw [aget_aput]
    split
    · exact ⟨_, rfl⟩
    · exact ⟨_, hq⟩
theorem ROwn.addPlace {k : Int} (hk : aget σ.L k = none) (p : Pl) {nb : Nat} (hS : ∀ b, ROwn rb x σ b → S b) (hn : S nb) : ∀ b, ROwn rb { x with pb := fun j => if j = k then nb else x.pb j } { σ with L := aput σ.L k p } b → S b := by
  rintro b (e | e | e | e | e | ⟨j, q, hq, e⟩)
  · exact hS b (.inl e)
  · exact hS b (.inr (.inl e))
  · exact hS b (.pages e)
  · exact hS b (.writes e)
  · exact hS b (.row e)
  · have hq' : aget (aput σ.L k p) j = some q := hq
    rw [aget_aput] at hq'
    by_cases hj : k = j
    · subst hj; simp at e; subst e; exact hn
    · rw [if_neg hj] at hq'
      have : j ≠ k := fun e => hj e.symm
      simp [this] at e
      subst e; exact hS _ (.at hq')
theorem rpin_bad (h : RPoolAt w rb rd S σ) (k : Int) (hk : k < 0 ∨ σ.D.n ≤ k) :
    Calls Tryz.prog 24 #[ptrB rb, .int .i64 k] w fun e w' => e = .returned (.tuple #[.string ByteArray.empty, .int .i64 1]) ∧ w = w' := by
  obtain ⟨x, rfl, h, _⟩ := h
  obtain ⟨gl, cl, hlv, _⟩ := h.disk.page_cell
  have c0 := cell_at h.self 0 (v := ptrB x.rd) rfl
  have r0 := cell_at h.disk.self 0 (v := x.lv) rfl
  rw [hlv] at r0
  have hrg := h.disk.range
  obtain ⟨n, hn⟩ : ∃ n : Nat, σ.D.n = n := ⟨σ.D.n.toNat, by omega⟩
  rw [hn, Int.toNat_natCast] at r0
  rw [hn] at hk
  clear h hlv hrg hn
  simp only [ptrB] at *
  by_cases h0 : k < 0
  · clear hk
    go_enter Tryz.func24, Tryz.ntmps24
    go_wp2
    go_ret2
    exact ⟨rfl, rfl⟩
  · have h1 : (n : Int) ≤ k := hk.resolve_left h0
    clear hk
    go_enter Tryz.func24, Tryz.ntmps24
    go_wp2
    go_ret2
    exact ⟨rfl, rfl⟩
end
end Go.Proofs.YtniijkcncpabaaaGreat
