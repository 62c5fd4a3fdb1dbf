/- The plain law: what the reference tells of the pool is what the pool tells. -/
import Derived.Test.YtniijkcncpabaaaGreatRefP
namespace Go.Proofs.YtniijkcncpabaaaGreat
open Go.RowKit Go.MapKept
set_option maxRecDepth 100000
set_option maxHeartbeats 1000000

theorem upI_mem {n : Nat} {k : Int} : k ∈ upI n ↔ 0 ≤ k ∧ k < n := by
  unfold upI
  simp only [List.mem_map, List.mem_range]
  constructor
  · rintro ⟨a, ha, rfl⟩
    exact ⟨by show (0 : Int) ≤ (a : Int); omega, by show (a : Int) < n; omega⟩
  · rintro ⟨h0, h1⟩
    exact ⟨k.toNat, by omega, by show ((k.toNat : Nat) : Int) = k; omega⟩
theorem upI_sorted (n : Nat) : (upI n).Pairwise (fun a b => a < b) := by
  unfold upI
  rw [List.pairwise_map]
  exact List.pairwise_lt_range.imp (fun h => by show ((_ : Nat) : Int) < ((_ : Nat) : Int); omega)
theorem perm_of_mem {l m : List Int} (hl : l.Nodup) (hm : m.Nodup) (h : ∀ x, x ∈ l ↔ x ∈ m) : l.Perm m := by
  rw [List.perm_iff_count]
  intro a
  rw [hl.count, hm.count]
  by_cases ha : a ∈ l
  · rw [if_pos ha, if_pos ((h a).1 ha)]
  · rw [if_neg ha, if_neg (fun hh => ha ((h a).2 hh))]
theorem sortI_sorted {l : List Int} (h : l.Pairwise (fun a b => a < b)) : sortI l = l :=
  List.mergeSort_of_pairwise (h.imp (fun hh => by have : _ < _ := hh; simp; omega))
theorem pages_same {σ : Pool} (hnd : (keys σ.L).Nodup) (hk : ∀ k ∈ keys σ.L, 0 ≤ k ∧ k < σ.D.n) : pagesR σ false = sortI (keys σ.L) := by
  have h1 : (pagesR σ false).Pairwise (fun a b => a < b) := (upI_sorted _).filter _
  have hp : (pagesR σ false).Perm (keys σ.L) := perm_of_mem (h1.imp (fun hh e => by have : _ < _ := hh; omega)) hnd (fun x => by
    unfold pagesR
    rw [List.mem_filter, upI_mem]
    unfold keepP
    cases hg : aget σ.L x with
    | none =>
      have := aget_none.1 hg
      simp [this]
    | some p =>
      have hm := aget_isSome.1 ⟨p, hg⟩
      have := hk x hm
      simp only [Bool.not_false, Bool.true_or, and_true, hm, iff_true]
      omega)
  rw [← sortI_perm hp, sortI_sorted h1]
theorem dirty_same {σ : Pool} (hnd : (keys σ.L).Nodup) (hk : ∀ k ∈ keys σ.L, 0 ≤ k ∧ k < σ.D.n) : pagesR σ true = dirtyL σ := by
  unfold dirtyL
  rw [← pages_same hnd hk]
  unfold kept pagesR
  rw [List.filter_filter]
  apply List.filter_congr
  intro x _
  unfold keepP dirtyB
  cases hg : aget σ.L x with
  | none => simp [hg]
  | some p => simp [hg]
def LeastIs (σ : Pool) (l : List Int) (s : Int × Bool) : Prop :=
  (s = (0, false) ∧ ∀ k ∈ l, dirtyB σ k = false) ∨ (s.2 = true ∧ (∃ k ∈ l, dirtyB σ k = true ∧ firstOf σ k = s.1) ∧ ∀ k ∈ l, dirtyB σ k = true → s.1 ≤ firstOf σ k)
theorem LeastIs.unique {σ : Pool} {l : List Int} {s t : Int × Bool} (h : LeastIs σ l s) (g : LeastIs σ l t) : s = t := by
  rcases h with ⟨h1, h2⟩ | ⟨h1, ⟨k, hk, hd, hf⟩, h3⟩ <;> rcases g with ⟨g1, g2⟩ | ⟨g1, ⟨j, hj, gd, gf⟩, g3⟩
  · rw [h1, g1]
  · rw [h2 j hj] at gd; cases gd
  · rw [g2 k hk] at hd; cases hd
  · have a := h3 j hj gd
    have b := g3 k hk hd
    exact Prod.ext (by omega) (by rw [h1, g1])
theorem LeastIs.mem {σ : Pool} {l m : List Int} (h : ∀ x, x ∈ l ↔ x ∈ m) {s : Int × Bool} (hs : LeastIs σ l s) : LeastIs σ m s := by
  rcases hs with ⟨h1, h2⟩ | ⟨h1, ⟨k, hk, hd⟩, h3⟩
  · exact .inl ⟨h1, fun k hk => h2 k ((h k).2 hk)⟩
  · exact .inr ⟨h1, ⟨k, (h k).1 hk, hd⟩, fun k hk => h3 k ((h k).2 hk)⟩
theorem leastIs_R (σ : Pool) (l : List Int) : ∀ k, k ≤ l.length → LeastIs σ (l.take k) (leastR σ (l.take k)) := by
  intro k
  induction k with
  | zero => intro _; exact .inl ⟨rfl, by simp⟩
  | succ k ih =>
    intro hk
    have hlt : k < l.length := by omega
    have h := ih (by omega)
    rw [List.take_succ_eq_append_getElem hlt, leastR_snoc]
    generalize leastR σ (l.take k) = s at *
    generalize l.take k = m at *
    generalize l[k] = q at *
    unfold leastStep
    cases hg : aget σ.L q with
    | none =>
      have hd : dirtyB σ q = false := by rw [dirtyB, hg]
      rcases h with ⟨h1, h2⟩ | ⟨h1, ⟨j, hj, hd2⟩, h3⟩
      · exact .inl ⟨h1, fun x hx => by rcases List.mem_append.1 hx with hx | hx; exact h2 x hx; simp only [List.mem_singleton] at hx; subst hx; exact hd⟩
      · exact .inr ⟨h1, ⟨j, List.mem_append.2 (.inl hj), hd2⟩, fun x hx hdx => by rcases List.mem_append.1 hx with hx | hx; exact h3 x hx hdx; simp only [List.mem_singleton] at hx; subst hx; rw [hd] at hdx; cases hdx⟩
    | some p =>
      have hd : dirtyB σ q = p.dirty := by rw [dirtyB, hg]
      have hf : firstOf σ q = p.first := by rw [firstOf, hg]
      cases hpd : p.dirty with
      | false =>
        rw [hpd] at hd
        simp only [hpd, Bool.false_and, Bool.false_eq_true, if_false]
        rcases h with ⟨h1, h2⟩ | ⟨h1, ⟨j, hj, hd2⟩, h3⟩
        · exact .inl ⟨h1, fun x hx => by rcases List.mem_append.1 hx with hx | hx; exact h2 x hx; simp only [List.mem_singleton] at hx; subst hx; exact hd⟩
        · exact .inr ⟨h1, ⟨j, List.mem_append.2 (.inl hj), hd2⟩, fun x hx hdx => by rcases List.mem_append.1 hx with hx | hx; exact h3 x hx hdx; simp only [List.mem_singleton] at hx; subst hx; rw [hd] at hdx; cases hdx⟩
      | true =>
        rw [hpd] at hd
        rcases h with ⟨h1, h2⟩ | ⟨h1, ⟨j, hj, hd2, hf2⟩, h3⟩
        · subst h1
          simp only [hpd, Bool.not_false, Bool.true_or, Bool.and_self, if_true]
          exact .inr ⟨rfl, ⟨q, by simp, hd, hf⟩, fun x hx hdx => by rcases List.mem_append.1 hx with hx | hx; rw [h2 x hx] at hdx; cases hdx; simp only [List.mem_singleton] at hx; subst hx; rw [hf]; exact Int.le_refl _⟩
        · obtain ⟨m0, b0⟩ := s
          simp only at h1 hf2 h3
          subst h1
          simp only [hpd, Bool.not_true, Bool.false_or, Bool.true_and, decide_eq_true_eq]
          split
          · rename_i hlt2
            try simp only at hlt2
            exact .inr ⟨rfl, ⟨q, by simp, hd, hf⟩, fun x hx hdx => by rcases List.mem_append.1 hx with hx | hx; have := h3 x hx hdx; simp only; omega; simp only [List.mem_singleton] at hx; subst hx; rw [hf]; exact Int.le_refl _⟩
          · rename_i hlt2
            try simp only at hlt2
            exact .inr ⟨rfl, ⟨j, List.mem_append.2 (.inl hj), hd2, hf2⟩, fun x hx hdx => by rcases List.mem_append.1 hx with hx | hx; exact h3 x hx hdx; simp only [List.mem_singleton] at hx; subst hx; rw [hf]; simp only; omega⟩
theorem leastFrom_is (σ : Pool) : ∀ (l : List Int) (n : Int), leastFrom σ n l ≤ n ∧ (∀ k ∈ l, leastFrom σ n l ≤ firstOf σ k) ∧ (leastFrom σ n l = n ∨ ∃ k ∈ l, leastFrom σ n l = firstOf σ k)
  | [], n => ⟨Int.le_refl _, by simp, .inl rfl⟩
  | k :: r, n => by
    have h := leastFrom_is σ r (min n (firstOf σ k))
    have e : leastFrom σ n (k :: r) = leastFrom σ (min n (firstOf σ k)) r := rfl
    rw [e]
    refine ⟨by omega, fun j hj => ?_, ?_⟩
    · rcases List.mem_cons.1 hj with rfl | hj
      · omega
      · exact h.2.1 j hj
    · rcases h.2.2 with h3 | ⟨j, hj, h3⟩
      · by_cases hm : n ≤ firstOf σ k
        · exact .inl (by omega)
        · exact .inr ⟨k, by simp, by omega⟩
      · exact .inr ⟨j, by simp [hj], h3⟩
theorem leastIs_of (σ : Pool) : LeastIs σ (keys σ.L) (leastOf σ) := by
  have hm : ∀ x, x ∈ dirtyL σ ↔ x ∈ keys σ.L ∧ dirtyB σ x = true := fun x => by
    unfold dirtyL kept
    rw [List.mem_filter, sortI_mem]
    simp
  unfold leastOf
  cases hd : dirtyL σ with
  | nil =>
    refine .inl ⟨rfl, fun k hk => ?_⟩
    cases hb : dirtyB σ k with
    | false => rfl
    | true => have := (hm k).2 ⟨hk, hb⟩; rw [hd] at this; simp at this
  | cons k r =>
    have h := leastFrom_is σ (k :: r) (firstOf σ k)
    refine .inr ⟨rfl, ?_, fun j hj hb => h.2.1 j (by rw [← hd]; exact (hm j).2 ⟨hj, hb⟩)⟩
    have hk := (hm k).1 (by rw [hd]; simp)
    rcases h.2.2 with h3 | ⟨j, hj, h3⟩
    · exact ⟨k, hk.1, hk.2, h3.symm⟩
    · have := (hm j).1 (by rw [hd]; exact hj)
      exact ⟨j, this.1, this.2, h3.symm⟩
theorem least_same {σ : Pool} (ha : Aged σ) : leastR σ σ.ages = leastOf σ := by
  have h := leastIs_R σ σ.ages σ.ages.length (Nat.le_refl _)
  rw [List.take_length] at h
  exact (h.mem (fun x => ha.1.mem_iff)).unique (leastIs_of σ)
theorem cleanK_dirty {σ : Pool} {k j : Int} (h : j ≠ k) : dirtyB (cleanK σ k) j = dirtyB σ j := by
  unfold cleanK
  split
  · rename_i p hp
    split
    · unfold wrote
      rw [hp]
      simp only
      split
      · unfold dirtyB
        simp only [aget_aput, if_neg (fun e => h e.symm : ¬ k = j)]
      · rfl
    · rfl
  · rfl
theorem cleanK_not {σ : Pool} {k : Int} (h : dirtyB σ k = false) : cleanK σ k = σ ∧ cleanN σ k = 0 := by
  unfold dirtyB at h
  unfold cleanK cleanN
  split
  · rename_i p hp
    rw [hp] at h
    have : mayB σ p = false := by unfold mayB; rw [show p.dirty = false from h]; rfl
    simp [this]
  · exact ⟨rfl, rfl⟩
theorem clean_skip (d : Int → Bool) : ∀ (l : List Int) (s : Pool × Int), l.Nodup → (∀ j ∈ l, dirtyB s.1 j = d j) → cleanL s (l.filter d) = cleanL s l
  | [], _, _, _ => rfl
  | k :: r, s, hn, h => by
    obtain ⟨h1, h2⟩ := List.nodup_cons.1 hn
    rw [List.filter_cons]
    by_cases hd : d k = true
    · rw [if_pos hd]
      exact clean_skip d r _ h2 (fun j hj => by
        have hjk : j ≠ k := fun e => h1 (by rw [← e]; exact hj)
        show dirtyB (cleanK s.1 k) j = _
        rw [cleanK_dirty hjk]; exact h j (List.mem_cons_of_mem _ hj))
    · rw [if_neg hd]
      have hk := cleanK_not (σ := s.1) (k := k) (by rw [h k (by simp)]; simpa using hd)
      rw [clean_skip d r s h2 (fun j hj => h j (List.mem_cons_of_mem _ hj))]
      show _ = cleanL (cleanK s.1 k, s.2 + cleanN s.1 k) r
      rw [hk.1, hk.2, Int.add_zero]
theorem clean_same {σ : Pool} (hnd : (keys σ.L).Nodup) (hk : ∀ k ∈ keys σ.L, 0 ≤ k ∧ k < σ.D.n) : cleanL (σ, 0) (pagesR σ true) = cleanS σ := by
  have e : pagesR σ true = (sortI (keys σ.L)).filter (dirtyB σ) := by
    rw [dirty_same hnd hk]; unfold dirtyL kept; simp
  rw [e]
  exact clean_skip _ _ _ ((List.mergeSort_perm _ _).nodup_iff.2 hnd) (fun j _ => rfl)
end Go.Proofs.YtniijkcncpabaaaGreat
