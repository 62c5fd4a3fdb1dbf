/- The plain law of PoolHolds: what each call keeps. -/
import Derived.Test.YtniijkcncpabaaaGreatClean
namespace Go.Proofs.YtniijkcncpabaaaGreat
set_option maxRecDepth 100000

/-- the pages that it knows the ages of are those in memory -/
def Aged (σ : Pool) : Prop := σ.ages.Perm (keys σ.L) ∧ (keys σ.L).Nodup
structure Inv (n : Int) (c m : Nat) (σ : Pool) (has : Int → ByteArray) (held : Int → Int) (d : Int → ByteArray) : Prop where
  places : σ.places = n
  dn : σ.D.n = 8
  range : ∀ k ∈ keys σ.L, 0 ≤ k ∧ k < 8
  writes : σ.D.writes.length ≤ c
  disk : ∀ k, 0 ≤ k → k < 8 → σ.D.raw k = page (d k) ∧ (d k).size = 252
  clean : ∀ k p, aget σ.L k = some p → p.dirty = false → d k = has k
  out : ∀ k, 0 ≤ k → k < 8 → aget σ.L k = none → d k = has k
  here : ∀ k p, aget σ.L k = some p → p.s = has k ∧ p.pins = held k
  away : ∀ k, 0 ≤ k → k < 8 → aget σ.L k = none → held k = 0
  size : ∀ k, 0 ≤ k → k < 8 → (has k).size = 252
  num : ∀ k, 0 ≤ k → k < 8 → 0 ≤ held k ∧ held k ≤ m
variable {n : Int} {c m : Nat} {σ : Pool} {has : Int → ByteArray} {held : Int → Int} {d : Int → ByteArray}
theorem Inv.mem (_h : Inv n c m σ has held d) {k : Int} {p : Pl} (hg : aget σ.L k = some p) : k ∈ keys σ.L := aget_isSome.1 ⟨p, hg⟩
theorem Inv.psize (h : Inv n c m σ has held d) {k : Int} {p : Pl} (hg : aget σ.L k = some p) : p.s.size = 252 := by
  rw [(h.here k p hg).1]; exact h.size k (h.range k (h.mem hg)).1 (h.range k (h.mem hg)).2
theorem Inv.more (h : Inv n c m σ has held d) {c' m' : Nat} (hc : c ≤ c') (hm : m ≤ m') : Inv n c' m' σ has held d :=
  ⟨h.places, h.dn, h.range, Nat.le_trans h.writes hc, h.disk, h.clean, h.out, h.here, h.away, h.size, fun k h0 h1 => by have := h.num k h0 h1; omega⟩
theorem raw_put (D : Disk) (k j : Int) (s : ByteArray) : (D.put k s).raw j = if k = j then page (padTo s 252) else D.raw j := by
  unfold Disk.raw Disk.put
  simp only [lastW_snoc]
  by_cases h : k = j <;> simp [h]
theorem padTo_whole (s : ByteArray) (h : s.size = 252) : padTo s 252 = s := by
  rw [padTo, h]
  apply ByteArray.ext
  simp [zeros]
def putAt {α : Type} (f : Int → α) (k : Int) (v : α) : Int → α := fun j => if j = k then v else f j
theorem Inv.wrote (h : Inv n c m σ has held d) (k : Int) : ∃ d', Inv n (c + 1) m (wrote σ k) has held d' := by
  unfold YtniijkcncpabaaaGreat.wrote
  cases hg : aget σ.L k with
  | none => exact ⟨d, h.more (by omega) (Nat.le_refl _)⟩
  | some p =>
    cases hd : p.dirty with
    | false => simp only [hd, Bool.false_eq_true, if_false]; exact ⟨d, h.more (by omega) (Nat.le_refl _)⟩
    | true =>
      simp only [hd, if_true]
      have hk := h.range k (h.mem hg)
      have hs := h.psize hg
      have hh := h.here k p hg
      have hw := h.writes
      refine ⟨putAt d k (has k), h.places, h.dn, ?_, by simp [Disk.put]; omega, ?_, ?_, ?_, ?_, ?_, h.size, h.num⟩
      · rw [aput_keys (h.mem hg)]; exact h.range
      · intro j h0 h1
        rw [raw_put, padTo_whole _ hs]
        unfold putAt
        by_cases hj : j = k
        · subst hj; simp only [if_true]; rw [hh.1]; exact ⟨rfl, h.size j h0 h1⟩
        · have : ¬ k = j := fun e => hj e.symm
          simp only [hj, this, if_false]; exact h.disk j h0 h1
      · intro j q hq hqd
        unfold putAt
        simp only [aget_aput] at hq
        by_cases hj : j = k
        · rw [if_pos hj, hj]
        · have : ¬ k = j := fun e => hj e.symm
          rw [if_neg hj]; rw [if_neg this] at hq
          exact h.clean j q hq hqd
      · intro j h0 h1 hq
        unfold putAt
        simp only [aget_aput] at hq
        by_cases hj : j = k
        · rw [if_pos hj, hj]
        · have : ¬ k = j := fun e => hj e.symm
          rw [if_neg hj]; rw [if_neg this] at hq
          exact h.out j h0 h1 hq
      · intro j q hq
        simp only [aget_aput] at hq
        by_cases hj : k = j
        · rw [if_pos hj] at hq; simp only [Option.some.injEq] at hq; subst hq; subst hj; exact hh
        · rw [if_neg hj] at hq; exact h.here j q hq
      · intro j h0 h1 hq
        simp only [aget_aput] at hq
        by_cases hj : k = j
        · rw [if_pos hj] at hq; cases hq
        · rw [if_neg hj] at hq; exact h.away j h0 h1 hq
theorem Inv.cleanK (h : Inv n c m σ has held d) (k : Int) : ∃ d', Inv n (c + 1) m (cleanK σ k) has held d' := by
  unfold YtniijkcncpabaaaGreat.cleanK
  split
  · split
    · exact h.wrote k
    · exact ⟨d, h.more (by omega) (Nat.le_refl _)⟩
  · exact ⟨d, h.more (by omega) (Nat.le_refl _)⟩
theorem Inv.cleanL : ∀ (l : List Int) (s : Pool × Int) (c : Nat) (d : Int → ByteArray), Inv n c m s.1 has held d → ∃ d', Inv n (c + l.length) m (cleanL s l).1 has held d'
  | [], _, _, d, h => ⟨d, h⟩
  | k :: r, s, c, d, h => by
    obtain ⟨d1, h1⟩ := h.cleanK k
    obtain ⟨d2, h2⟩ := Inv.cleanL r (YtniijkcncpabaaaGreat.cleanK s.1 k, s.2 + cleanN s.1 k) (c + 1) d1 h1
    exact ⟨d2, by rw [show c + (k :: r).length = c + 1 + r.length from by simp; omega]; exact h2⟩
theorem wrote_ages (σ : Pool) (k : Int) : (wrote σ k).ages = σ.ages ∧ (wrote σ k).places = σ.places := by
  unfold wrote
  split
  · exact ⟨rfl, rfl⟩
  · split <;> exact ⟨rfl, rfl⟩
theorem Aged.wrote (h : Aged σ) (k : Int) : Aged (wrote σ k) := by
  unfold Aged; rw [wrote_keys, (wrote_ages σ k).1]; exact h
theorem Aged.cleanL : ∀ (l : List Int) (s : Pool × Int), Aged s.1 → Aged (cleanL s l).1 ∧ (keys (cleanL s l).1.L) = keys s.1.L
  | [], _, h => ⟨h, rfl⟩
  | k :: r, s, h => by
    have h1 : Aged (cleanK s.1 k) ∧ keys (cleanK s.1 k).L = keys s.1.L := by
      unfold cleanK
      split
      · split
        · exact ⟨h.wrote k, wrote_keys _ _⟩
        · exact ⟨h, rfl⟩
      · exact ⟨h, rfl⟩
    have h2 := Aged.cleanL r (cleanK s.1 k, s.2 + cleanN s.1 k) h1.1
    exact ⟨h2.1, h2.2.trans h1.2⟩
theorem perm_eraseIdx (l : List Int) (i : Nat) (h : i < l.length) : (l[i] :: l.eraseIdx i).Perm l := by
  rw [List.eraseIdx_eq_take_drop_succ]
  have e : l = l.take i ++ l[i] :: l.drop (i + 1) := by simp
  conv => rhs; rw [e]
  exact List.perm_middle.symm
/-- a page goes -/
theorem Aged.drop (h : Aged σ) {i : Nat} (hi : i < σ.ages.length) : Aged (dropAt σ i σ.ages[i]) := by
  refine ⟨?_, adel_nodup h.2 _⟩
  show (σ.ages.eraseIdx i).Perm (keys (adel σ.L σ.ages[i]))
  rw [adel_keys]
  have h1 : σ.ages.Perm (σ.ages[i] :: σ.ages.eraseIdx i) := (perm_eraseIdx σ.ages i hi).symm
  have h2 := (h1.symm.trans h.1).erase σ.ages[i]
  rwa [List.erase_cons_head] at h2
theorem Inv.drop (h : Inv n c m σ has held d) (ha : (keys σ.L).Nodup) {k : Int} {p : Pl} (hg : aget σ.L k = some p) (hp : p.pins = 0) (hd : p.dirty = false) (i : Nat) : Inv n c m (dropAt σ i k) has held d := by
  have hh := h.here k p hg
  refine ⟨h.places, h.dn, ?_, h.writes, h.disk, ?_, ?_, ?_, ?_, h.size, h.num⟩
  · intro j hj
    have : j ∈ (keys σ.L).erase k := by rw [← adel_keys]; exact hj
    exact h.range j (List.mem_of_mem_erase this)
  · intro j q hq hqd
    simp only [dropAt, aget_adel ha] at hq
    by_cases hj : k = j
    · rw [if_pos hj] at hq; cases hq
    · rw [if_neg hj] at hq; exact h.clean j q hq hqd
  · intro j h0 h1 hq
    simp only [dropAt, aget_adel ha] at hq
    by_cases hj : k = j
    · subst hj; exact h.clean k p hg hd
    · rw [if_neg hj] at hq; exact h.out j h0 h1 hq
  · intro j q hq
    simp only [dropAt, aget_adel ha] at hq
    by_cases hj : k = j
    · rw [if_pos hj] at hq; cases hq
    · rw [if_neg hj] at hq; exact h.here j q hq
  · intro j h0 h1 hq
    simp only [dropAt, aget_adel ha] at hq
    by_cases hj : k = j
    · subst hj; rw [← hh.2]; exact hp
    · rw [if_neg hj] at hq; exact h.away j h0 h1 hq
theorem free_inv (h : Inv n c m σ has held d) (ha : Aged σ) (hl : (σ.L.length : Int) ≤ n) (he : freeE σ = 0) :
    ∃ d', Inv n (c + 1) m (freeS σ) has held d' ∧ Aged (freeS σ) ∧ ((freeS σ).L.length : Int) < n := by
  have hpl := h.places
  unfold freeE at he
  unfold freeS
  by_cases hlt : (σ.L.length : Int) < σ.places
  · rw [if_pos hlt]; exact ⟨d, h.more (by omega) (Nat.le_refl _), ha, by omega⟩
  · rw [if_neg hlt] at he ⊢
    cases hf : σ.ages.findIdx? (goesB σ) with
    | none =>
      have : idxI (goesB σ) σ.ages = -1 := by rw [idxI, hf]
      rw [this] at he; simp at he
    | some i =>
      obtain ⟨hil, hiq, _⟩ := List.findIdx?_eq_some_iff_getElem.1 hf
      have hgd : σ.ages.getD i 0 = σ.ages[i] := by simp [hil]
      simp only [hgd]
      obtain ⟨p, hg, hpn, _⟩ := goes_get hiq
      obtain ⟨q, hq, hwa, _, _, hqp, hqd⟩ := wrote_get hg
      obtain ⟨d1, h1⟩ := h.wrote σ.ages[i]
      have ha1 := ha.wrote σ.ages[i]
      have hil1 : i < (YtniijkcncpabaaaGreat.wrote σ σ.ages[i]).ages.length := by rw [hwa]; exact hil
      have hag := ha1.drop hil1
      have e : (YtniijkcncpabaaaGreat.wrote σ σ.ages[i]).ages[i] = σ.ages[i] := by simp [hwa]
      rw [e] at hag
      refine ⟨d1, h1.drop ha1.2 hq (by rw [hqp, hpn]) hqd i, hag, ?_⟩
      have h3 : (dropAt (YtniijkcncpabaaaGreat.wrote σ σ.ages[i]) i σ.ages[i]).L = adel (YtniijkcncpabaaaGreat.wrote σ σ.ages[i]).L σ.ages[i] := rfl
      have h4 : (keys (adel (YtniijkcncpabaaaGreat.wrote σ σ.ages[i]).L σ.ages[i])).length = (keys σ.L).length - 1 := by
        rw [adel_keys, List.length_erase_of_mem (h1.mem hq), wrote_keys]
      have h5 : 0 < (keys σ.L).length := List.length_pos_of_mem (h.mem hg)
      have h6 : ∀ L : List (Int × Pl), (keys L).length = L.length := fun L => by simp [keys]
      rw [h3]
      rw [h6, h6] at h4
      rw [h6] at h5
      omega
theorem putAt_self {α : Type} (f : Int → α) (k : Int) : putAt f k (f k) = f := by
  funext j; unfold putAt; split
  · rename_i h; rw [h]
  · rfl
/-- a page turns, or comes -/
theorem Inv.set (h : Inv n c m σ has held d) {k : Int} (hk0 : 0 ≤ k) (hk1 : k < 8) (p' : Pl) (L' : List (Int × Pl)) (hL : ∀ j, aget L' j = if k = j then some p' else aget σ.L j) (ages' : List Int) (s' : ByteArray) (h' : Int) (m' : Nat)
    (e1 : p'.s = s') (e2 : p'.pins = h') (e3 : s'.size = 252) (e4 : 0 ≤ h' ∧ h' ≤ m') (hm : m ≤ m') (e5 : p'.dirty = false → d k = s') : Inv n c m' { σ with L := L', ages := ages' } (putAt has k s') (putAt held k h') d := by
  refine ⟨h.places, h.dn, ?_, h.writes, h.disk, ?_, ?_, ?_, ?_, ?_, ?_⟩
  · intro j hj
    obtain ⟨q, hq⟩ := aget_isSome.2 hj
    simp only [hL] at hq
    by_cases hkj : k = j
    · subst hkj; exact ⟨hk0, hk1⟩
    · rw [if_neg hkj] at hq; exact h.range j (aget_isSome.1 ⟨q, hq⟩)
  · intro j q hq hqd
    simp only [hL] at hq
    unfold putAt
    by_cases hkj : k = j
    · subst hkj; simp only [if_true, Option.some.injEq] at hq ⊢; subst hq; exact e5 hqd
    · have : ¬ j = k := fun e => hkj e.symm
      rw [if_neg hkj] at hq; rw [if_neg this]; exact h.clean j q hq hqd
  · intro j h0 h1 hq
    simp only [hL] at hq
    unfold putAt
    by_cases hkj : k = j
    · rw [if_pos hkj] at hq; cases hq
    · have : ¬ j = k := fun e => hkj e.symm
      rw [if_neg hkj] at hq; rw [if_neg this]; exact h.out j h0 h1 hq
  · intro j q hq
    simp only [hL] at hq
    unfold putAt
    by_cases hkj : k = j
    · subst hkj; simp only [if_true, Option.some.injEq] at hq ⊢; subst hq; exact ⟨e1, e2⟩
    · have : ¬ j = k := fun e => hkj e.symm
      rw [if_neg hkj] at hq; rw [if_neg this, if_neg this]; exact h.here j q hq
  · intro j h0 h1 hq
    simp only [hL] at hq
    unfold putAt
    by_cases hkj : k = j
    · rw [if_pos hkj] at hq; cases hq
    · have : ¬ j = k := fun e => hkj e.symm
      rw [if_neg hkj] at hq; rw [if_neg this]; exact h.away j h0 h1 hq
  · intro j h0 h1
    unfold putAt
    split
    · exact e3
    · exact h.size j h0 h1
  · intro j h0 h1
    unfold putAt
    split
    · exact e4
    · have := h.num j h0 h1; omega
theorem young_here {l ks : List Int} {k : Int} (h : l.Perm ks) (hn : ks.Nodup) (hk : k ∈ ks) : (youngL l k).Perm ks := by
  have hl : l.Nodup := h.nodup_iff.2 hn
  have hkl : k ∈ l := h.mem_iff.2 hk
  have e : kept (fun y => y == k) l = l.erase k := by rw [hl.erase_eq_filter]; rfl
  unfold youngL
  rw [e]
  exact (List.perm_append_singleton k (l.erase k)).trans ((List.perm_cons_erase hkl).symm.trans h)
theorem young_new {l ks : List Int} {k : Int} (h : l.Perm ks) (hk : k ∉ ks) : (youngL l k).Perm (ks ++ [k]) := by
  have hkl : k ∉ l := fun e => hk (h.mem_iff.1 e)
  have e : kept (fun y => y == k) l = l := by
    unfold kept
    rw [List.filter_eq_self]
    intro x hx
    have : x ≠ k := fun e => hkl (e ▸ hx)
    simpa using this
  unfold youngL
  rw [e]
  exact h.append_right [k]
theorem pin_inv (h : Inv n c m σ has held d) (ha : Aged σ) (hl : (σ.L.length : Int) ≤ n) {k : Int} (hk0 : 0 ≤ k) (hk1 : k < 8) (he : pinE σ k = 0) :
    ∃ d', Inv n (c + 1) (m + 1) (pinS σ k (d k)) has (putAt held k (held k + 1)) d' ∧ Aged (pinS σ k (d k)) ∧ ((pinS σ k (d k)).L.length : Int) ≤ n ∧ pinC σ k (d k) = has k := by
  have hnum := h.num k hk0 hk1
  have hsz := h.size k hk0 hk1
  have h6 : ∀ L : List (Int × Pl), (keys L).length = L.length := fun L => by simp [keys]
  cases hg : aget σ.L k with
  | some p =>
    have hpi : pinIn σ k (d k) = σ := by rw [pinIn, hg]
    have hps : pinS σ k (d k) = { σ with L := aput σ.L k (up p), ages := youngL σ.ages k } := by rw [pinS, if_pos he, hpi, pinUp, hg]
    have hpc : pinC σ k (d k) = p.s := by rw [pinC, if_pos he, hg]
    have hh := h.here k p hg
    rw [hps, hpc]
    have h1 := h.set hk0 hk1 (up p) (aput σ.L k (up p)) (fun j => aget_aput ..) (youngL σ.ages k) (has k) (held k + 1) (m + 1) hh.1 (by rw [← hh.2]; rfl) hsz (by omega) (by omega) (fun e => h.clean k p hg e)
    rw [putAt_self] at h1
    have hkk : keys (aput σ.L k (up p)) = keys σ.L := aput_keys (h.mem hg)
    refine ⟨d, h1.more (by omega) (Nat.le_refl _), ⟨?_, ?_⟩, ?_, hh.1⟩
    · show (youngL σ.ages k).Perm (keys (aput σ.L k (up p)))
      rw [hkk]; exact young_here ha.1 ha.2 (h.mem hg)
    · show (keys (aput σ.L k (up p))).Nodup
      rw [hkk]; exact ha.2
    · show ((aput σ.L k (up p)).length : Int) ≤ n
      rw [← h6, hkk, h6]; exact hl
  | none =>
    have hfe : freeE σ = 0 := by rw [pinE, hg] at he; exact he
    obtain ⟨d1, h1, ha1, hl1⟩ := free_inv h ha hl hfe
    have hno := freeS_none hg
    have hpi : pinIn σ k (d k) = { freeS σ with L := aput (freeS σ).L k (fresh (d k)) } := by rw [pinIn, hg]
    have hps : pinS σ k (d k) = { freeS σ with L := aput (aput (freeS σ).L k (fresh (d k))) k (up (fresh (d k))), ages := youngL (freeS σ).ages k } := by
      rw [pinS, if_pos he, hpi, pinUp]
      simp [aget_aput]
    have hpc : pinC σ k (d k) = d k := by rw [pinC, if_pos he, hg]
    have hdk := h.out k hk0 hk1 hg
    rw [hps, hpc]
    have h2 := h1.set hk0 hk1 (up (fresh (d k))) (aput (aput (freeS σ).L k (fresh (d k))) k (up (fresh (d k)))) (fun j => by rw [aget_aput, aget_aput]; split <;> rfl) (youngL (freeS σ).ages k) (has k) (held k + 1) (m + 1) hdk (by rw [h1.away k hk0 hk1 hno]; rfl) hsz (by omega) (by omega) (fun _ => h1.out k hk0 hk1 hno)
    rw [putAt_self] at h2
    have hkn : k ∉ keys (freeS σ).L := aget_none.1 hno
    have hkk : keys (aput (aput (freeS σ).L k (fresh (d k))) k (up (fresh (d k)))) = keys (freeS σ).L ++ [k] := by
      rw [aput_keys (by rw [keys_aput_mem]; exact .inl rfl), aput_new hkn]; simp [keys]
    refine ⟨d1, h2, ⟨?_, ?_⟩, ?_, hdk⟩
    · show (youngL (freeS σ).ages k).Perm (keys (aput (aput (freeS σ).L k (fresh (d k))) k (up (fresh (d k)))))
      rw [hkk]; exact young_new ha1.1 hkn
    · show (keys (aput (aput (freeS σ).L k (fresh (d k))) k (up (fresh (d k))))).Nodup
      exact aput_nodup (aput_nodup ha1.2 _ _) _ _
    · show ((aput (aput (freeS σ).L k (fresh (d k))) k (up (fresh (d k)))).length : Int) ≤ n
      rw [← h6, hkk, List.length_append, h6]
      simp; omega
theorem pin_full (h : Inv n c m σ has held d) {k : Int} (hk0 : 0 ≤ k) (hk1 : k < 8) (he : pinE σ k ≠ 0) : pinE σ k = 6 ∧ held k = 0 ∧ pinS σ k (d k) = σ := by
  cases hg : aget σ.L k with
  | some p => rw [pinE, hg] at he; exact absurd rfl he
  | none =>
    refine ⟨?_, h.away k hk0 hk1 hg, by rw [pinS, if_neg he]⟩
    rw [pinE, hg] at he ⊢
    simp only at he ⊢
    unfold freeE at he ⊢
    by_cases h1 : (σ.L.length : Int) < σ.places
    · rw [if_pos h1] at he; exact absurd rfl he
    · rw [if_neg h1] at he ⊢
      by_cases h2 : idxI (goesB σ) σ.ages = -1
      · rw [if_pos h2]
      · rw [if_neg h2] at he; exact absurd rfl he
theorem held_inv (h : Inv n c m σ has held d) {k : Int} (hk0 : 0 ≤ k) (hk1 : k < 8) : (heldE σ k = 0 ↔ 0 < held k) := by
  have hnum := h.num k hk0 hk1
  unfold heldE
  cases hg : aget σ.L k with
  | none => have := h.away k hk0 hk1 hg; simp; omega
  | some p =>
    have hh := h.here k p hg
    by_cases hp : p.pins = 0
    · simp [hp]; omega
    · simp [hp]; omega
theorem pins_inv (h : Inv n c m σ has held d) {k : Int} (hk0 : 0 ≤ k) (hk1 : k < 8) : pinsOf σ k = held k := by
  unfold pinsOf
  cases hg : aget σ.L k with
  | none => exact (h.away k hk0 hk1 hg).symm
  | some p => exact (h.here k p hg).2
theorem unpin_inv (h : Inv n c m σ has held d) (ha : Aged σ) {k : Int} (hk0 : 0 ≤ k) (hk1 : k < 8) : Inv n c m (unpin σ k) has (putAt held k (max 0 (held k - 1))) d ∧ Aged (unpin σ k) ∧ (unpin σ k).L.length = σ.L.length := by
  have hnum := h.num k hk0 hk1
  have h6 : ∀ L : List (Int × Pl), (keys L).length = L.length := fun L => by simp [keys]
  unfold unpin
  cases hg : aget σ.L k with
  | none =>
    have := h.away k hk0 hk1 hg
    rw [show max 0 (held k - 1) = held k from by omega, putAt_self]
    exact ⟨h, ha, rfl⟩
  | some p =>
    have hh := h.here k p hg
    simp only
    by_cases hp : p.pins = 0
    · rw [if_pos hp, show max 0 (held k - 1) = held k from by omega, putAt_self]
      exact ⟨h, ha, rfl⟩
    · rw [if_neg hp]
      have h1 := h.set hk0 hk1 { p with pins := p.pins - 1 } (aput σ.L k { p with pins := p.pins - 1 }) (fun j => aget_aput ..) σ.ages (has k) (max 0 (held k - 1)) m hh.1 (by show p.pins - 1 = _; omega) (h.size k hk0 hk1) (by omega) (Nat.le_refl _) (fun e => h.clean k p hg e)
      rw [putAt_self] at h1
      have hkk : keys (aput σ.L k { p with pins := p.pins - 1 }) = keys σ.L := aput_keys (h.mem hg)
      refine ⟨h1, ⟨?_, ?_⟩, ?_⟩
      · show σ.ages.Perm (keys (aput σ.L k _)); rw [hkk]; exact ha.1
      · show (keys (aput σ.L k _)).Nodup; rw [hkk]; exact ha.2
      · show (aput σ.L k _).length = _; rw [← h6, hkk, h6]
theorem put_inv (h : Inv n c m σ has held d) (ha : Aged σ) {k : Int} (hk0 : 0 ≤ k) (hk1 : k < 8) (s : ByteArray) (hs : s.size = 252) (lsn : Int) : Inv n c m (putS σ k s lsn) (if putE σ k s lsn = 0 then putAt has k s else has) held d ∧ Aged (putS σ k s lsn) ∧ (putS σ k s lsn).L.length = σ.L.length := by
  have h6 : ∀ L : List (Int × Pl), (keys L).length = L.length := fun L => by simp [keys]
  unfold putS
  by_cases he : putE σ k s lsn = 0
  · rw [if_pos he, if_pos he]
    have hhe : heldE σ k = 0 := by
      unfold putE at he
      by_cases hz : heldE σ k = 0
      · exact hz
      · rw [if_pos hz] at he; exact absurd he hz
    obtain ⟨p, hg, _⟩ := held_zero hhe
    have hh := h.here k p hg
    simp only [hg]
    have h1 := h.set hk0 hk1 (putP p s lsn) (aput σ.L k (putP p s lsn)) (fun j => aget_aput ..) σ.ages s (held k) m (padTo_whole s hs) hh.2 hs (h.num k hk0 hk1) (Nat.le_refl _) (fun e => by cases e)
    rw [putAt_self] at h1
    have hkk : keys (aput σ.L k (putP p s lsn)) = keys σ.L := aput_keys (h.mem hg)
    refine ⟨h1, ⟨?_, ?_⟩, ?_⟩
    · show σ.ages.Perm (keys (aput σ.L k _)); rw [hkk]; exact ha.1
    · show (keys (aput σ.L k _)).Nodup; rw [hkk]; exact ha.2
    · show (aput σ.L k _).length = _; rw [← h6, hkk, h6]
  · rw [if_neg he, if_neg he]; exact ⟨h, ha, rfl⟩
theorem clean_inv (h : Inv n c m σ has held d) (ha : Aged σ) (hl : (σ.L.length : Int) ≤ n) (hn : n ≤ 8) : (∃ d', Inv n (c + 8) m (cleanS σ).1 has held d') ∧ Aged (cleanS σ).1 ∧ ((cleanS σ).1.L.length : Int) ≤ n := by
  have h6 : ∀ L : List (Int × Pl), (keys L).length = L.length := fun L => by simp [keys]
  obtain ⟨d', h1⟩ := Inv.cleanL (sortI (keys σ.L)) (σ, 0) c d h
  obtain ⟨h2, h3⟩ := Aged.cleanL (sortI (keys σ.L)) (σ, 0) ha
  refine ⟨⟨d', h1.more ?_ (Nat.le_refl _)⟩, h2, ?_⟩
  · rw [sortI_len, h6]; omega
  · show ((YtniijkcncpabaaaGreat.cleanL (σ, 0) (sortI (keys σ.L))).1.L.length : Int) ≤ n
    rw [← h6, h3, h6]; exact hl
end Go.Proofs.YtniijkcncpabaaaGreat
