/- The reference's pool: may, write, Pins, bad. -/
import Derived.Test.YtniijkcncpabaaaGreatRefI
namespace Go.Proofs.YtniijkcncpabaaaGreat
open Go.RowKit Go.MapKept
set_option maxRecDepth 100000
set_option maxHeartbeats 1000000

section
variable {S T : Nat → Prop} {w w' : World} {rb rd : Nat} {x : RLocs} {σ : Pool}
theorem rmay_ok (h : RPoolIs w rb x σ) (k : Int) (p : Pl) (hg : aget σ.L k = some p) :
    Calls Tryz.prog 54 #[ptrB rb, ptrB (x.pb k)] w fun e w' => e = .returned (.bool (mayB σ p)) ∧ Chg No w w' := by
  have c4 := cell_at h.self 2 (v := .int .i64 σ.sure) rfl
  have d2 := cell_at (h.place k p hg) 3 (v := .bool p.dirty) rfl
  have d4 := cell_at (h.place k p hg) 5 (v := .int .i64 p.last) rfl
  cases hd : p.dirty with
  | false =>
    have hm : mayB σ p = false := by rw [mayB, hd]; rfl
    rw [hm]
    rw [hd] at d2
    clear h hg hd hm
    simp only [ptrB] at *
    go_enter Tryz.func54, Tryz.ntmps54
    go_wp2
    go_quiet (fail)
    go_wp2
    go_ret
    exact ⟨rfl, (Chg.refl _ _).drewN _⟩
  | true =>
    have hm : mayB σ p = decide (p.last ≤ σ.sure) := by rw [mayB, hd]; rfl
    rw [hm]
    rw [hd] at d2
    clear h hg hd hm
    simp only [ptrB] at *
    go_enter Tryz.func54, Tryz.ntmps54
    go_wp2
    go_quiet (fail)
    go_wp2
    go_ret
    exact ⟨rfl, (Chg.refl _ _).drewN _⟩
theorem RPoolIs.setDisk (h : RPoolIs w rb x σ) {wv' : Value} {D' : Disk} (hd : RDisk w' x.rd x.lv wv' D') (hc : Chg (fun k => k = x.rd ∨ x.wv.ownBlock = some k) w w') : RPoolIs w' rb { x with wv := wv' } { σ with D := D' } := by
  have ne1 : ∀ b cs t f, w.heap[b]? = some (.cells cs t f) → t ≠ 56 → t ≠ 85 → ¬ (b = x.rd ∨ x.wv.ownBlock = some b) := by
    rintro b cs t f hb ht1 ht2 (e | e)
    · exact cells_ne hb h.disk.self ht1 e
    · exact own_ne h.disk.writes hb ht2 e
  refine ⟨hc.at h.self (ne1 _ _ _ _ h.self (by decide) (by decide)), hc.row h.row ?_, fun k p hp => hc.at (h.place k p hp) (ne1 _ _ _ _ (h.place k p hp) (by decide) (by decide)), hd, h.inj, h.mem, h.nd, h.few⟩
  rintro b hb (e | e)
  · subst e; exact own_ne h.row h.disk.self (by decide) hb
  · exact rows_ne h.row h.disk.writes (by decide) b hb e
theorem ROwn.setDisk {wv' : Value} {D' : Disk} (hS : ∀ k, ROwn rb x σ k → S k) (ha : ∀ k, wv'.ownBlock = some k → S k) : ∀ k, ROwn rb { x with wv := wv' } { σ with D := D' } k → S k := by
  rintro b (e | e | e | e | e | e)
  · exact hS b (.inl e)
  · exact hS b (.inr (.inl e))
  · exact hS b (.pages e)
  · exact ha b e
  · exact hS b (.row e)
  · exact hS b (.inr (.inr (.inr (.inr (.inr e)))))
theorem rwrite_ok (h : RPoolIs w rb x σ) (hS : ∀ k, ROwn rb x σ k → S k) (hnew : ∀ k, w.heap.size ≤ k → S k) (k : Int) (p : Pl) (hg : aget σ.L k = some p) (hk0 : 0 ≤ k) (hk1 : k < σ.D.n) (hs : p.s.size ≤ 252) (hfew : σ.D.writes.length + 1 ≤ 1000000000) :
    Calls Tryz.prog 55 #[ptrB rb, ptrB (x.pb k)] w fun e w' => e = .returned (.tuple #[]) ∧ Chg S w w' ∧
      ∃ wv', RPoolIs w' rb { x with wv := wv' } { σ with L := aput σ.L k { p with dirty := false }, D := σ.D.put k p.s } ∧ ∀ b, ROwn rb { x with wv := wv' } { σ with L := aput σ.L k { p with dirty := false }, D := σ.D.put k p.s } b → S b := by
  have hpl := h.place k p hg
  have c0 := cell_at h.self 0 (v := ptrB x.rd) rfl
  have d0 := cell_at hpl 0 (v := .int .i64 k) rfl
  have d1 := cell_at hpl 1 (v := .string p.s) rfl
  have HQ := Lib.hid (fun w1 (hc : Chg No w w1) => r4write_ok (h.disk.no hc) k hk0 hk1 p.s hs hfew)
  have H := Lib.hid h
  have HS := Lib.hid hS
  have HN := Lib.hid hnew
  have HG := Lib.hid hg
  have HPL := Lib.hid hpl
  clear h hS hnew hg hpl hs hfew
  have CR := Chg.refl No w
  simp only [ptrB] at *
  go_enter Tryz.func55, Tryz.ntmps55
  go_wp2_with fail
  go_region_with (go_at_call 70; refine (HQ.out _ ((Chg.refl No w).drew)).mono ?_; rintro e w1 ⟨rfl, wv', hd1, hc1, hl1⟩; have HA := Lib.hid (H.out.setDisk hd1 (Chg.trans ((Chg.refl No w).ofNo.drew) hc1 (fun _ _ h => h))); have HB : Hid (Chg S w w1) := Lib.hid (Chg.trans ((Chg.refl No w).ofNo.drew) hc1 (fun b _ h => h.elim (fun e => HS.out b (e ▸ .disk)) (fun e => HS.out b (.writes e)))); have HC : Hid (∀ b, wv'.ownBlock = some b → S b) := Lib.hid (fun b hb => hl1.elim (fun e => HS.out b (.writes (e ▸ hb))) (fun ⟨k, e1, e2⟩ => HN.out b (by rw [hb] at e1; cases e1; simpa using e2))); clear hd1 hc1 hl1; have e3 := free_at (HA.out.place k p HG.out) 3; have e4 := cell_at (HA.out.place k p HG.out) 3 (v := .bool p.dirty) rfl)
  --DBG
  all_goals
    have HF := Lib.hid (HA.out.put (p' := { p with dirty := false }) HG.out (chg_setCell w1 (x.pb k) 3 (.bool false)) (at_setCell (HA.out.place k p HG.out) 3 (.bool false)))
    have HO := Lib.hid (ROwn.setDisk (D' := σ.D.put k p.s) HS.out HC.out)
    have HCC : Hid (Chg S w (w1.setCell ⟨x.pb k, 3, none⟩ (.bool false))) := Lib.hid (HB.out.trans (chg_setCell w1 (x.pb k) 3 (.bool false)) (fun b _ e => by subst e; exact HS.out _ (.at HG.out)))
    go_wp2
    go_end0
    exact ⟨rfl, HCC.out, wv', HF.out, fun b hb => HO.out b (ROwn.put HG.out { p with dirty := false } hb)⟩
/-- where a page stands in the row -/
theorem ridx (ha : Aged σ) (k : Int) : (aget σ.L k = none ∧ idxI (fun y => y == k) σ.ages = -1) ∨ ∃ p j, ∃ hj : j < σ.ages.length, aget σ.L k = some p ∧ σ.ages[j] = k ∧ idxI (fun y => y == k) σ.ages = (j : Int) := by
  cases hg : aget σ.L k with
  | none =>
    refine .inl ⟨rfl, findIdx_none fun j hj => ?_⟩
    have : k ∉ σ.ages := fun hk => aget_none.1 hg (ha.1.mem_iff.1 hk)
    have hne : σ.ages[j] ≠ k := fun e => this (e ▸ List.getElem_mem hj)
    simpa using hne
  | some p =>
    have hk : k ∈ σ.ages := ha.1.mem_iff.2 (aget_isSome.1 ⟨p, hg⟩)
    have hs : (σ.ages.findIdx? (fun y => y == k)).isSome := by
      rw [List.findIdx?_isSome, List.any_eq_true]; exact ⟨k, hk, by simp⟩
    obtain ⟨j, hf⟩ := Option.isSome_iff_exists.1 hs
    obtain ⟨hj, hq, _⟩ := List.findIdx?_eq_some_iff_getElem.1 hf
    refine .inr ⟨p, j, hj, rfl, by simpa using hq, ?_⟩
    unfold idxI; rw [hf]
theorem rpins_ok (h : RPoolIs w rb x σ) (ha : Aged σ) (k : Int) :
    Calls Tryz.prog 16 #[ptrB rb, .int .i64 k] w fun e w' => e = .returned (.int .i64 (pinsOf σ k)) ∧ w = w' := by
  have HF := Lib.hid (rfind_ok h k)
  rcases ridx ha k with ⟨hg, hi⟩ | ⟨p, j, hj, hg, hjk, hi⟩
  · have he : pinsOf σ k = 0 := by rw [pinsOf, hg]
    rw [he]
    rw [hi] at HF
    clear h hg hi he
    simp only [ptrB] at *
    go_enter Tryz.func16, Tryz.ntmps16
    go_wp2_with fail
    refine HF.out.mono ?_
    rintro e w1 ⟨rfl, rfl⟩
    go_wp2
    go_ret
    exact ⟨rfl, rfl⟩
  · have he : pinsOf σ k = p.pins := by rw [pinsOf, hg]
    rw [he]
    rw [hi] at HF
    obtain ⟨a, cap, hav, hcl⟩ := h.cells
    obtain ⟨g, rfl, hcg⟩ := hcl (by omega)
    have c3 := cell_at h.self 3 (v := x.av) rfl
    have d2 := cell_at (h.place k p hg) 2 (v := .int .i64 p.pins) rfl
    have hcj := hcg j hj
    rw [hjk] at hcj
    rw [hav] at c3
    have hfew := h.few
    clear h hg hi he hjk hcl hcg hav
    simp only [ptrB] at *
    go_enter Tryz.func16, Tryz.ntmps16
    go_wp2_with fail
    refine HF.out.mono ?_
    rintro e w1 ⟨rfl, rfl⟩
    go_wp2
    go_ret
    exact ⟨rfl, rfl⟩
theorem rbad_ok (h : RPoolIs w rb x σ) (ha : Aged σ) (k : Int) :
    Calls Tryz.prog 51 #[ptrB rb, .int .i64 k] w fun e w' => e = .returned (.int .i64 (heldE σ k)) ∧ w = w' := by
  have HF := Lib.hid (rfind_ok h k)
  rcases ridx ha k with ⟨hg, hi⟩ | ⟨p, j, hj, hg, hjk, hi⟩
  · have he : heldE σ k = 7 := by rw [heldE, hg]
    rw [he]
    rw [hi] at HF
    clear h hg hi he
    simp only [ptrB] at *
    go_enter Tryz.func51, Tryz.ntmps51
    go_wp2_with fail
    refine HF.out.mono ?_
    rintro e w1 ⟨rfl, rfl⟩
    go_wp2
    go_ret
    exact ⟨rfl, rfl⟩
  · rw [hi] at HF
    obtain ⟨a, cap, hav, hcl⟩ := h.cells
    obtain ⟨g, rfl, hcg⟩ := hcl (by omega)
    have c3 := cell_at h.self 3 (v := x.av) rfl
    have d2 := cell_at (h.place k p hg) 2 (v := .int .i64 p.pins) rfl
    have hcj := hcg j hj
    rw [hjk] at hcj
    rw [hav] at c3
    have hfew := h.few
    by_cases hp : p.pins = 0
    · have he : heldE σ k = 9 := by rw [heldE, hg]; simp [hp]
      rw [he]
      rw [hp] at d2
      clear h hg hi he hjk hcl hcg hav hp
      simp only [ptrB] at *
      go_enter Tryz.func51, Tryz.ntmps51
      go_wp2_with fail
      refine HF.out.mono ?_
      rintro e w1 ⟨rfl, rfl⟩
      go_wp2
      go_ret
      exact ⟨rfl, rfl⟩
    · have he : heldE σ k = 0 := by rw [heldE, hg]; simp [hp]
      have hb : (p.pins == 0) = false := by simpa using hp
      rw [he]
      clear h hg hi he hjk hcl hcg hav hp
      simp only [ptrB] at *
      go_enter Tryz.func51, Tryz.ntmps51
      go_wp2_with fail
      refine HF.out.mono ?_
      rintro e w1 ⟨rfl, rfl⟩
      go_wp2
      go_ret
      exact ⟨rfl, rfl⟩
end
end Go.Proofs.YtniijkcncpabaaaGreat
