/- The pool: the closure of free, young. -/
import Derived.Test.YtniijkcncpabaaaGreatPoolD
import Derived.Deep.AppendLies
import Derived.Deep.RegionLaw
namespace Go.Proofs.YtniijkcncpabaaaGreat
open Go.RowKit Go.MapKept
set_option maxRecDepth 100000
set_option maxHeartbeats 400000

/-- may a page go? -/
def goesB (σ : Pool) (k : Int) : Bool := match aget σ.L k with
  | none => false
  | some p => (p.pins == 0) && (!p.dirty || mayB σ p)
theorem free1_ok {w : World} {bp : Nat} {x : Locs} {σ : Pool} (h : PoolIs w bp x σ) (c : Nat) (hc : w.cell? ⟨c, 0, none⟩ = some (ptrB bp)) (k : Int) (p : Pl) (hg : aget σ.L k = some p) :
    Calls Tryz.prog 65 #[.int .i64 k, ptrB c] w fun e w' => e = .returned (.bool (goesB σ k)) ∧ Chg No w w' := by
  have c2 := cell_at h.self 2 (v := .map (some x.bm)) rfl
  have hlk := h.look k
  simp only [hg, Option.map_some, Option.getD_some] at hlk
  have d1 := cell_at (h.place k p hg) 1 (v := .int .i64 p.pins) rfl
  have d2 := cell_at (h.place k p hg) 2 (v := .bool p.dirty) rfl
  have hmay := may_ok h k p hg
  have hgo : goesB σ k = ((p.pins == 0) && (!p.dirty || mayB σ p)) := by rw [goesB, hg]
  rw [hgo]
  have HM := Lib.hid hmay
  clear h hmay hg hgo
  simp only [ptrB] at *
  by_cases hp : p.pins = 0
  · rw [hp] at d1
    have hb : (p.pins == 0) = true := by simp [hp]
    rw [hb]
    clear hp hb
    cases hd : p.dirty with
    | false =>
      rw [hd] at d2
      clear hd
      go_enter Tryz.func65, Tryz.ntmps65
      go_wp2
      go_ret
      exact ⟨rfl, Chg.refl _ _⟩
    | true =>
      rw [hd] at d2
      clear hd
      generalize mayB σ p = mb at *
      go_enter Tryz.func65, Tryz.ntmps65
      go_wp2_with fail
      refine HM.out.mono ?_
      rintro e w1 ⟨rfl, hch⟩
      go_wp2
      go_ret
      exact ⟨by simp, hch⟩
  · have hb : (p.pins == 0) = false := by simpa using hp
    rw [hb]
    clear hp
    go_enter Tryz.func65, Tryz.ntmps65
    go_wp2
    go_ret
    exact ⟨rfl, Chg.refl _ _⟩

/-- the closure of young -/
theorem young1_ok (c : Nat) (k y : Int) (w : World) (hc : w.cell? ⟨c, 0, none⟩ = some (.int .i64 k)) :
    Calls Tryz.prog 67 #[.int .i64 y, ptrB c] w fun e w' => e = .returned (.bool (y == k)) ∧ Chg No w w' := by
  simp only [ptrB]
  go_enter Tryz.func67, Tryz.ntmps67
  go_wp2
  go_ret
  exact ⟨rfl, Chg.refl _ _⟩

/-- the ages turn -/
theorem PoolIs.setAges {w w' : World} {bp : Nat} {x : Locs} {σ : Pool} (h : PoolIs w bp x σ) {av' : Value} {l : List Int} (hr : IntRow w' av' l) (hc : Chg (fun k => k = bp ∨ x.av.ownBlock = some k) w w') (hl : l.length ≤ 1000)
    (hs : w'.heap[bp]? = some (.cells #[ptrB x.bd, .int .i64 σ.places, .map (some x.bm), av', .int .i64 σ.sure] 61 (0, 0))) :
    PoolIs w' bp { x with av := av' } { σ with ages := l } := by
  have ne1 : ∀ b cs t f, w.heap[b]? = some (.cells cs t f) → t ≠ 61 → t ≠ 3 → ¬ (b = bp ∨ x.av.ownBlock = some b) := by
    rintro b cs t f hb ht1 ht2 (e | e)
    · exact cells_ne hb h.self ht1 e
    · exact own_ne h.ages hb ht2 e
  refine ⟨hs, h.tab.chg hc ?_, fun k p hp => hc.at (h.place k p hp) (ne1 _ _ _ _ (h.place k p hp) (by decide) (by decide)), hr, h.disk.chg hc (ne1 _ _ _ _ h.disk.self (by decide) (by decide)) ?_ ?_, h.inj, h.ne, hl⟩
  · rintro (e | e)
    · exact map_ne h.self h.tab e.symm
    · exact row_ne_map h.ages h.tab e
  · rintro (e | e)
    · exact map_ne h.self h.disk.stays e.symm
    · exact row_ne_map h.ages h.disk.stays e
  · rintro b hb (e | e)
    · subst e; exact own_ne h.disk.writes h.self (by decide) hb
    · exact rows_ne h.disk.writes h.ages (by decide) b hb e
theorem Own.setAges {bp : Nat} {x : Locs} {σ : Pool} {av' : Value} {l : List Int} {S : Nat → Prop} (hS : ∀ k, Own bp x σ k → S k) (ha : ∀ k, av'.ownBlock = some k → S k) : ∀ k, Own bp { x with av := av' } { σ with ages := l } k → S k := by
  rintro b (e | e | e | e | e | e | e)
  · exact hS b (.inl e)
  · exact hS b (.inr (.inl e))
  · exact hS b (.inr (.inr (.inl e)))
  · exact hS b (.inr (.inr (.inr (.inl e))))
  · exact hS b (.inr (.inr (.inr (.inr (.inl e)))))
  · exact ha b e
  · exact hS b (.inr (.inr (.inr (.inr (.inr (.inr e))))))

theorem infoInt : (Tryz.prog.info? 3).map (fun i => (i.zero, i.size, i.bytes)) = some (some (.int .i64 0), 1, 8) := by kernel_rfl
/-- young -/
def youngL (l : List Int) (k : Int) : List Int := kept (fun y => y == k) l ++ [k]
theorem young_ok {w : World} {bp bd : Nat} {S : Nat → Prop} {σ : Pool} (h : PoolAt w bp bd S σ) (hnew : ∀ k, w.heap.size ≤ k → S k) (k : Int) (hlen : (youngL σ.ages k).length ≤ 1000) :
    Calls Tryz.prog 46 #[ptrB bp, .int .i64 k] w fun e w' => e = .returned (.tuple #[]) ∧ PoolAt w' bp bd S { σ with ages := youngL σ.ages k } ∧ Chg S w w' := by
  obtain ⟨x, rfl, h, hS⟩ := h
  obtain ⟨i0, hi, hz0, hz1, hz2⟩ := info_parts infoInt
  -- the box, the closure, DeleteFunc
  have hch0 : Chg No w (w.alloc (.cells #[.int .i64 k] 3)) := (Chg.refl _ _).alloc _
  have hbb : bp ≠ w.heap.size := by have := lt_of_block h.self; omega
  have hba : ¬ x.av.ownBlock = some w.heap.size := fun e => by have := own_lt h.ages e; omega
  have h0 := h.no hch0
  have hbox := (MapKept.heap_alloc w (.cells #[.int .i64 k] 3)).1
  have hdel := deleteFunc_ok h0.ages 67 (ptrB w.heap.size) (fun y => y == k) (enters_of Tryz.func67 (by kernel_rfl) rfl)
    (fun y _ w' hw => young1_ok w.heap.size k y w' (hw.cell (cell_at hbox 0 rfl) (fun e => by have := own_lt h.ages e; simp at this))) (by have := h.few; omega)
  have c3 := cell_at h0.self 3 (v := x.av) rfl
  have HD := Lib.hid hdel
  have H0 := Lib.hid h0
  have HS := Lib.hid hS
  have HN := Lib.hid hnew
  have hbp := lt_of_block h0.self
  clear hdel h0 h hS hnew
  simp only [ptrB] at *
  go_enter Tryz.func46, Tryz.ntmps46
  go_wp2_with fail
  refine HD.out.mono ?_
  rintro e w1 ⟨v', rfl, hrow, hch1, hown⟩
  obtain ⟨va, vl, vc, hv'⟩ : ∃ a l c, v' = .slice a l c := by
    rcases hrow.2 with ⟨rfl, _⟩ | ⟨g, cap, cur, rfl, _⟩
    · exact ⟨_, _, _, rfl⟩
    · exact ⟨_, _, _, rfl⟩
  have hnb : ¬ x.av.ownBlock = some bp := own_ne H0.out.ages H0.out.self (by decide)
  have hs1 := hch1.at H0.out.self hnb
  have c3' := cell_at hs1 3 (v := x.av) rfl
  have f3' := free_at hs1 3
  have hs2 := at_setCell hs1 3 v'
  have hc12 : Chg (fun b => b = bp ∨ x.av.ownBlock = some b) (w.alloc (.cells #[.int .i64 k] 3)) (w1.setCell ⟨bp, 3, none⟩ v') :=
    (hch1.mono fun _ _ h => .inr h).trans (chg_setCell w1 bp 3 v') fun _ _ e => .inl e
  have hrow2 : IntRow (w1.setCell ⟨bp, 3, none⟩ v') v' (kept (fun y => y == k) σ.ages) := (chg_setCell w1 bp 3 v').row hrow (fun b hb e => by subst e; exact hnb (hown ▸ hb))
  have hkl : (kept (fun y => y == k) σ.ages).length ≤ 1000 := by simp [youngL] at hlen; omega
  have h2 := H0.out.setAges hrow2 hc12 hkl hs2
  have hbx : (w1.setCell ⟨bp, 3, none⟩ v').cell? ⟨w.heap.size, 0, none⟩ = some (.int .i64 k) := hc12.cell (cell_at (MapKept.heap_alloc w (.cells #[.int .i64 k] 3)).1 0 rfl) (fun e => e.elim (fun e => hbb e.symm) (fun e => hba e))
  have hown2 := Own.setAges (l := kept (fun y => y == k) σ.ages) HS.out (av' := v') (fun b hb => HS.out b (.inr (.inr (.inr (.inr (.inr (.inl (hown ▸ hb))))))))
  have HC12 := Lib.hid hc12
  have H2 := Lib.hid h2
  have HO2 := Lib.hid hown2
  clear hc12 h2 hown2 hrow2 hrow hch1 hown hs1
  subst hv'
  have hrl : (kept (fun y => y == k) σ.ages).length = vl := by
    have h : IntRow _ (.slice va vl vc) (kept (fun y => y == k) σ.ages) := H2.out.ages
    rcases h.2 with ⟨h1, h2⟩ | ⟨g, cap, cur, h1, _⟩
    · simp only [Value.slice.injEq] at h1; omega
    · simp only [Value.slice.injEq] at h1; omega
  go_wp2_with fail
  generalize (w1.setCell ⟨bp, 3, none⟩ (.slice va vl vc)) = w2 at *
  have e3 := cell_at H2.out.self 3 (v := .slice va vl vc) rfl
  have hsz2 : w2.heap.size = w2.heap.size := rfl
  have HR2 : Hid (IntRow w2 (.slice va vl vc) (kept (fun y => y == k) σ.ages)) := H2.out.ages
  clear c3 c3' f3' hs2 hsz2
  have hne2 : some bp ≠ (Value.slice va vl vc).ownBlock := fun e => own_ne H2.out.ages H2.out.self (by decide) e.symm
  have hlt2 := lt_of_block H2.out.self
  have HS2 := Lib.hid H2.out.self
  clear e3 hrl
  have e3 := cell_at HS2.out 3 (v := .slice va vl vc) rfl
  go_region_law ((refine step_append_lies _ rfl (.tmp 17) (.tmp 19) 42 rfl 0 3 i0 (.int .i64 0) 1 8 Tryz.underlying42 hi hz0 hz1 hz2 rfl (by decide) (.slice va vl vc) (kept (fun y => y == k) σ.ages).length (ints (kept (fun y => y == k) σ.ages)) (by simp [Act.eval, Act.put]) (HR2.out.alloc _) ⟨w2.heap.size, 0, none⟩ 1 1 [.int .i64 k] (by simp [Act.eval, Act.put]) rfl (cell_one_new _ _ _) (by simp [Value.oneCell']) (by omega) (by unfold maxLen; omega) (by omega) (by simp) (w2.heap.size + 1) (by simp) ?_); intro g cap w3 hr3 hg3 hl3 hlt3; have hs3 := (hg3.block bp (by simp; omega) hne2).trans ((Below.heap_alloc _ _ bp hlt2).trans HS2.out); have c33 := cell_at hs3 3 (v := .slice va vl vc) rfl; have f33 := free_at hs3 3)
  all_goals
    have hc3 : Chg (fun b => (Value.slice va vl vc).ownBlock = some b) w2 w3 := Chg.then (((Chg.refl _ w2).alloc (.cells #[.int .i64 k] 3)).drew) (Chg.ofGrown hg3)
    have hc4 : Chg (fun b => b = bp ∨ (Value.slice va vl vc).ownBlock = some b) w2 (w3.setCell ⟨bp, 3, none⟩ (.slice (some ⟨g, 0, none⟩) ((kept (fun y => y == k) σ.ages).length + 1) cap)) :=
      (hc3.mono fun _ _ h => .inr h).trans (chg_setCell w3 bp 3 _) fun _ _ e => .inl e
    have hgb : g ≠ bp := fun e => by
      rcases hl3 with hl3 | hl3
      · exact hne2 (by rw [hl3, e])
      · omega
    have hr4 : IntRow (w3.setCell ⟨bp, 3, none⟩ (.slice (some ⟨g, 0, none⟩) ((kept (fun y => y == k) σ.ages).length + 1) cap)) (.slice (some ⟨g, 0, none⟩) ((kept (fun y => y == k) σ.ages).length + 1) cap) (youngL σ.ages k) := by
      have := (chg_setCell w3 bp 3 (.slice (some ⟨g, 0, none⟩) ((kept (fun y => y == k) σ.ages).length + 1) cap)).row hr3 (fun b hb e => by subst e; simp [Value.ownBlock] at hb; exact hgb hb)
      have e1 : (ints (kept (fun y => y == k) σ.ages) ++ [Value.int .i64 k]) = ints (youngL σ.ages k) := by simp [youngL, ints]
      have e2 : (youngL σ.ages k).length = (kept (fun y => y == k) σ.ages).length + 1 := by simp [youngL]
      unfold IntRow
      rw [e2, ← e1]
      exact this
    have h4 := H2.out.setAges hr4 hc4 hlen (at_setCell hs3 3 _)
    have ho4 := Own.setAges (l := youngL σ.ages k) (av' := .slice (some ⟨g, 0, none⟩) ((kept (fun y => y == k) σ.ages).length + 1) cap) HO2.out (fun b hb => by
      simp [Value.ownBlock] at hb
      subst hb
      rcases hl3 with hl3 | hl3
      · exact HO2.out _ (.inr (.inr (.inr (.inr (.inr (.inl hl3))))))
      · exact HN.out _ (by have := HC12.out.size; simp at this; omega))
    have hchf : Chg S w (w3.setCell ⟨bp, 3, none⟩ (.slice (some ⟨g, 0, none⟩) ((kept (fun y => y == k) σ.ages).length + 1) cap)) := by
      have c0 : Chg S w w2 := Chg.trans hch0.ofNo HC12.out (fun b _ e => e.elim (fun e => by subst e; exact HS.out _ (.inl rfl)) (fun e => HS.out _ (.inr (.inr (.inr (.inr (.inr (.inl e))))))))
      exact c0.trans hc4 (fun b _ e => e.elim (fun e => by subst e; exact HS.out _ (.inl rfl)) (fun e => HO2.out _ (.inr (.inr (.inr (.inr (.inr (.inl e))))))))
    have hfin : PoolAt (w3.setCell ⟨bp, 3, none⟩ (.slice (some ⟨g, 0, none⟩) ((kept (fun y => y == k) σ.ages).length + 1) cap)) bp x.bd S { σ with ages := youngL σ.ages k } := ⟨{ x with av := .slice (some ⟨g, 0, none⟩) ((kept (fun y => y == k) σ.ages).length + 1) cap }, rfl, h4, ho4⟩
    have HF := Lib.hid hfin
    have HC := Lib.hid hchf
    clear hfin hchf h4 ho4 hr4 hc4 hc3 hs3 hr3 hg3 hl3
    go_end0
    exact ⟨rfl, HF.out, HC.out⟩
end Go.Proofs.YtniijkcncpabaaaGreat
