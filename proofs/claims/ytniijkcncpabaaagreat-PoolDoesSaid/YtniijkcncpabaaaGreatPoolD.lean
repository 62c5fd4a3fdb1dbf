/- The pool: write. -/
import Derived.Test.YtniijkcncpabaaaGreatPoolC
import Derived.StillTailTactics
namespace Go.Proofs.YtniijkcncpabaaaGreat
open Go.RowKit Go.MapKept
set_option maxRecDepth 100000
set_option maxHeartbeats 400000

/-- the disk with a page more written -/
def Disk.put (D : Disk) (k : Int) (s : ByteArray) : Disk := { D with writes := D.writes ++ [(k, page (padTo s 252))] }
/-- The disk below it turns. -/
theorem PoolIs.setDisk {w w' : World} {bp : Nat} {x : Locs} {σ : Pool} (h : PoolIs w bp x σ) {wv' : Value} {D' : Disk} (hd : DiskIs w' x.bd x.bs wv' D') (hc : Chg (fun k => k = x.bd ∨ x.wv.ownBlock = some k) w w') :
    PoolIs w' bp { x with wv := wv' } { σ with D := D' } := by
  have ne1 : ∀ b cs t f, w.heap[b]? = some (.cells cs t f) → t ≠ 52 → t ≠ 83 → ¬ (b = x.bd ∨ x.wv.ownBlock = some b) := by
    rintro b cs t f hb ht1 ht2 (e | e)
    · exact cells_ne hb h.disk.self ht1 e
    · exact own_ne h.disk.writes hb ht2 e
  refine ⟨hc.at h.self (ne1 _ _ _ _ h.self (by decide) (by decide)), h.tab.chg hc ?_, fun k p hp => hc.at (h.place k p hp) (ne1 _ _ _ _ (h.place k p hp) (by decide) (by decide)), hc.row h.ages ?_, hd, h.inj, h.ne, h.few⟩
  · rintro (e | e)
    · exact map_ne h.disk.self h.tab e.symm
    · exact row_ne_map h.disk.writes h.tab e
  · rintro b hb (e | e)
    · subst e; exact own_ne h.ages h.disk.self (by decide) hb
    · exact rows_ne h.ages h.disk.writes (by decide) b hb e
theorem write_ok {w : World} {bp bd : Nat} {S : Nat → Prop} {σ : Pool} {x : Locs} (hx : x.bd = bd) (h : PoolIs w bp x σ) (hS : ∀ k, Own bp x σ k → S k) (hnew : ∀ k, w.heap.size ≤ k → S k) (k : Int) (p : Pl) (hg : aget σ.L k = some p)
    (hk0 : 0 ≤ k) (hk1 : k < σ.D.n) (hs : p.s.size ≤ 252) (hfew : σ.D.writes.length + 1 ≤ 1000000000) :
    Calls Tryz.prog 53 #[ptrB bp, .int .i64 k] w fun e w' => e = .returned (.tuple #[]) ∧ PoolAt w' bp bd S { σ with L := aput σ.L k { p with dirty := false }, D := σ.D.put k p.s } ∧ Chg S w w' := by
  subst hx
  have h' := h.no ((Chg.refl No w).drew)
  have hdw := dwrite_ok h'.disk k hk0 hk1 p.s hs hfew
  have hlk := h'.look k
  simp only [hg, Option.map_some, Option.getD_some] at hlk
  have c0 := cell_at h.self 0 (v := ptrB x.bd) rfl
  have c2 := cell_at h.self 2 (v := .map (some x.bm)) rfl
  have d0 := cell_at (h.place k p hg) 0 (v := .string p.s) rfl
  have HD := Lib.hid hdw
  have H' := Lib.hid h'
  clear hdw h'
  have HS := Lib.hid hS
  have HN := Lib.hid hnew
  have HG := Lib.hid hg
  have H := Lib.hid h
  clear h hS hnew hg
  simp only [ptrB] at c0 hlk
  rw [ptrB]
  go_enter Tryz.func53, Tryz.ntmps53
  go_wp2_with fail
  go_still_tail 14, (by kernel_rfl)
  change wpList _ _ _ _ _ w.drew
  go_wp2_with fail
  refine HD.out.mono ?_
  rintro e w2 ⟨rfl, wv', hd2, hch2, hloc⟩
  have h2 := H'.out.setDisk hd2 hch2
  have hpl := h2.place k p HG.out
  have hcs := chg_setCell w2 (x.pb k) 2 (.bool false)
  have hn := at_setCell hpl 2 (.bool false)
  have h3 := h2.put HG.out { p with dirty := false } hcs hn
  have hlk2 := h2.look k
  simp only [HG.out, Option.map_some, Option.getD_some, ptrB] at hlk2
  have e2 := cell_at h2.self 2 (v := .map (some x.bm)) rfl
  have d2 := cell_at hpl 2 (v := .bool p.dirty) rfl
  have f2 := free_at hpl 2
  have hown : ∀ b, Own bp { x with wv := wv' } { σ with L := aput σ.L k { p with dirty := false }, D := σ.D.put k p.s } b → S b := by
    intro b hb
    have hb' := Own.put (σ := { σ with D := σ.D.put k p.s }) HG.out _ hb
    rcases hb' with e | e | e | e | e | e | e
    · exact HS.out b (.inl e)
    · exact HS.out b (.inr (.inl e))
    · exact HS.out b (.inr (.inr (.inl e)))
    · exact HS.out b (.inr (.inr (.inr (.inl e))))
    · rcases hloc with hl | ⟨k', hl, hk'⟩
      · exact HS.out b (.inr (.inr (.inr (.inr (.inl (hl.symm.trans e))))))
      · have : k' = b := by have := hl.symm.trans (show wv'.ownBlock = some b from e); simpa using this
        subst this; exact HN.out _ hk'
    · exact HS.out b (.inr (.inr (.inr (.inr (.inr (.inl e))))))
    · exact HS.out b (.inr (.inr (.inr (.inr (.inr (.inr e))))))
  have hfin : PoolAt (w2.setCell ⟨x.pb k, 2, none⟩ (.bool false)) bp x.bd S { σ with L := aput σ.L k { p with dirty := false }, D := σ.D.put k p.s } := ⟨{ x with wv := wv' }, rfl, h3, hown⟩
  have hchf : Chg S w (w2.setCell ⟨x.pb k, 2, none⟩ (.bool false)) := by
    have c1 : Chg S w w2 := ((Chg.refl No w).drew.ofNo.trans hch2 fun b _ e => e.elim (fun e => by subst e; exact HS.out _ (.inr (.inr (.inl rfl)))) (fun e => HS.out _ (.inr (.inr (.inr (.inr (.inl e)))))))
    exact c1.trans hcs fun b _ e => by subst e; exact HS.out _ (.inr (.inr (.inr (.inr (.inr (.inr ⟨k, p, HG.out, rfl⟩))))))
  have HF := Lib.hid hfin
  have HC := Lib.hid hchf
  clear hfin hchf hown h3 hn hcs hpl h2 hd2 hch2 hloc
  go_wp2
  go_end0
  exact ⟨rfl, HF.out, HC.out⟩
end Go.Proofs.YtniijkcncpabaaaGreat
