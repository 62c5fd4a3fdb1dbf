/- The pool: Pin. -/
import Derived.Test.YtniijkcncpabaaaGreatPoolH
namespace Go.Proofs.YtniijkcncpabaaaGreat
open Go.RowKit Go.MapKept
set_option maxRecDepth 100000
set_option maxHeartbeats 1000000

theorem wrote_keys (σ : Pool) (k : Int) : keys (wrote σ k).L = keys σ.L := by
  unfold wrote
  cases hg : aget σ.L k with
  | none => rfl
  | some p =>
    cases hd : p.dirty with
    | false => simp [hd]
    | true => simp only [hd, if_true]; exact aput_keys (aget_isSome.1 ⟨p, hg⟩)
theorem freeS_none {σ : Pool} {k : Int} (h : aget σ.L k = none) : aget (freeS σ).L k = none := by
  rw [aget_none] at h ⊢
  unfold freeS
  split
  · exact h
  · split
    · exact h
    · show k ∉ keys (adel (wrote σ _).L _)
      rw [adel_keys, wrote_keys]
      exact fun e => h (List.mem_of_mem_erase e)
theorem pin_bad {w : World} {bp bd : Nat} {S : Nat → Prop} {σ : Pool} (h : PoolAt w bp bd S σ) (k : Int) (hk : k < 0 ∨ σ.D.n ≤ k) :
    Calls Tryz.prog 23 #[ptrB bp, .int .i64 k] w fun e w' => e = .returned (.tuple #[.string ByteArray.empty, .int .i64 1]) ∧ w = w' := by
  obtain ⟨x, rfl, h, hS⟩ := h
  have HL := Lib.hid (dlen_ok h.disk)
  have c0 := cell_at h.self 0 (v := ptrB x.bd) rfl
  clear h hS
  simp only [ptrB] at *
  by_cases h0 : k < 0
  · clear hk
    go_enter Tryz.func23, Tryz.ntmps23
    go_wp2_with fail
    go_ret2
    exact ⟨rfl, rfl⟩
  · have hk' : σ.D.n ≤ k := hk.resolve_left h0
    clear hk
    go_enter Tryz.func23, Tryz.ntmps23
    go_wp2_with fail
    refine HL.out.mono ?_
    rintro e w1 ⟨rfl, rfl⟩
    go_wp2
    go_ret2
    exact ⟨rfl, rfl⟩
theorem pin_ok {w : World} {bp bd : Nat} {S : Nat → Prop} {σ : Pool} (h : PoolAt w bp bd S σ) (hnew : ∀ k, w.heap.size ≤ k → S k) (hn : ∀ k ∈ σ.ages, 0 ≤ k ∧ k < σ.D.n) (hin : ∀ k ∈ σ.ages, k ∈ keys σ.L) (hsz : ∀ k p, aget σ.L k = some p → p.s.size ≤ 252) (hfew : σ.D.writes.length + 1 ≤ 1000000000)
    (k : Int) (hk0 : 0 ≤ k) (hk1 : k < σ.D.n) (c : ByteArray) (hc : c.size = 252) (hr : σ.D.raw k = page c) (hp0 : 0 ≤ pinsOf σ k) (hp1 : pinsOf σ k ≤ 1000000) (hlen : (youngL (pinIn σ k c).ages k).length ≤ 1000) :
    Calls Tryz.prog 23 #[ptrB bp, .int .i64 k] w fun e w' => e = .returned (.tuple #[.string (pinC σ k c), .int .i64 (pinE σ k)]) ∧ PoolAt w' bp bd S (pinS σ k c) ∧ Chg S w w' := by
  have HP := Lib.hid h
  obtain ⟨x, rfl, h, hS⟩ := h
  have HL := Lib.hid (dlen_ok h.disk)
  have c0 := cell_at h.self 0 (v := ptrB x.bd) rfl
  have c2 := cell_at h.self 2 (v := .map (some x.bm)) rfl
  have hlk := h.look k
  have HN := Lib.hid hnew
  cases hg : aget σ.L k with
  | some p =>
    have hpe : pinE σ k = 0 := by rw [pinE, hg]
    have hpi : pinIn σ k c = σ := by rw [pinIn, hg]
    have hpc : pinC σ k c = p.s := by rw [pinC, if_pos hpe, hg]
    have hps : pinS σ k c = pinUp σ k := by rw [pinS, if_pos hpe, hpi]
    have hpp : pinsOf σ k = p.pins := by rw [pinsOf, hg]
    rw [hpp] at hp0 hp1
    rw [hpe, hpc, hps]
    rw [hpi] at hlen
    simp only [hg, Option.map_some, Option.getD_some] at hlk
    have HY := Lib.hid (young_ok HP.out HN.out k hlen)
    have HC3 : Hid (Chg S w w) := Lib.hid (Chg.refl _ _)
    have HG := Lib.hid hg
    clear hpe hpi hpc hps hpp h hS hnew hn hin hsz hlen hg hr hc
    simp only [ptrB] at *
    go_enter Tryz.func23, Tryz.ntmps23
    go_wp2_with fail
    refine HL.out.mono ?_
    rintro e w1 ⟨rfl, rfl⟩
    go_wp2_with fail
    refine HY.out.mono ?_
    rintro e w4 ⟨rfl, hP4, hch4⟩
    clear c0 c2 hlk
    obtain ⟨x4, hbd4, h4, hS4⟩ := hP4
    have hpl := h4.place k p HG.out
    have e2 := cell_at h4.self 2 (v := .map (some x4.bm)) rfl
    have hlk4 := h4.look k
    simp only [HG.out, Option.map_some, Option.getD_some, ptrB] at hlk4
    have d1 := cell_at hpl 1 (v := .int .i64 p.pins) rfl
    have f1 := free_at hpl 1
    have d0 := cell_at hpl 0 (v := .string p.s) rfl
    have h5 := h4.put HG.out (up p) (chg_setCell w4 (x4.pb k) 1 (.int .i64 (p.pins + 1))) (at_setCell hpl 1 (.int .i64 (p.pins + 1)))
    have hlk5 := h5.look k
    simp only [aget_aput, if_true, Option.map_some, Option.getD_some, ptrB] at hlk5
    have HF : Hid (PoolAt (w4.setCell ⟨x4.pb k, 1, none⟩ (.int .i64 (p.pins + 1))) bp x.bd S (pinUp σ k)) := Lib.hid ⟨x4, hbd4, by unfold pinUp; rw [HG.out]; exact h5, fun b hb => hS4 b (by unfold pinUp at hb; rw [HG.out] at hb; exact Own.put (σ := { σ with ages := youngL σ.ages k }) HG.out _ hb)⟩
    have HCF : Hid (Chg S w (w4.setCell ⟨x4.pb k, 1, none⟩ (.int .i64 (p.pins + 1)))) := Lib.hid ((HC3.out.then hch4).trans (chg_setCell w4 (x4.pb k) 1 _) fun b _ e => by subst e; exact hS4 _ (.inr (.inr (.inr (.inr (.inr (.inr ⟨k, p, HG.out, rfl⟩)))))))
    clear hpl h5 h4 hS4 hch4
    go_wp2
    --DBG
    go_ret2
    exact ⟨rfl, HF.out, HCF.out⟩
  | none =>
    simp only [hg, Option.map_none, Option.getD_none] at hlk
    have HR := Lib.hid (read_ok h.disk k hk0 hk1 c hc hr)
    have hpe : pinE σ k = freeE σ := by rw [pinE, hg]
    have HFO : Hid (∀ w1, Chg No w w1 → Calls Tryz.prog 45 #[ptrB bp] w1 fun e w' => e = .returned (.int .i64 (freeE σ)) ∧ PoolAt w' bp x.bd S (freeS σ) ∧ Chg S w1 w') :=
      Lib.hid fun w1 hw => free_ok (HP.out.no hw) (fun b hb => HN.out b (by have := hw.size; omega)) hn hin hsz hfew
    by_cases hfe : freeE σ = 0
    · have hpi : pinIn σ k c = { freeS σ with L := aput (freeS σ).L k (fresh c) } := by rw [pinIn, hg]
      have hpc : pinC σ k c = c := by rw [pinC, hpe, if_pos hfe, hg]
      have hps : pinS σ k c = pinUp (pinIn σ k c) k := by rw [pinS, hpe, if_pos hfe]
      rw [hpe, hpc, hps, hfe]
      rw [hfe] at HFO
      have hno := freeS_none hg
      have HNO := Lib.hid hno
      have HLEN := Lib.hid hlen
      have HPI := Lib.hid hpi
      clear hno hlen hpi hpc hps hpe hg hr hc h hS hnew hn hin hsz
      simp only [ptrB] at *
      go_enter Tryz.func23, Tryz.ntmps23
      go_wp2_with fail
      refine HL.out.mono ?_
      rintro e w1 ⟨rfl, rfl⟩
      go_wp2_with fail
      refine HR.out.mono ?_
      rintro e w1 ⟨rfl, hch1⟩
      go_wp2_with fail
      refine (HFO.out w1 hch1).mono ?_
      rintro e w2 ⟨rfl, hP2, hch2⟩
      clear hlk c0 c2
      obtain ⟨x2, hbd2, h2, hS2⟩ := hP2
      have e2 := cell_at h2.self 2 (v := .map (some x2.bm)) rfl
      have HT : Hid (kmap (Value.int .i64) ptrB (w2.alloc (.cells (fresh c).cells 71)) x2.bm (tabOf x2.pb (freeS σ).L)) := Lib.hid (h2.no ((Chg.refl No _).alloc _)).tab
      have H2 := Lib.hid h2
      have HS2 := Lib.hid hS2
      have HC2 : Hid (Chg S w w2) := Lib.hid (hch1.ofNo.then hch2)
      clear h2 hS2 hch1 hch2
      go_wp2_with (refine wpList_store_k rfl _ _ _ _ rfl _ _ keyInt Tryz.underlying59 Tryz.underlying3 x2.bm _ rfl HT.out k w2.heap.size rfl rfl ?_; intro w3 hk3 hc3)
      have HX3 : Hid (PoolAt w3 bp x.bd S (pinIn σ k c)) := Lib.hid (by
        rw [HPI.out]
        exact ⟨{ x2 with pb := fun j => if j = k then w2.heap.size else x2.pb j }, hbd2, H2.out.add HNO.out (fresh c) hc3 hk3, Own.add HS2.out k (fresh c) (HN.out _ HC2.out.size)⟩)
      have HC3 : Hid (Chg S w w3) := Lib.hid ((HC2.out.alloc _).trans hc3 fun b _ e => by subst e; exact HS2.out _ (.inr (.inl rfl)))
      have HY := Lib.hid (young_ok HX3.out (fun b hb => HN.out b (by have := HC3.out.size; omega)) k HLEN.out)
      obtain ⟨p, hp⟩ : ∃ p, p = fresh c := ⟨_, rfl⟩
      have HG : Hid (aget (pinIn σ k c).L k = some p) := Lib.hid (by rw [HPI.out, hp]; simp [aget_aput])
      have hp0' : 0 ≤ p.pins := by rw [hp]; exact Int.le_refl 0
      have HPC : Hid (p.s = c) := Lib.hid (by rw [hp]; rfl)
      have hp1' : p.pins ≤ 1000000 := by rw [hp]; show (0 : Int) ≤ 1000000; decide
      simp only [ptrB] at HY
      clear hc3 hk3 hp e2 hp0 hp1
      go_wp2_with fail
      refine HY.out.mono ?_
      rintro e w4 ⟨rfl, hP4, hch4⟩
      skip
      obtain ⟨x4, hbd4, h4, hS4⟩ := hP4
      have hpl := h4.place k p HG.out
      have e2 := cell_at h4.self 2 (v := .map (some x4.bm)) rfl
      have hlk4 := h4.look k
      simp only [HG.out, Option.map_some, Option.getD_some, ptrB] at hlk4
      have d1 := cell_at hpl 1 (v := .int .i64 p.pins) rfl
      have f1 := free_at hpl 1
      have d0 := cell_at hpl 0 (v := .string p.s) rfl
      have h5 := h4.put HG.out (up p) (chg_setCell w4 (x4.pb k) 1 (.int .i64 (p.pins + 1))) (at_setCell hpl 1 (.int .i64 (p.pins + 1)))
      have hlk5 := h5.look k
      simp only [aget_aput, if_true, Option.map_some, Option.getD_some, ptrB] at hlk5
      have HF : Hid (PoolAt (w4.setCell ⟨x4.pb k, 1, none⟩ (.int .i64 (p.pins + 1))) bp x.bd S (pinUp (pinIn σ k c) k)) := Lib.hid ⟨x4, hbd4, by unfold pinUp; rw [HG.out]; exact h5, fun b hb => hS4 b (by unfold pinUp at hb; rw [HG.out] at hb; exact Own.put (σ := { (pinIn σ k c) with ages := youngL (pinIn σ k c).ages k }) HG.out _ hb)⟩
      have HCF : Hid (Chg S w (w4.setCell ⟨x4.pb k, 1, none⟩ (.int .i64 (p.pins + 1)))) := Lib.hid ((HC3.out.then hch4).trans (chg_setCell w4 (x4.pb k) 1 _) fun b _ e => by subst e; exact hS4 _ (.inr (.inr (.inr (.inr (.inr (.inr ⟨k, p, HG.out, rfl⟩)))))))
      clear hpl h5 h4 hS4 hch4
      go_wp2
      --DBG
      go_ret2
      exact ⟨by rw [HPC.out]; rfl, HF.out, HCF.out⟩
    · have hpc : pinC σ k c = ByteArray.empty := by rw [pinC, hpe, if_neg hfe]
      have hps : pinS σ k c = σ := by rw [pinS, hpe, if_neg hfe]
      rw [hpe, hpc, hps]
      rw [freeS_bad hfe] at HFO
      have hb : (freeE σ != 0) = true := by simpa using hfe
      have hb' : (freeE σ == 0) = false := by simpa using hfe
      clear hfe hpc hps hpe hg hr hc h hS hnew hn hin hsz hlen
      generalize freeE σ = ee at *
      simp only [ptrB] at *
      go_enter Tryz.func23, Tryz.ntmps23
      go_wp2_with fail
      refine HL.out.mono ?_
      rintro e w1 ⟨rfl, rfl⟩
      go_wp2_with fail
      refine HR.out.mono ?_
      rintro e w1 ⟨rfl, hch1⟩
      go_wp2_with fail
      refine (HFO.out w1 hch1).mono ?_
      rintro e w2 ⟨rfl, hP2, hch2⟩
      have HP2 := Lib.hid hP2
      have HC2 : Hid (Chg S w w2) := Lib.hid (hch1.ofNo.then hch2)
      clear hP2 hch1 hch2
      go_wp2
      go_ret2
      exact ⟨rfl, HP2.out, HC2.out⟩
end Go.Proofs.YtniijkcncpabaaaGreat
