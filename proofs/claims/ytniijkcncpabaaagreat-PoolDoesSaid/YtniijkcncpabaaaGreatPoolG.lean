/- The pool: free. -/
import Derived.Test.YtniijkcncpabaaaGreatPoolF
import Derived.IntWalk
import Derived.Deep.RegionWith
namespace Go.Proofs.YtniijkcncpabaaaGreat
open Go.RowKit Go.MapKept
set_option maxRecDepth 100000
set_option maxHeartbeats 1000000

theorem goes_get {σ : Pool} {k : Int} (h : goesB σ k = true) : ∃ p, aget σ.L k = some p ∧ p.pins = 0 ∧ (p.dirty = false ∨ p.dirty = true ∧ p.last ≤ σ.sure) := by
  unfold goesB at h
  cases hg : aget σ.L k with
  | none => rw [hg] at h; cases h
  | some p =>
    rw [hg] at h
    simp only [Bool.and_eq_true, beq_iff_eq, Bool.or_eq_true, Bool.not_eq_true', mayB, decide_eq_true_eq] at h
    refine ⟨p, rfl, h.1, ?_⟩
    rcases h.2 with h | h
    · exact .inl h
    · exact .inr h
theorem wrote_get {σ : Pool} {k : Int} {p : Pl} (h : aget σ.L k = some p) : ∃ q, aget (wrote σ k).L k = some q ∧ (wrote σ k).ages = σ.ages ∧ (wrote σ k).places = σ.places ∧ (wrote σ k).sure = σ.sure ∧ q.pins = p.pins ∧ q.dirty = false := by
  unfold wrote
  rw [h]
  cases hd : p.dirty with
  | false => exact ⟨p, by simpa [hd] using h, by simp [hd], by simp [hd], by simp [hd], rfl, hd⟩
  | true => exact ⟨{ p with dirty := false }, by simp [hd, aget_aput], by simp [hd], by simp [hd], by simp [hd], rfl, rfl⟩

theorem lt_of_cell2 {w : World} {a : Addr} {v : Value} (h : w.cell? a = some v) : a.block < w.heap.size := by
  unfold World.cell? at h
  by_cases hl : a.block < w.heap.size
  · exact hl
  · rw [Array.getElem?_eq_none (by omega)] at h; simp at h

theorem row_slice {w : World} {v : Value} {l : List Int} (h : IntRow w v l) : ∃ a n c, v = .slice a n c := by
  rcases h.2 with ⟨rfl, _⟩ | ⟨g, cap, cur, rfl, _⟩
  · exact ⟨_, _, _, rfl⟩
  · exact ⟨_, _, _, rfl⟩
theorem free_ok {w : World} {bp bd : Nat} {S : Nat → Prop} {σ : Pool} (h : PoolAt w bp bd S σ) (hnew : ∀ k, w.heap.size ≤ k → S k) (hn : ∀ k ∈ σ.ages, 0 ≤ k ∧ k < σ.D.n) (hin : ∀ k ∈ σ.ages, k ∈ keys σ.L) (hsz : ∀ k p, aget σ.L k = some p → p.s.size ≤ 252) (hfew : σ.D.writes.length + 1 ≤ 1000000000) :
    Calls Tryz.prog 45 #[ptrB bp] w fun e w' => e = .returned (.int .i64 (freeE σ)) ∧ PoolAt w' bp bd S (freeS σ) ∧ Chg S w w' := by
  obtain ⟨x, rfl, h, hS⟩ := h
  have hch0 : Chg No w (w.alloc (.cells #[ptrB bp] 30)) := (Chg.refl _ _).alloc _
  have h0 := h.no hch0
  have hbox := cell_at (MapKept.heap_alloc w (.cells #[ptrB bp] 30)).1 0 (v := ptrB bp) rfl
  have hownlt := fun k (hk : Own bp x σ k) => Own.lt h hk
  have hE : PoolAt w bp x.bd S σ := ⟨x, rfl, h, hS⟩
  have c1 := cell_at h0.self 1 (v := .int .i64 σ.places) rfl
  have c2 := cell_at h0.self 2 (v := .map (some x.bm)) rfl
  have hlen := fun nq => (h0.no ((Chg.refl No _).drewN nq)).tab.len (P := Tryz.prog) (t := 59) Tryz.underlying59 3
  have hll : (tabOf x.pb σ.L).length = σ.L.length := by simp [tabOf]
  rw [hll] at hlen
  have HE := Lib.hid hE
  have H0 := Lib.hid h0
  have HS := Lib.hid hS
  have HN := Lib.hid hnew
  have HL := Lib.hid hownlt
  have HN2 := Lib.hid hn
  have HIN := Lib.hid hin
  have HSZ := Lib.hid hsz
  by_cases hlt : (σ.L.length : Int) < σ.places
  · have hfe : freeE σ = 0 := by simp [freeE, hlt]
    have hfs : freeS σ = σ := by simp [freeS, hlt]
    rw [hfe, hfs]
    clear hE h0 hS hnew hownlt hn hin hsz h hfe hfs hch0
    simp only [ptrB] at *
    go_enter Tryz.func45, Tryz.ntmps45
    go_wp2
    go_quiet (fail)
    go_wp2
    go_ret
    exact ⟨rfl, HE.out.no (((Chg.refl No _).alloc _).drewN _), ((Chg.refl _ _).alloc _).drewN _⟩
  · have hlt' : ¬ (σ.L.length : Int) < σ.places := hlt
    clear hE h0 hS hnew hownlt hn hin hsz h
    simp only [ptrB] at *
    go_enter Tryz.func45, Tryz.ntmps45
    go_wp2
    go_quiet (fail)
    clear c1 c2 hlen
    have hch1 : Chg No w ((w.alloc (.cells #[.pointer (some ⟨bp, 0, none⟩)] 30)).drewN nq) := hch0.drewN nq
    have H1 : Hid (PoolIs ((w.alloc (.cells #[.pointer (some ⟨bp, 0, none⟩)] 30)).drewN nq) bp x σ) := H0.out.no ((Chg.refl No _).drewN nq)
    have hb1 : ((w.alloc (.cells #[.pointer (some ⟨bp, 0, none⟩)] 30)).drewN nq).cell? ⟨w.heap.size, 0, none⟩ = some (.pointer (some ⟨bp, 0, none⟩)) := hbox
    generalize (w.alloc (.cells #[.pointer (some ⟨bp, 0, none⟩)] 30)).drewN nq = w1 at *
    have hix := indexFunc_ok H1.out.ages 65 (ptrB w.heap.size) (goesB σ) (enters_of Tryz.func65 (by kernel_rfl) rfl)
      (fun k hk w' hw => by
        obtain ⟨p, hp⟩ := aget_isSome.2 (HIN.out k hk)
        exact free1_ok (H1.out.no hw) w.heap.size (hw.cell hb1 (fun e => e)) k p hp) (by have := H1.out.few; omega)
    have HIX := Lib.hid hix
    have c3 := cell_at H1.out.self 3 (v := x.av) rfl
    have HC1 := Lib.hid hch1
    clear hix hbox hch0 hch1 H0 hll
    go_wp2_with fail
    refine HIX.out.mono ?_
    rintro e w2 ⟨rfl, hch2⟩
    have hb2 := hch2.cell hb1 (fun e => e)
    have H2 := Lib.hid (H1.out.no hch2)
    have HC2 := Lib.hid (HC1.out.then hch2)
    clear hb1 c3 H1 HC1 hch2 HIX
    cases hf : σ.ages.findIdx? (goesB σ) with
    | none =>
      have hi : idxI (goesB σ) σ.ages = -1 := by rw [idxI, hf]
      have HFE : Hid (freeE σ = 6) := Lib.hid (by rw [freeE, if_neg (Int.not_lt.2 hlt'), hi]; rfl)
      have HFS : Hid (freeS σ = σ) := Lib.hid (by rw [freeS, if_neg (Int.not_lt.2 hlt'), hf])
      rw [hi]
      clear hi hf hlt
      go_wp2
      go_ret
      exact ⟨by rw [HFE.out]; rfl, by rw [HFS.out]; exact HE.out.no HC2.out, HC2.out.ofNo⟩
    | some i =>
      have hi : idxI (goesB σ) σ.ages = (i : Int) := by rw [idxI, hf]
      obtain ⟨hil, hiq, _⟩ := List.findIdx?_eq_some_iff_getElem.1 hf
      have HFE : Hid (freeE σ = 0) := Lib.hid (by rw [freeE, if_neg (Int.not_lt.2 hlt'), hi, if_neg (by omega)])
      have HFS : Hid (freeS σ = dropAt (wrote σ σ.ages[i]) i σ.ages[i]) := Lib.hid (by rw [freeS, if_neg (Int.not_lt.2 hlt'), hf]; simp [hil])
      rw [hi]
      obtain ⟨p, hg, hpn, hpd⟩ := goes_get hiq
      have hk0 := HN2.out _ (List.getElem_mem hil)
      have hx3 := cell_at H2.out.self 3 (v := x.av) rfl
      have hx2 := cell_at H2.out.self 2 (v := .map (some x.bm)) rfl
      have hrc : ∀ g n cap, x.av = .slice (some ⟨g, 0, none⟩) n cap → w2.cell? ⟨g, i, none⟩ = some (.int .i64 σ.ages[i]) := fun g n cap e => by
        have h : IntRow w2 x.av σ.ages := H2.out.ages
        rw [e] at h
        exact row_cell h i hil
      generalize hkk : σ.ages[i] = k at *
      have hlk := H2.out.look k
      simp only [hg, Option.map_some, Option.getD_some] at hlk
      have d2 := cell_at (H2.out.place k p hg) 2 (v := .bool p.dirty) rfl
      obtain ⟨ag, an, ac, hav⟩ : ∃ g n c, x.av = .slice (some ⟨g, 0, none⟩) n c := by
        have h : IntRow w2 x.av σ.ages := H2.out.ages
        rcases h.2 with ⟨_, h2⟩ | ⟨g, cap, cur, h1, _⟩
        · omega
        · exact ⟨_, _, _, h1⟩
      have hal : an = σ.ages.length := by
        have h : IntRow w2 x.av σ.ages := H2.out.ages
        rcases h.2 with ⟨_, h2⟩ | ⟨g, cap, cur, h1, _⟩
        · omega
        · rw [hav] at h1; simp only [Value.slice.injEq] at h1; omega
      have hrc2 := hrc _ _ _ hav
      have HAV := Lib.hid hav
      rw [hav] at hx3
      clear hrc hav hi hf hiq hkk
      subst hal
      simp only [ptrB] at *
      have hszw : w.heap.size < w2.heap.size := lt_of_cell2 hb2
      have hS0 : ∀ b, Own bp x σ b → b ≠ w.heap.size ∧ S b := fun b hb => ⟨Nat.ne_of_lt (HL.out b hb), HS.out b hb⟩
      have hN0 : ∀ b, w2.heap.size ≤ b → b ≠ w.heap.size ∧ S b := fun b hb => ⟨by omega, HN.out b (by omega)⟩
      cases hd : p.dirty with
      | true =>
        have HWO := Lib.hid (write_ok rfl H2.out hS0 hN0 k p hg hk0.1 hk0.2 (HSZ.out k p hg) hfew)
        have hwr : wrote σ k = { σ with L := aput σ.L k { p with dirty := false }, D := σ.D.put k p.s } := by rw [wrote, hg]; simp [hd]
        rw [← hwr] at HWO
        simp only [ptrB] at HWO
        rw [hd] at d2
        clear hwr hk0 hpd hS0 hN0
        have HG := Lib.hid hg
        clear hg
        go_wp2_with fail
        refine HWO.out.mono ?_
        rintro e w3 ⟨rfl, hP3, hch3⟩
        have hg := HG.out
        obtain ⟨x3, hbd3, h3, hS3⟩ := hP3
        obtain ⟨q, hq, hwa, _⟩ := wrote_get hg
        have hb3 := hch3.cell hb2 (fun h => h.1 rfl)
        have e2 := cell_at h3.self 2 (v := .map (some x3.bm)) rfl
        have HC3 : Hid (Chg S w w3) := Lib.hid (HC2.out.ofNo.trans hch3 (fun b _ h => h.2))
        have HT := Lib.hid h3.tab
        have H3 := Lib.hid h3
        have HS3 := Lib.hid hS3
        have HWA := Lib.hid hwa
        have HQ := Lib.hid hq
        clear h3 hS3 hwa hq hg hb2 hx2 hx3 hlk hrc2 d2 HWO hch3
        go_wp2_with (refine wpList_drop_k rfl _ _ _ _ rfl _ _ keyInt Tryz.underlying59 Tryz.underlying3 x3.bm _ rfl HT.out k rfl ?_; intro w4 hk4 hc4)
        have hk4' : kmap (Value.int .i64) ptrB w4 x3.bm (tabOf x3.pb (adel (wrote σ k).L k)) := by rw [tabOf_adel]; exact hk4
        have h4 := H3.out.drop k hc4 hk4'
        have hS4 : ∀ b, Own bp x3 { wrote σ k with L := adel (wrote σ k).L k } b → b ≠ w.heap.size ∧ S b := fun b hb => HS3.out b (Own.drop H3.out.nodup k hb)
        have hb4 := hc4.cell hb3 (fun e => (HS3.out x3.bm (.inr (.inl rfl))).1 e.symm)
        have e3 := cell_at h4.self 3 (v := x3.av) rfl
        have HC4 : Hid (Chg S w w4) := Lib.hid (HC3.out.trans hc4 (fun b _ e => by subst e; exact (HS3.out _ (.inr (.inl rfl))).2))
        have H4 := Lib.hid h4
        have HS4 := Lib.hid hS4
        have HDEL : Hid (∀ w', Chg No w4 w' → Calls Tryz.prog 66 #[x3.av, .int .i64 i, .int .i64 ((i : Int) + 1)] w' fun e w'' => ∃ v', e = .returned v' ∧ IntRow w'' v' (σ.ages.eraseIdx i) ∧ Chg (fun k => x3.av.ownBlock = some k) w' w'' ∧ v'.ownBlock = x3.av.ownBlock) :=
          Lib.hid fun w' hw => by
            have := (H4.out.no hw).ages
            simp only [HWA.out] at this
            exact delete_ok this i hil
        have hwrap : IntKind.i64.wrap ((i : Int) + 1) = (i : Int) + 1 := IntWalk.i64_in _ (by have := H2.out.few; omega)
        clear e2 hb3 hk4 hk4' hc4 h4 hS4 HT
        go_wp2_with fail
        have HC5 : Hid (Chg S w w4.drew) := Lib.hid HC4.out.drew
        have HP5 : Hid (PoolIs w4.drew bp x3 { wrote σ k with L := adel (wrote σ k).L k }) := Lib.hid (H4.out.no ((Chg.refl No w4).drew))
        go_region_with (go_at_call 66; refine (HDEL.out w4.drew ((Chg.refl No w4).drew)).mono ?_; rintro e w6 ⟨v', rfl, hrow, hch6, hown6⟩; obtain ⟨va, vl, vc, rfl⟩ := row_slice hrow; have hs6 := hch6.at HP5.out.self (own_ne HP5.out.ages HP5.out.self (by decide)); have e3 := cell_at hs6 3 (v := x3.av) rfl; have f3 := free_at hs6 3; have hb6 := hch6.cell (show w4.drew.cell? ⟨w.heap.size, 0, none⟩ = some (.pointer (some ⟨bp, 0, none⟩)) from hb4) (fun e => (HS4.out w.heap.size (.inr (.inr (.inr (.inr (.inr (.inl e))))))).1 rfl))
        all_goals
          have hne : ¬ x3.av.ownBlock = some bp := own_ne HP5.out.ages HP5.out.self (by decide)
          have hs7 := at_setCell hs6 3 (.slice va vl vc)
          have hc7 : Chg (fun b => b = bp ∨ x3.av.ownBlock = some b) w4.drew (w6.setCell ⟨bp, 3, none⟩ (.slice va vl vc)) :=
            (hch6.mono fun _ _ h => .inr h).trans (chg_setCell w6 bp 3 (.slice va vl vc)) fun _ _ e => .inl e
          have hrow7 : IntRow (w6.setCell ⟨bp, 3, none⟩ (.slice va vl vc)) (.slice va vl vc) (σ.ages.eraseIdx i) := (chg_setCell w6 bp 3 (.slice va vl vc)).row hrow (fun b hb e => by subst e; exact hne (hown6 ▸ hb))
          have hl7 : (σ.ages.eraseIdx i).length ≤ 1000 := Nat.le_trans (List.length_eraseIdx_le ..) H2.out.few
          have h7 := HP5.out.setAges hrow7 hc7 hl7 hs7
          have ho7 := Own.setAges (l := σ.ages.eraseIdx i) HS4.out (av' := .slice va vl vc) (fun b hb => HS4.out b (.inr (.inr (.inr (.inr (.inr (.inl (hown6 ▸ hb))))))))
          have hav : (wrote σ k).ages = σ.ages := HWA.out
          have HF : Hid (PoolAt (w6.setCell ⟨bp, 3, none⟩ (.slice va vl vc)) bp x.bd S (dropAt (wrote σ k) i k)) := Lib.hid ⟨{ x3 with av := .slice va vl vc }, hbd3, by unfold dropAt; rw [hav]; exact h7, fun b hb => (ho7 b (by unfold dropAt at hb; rw [hav] at hb; exact hb)).2⟩
          have HCF : Hid (Chg S w (w6.setCell ⟨bp, 3, none⟩ (.slice va vl vc))) := Lib.hid (HC5.out.trans hc7 fun b _ e => by
            rcases e with e | e
            · subst e; exact (HS4.out _ (.inl rfl)).2
            · exact (HS4.out b (.inr (.inr (.inr (.inr (.inr (.inl e))))))).2)
          clear hs6 hs7 hc7 hrow7 hl7 h7 ho7 hav hrow hch6 hown6 hne
          go_wp2
          go_ret
          exact ⟨by rw [HFE.out]; rfl, by rw [HFS.out]; exact HF.out, HCF.out⟩
      | false =>
        rw [hd] at d2
        have hwr : wrote σ k = σ := by rw [wrote, hg]; simp [hd]
        have h3 : PoolIs w2 bp x (wrote σ k) := by rw [hwr]; exact H2.out
        have hS3 : ∀ b, Own bp x (wrote σ k) b → b ≠ w.heap.size ∧ S b := by rw [hwr]; exact hS0
        have hch3 : Chg (fun b => b ≠ w.heap.size ∧ S b) w2 w2 := Chg.refl _ _
        clear hwr hk0 hpd hS0 hN0
        obtain ⟨q, hq, hwa, _⟩ := wrote_get hg
        have hb3 := hb2
        have e2 := cell_at h3.self 2 (v := .map (some x.bm)) rfl
        have HC3 : Hid (Chg S w w2) := Lib.hid (HC2.out.ofNo.trans hch3 (fun b _ h => h.2))
        have HT := Lib.hid h3.tab
        have H3 := Lib.hid h3
        have HS3 := Lib.hid hS3
        have HWA := Lib.hid hwa
        have HQ := Lib.hid hq
        clear h3 hS3 hwa hq hg hch3
        go_wp2_with (refine wpList_drop_k rfl _ _ _ _ rfl _ _ keyInt Tryz.underlying59 Tryz.underlying3 x.bm _ rfl HT.out k rfl ?_; intro w4 hk4 hc4)
        have hk4' : kmap (Value.int .i64) ptrB w4 x.bm (tabOf x.pb (adel (wrote σ k).L k)) := by rw [tabOf_adel]; exact hk4
        have h4 := H3.out.drop k hc4 hk4'
        have hS4 : ∀ b, Own bp x { wrote σ k with L := adel (wrote σ k).L k } b → b ≠ w.heap.size ∧ S b := fun b hb => HS3.out b (Own.drop H3.out.nodup k hb)
        have hb4 := hc4.cell hb3 (fun e => (HS3.out x.bm (.inr (.inl rfl))).1 e.symm)
        have e3 := cell_at h4.self 3 (v := x.av) rfl
        have HC4 : Hid (Chg S w w4) := Lib.hid (HC3.out.trans hc4 (fun b _ e => by subst e; exact (HS3.out _ (.inr (.inl rfl))).2))
        have H4 := Lib.hid h4
        have HS4 := Lib.hid hS4
        have HDEL : Hid (∀ w', Chg No w4 w' → Calls Tryz.prog 66 #[x.av, .int .i64 i, .int .i64 ((i : Int) + 1)] w' fun e w'' => ∃ v', e = .returned v' ∧ IntRow w'' v' (σ.ages.eraseIdx i) ∧ Chg (fun k => x.av.ownBlock = some k) w' w'' ∧ v'.ownBlock = x.av.ownBlock) :=
          Lib.hid fun w' hw => by
            have := (H4.out.no hw).ages
            simp only [HWA.out] at this
            exact delete_ok this i hil
        have hwrap : IntKind.i64.wrap ((i : Int) + 1) = (i : Int) + 1 := IntWalk.i64_in _ (by have := H2.out.few; omega)
        clear e2 hb3 hb2 hx2 hx3 hlk hrc2 d2 hk4 hk4' hc4 h4 hS4 HT
        go_wp2_with fail
        have HC5 : Hid (Chg S w w4.drew) := Lib.hid HC4.out.drew
        have HP5 : Hid (PoolIs w4.drew bp x { wrote σ k with L := adel (wrote σ k).L k }) := Lib.hid (H4.out.no ((Chg.refl No w4).drew))
        go_region_with (go_at_call 66; refine (HDEL.out w4.drew ((Chg.refl No w4).drew)).mono ?_; rintro e w6 ⟨v', rfl, hrow, hch6, hown6⟩; obtain ⟨va, vl, vc, rfl⟩ := row_slice hrow; have hs6 := hch6.at HP5.out.self (own_ne HP5.out.ages HP5.out.self (by decide)); have e3 := cell_at hs6 3 (v := x.av) rfl; have f3 := free_at hs6 3; have hb6 := hch6.cell (show w4.drew.cell? ⟨w.heap.size, 0, none⟩ = some (.pointer (some ⟨bp, 0, none⟩)) from hb4) (fun e => (HS4.out w.heap.size (.inr (.inr (.inr (.inr (.inr (.inl e))))))).1 rfl))
        all_goals
          have hne : ¬ x.av.ownBlock = some bp := own_ne HP5.out.ages HP5.out.self (by decide)
          have hs7 := at_setCell hs6 3 (.slice va vl vc)
          have hc7 : Chg (fun b => b = bp ∨ x.av.ownBlock = some b) w4.drew (w6.setCell ⟨bp, 3, none⟩ (.slice va vl vc)) :=
            (hch6.mono fun _ _ h => .inr h).trans (chg_setCell w6 bp 3 (.slice va vl vc)) fun _ _ e => .inl e
          have hrow7 : IntRow (w6.setCell ⟨bp, 3, none⟩ (.slice va vl vc)) (.slice va vl vc) (σ.ages.eraseIdx i) := (chg_setCell w6 bp 3 (.slice va vl vc)).row hrow (fun b hb e => by subst e; exact hne (hown6 ▸ hb))
          have hl7 : (σ.ages.eraseIdx i).length ≤ 1000 := Nat.le_trans (List.length_eraseIdx_le ..) H2.out.few
          have h7 := HP5.out.setAges hrow7 hc7 hl7 hs7
          have ho7 := Own.setAges (l := σ.ages.eraseIdx i) HS4.out (av' := .slice va vl vc) (fun b hb => HS4.out b (.inr (.inr (.inr (.inr (.inr (.inl (hown6 ▸ hb))))))))
          have hav : (wrote σ k).ages = σ.ages := HWA.out
          have HF : Hid (PoolAt (w6.setCell ⟨bp, 3, none⟩ (.slice va vl vc)) bp x.bd S (dropAt (wrote σ k) i k)) := Lib.hid ⟨{ x with av := .slice va vl vc }, rfl, by unfold dropAt; rw [hav]; exact h7, fun b hb => (ho7 b (by unfold dropAt at hb; rw [hav] at hb; exact hb)).2⟩
          have HCF : Hid (Chg S w (w6.setCell ⟨bp, 3, none⟩ (.slice va vl vc))) := Lib.hid (HC5.out.trans hc7 fun b _ e => by
            rcases e with e | e
            · subst e; exact (HS4.out _ (.inl rfl)).2
            · exact (HS4.out b (.inr (.inr (.inr (.inr (.inr (.inl e))))))).2)
          clear hs6 hs7 hc7 hrow7 hl7 h7 ho7 hav hrow hch6 hown6 hne
          go_wp2
          go_ret
          exact ⟨by rw [HFE.out]; rfl, by rw [HFS.out]; exact HF.out, HCF.out⟩

end Go.Proofs.YtniijkcncpabaaaGreat
