/- The reference's pool: free. -/
import Derived.Test.YtniijkcncpabaaaGreatRefK
namespace Go.Proofs.YtniijkcncpabaaaGreat
open Go.RowKit Go.MapKept
set_option maxRecDepth 100000
set_option maxHeartbeats 1000000

theorem out_of_erase {l : List Int} (hn : l.Nodup) {i : Nat} (hi : i < l.length) : l[i] ∉ l.eraseIdx i := by
  have := (perm_eraseIdx l i hi).nodup_iff.2 hn
  exact (List.nodup_cons.1 this).1
section
variable {S T : Nat → Prop} {w w' : World} {rb rd : Nat} {x : RLocs} {σ : Pool}
theorem rfree_ok (h : RPoolAt w rb rd S σ) (ha : Aged σ) (hnew : ∀ k, w.heap.size ≤ k → S k) (hn : ∀ k ∈ σ.ages, 0 ≤ k ∧ k < σ.D.n) (hsz : ∀ k p, aget σ.L k = some p → p.s.size ≤ 252) (hfew : σ.D.writes.length + 1 ≤ 1000000000) :
    Calls Tryz.prog 49 #[ptrB rb] w fun e w' => e = .returned (.bool (decide (freeE σ = 0))) ∧ RPoolAt w' rb rd S (freeS σ) ∧ Chg S w w' := by
  obtain ⟨x, rfl, h, hS⟩ := h
  obtain ⟨a, cap, hav, hcl⟩ := h.cells
  have c1 := cell_at h.self 1 (v := .int .i64 σ.places) rfl
  have c3 := cell_at h.self 3 (v := x.av) rfl
  rw [hav] at c3
  have hll : σ.ages.length = σ.L.length := by rw [ha.1.length_eq]; simp [keys]
  have hlim := h.few
  have H := Lib.hid h
  have HS := Lib.hid hS
  have HN := Lib.hid hnew
  have HK := Lib.hid hn
  have HZ := Lib.hid hsz
  have HA := Lib.hid ha
  have CD := Lib.hid (fun nq => (Chg.refl No w).drewN nq)
  by_cases hlt : (σ.L.length : Int) < σ.places
  · have hfe : freeE σ = 0 := by simp [freeE, hlt]
    have hfs : freeS σ = σ := by simp [freeS, hlt]
    rw [hfe, hfs]
    rw [← hll] at hlt
    have HE := Lib.hid (fun nq => (show RPoolAt (w.drewN nq) rb x.rd S σ from ⟨x, rfl, h.no (CD.out nq), hS⟩))
    clear h hS hnew hn hsz ha hfe hfs hcl hav hll
    simp only [ptrB] at *
    go_enter Tryz.func49, Tryz.ntmps49
    go_wp2
    go_quiet (fail)
    go_wp2
    go_ret
    exact ⟨rfl, HE.out _, (CD.out _).ofNo⟩
  · have hnl : ¬ (σ.ages.length : Int) < σ.places := by rw [hll]; exact hlt
    have HFE : Hid (freeE σ = if idxI (goesB σ) σ.ages = -1 then 6 else 0) := Lib.hid (by simp [freeE, hlt])
    have HFS : Hid (freeS σ = match σ.ages.findIdx? (goesB σ) with | none => σ | some i => dropAt (wrote σ (σ.ages.getD i 0)) i (σ.ages.getD i 0)) := Lib.hid (by unfold freeS; rw [if_neg hlt]; cases σ.ages.findIdx? (goesB σ) <;> rfl)
    have HCL := Lib.hid hcl
    clear h hS hnew hn hsz ha hcl hlt hll
    simp only [ptrB] at *
    go_enter Tryz.func49, Tryz.ntmps49
    go_wp2
    go_quiet (fail)
    go_wp2
    go_loopw [3] (fun si wr => ∃ j : Nat, j ≤ σ.ages.length ∧ si = .int .i64 j ∧ (∀ m, (hm : m < j) → (hl : m < σ.ages.length) → goesB σ σ.ages[m] = false) ∧ Chg No w wr) (fun si _ => σ.ages.length - (intOf si).toNat)
    case atStart => exact ⟨0, by omega, rfl, fun m hm => by omega, CD.out _⟩
    case round =>
      obtain ⟨j, hj, rfl, hno, hch⟩ := hrel
      have c3' := hch.cell c3 (fun e => e)
      have HNO := Lib.hid hno
      have HCH := Lib.hid hch
      clear hno hch
      by_cases hjl : j < σ.ages.length
      · obtain ⟨g, rfl, hg⟩ := HCL.out (by omega)
        obtain ⟨p, hp⟩ := H.out.mem _ (List.getElem_mem hjl)
        have Hr := Lib.hid (H.out.no HCH.out)
        have hcell := HCH.out.cell (hg j hjl) (fun e => e)
        have d2 := cell_at (Hr.out.place _ p hp) 2 (v := .int .i64 p.pins) rfl
        have d3 := cell_at (Hr.out.place _ p hp) 3 (v := .bool p.dirty) rfl
        have HMAY := Lib.hid (rmay_ok Hr.out _ p hp)
        have hkr := HK.out _ (List.getElem_mem hjl)
        have hgo : goesB σ σ.ages[j] = ((p.pins == 0) && (!p.dirty || mayB σ p)) := by rw [goesB, hp]
        have HIDX : Hid (goesB σ σ.ages[j] = true → σ.ages.findIdx? (goesB σ) = some j) := Lib.hid (fun hq => List.findIdx?_eq_some_iff_getElem.2 ⟨hjl, hq, fun m hm => by simpa using HNO.out m hm (by omega)⟩)
        have HGD : Hid (σ.ages.getD j 0 = σ.ages[j]) := Lib.hid (by simp [hjl])
        have HNX : Hid (goesB σ σ.ages[j] = false → ∀ m, (hm : m < j + 1) → (hl : m < σ.ages.length) → goesB σ σ.ages[m] = false) := Lib.hid (fun hq m hm hl => by
          by_cases hmj : m = j
          · subst hmj; exact hq
          · exact HNO.out m (by omega) hl)
        have HOE := Lib.hid (out_of_erase H.out.nd hjl)
        clear hg
        generalize hkk : σ.ages[j] = k at *
        have HP := Lib.hid hp
        clear hp
        have HDROP : Hid (∀ (x1 : RLocs) (σ1 : Pool) (w1 : World), RPoolIs w1 rb x1 { σ1 with ages := σ.ages.eraseIdx j } → (keys σ1.L).Nodup → (∀ b, ROwn rb x1 { σ1 with ages := σ.ages.eraseIdx j } b → S b) → x1.rd = x.rd → σ1.ages = σ.ages → RPoolAt w1 rb x.rd S (dropAt σ1 j k)) := Lib.hid (by
          intro x1 σ1 w1 h1 hnd h2 h3 h4
          have h5 := h1.forget hnd k HOE.out
          refine ⟨x1, h3, by unfold dropAt; rw [h4]; exact h5, fun b hb => h2 b (ROwn.forget (σ := { σ1 with ages := σ.ages.eraseIdx j }) hnd k (by unfold dropAt at hb; rw [h4] at hb; exact hb))⟩)
        simp only [ptrB] at *
        by_cases hp0 : p.pins = 0
        · cases hd : p.dirty with
          | false =>
            have hq : goesB σ k = true := by rw [hgo, hd, hp0]; rfl
            have hif := HIDX.out hq
            have hidx : idxI (goesB σ) σ.ages = (j : Int) := by rw [idxI, hif]
            have HFE2 : Hid (freeE σ = 0) := Lib.hid (by rw [HFE.out, hidx, if_neg (by omega)])
            have hwr : wrote σ k = σ := by rw [wrote, HP.out]; simp [hd]
            have HFS2 : Hid (freeS σ = dropAt σ j k) := Lib.hid (by rw [HFS.out, hif]; simp only [HGD.out, hwr])
            have HCUT := Lib.hid (rcut_ok Hr.out j hjl)
            rw [hp0] at d2
            rw [hd] at d3
            clear hgo hq hif hidx hwr hd hkr HMAY
            simp only [ptrB] at *
            go_wp2_with fail
            refine HCUT.out.mono ?_
            rintro e w1 ⟨rfl, hc1, av', h1, hb1⟩
            have HF : Hid (RPoolAt w1 rb x.rd S (dropAt σ j k)) := Lib.hid (HDROP.out _ σ w1 h1 HA.out.2 (ROwn.setRow HS.out (fun b hb => HN.out b (by have := hb1 b hb; have := HCH.out.size; omega))) rfl rfl)
            have HC1 : Hid (Chg S w w1) := Lib.hid (HCH.out.ofNo.trans hc1 (fun b _ e => by subst e; exact HS.out _ .self))
            clear h1 hb1 hc1
            go_wp2
            go_ret
            exact ⟨by rw [HFE2.out]; rfl, by rw [HFS2.out]; exact HF.out, HC1.out⟩
          | true =>
            rw [hp0] at d2
            rw [hd] at d3
            cases hm : mayB σ p with
            | true =>
              have hq : goesB σ k = true := by rw [hgo, hd, hp0, hm]; rfl
              have hif := HIDX.out hq
              have hidx : idxI (goesB σ) σ.ages = (j : Int) := by rw [idxI, hif]
              have HFE2 : Hid (freeE σ = 0) := Lib.hid (by rw [HFE.out, hidx, if_neg (by omega)])
              have hwr : wrote σ k = { σ with L := aput σ.L k { p with dirty := false }, D := σ.D.put k p.s } := by rw [wrote, HP.out]; simp [hd]
              have HFS2 : Hid (freeS σ = dropAt (wrote σ k) j k) := Lib.hid (by rw [HFS.out, hif]; simp only [HGD.out])
              have HWR := Lib.hid hwr
              rw [hm] at HMAY
              have HWO : Hid (∀ w1, Chg No wr w1 → _) := Lib.hid (fun w1 (hc : Chg No wr w1) => rwrite_ok (Hr.out.no hc) HS.out (fun b hb => HN.out b (by have := hc.size; have := HCH.out.size; omega)) k p HP.out hkr.1 hkr.2 (HZ.out k p HP.out) hfew)
              clear hgo hq hif hidx hwr hd hm hkr
              go_wp2_with fail
              refine HMAY.out.mono ?_
              rintro e w1 ⟨rfl, hc1⟩
              have d3' := hc1.cell d3 (fun e => e)
              have HC1 := Lib.hid hc1
              clear hc1 d3 d2 hcell c3'
              simp only [ptrB] at *
              go_wp2_with fail
              refine (HWO.out w1 HC1.out).mono ?_
              rintro e w2 ⟨rfl, hc2, wv', h2, ho2⟩
              have HH2 := Lib.hid h2
              have HO2 := Lib.hid ho2
              have HC2 := Lib.hid hc2
              have HCUT := Lib.hid (rcut_ok (σ := { σ with L := aput σ.L k { p with dirty := false }, D := σ.D.put k p.s }) h2 j hjl)
              clear h2 ho2 hc2 d3'
              simp only [ptrB] at *
              go_wp2_with fail
              refine HCUT.out.mono ?_
              rintro e w3 ⟨rfl, hc3, av', h3, hb3⟩
              have hnd : (keys (aput σ.L k { p with dirty := false })).Nodup := aput_nodup HA.out.2 _ _
              have HF : Hid (RPoolAt w3 rb x.rd S (dropAt (wrote σ k) j k)) := Lib.hid (by
                rw [HWR.out]
                exact HDROP.out _ _ w3 h3 hnd (ROwn.setRow HO2.out (fun b hb => HN.out b (by have := hb3 b hb; have := HC2.out.size; have := HC1.out.size; have := HCH.out.size; omega))) rfl rfl)
              have HC3 : Hid (Chg S w w3) := Lib.hid (((HCH.out.then HC1.out).ofNo.then HC2.out).trans hc3 (fun b _ e => by subst e; exact HS.out _ .self))
              clear h3 hb3 hc3 hnd
              go_wp2
              go_ret
              exact ⟨by rw [HFE2.out]; rfl, by rw [HFS2.out]; exact HF.out, HC3.out⟩
            | false =>
              have hq : goesB σ k = false := by rw [hgo, hd, hp0, hm]; rfl
              have HNN := Lib.hid (HNX.out hq)
              rw [hm] at HMAY
              clear hgo hq hd hm hkr
              go_wp2_with fail
              refine HMAY.out.mono ?_
              rintro e w1 ⟨rfl, hc1⟩
              have HC1 := Lib.hid (HCH.out.then hc1)
              clear hc1
              go_wp2
              go_roundw
              case rel => exact ⟨j + 1, by omega, by go_num, HNN.out, HC1.out⟩
              case measure => simp [intOf]; omega
        · have hb : (p.pins == 0) = false := by simpa using hp0
          have hq : goesB σ k = false := by rw [hgo, hb]; rfl
          have HNN := Lib.hid (HNX.out hq)
          clear hgo hq hp0 hkr
          go_wp2
          go_roundw
          case rel => exact ⟨j + 1, by omega, by go_num, HNN.out, HCH.out⟩
          case measure => simp [intOf]; omega
      · have hje : j = σ.ages.length := by omega
        have hf : σ.ages.findIdx? (goesB σ) = none := List.findIdx?_eq_none_iff.2 (fun y hy => by
          obtain ⟨m, hm, rfl⟩ := List.getElem_of_mem hy; exact HNO.out m (by omega) hm)
        have hidx : idxI (goesB σ) σ.ages = -1 := by rw [idxI, hf]
        have HFE2 : Hid (freeE σ = 6) := Lib.hid (by rw [HFE.out, hidx]; rfl)
        have HFS2 : Hid (freeS σ = σ) := Lib.hid (by rw [HFS.out, hf])
        have HF : Hid (RPoolAt wr rb x.rd S σ) := Lib.hid ⟨x, rfl, H.out.no HCH.out, HS.out⟩
        clear hf hidx
        go_wp2
        go_ret
        exact ⟨by rw [HFE2.out]; rfl, by rw [HFS2.out]; exact HF.out, HCH.out.ofNo⟩
end
end Go.Proofs.YtniijkcncpabaaaGreat
