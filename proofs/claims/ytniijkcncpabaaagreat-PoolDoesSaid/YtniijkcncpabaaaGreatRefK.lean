/- The reference's pool: Unpin, Put. -/
import Derived.Test.YtniijkcncpabaaaGreatRefJ
namespace Go.Proofs.YtniijkcncpabaaaGreat
open Go.RowKit Go.MapKept
set_option maxRecDepth 100000
set_option maxHeartbeats 1000000

section
variable {S T : Nat → Prop} {w w' : World} {rb rd : Nat} {x : RLocs} {σ : Pool}
theorem runpin_ok (h : RPoolAt w rb rd S σ) (ha : Aged σ) (k : Int) (hp0 : 0 ≤ pinsOf σ k) (hp1 : pinsOf σ k ≤ 1000000) :
    Calls Tryz.prog 26 #[ptrB rb, .int .i64 k] w fun e w' => e = .returned (.int .i64 (heldE σ k)) ∧ RPoolAt w' rb rd S (unpin σ k) ∧ Chg S w w' := by
  obtain ⟨x, hx, h, hS⟩ := h
  have HH := Lib.hid (rbad_ok h ha k)
  by_cases he : heldE σ k = 0
  · obtain ⟨p, hg, hpn⟩ := held_zero he
    have hpin : pinsOf σ k = p.pins := by rw [pinsOf, hg]
    rw [hpin] at hp0 hp1
    have hu : unpin σ k = { σ with L := aput σ.L k { p with pins := p.pins - 1 } } := by rw [unpin, hg]; simp [hpn]
    have hpl := h.place k p hg
    have HF := Lib.hid (fun w1 (hc : Chg No w w1) => rfind_ok (h.no hc) k)
    rcases ridx ha k with ⟨hn, _⟩ | ⟨p', j, hj, hg', hjk, hi⟩
    · rw [hg] at hn; cases hn
    · rw [hi] at HF
      obtain ⟨a, cap, hav, hcl⟩ := h.cells
      obtain ⟨g, rfl, hcg⟩ := hcl (by omega)
      have c3 := cell_at h.self 3 (v := x.av) rfl
      have d2 := cell_at hpl 2 (v := .int .i64 p.pins) rfl
      have f2 := free_at hpl 2
      have hcj := hcg j hj
      rw [hjk] at hcj
      rw [hav] at c3
      have hfew := h.few
      have HFIN : Hid (∀ w1, Chg No w w1 → RPoolAt (w1.setCell ⟨x.pb k, 2, none⟩ (.int .i64 (p.pins - 1))) rb rd S (unpin σ k) ∧ Chg S w (w1.setCell ⟨x.pb k, 2, none⟩ (.int .i64 (p.pins - 1)))) := Lib.hid (fun w1 hc => by
        have h1 := h.no hc
        rw [hu]
        exact ⟨⟨x, hx, h1.put hg _ (chg_setCell w1 (x.pb k) 2 _) (at_setCell (h1.place k p hg) 2 _), fun b hb => hS b (ROwn.put hg _ hb)⟩, hc.ofNo.trans (chg_setCell w1 (x.pb k) 2 _) fun b _ e => by subst e; exact hS _ (.at hg)⟩)
      rw [he] at HH ⊢
      have CD := Lib.hid ((Chg.refl No w).drew)
      clear h hS hu hpin hg hg' he hjk hcl hcg hav hi hpl
      simp only [ptrB] at *
      go_enter Tryz.func26, Tryz.ntmps26
      go_wp2_with fail
      refine HH.out.mono ?_
      rintro e w1 ⟨rfl, rfl⟩
      go_wp2_with fail
      go_region_with (go_at_call 34; refine (HF.out _ CD.out).mono ?_; rintro e w1 ⟨rfl, rfl⟩)
      all_goals
        have HE := Lib.hid (HFIN.out _ CD.out)
        go_wp2
        go_ret
        exact ⟨rfl, HE.out.1, HE.out.2⟩
  · have hu : unpin σ k = σ := by
      unfold heldE at he
      unfold unpin
      cases hg : aget σ.L k with
      | none => rfl
      | some p => rw [hg] at he; by_cases hp : p.pins = 0; simp [hp]; simp [hp] at he
    rw [hu]
    have hb : (heldE σ k == 0) = false := by simpa using he
    have HF := Lib.hid (show RPoolAt w rb rd S σ from ⟨x, hx, h, hS⟩)
    clear h hS hu hp0 hp1 he
    generalize heldE σ k = ee at *
    simp only [ptrB] at *
    go_enter Tryz.func26, Tryz.ntmps26
    go_wp2_with fail
    refine HH.out.mono ?_
    rintro e w1 ⟨rfl, rfl⟩
    go_wp2
    go_ret
    exact ⟨rfl, HF.out, Chg.refl _ _⟩
theorem rput_ok (h : RPoolAt w rb rd S σ) (ha : Aged σ) (k : Int) (s : ByteArray) (lsn : Int) (hs : s.size ≤ 140737488351232) :
    Calls Tryz.prog 28 #[ptrB rb, .int .i64 k, .string s, .int .i64 lsn] w fun e w' => e = .returned (.int .i64 (putE σ k s lsn)) ∧ RPoolAt w' rb rd S (putS σ k s lsn) ∧ Chg S w w' := by
  obtain ⟨x, hx, h, hS⟩ := h
  have HH := Lib.hid (rbad_ok h ha k)
  by_cases he : heldE σ k = 0
  · obtain ⟨p, hg, hpn⟩ := held_zero he
    rw [he] at HH
    by_cases hbig : 252 < s.size
    · have hE : putE σ k s lsn = 2 := by simp [putE, he, hbig]
      have hSS : putS σ k s lsn = σ := by simp [putS, hE]
      rw [hE, hSS]
      have HF := Lib.hid (show RPoolAt w rb rd S σ from ⟨x, hx, h, hS⟩)
      clear h hS hE hSS he hg hpn
      simp only [ptrB] at *
      go_enter Tryz.func28, Tryz.ntmps28
      go_wp2_with fail
      refine HH.out.mono ?_
      rintro e w1 ⟨rfl, rfl⟩
      go_wp2
      go_ret
      exact ⟨rfl, HF.out, Chg.refl _ _⟩
    · have hpl := h.place k p hg
      have HF := Lib.hid (fun w1 (hc : Chg No w w1) => rfind_ok (h.no hc) k)
      rcases ridx ha k with ⟨hn, _⟩ | ⟨p', j, hj, hg', hjk, hi⟩
      · rw [hg] at hn; cases hn
      rw [hi] at HF
      obtain ⟨a, cap, hav, hcl⟩ := h.cells
      obtain ⟨g, rfl, hcg⟩ := hcl (by omega)
      have c3 := cell_at h.self 3 (v := x.av) rfl
      have d5 := cell_at hpl 5 (v := .int .i64 p.last) rfl
      have hcj := hcg j hj
      rw [hjk] at hcj
      rw [hav] at c3
      have hfew := h.few
      have CD := Lib.hid ((Chg.refl No w).drew)
      by_cases hl : lsn < 1 ∨ lsn < p.last
      · have hE : putE σ k s lsn = 1 := by simp [putE, he, hbig, hg, hl]
        have hSS : putS σ k s lsn = σ := by simp [putS, hE]
        rw [hE, hSS]
        have HFI := Lib.hid (show RPoolAt w.drew rb rd S σ from ⟨x, hx, h.no CD.out, hS⟩)
        clear h hS hE hSS he hg hg' hpn hpl hjk hcl hcg hav hi
        simp only [ptrB] at *
        by_cases hl1 : lsn < 1
        · clear hl
          go_enter Tryz.func28, Tryz.ntmps28
          go_wp2_with fail
          refine HH.out.mono ?_
          rintro e w1 ⟨rfl, rfl⟩
          go_wp2_with fail
          go_region_with (go_at_call 34; refine (HF.out _ CD.out).mono ?_; rintro e w1 ⟨rfl, rfl⟩)
          all_goals
            go_wp2
            go_ret
            exact ⟨rfl, HFI.out, CD.out.ofNo⟩
        · have hl2 : lsn < p.last := hl.resolve_left hl1
          clear hl
          go_enter Tryz.func28, Tryz.ntmps28
          go_wp2_with fail
          refine HH.out.mono ?_
          rintro e w1 ⟨rfl, rfl⟩
          go_wp2_with fail
          go_region_with (go_at_call 34; refine (HF.out _ CD.out).mono ?_; rintro e w1 ⟨rfl, rfl⟩)
          all_goals
            go_wp2
            go_ret
            exact ⟨rfl, HFI.out, CD.out.ofNo⟩
      · have hE : putE σ k s lsn = 0 := by simp [putE, he, hbig, hg, hl]
        have hSS : putS σ k s lsn = { σ with L := aput σ.L k (putP p s lsn) } := by simp [putS, hE, hg]
        rw [hE, hSS]
        have hpad := fun w' => r1pad_ok s 252 w' (by omega) (by decide)
        obtain ⟨t, ht⟩ : ∃ t, padTo s 252 = t := ⟨_, rfl⟩
        rw [ht] at hpad
        have HT := Lib.hid ht
        have HPA := Lib.hid hpad
        clear hpad ht
        have d3 := cell_at hpl 3 (v := .bool p.dirty) rfl
        have d4 := cell_at hpl 4 (v := .int .i64 p.first) rfl
        have e3 := free_at hpl 3
        have e4 := free_at hpl 4
        have H := Lib.hid h
        have HS := Lib.hid hS
        have HGG := Lib.hid hg
        have HPL := Lib.hid hpl
        have hl1 : 1 ≤ lsn := by omega
        have hl2 : p.last ≤ lsn := by omega
        have HFIN : Hid (∀ w1 : World, Chg No w w1 → ∀ w2, Chg (· = x.pb k) w1 w2 → w2.heap[x.pb k]? = some (.cells ((putP p s lsn).rcells k) 74 (0, 0)) → RPoolAt w2 rb rd S { σ with L := aput σ.L k (putP p s lsn) } ∧ Chg S w w2) := Lib.hid (fun w1 hc w2 hc2 hn => by
          have h1 := H.out.no hc
          exact ⟨⟨x, hx, h1.put hg _ hc2 hn, fun b hb => hS b (ROwn.put hg _ hb)⟩, hc.ofNo.trans hc2 fun b _ e => by subst e; exact hS _ (.at hg)⟩)
        have hlt := lt_of_block hpl
        cases hd : p.dirty with
        | false =>
          rw [hd] at d3
          have HD := Lib.hid hd
          clear h hS hE hSS he hg hg' hpn hjk hcl hcg hav hi hl hd hpl
          simp only [ptrB] at *
          go_enter Tryz.func28, Tryz.ntmps28
          go_wp2_with fail
          refine HH.out.mono ?_
          rintro e w1 ⟨rfl, rfl⟩
          go_wp2_with fail
          go_region_with (go_at_call 34; refine (HF.out _ CD.out).mono ?_; rintro e w1 ⟨rfl, rfl⟩)
          all_goals
            go_wp2_with fail
            refine (HPA.out _).mono ?_
            rintro e w2 ⟨rfl, hcp⟩
            have hc1 : Chg (· = x.pb k) w.drew (w.drew.setCell ⟨x.pb k, 4, none⟩ (.int .i64 lsn)) := chg_setCell w.drew (x.pb k) 4 (.int .i64 lsn)
            have hn1 := at_setCell (CD.out.at HPL.out (fun e => e)) 4 (.int .i64 lsn)
            have hn2 := hcp.at hn1 (fun e => e)
            have g1 := free_at hn2 1
            have g3 := free_at hn2 3
            have g5 := free_at hn2 5
            have k1 := cell_at hn2 1 (v := .string p.s) rfl
            have k3 := cell_at hn2 3 (v := .bool p.dirty) rfl
            have k5 := cell_at hn2 5 (v := .int .i64 p.last) rfl
            have HE := Lib.hid (HFIN.out _ CD.out (((w2.setCell ⟨x.pb k, 1, none⟩ (.string t)).setCell ⟨x.pb k, 3, none⟩ (.bool true)).setCell ⟨x.pb k, 5, none⟩ (.int .i64 lsn))
              ((((hc1.thenNo hcp).then (chg_setCell _ (x.pb k) 1 _)).then (chg_setCell _ (x.pb k) 3 _)).then (chg_setCell _ (x.pb k) 5 _))
              ((at_setCell (at_setCell (at_setCell hn2 1 _) 3 _) 5 _).trans (by simp [Pl.rcells, putP, HD.out, HT.out])))
            clear hc1 hn1 hn2 hcp
            go_wp2
            go_ret
            exact ⟨rfl, HE.out⟩
        | true =>
          rw [hd] at d3
          have HD := Lib.hid hd
          clear h hS hE hSS he hg hg' hpn hjk hcl hcg hav hi hl hd hpl
          simp only [ptrB] at *
          go_enter Tryz.func28, Tryz.ntmps28
          go_wp2_with fail
          refine HH.out.mono ?_
          rintro e w1 ⟨rfl, rfl⟩
          go_wp2_with fail
          go_region_with (go_at_call 34; refine (HF.out _ CD.out).mono ?_; rintro e w1 ⟨rfl, rfl⟩)
          all_goals
            go_wp2_with fail
            refine (HPA.out _).mono ?_
            rintro e w2 ⟨rfl, hcp⟩
            have hn2 := hcp.at (CD.out.at HPL.out (fun e => e)) (fun e => e)
            have g1 := free_at hn2 1
            have g3 := free_at hn2 3
            have g5 := free_at hn2 5
            have k1 := cell_at hn2 1 (v := .string p.s) rfl
            have k3 := cell_at hn2 3 (v := .bool p.dirty) rfl
            have k5 := cell_at hn2 5 (v := .int .i64 p.last) rfl
            have HE := Lib.hid (HFIN.out _ CD.out (((w2.setCell ⟨x.pb k, 1, none⟩ (.string t)).setCell ⟨x.pb k, 3, none⟩ (.bool true)).setCell ⟨x.pb k, 5, none⟩ (.int .i64 lsn))
              (((hcp.ofNo.then (chg_setCell _ (x.pb k) 1 _)).then (chg_setCell _ (x.pb k) 3 _)).then (chg_setCell _ (x.pb k) 5 _))
              ((at_setCell (at_setCell (at_setCell hn2 1 _) 3 _) 5 _).trans (by simp [Pl.rcells, putP, HD.out, HT.out])))
            clear hn2 hcp
            go_wp2
            go_ret
            exact ⟨rfl, HE.out⟩
  · have hE : putE σ k s lsn = heldE σ k := by simp [putE, he]
    have hSS : putS σ k s lsn = σ := by simp [putS, hE, he]
    rw [hE, hSS]
    have hb : (heldE σ k == 0) = false := by simpa using he
    have hb' : (heldE σ k != 0) = true := by simpa using he
    have HF := Lib.hid (show RPoolAt w rb rd S σ from ⟨x, hx, h, hS⟩)
    clear h hS hE hSS he
    generalize heldE σ k = ee at *
    simp only [ptrB] at *
    go_enter Tryz.func28, Tryz.ntmps28
    go_wp2_with fail
    refine HH.out.mono ?_
    rintro e w1 ⟨rfl, rfl⟩
    go_wp2
    go_ret
    exact ⟨rfl, HF.out, Chg.refl _ _⟩
end
end Go.Proofs.YtniijkcncpabaaaGreat
