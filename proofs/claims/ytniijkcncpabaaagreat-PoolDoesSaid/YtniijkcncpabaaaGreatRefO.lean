/- The reference's pool: Pin. -/
import Derived.Test.YtniijkcncpabaaaGreatRefN
import Derived.IntWalk
namespace Go.Proofs.YtniijkcncpabaaaGreat
open Go.RowKit Go.MapKept
set_option maxRecDepth 100000
set_option maxHeartbeats 1000000

section
variable {S T : Nat → Prop} {w w' w2 : World} {rb rd : Nat} {x : RLocs} {σ : Pool}
theorem rfree_inv (ha : Aged σ) : Aged (freeS σ) := by
  unfold freeS
  split
  · exact ha
  · split
    · exact ha
    · rename_i i hf
      obtain ⟨hil, _, _⟩ := List.findIdx?_eq_some_iff_getElem.1 hf
      have hgd : σ.ages.getD i 0 = σ.ages[i] := by simp [hil]
      rw [hgd]
      have h1 := ha.wrote σ.ages[i]
      have h2 := (wrote_ages σ σ.ages[i]).1
      have hil' : i < (wrote σ σ.ages[i]).ages.length := by rw [h2]; exact hil
      have h3 := h1.drop hil'
      have e : (wrote σ σ.ages[i]).ages[i] = σ.ages[i] := by simp only [h2]
      rwa [e] at h3
theorem rpin_ok (h : RPoolAt w rb rd S σ) (ha : Aged σ) (hnew : ∀ k, w.heap.size ≤ k → S k) (hn : ∀ k ∈ σ.ages, 0 ≤ k ∧ k < σ.D.n) (hsz : ∀ k p, aget σ.L k = some p → p.s.size ≤ 252) (hfew : σ.D.writes.length + 1 ≤ 1000000000)
    (k : Int) (hk0 : 0 ≤ k) (hk1 : k < σ.D.n) (c : ByteArray) (hc : c.size = 252) (hr : σ.D.raw k = page c) (hp0 : 0 ≤ pinsOf σ k) (hp1 : pinsOf σ k ≤ 1000000) (hl1 : σ.ages.length + 1 ≤ 1000) (hl2 : (freeS σ).ages.length + 1 ≤ 1000) :
    Calls Tryz.prog 24 #[ptrB rb, .int .i64 k] w fun e w' => e = .returned (.tuple #[.string (pinC σ k c), .int .i64 (pinE σ k)]) ∧ RPoolAt w' rb rd S (pinS σ k c) ∧ Chg S w w' := by
  obtain ⟨i0, hi0, hz0, hz1, hz2⟩ := info_parts infoPp
  obtain ⟨x, rfl, h, hS⟩ := h
  obtain ⟨gl, cl, hlv, _⟩ := h.disk.page_cell
  have c0 := cell_at h.self 0 (v := ptrB x.rd) rfl
  have r0 := cell_at h.disk.self 0 (v := x.lv) rfl
  rw [hlv] at r0
  have hrg := h.disk.range
  obtain ⟨n, hnn⟩ : ∃ n : Nat, σ.D.n = n := ⟨σ.D.n.toNat, by omega⟩
  rw [hnn, Int.toNat_natCast] at r0
  have hkn : k < (n : Int) := by omega
  have HF := Lib.hid (rfind_ok h k)
  have hplt := lt_of_block h.self
  obtain ⟨nb, hnb⟩ : ∃ nb, w.heap.size = nb := ⟨_, rfl⟩
  have hsw : Chg No w (w.alloc (.cells #[.int .i64 k, .string ⟨#[]⟩, .int .i64 0, .bool false, .int .i64 0, .int .i64 0] 74)) := (Chg.refl No w).alloc _
  have hnbk := (MapKept.heap_alloc w (.cells #[.int .i64 k, .string ⟨#[]⟩, .int .i64 0, .bool false, .int .i64 0, .int .i64 0] 74)).1
  have hsz1 : (w.alloc (.cells #[.int .i64 k, .string ⟨#[]⟩, .int .i64 0, .bool false, .int .i64 0, .int .i64 0] 74)).heap.size = w.heap.size + 1 := by simp
  have H := Lib.hid h
  have HS := Lib.hid hS
  have HN := Lib.hid hnew
  have HK := Lib.hid hn
  have HZ := Lib.hid hsz
  have HA := Lib.hid ha
  have HSW := Lib.hid hsw
  have HNB := Lib.hid hnbk
  have HSZ := Lib.hid hsz1
  have HEQ := Lib.hid hnb
  rcases ridx ha k with ⟨hg, hi⟩ | ⟨p, j, hj, hg, hjk, hi⟩
  · rw [hi] at HF
    have hpe : pinE σ k = freeE σ := by rw [pinE, hg]
    have HPE := Lib.hid hpe
    have HG := Lib.hid hg
    have HRD := Lib.hid (fun w1 (hc1 : Chg No w w1) => r4read_ok (h.disk.no hc1) k hk0 hk1 c hc hr)
    have HFR := Lib.hid (fun (S' : Nat → Prop) (w1 : World) (hc1 : Chg No w w1) (hS' : ∀ b, ROwn rb x σ b → S' b) (hn' : ∀ b, w1.heap.size ≤ b → S' b) => rfree_ok (S := S') ⟨x, rfl, h.no hc1, hS'⟩ ha hn' hn hsz hfew)
    clear h hS hnew hn hsz ha hg hi hpe hlv hrg hnn hr hsw hnbk hsz1 hp0 hp1 hk1
    simp only [ptrB] at *
    go_enter Tryz.func24, Tryz.ntmps24
    go_wp2_with fail
    refine HF.out.mono ?_
    rintro e w1 ⟨rfl, rfl⟩
    have c0' := HSW.out.cell c0 (fun e => e)
    go_wp2_with fail
    refine (HRD.out _ HSW.out).mono ?_
    rintro e w1 ⟨rfl, hc1⟩
    have HC1 := Lib.hid hc1
    clear hc1 c0' c0 r0
    go_wp2_with fail
    refine (HFR.out (fun b => b ≠ nb ∧ S b) w1 (HSW.out.then HC1.out) (fun b hb => ⟨by have := ROwn.lt H.out hb; omega, HS.out b hb⟩) (fun b hb => by have := HC1.out.size; have := HSZ.out; exact ⟨by omega, HN.out b (by omega)⟩)).mono ?_
    rintro e w2 ⟨rfl, hR2, hc2⟩
    have HC2 : Hid (Chg S w w2) := Lib.hid ((HSW.out.then HC1.out).ofNo.trans hc2 (fun b _ e => e.2))
    have hnb2 := hc2.at (HC1.out.at HNB.out (fun e => e)) (fun e => e.1 hnb)
    by_cases hfe : freeE σ = 0
    · rw [hfe]
      have HFE := Lib.hid hfe
      have HR2 := Lib.hid hR2
      obtain ⟨x2, hx2, h2, hS2⟩ := hR2
      have hfn : aget (freeS σ).L k = none := freeS_none HG.out
      have hka : k ∉ (freeS σ).ages := fun hh => by obtain ⟨q, hq⟩ := h2.mem k hh; rw [hfn] at hq; cases hq
      -- the place with its bytes, held once
      have hb1 := at_setCell hnb2 1 (.string c)
      have hb2 := at_setCell hb1 2 (.int .i64 1)
      have hcs : Chg (· = nb) w2 ((w2.setCell ⟨nb, 1, none⟩ (.string c)).setCell ⟨nb, 2, none⟩ (.int .i64 1)) := (chg_setCell w2 nb 1 (.string c)).then (chg_setCell _ nb 2 (.int .i64 1))
      rw [hnb] at hb1 hb2 hnb2
      have h3 := (h2.chg hcs (fun b hb e => (hS2 b hb).1 e)).addPlace hfn (up (fresh c)) (nb := nb) (hb2.trans (by simp [Pl.rcells, up, fresh])) (fun hb => (hS2 nb hb).1 rfl)
      have hS3 := ROwn.addPlace (S := S) (rb := rb) (x := x2) hfn (up (fresh c)) (nb := nb) (fun b hb => (hS2 b hb).2) (HN.out nb (by omega))
      have k1 := cell_at hnb2 1 (v := .string ⟨#[]⟩) rfl
      have k2 := cell_at hnb2 2 (v := .int .i64 0) rfl
      have f1 := free_at hnb2 1
      have f2 := free_at hnb2 2
      have HCS : Hid (Chg S w ((w2.setCell ⟨nb, 1, none⟩ (.string c)).setCell ⟨nb, 2, none⟩ (.int .i64 1))) := Lib.hid (HC2.out.trans hcs (fun b _ e => by subst e; exact HN.out b (by omega)))
      have HB2 := Lib.hid hb2
      have H3 := Lib.hid h3
      have HS3 := Lib.hid hS3
      have HKA := Lib.hid hka
      obtain ⟨a2, cap2, hav2, _⟩ := h2.cells
      have q3 := cell_at h2.self 3 (v := x2.av) rfl
      have q4 := free_at h2.self 3
      have hnr : nb ≠ rb := fun e => (hS2 rb .self).1 e.symm
      have hrow3 : ((w2.setCell ⟨nb, 1, none⟩ (.string c)).setCell ⟨nb, 2, none⟩ (.int .i64 1)).ownsRow 0 75 1 x2.av (freeS σ).ages.length (ptrs (fun j => if j = k then nb else x2.pb j) (freeS σ).ages) := h3.row
      rw [hav2] at q3 hrow3
      have HAV := Lib.hid hav2
      have HROW := Lib.hid hrow3
      clear h2 hS2 hfn hka hb1 hb2 hcs h3 hS3 hc2 hfe hav2 hrow3
      go_wp2_with (at_builtin; refine wpList_append_own_at _ rfl (.tmp 73) (.tmp 75) 62 rfl 0 75 i0 (.pointer none) 1 8 Tryz.underlying62 hi0 hz0 hz1 hz2 rfl (by decide) _ (freeS σ).ages.length _ rfl (HROW.out.alloc _) ⟨w2.heap.size, 0, none⟩ 1 1 [.pointer (some ⟨nb, 0, none⟩)] rfl rfl ?c1 ?c2 ?c3 ?c4 ?c5 ?_)
      case c1 =>
        have e : ∀ (W : World) (v : Value) (n : Nat), n = W.heap.size → (W.alloc (.cells #[v] 75)).cell? ⟨n, 0, none⟩ = some v := fun W v n hn => by subst hn; simp
        intro j u hj; match j, hj with | 0, hj => simp at hj; subst hj; simpa [Addr.add] using e _ _ w2.heap.size (by simp)
      case c2 => intro u hu; simp at hu; subst hu; rfl
      case c3 => unfold maxLen; omega
      case c4 => omega
      case c5 => exact Nat.zero_le _
      intro v3 w3 hown3 hgrow3 hnil3 hloc3
      have hc3 : Chg (fun b => x2.av.ownBlock = some b) ((w2.setCell ⟨nb, 1, none⟩ (.string c)).setCell ⟨nb, 2, none⟩ (.int .i64 1)) w3 := by
        have h0 := Chg.ofGrown hgrow3
        rw [← HAV.out] at h0
        exact Chg.trans ((Chg.refl _ _).alloc _) h0 (fun _ _ e => e)
      have hpush := H3.out.push (p := up (fresh c)) (by show aget (aput _ k _) k = _; rw [aget_aput, if_pos rfl]) HKA.out hl2 (v := v3) (w2 := w3) (by simpa [ptrB] using hown3) hc3
      have hb3 := hc3.at HB2.out (own_ne H3.out.row HB2.out (by decide))
      have k1' := cell_at hb3 1 (v := .string c) rfl
      have hs3 := hc3.at H3.out.self (own_ne H3.out.row H3.out.self (by decide))
      have q3' := cell_at hs3 3 (v := x2.av) rfl
      have q4' := free_at hs3 3
      rw [HAV.out] at q3'
      have HPS : Hid (pinS σ k c = { freeS σ with L := aput (freeS σ).L k (up (fresh c)), ages := (freeS σ).ages ++ [k] }) := Lib.hid (by
        have e1 : pinIn σ k c = { freeS σ with L := aput (freeS σ).L k (fresh c) } := by rw [pinIn, HG.out]
        rw [pinS, HPE.out, HFE.out, if_pos rfl, e1, pinUp]
        simp only [aget_aput, if_true, aput_aput, youngL_out HKA.out])
      have HPC : Hid (pinC σ k c = c) := Lib.hid (by rw [pinC, HPE.out, HFE.out, if_pos rfl, HG.out])
      have HPP := Lib.hid hpush.1
      have hob : ∀ b, x2.av.ownBlock = some b → S b := fun b hb => HS3.out b (.row hb)
      have HPO : Hid (∀ b, ROwn rb { x2 with av := v3, pb := fun j => if j = k then nb else x2.pb j } { freeS σ with L := aput (freeS σ).L k (up (fresh c)), ages := (freeS σ).ages ++ [k] } b → S b) := Lib.hid (ROwn.setRow HS3.out (fun b hb => by
        rcases hloc3 with hl | hl
        · exact hob b (by rw [HAV.out, ← hl]; exact hb)
        · rw [hb] at hl; cases hl
          exact HN.out _ (by have := HC2.out.size; have := HEQ.out; simp; omega)))
      have HCF : Hid (Chg S w (w3.setCell ⟨rb, 3, none⟩ v3)) := Lib.hid (HCS.out.trans hpush.2 (fun b _ e => e.elim (fun e => by subst e; exact HS.out _ .self) (hob b)))
      obtain ⟨g3, cap3, rfl⟩ := ownsRow_succ hown3
      clear hown3 hgrow3 hnil3 hloc3 hc3 hpush hb3 hs3 hob q3 q4
      go_wp2
      go_ret2
      exact ⟨by rw [HPE.out, HPC.out, HFE.out]; rfl, ⟨{ x2 with av := .slice (some ⟨g3, 0, none⟩) ((freeS σ).ages.length + 1) cap3, pb := fun j => if j = k then nb else x2.pb j }, hx2, by rw [HPS.out]; exact HPP.out, by rw [HPS.out]; exact HPO.out⟩, HCF.out⟩
    · have hfb : decide (freeE σ = 0) = false := by simpa using hfe
      have hf6 : freeE σ = 6 := by
        unfold freeE at hfe ⊢
        split
        · rename_i h1; simp [h1] at hfe
        · rename_i h1
          rw [if_neg h1] at hfe
          split
          · rfl
          · rename_i h2; rw [if_neg h2] at hfe; exact absurd rfl hfe
      have HPS : Hid (pinS σ k c = σ) := Lib.hid (by rw [pinS, HPE.out, if_neg hfe])
      have HPC : Hid (pinC σ k c = ByteArray.empty) := Lib.hid (by rw [pinC, HPE.out, if_neg hfe])
      have hfs := freeS_bad hfe
      rw [hfs] at hR2
      have HR2 : Hid (RPoolAt w2 rb x.rd S σ) := Lib.hid (hR2.mono fun _ h => h.2)
      have HF6 := Lib.hid hf6
      rw [hfb]
      clear hfe hfb hf6 hfs hR2 hnb2 hc2 HFR
      go_wp2
      go_ret2
      exact ⟨by rw [HPE.out, HPC.out, HF6.out]; rfl, by rw [HPS.out]; exact HR2.out, HC2.out⟩
  · rw [hi] at HF
    have hpe : pinE σ k = 0 := by rw [pinE, hg]
    have hpu : pinsOf σ k = p.pins := by rw [pinsOf, hg]
    rw [hpu] at hp0 hp1
    have hps : pinS σ k c = { σ with L := aput σ.L k (up p), ages := σ.ages.eraseIdx j ++ [k] } := by
      have e1 : pinIn σ k c = σ := by rw [pinIn, hg]
      rw [pinS, hpe, if_pos rfl, e1, pinUp, hg]
      simp only [youngL_at h.nd hj hjk]
    have hpc : pinC σ k c = p.s := by rw [pinC, hpe, if_pos rfl, hg]
    rw [hpe, hps, hpc]
    obtain ⟨a, cap, hav, hcl⟩ := h.cells
    obtain ⟨g, rfl, hcg⟩ := hcl (by omega)
    have c3 := cell_at (h.no hsw).self 3 (v := x.av) rfl
    have hcj := hsw.cell (hcg j hj) (fun e => e)
    rw [hjk] at hcj
    rw [hav] at c3
    have HCUT := Lib.hid (rcut_ok (h.no hsw) j hj)
    have hlim := h.few
    have hpl := h.place k p hg
    have hoe : k ∉ σ.ages.eraseIdx j := hjk ▸ out_of_erase h.nd hj
    have hle : (σ.ages.eraseIdx j).length + 1 ≤ 1000 := by have := List.length_eraseIdx_le σ.ages j; omega
    have HG := Lib.hid hg
    have HOE := Lib.hid hoe
    have HLE := Lib.hid hle
    have HPL := Lib.hid hpl
    have HEE : Hid (σ.ages.eraseIdx j = σ.ages.eraseIdx j) := Lib.hid rfl
    clear h hS hnew hn hsz ha hg hi hpe hpu hlv hrg hnn hr hsw hnbk hsz1 hk1 hjk hcl hcg hav hps hpc hpl hoe hle
    simp only [ptrB] at *
    go_enter Tryz.func24, Tryz.ntmps24
    go_wp2_with fail
    refine HF.out.mono ?_
    rintro e w1 ⟨rfl, rfl⟩
    go_wp2_with fail
    refine HCUT.out.mono ?_
    rintro e w1 ⟨rfl, hc1, av1, h1, hb1⟩
    generalize hel : σ.ages.eraseIdx j = el at *
    have hp1' := h1.place k p HG.out
    have hcs := chg_setCell w1 (x.pb k) 2 (.int .i64 (p.pins + 1))
    have h2 := h1.put HG.out (up p) hcs (at_setCell hp1' 2 _)
    have HC1 : Hid (Chg S w w1) := Lib.hid (HSW.out.ofNo.trans hc1 (fun b _ e => by subst e; exact HS.out _ .self))
    have HC2 : Hid (Chg S w (w1.setCell ⟨x.pb k, 2, none⟩ (.int .i64 (p.pins + 1)))) := Lib.hid (HC1.out.trans hcs (fun b _ e => by subst e; exact HS.out _ (.at HG.out)))
    obtain ⟨a2, cap2, hav2, _⟩ := h1.cells
    have hav2 : av1 = .slice a2 el.length cap2 := hav2
    have q3 : w1.cell? ⟨rb, 3, none⟩ = some av1 := cell_at h1.self 3 (v := av1) rfl
    have q4 := free_at h1.self 3
    have d2 := cell_at hp1' 2 (v := .int .i64 p.pins) rfl
    have f2 := free_at hp1' 2
    have hpr : x.pb k ≠ rb := cells_ne hp1' h1.self (by decide)
    have hrow2 : (w1.setCell ⟨x.pb k, 2, none⟩ (.int .i64 (p.pins + 1))).ownsRow 0 75 1 av1 el.length (ptrs x.pb el) := h2.row
    have HROW := Lib.hid hrow2
    have H2 := Lib.hid h2
    have HB1 := Lib.hid hb1
    have HAV := Lib.hid hav2
    have HP1 := Lib.hid (at_setCell hp1' 2 (.int .i64 (p.pins + 1)))
    have hwr : wrap64 (p.pins + 1) = p.pins + 1 := IntWalk.wrap64_in _ (by omega)
    subst hav2
    clear h1 h2 hb1 hc1 hcs hp1' hrow2 hcj c3
    go_wp2_with (at_builtin; refine wpList_append_own_at _ rfl (.tmp 73) (.tmp 75) 62 rfl 0 75 i0 (.pointer none) 1 8 Tryz.underlying62 hi0 hz0 hz1 hz2 rfl (by decide) _ el.length _ rfl (HROW.out.alloc _) ⟨w1.heap.size, 0, none⟩ 1 1 [.pointer (some ⟨x.pb k, 0, none⟩)] rfl rfl ?e1 ?e2 ?e3 ?e4 ?e5 ?_)
    --DBG
    case e1 =>
      have e : ∀ (W : World) (v : Value) (n : Nat), n = W.heap.size → (W.alloc (.cells #[v] 75)).cell? ⟨n, 0, none⟩ = some v := fun W v n hn => by subst hn; simp
      intro j u hj; match j, hj with | 0, hj => simp at hj; subst hj; simpa [Addr.add] using e _ _ w1.heap.size (by simp)
    case e2 => intro u hu; simp at hu; subst hu; rfl
    case e3 => have := HLE.out; unfold maxLen; omega
    case e4 => have := HLE.out; omega
    case e5 => exact Nat.zero_le _
    intro v3 w3 hown3 hgrow3 hnil3 hloc3
    have hc3 : Chg (fun b => (Value.slice a2 el.length cap2).ownBlock = some b) (w1.setCell ⟨x.pb k, 2, none⟩ (.int .i64 (p.pins + 1))) w3 :=
      Chg.trans ((Chg.refl _ _).alloc _) (Chg.ofGrown hgrow3) (fun _ _ e => e)
    have hpush := H2.out.push (p := up p) (by show aget (aput _ k _) k = _; rw [aget_aput, if_pos rfl]) HOE.out HLE.out (v := v3) (w2 := w3) (by simpa [ptrB] using hown3) hc3
    have hb3 := hc3.at HP1.out (own_ne H2.out.row HP1.out (by decide))
    have k1' := cell_at hb3 1 (v := .string p.s) rfl
    have hs3 := hc3.at H2.out.self (own_ne H2.out.row H2.out.self (by decide))
    have q3' := cell_at hs3 3 (v := .slice a2 el.length cap2) rfl
    have q4' := free_at hs3 3
    have HPP := Lib.hid hpush.1
    have hsz3 := HC2.out.size
    have hszw := HSZ.out
    have hszc := HC1.out.size
    have hob : ∀ b, (Value.slice a2 el.length cap2).ownBlock = some b → S b := fun b hb => HN.out b (by have := HB1.out b hb; omega)
    have HPO : Hid (∀ b, ROwn rb { x with av := v3 } { σ with L := aput σ.L k (up p), ages := el ++ [k] } b → S b) := Lib.hid (ROwn.setRow (fun b hb => HS.out b (ROwn.put HG.out (up p) hb)) (fun b hb => by
      rcases hloc3 with hl | hl
      · exact hob b (by rw [← hl]; exact hb)
      · rw [hb] at hl; cases hl
        exact HN.out _ (by first | omega | (simp; omega))))
    have HCF : Hid (Chg S w (w3.setCell ⟨rb, 3, none⟩ v3)) := Lib.hid (HC2.out.trans hpush.2 (fun b _ e => e.elim (fun e => by subst e; exact HS.out _ .self) (hob b)))
    obtain ⟨g3, cap3, rfl⟩ := ownsRow_succ hown3
    clear hown3 hgrow3 hnil3 hloc3 hc3 hpush hb3 hs3 hob q3 q4 d2 f2
    go_wp2
    go_ret2
    exact ⟨rfl, ⟨{ x with av := .slice (some ⟨g3, 0, none⟩) (el.length + 1) cap3 }, rfl, HPP.out, HPO.out⟩, HCF.out⟩
end
end Go.Proofs.YtniijkcncpabaaaGreat
