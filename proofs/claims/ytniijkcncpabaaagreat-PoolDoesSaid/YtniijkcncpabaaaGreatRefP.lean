/- The reference's pool: Clean, New; the disk's New. -/
import Derived.Test.YtniijkcncpabaaaGreatRefO
import Derived.Test.YtniijkcncpabaaaGreatRefL
import Derived.Test.YtniijkcncpabaaaGreatClean
namespace Go.Proofs.YtniijkcncpabaaaGreat
open Go.RowKit Go.MapKept
set_option maxRecDepth 100000
set_option maxHeartbeats 1000000

theorem cleanK_aged {σ : Pool} (h : Aged σ) (k : Int) : Aged (cleanK σ k) := by
  unfold cleanK
  split
  · split
    · exact h.wrote k
    · exact h
  · exact h
theorem cleanL_aged : ∀ (l : List Int) (s : Pool × Int), Aged s.1 → Aged (cleanL s l).1
  | [], _, h => h
  | k :: r, s, h => cleanL_aged r (cleanK s.1 k, s.2 + cleanN s.1 k) (cleanK_aged h k)
section
variable {S T : Nat → Prop} {w w' w2 : World} {rb rd : Nat} {x : RLocs} {σ : Pool}
theorem rclean_ok (h : RPoolAt w rb rd S σ) (ha : Aged σ) (hnew : ∀ k, w.heap.size ≤ k → S k) (n : Int) (hs : Sound n 100000000 (keys σ.L) σ) (hk : ∀ k ∈ keys σ.L, 0 ≤ k ∧ k < n) (hlen : (pagesR σ true).length ≤ 1024) (hmem : ∀ k ∈ pagesR σ true, k ∈ keys σ.L) :
    Calls Tryz.prog 31 #[ptrB rb] w fun e w' => e = .returned (.int .i64 (cleanL (σ, 0) (pagesR σ true)).2) ∧ RPoolAt w' rb rd S (cleanL (σ, 0) (pagesR σ true)).1 ∧ Chg S w w' := by
  have HS := Lib.hid hs
  have HA := Lib.hid ha
  have HK := Lib.hid hk
  have HN := Lib.hid hnew
  have HSM := Lib.hid hmem
  obtain ⟨x, rfl, h, hS⟩ := h
  have HPG := Lib.hid (rpages_ok h ha true)
  have HL := Lib.hid (fun k (hk : ROwn rb x σ k) => ROwn.lt h hk)
  have HP : Hid (∀ w1, Chg No w w1 → w.heap.size ≤ w1.heap.size → RPoolAt w1 rb x.rd (fun b => S b ∧ (b < w.heap.size ∨ w1.heap.size ≤ b)) σ) := Lib.hid fun w1 hw _ => ⟨x, rfl, h.no hw, fun b hb => ⟨hS b hb, .inl (HL.out b hb)⟩⟩
  generalize pagesR σ true = l at *
  clear h hS hnew hs hk hmem ha
  simp only [ptrB] at *
  go_enter Tryz.func31, Tryz.ntmps31
  go_wp2_with fail
  refine HPG.out.mono ?_
  rintro e w1 ⟨v, rfl, hrow, hch1, hbase⟩
  have HP1 := Lib.hid (HP.out w1 hch1 hch1.size)
  have HC1 := Lib.hid hch1
  have HN1 : Hid (∀ wr, Chg (fun b => S b ∧ (b < w.heap.size ∨ w1.heap.size ≤ b)) w1 wr → ∀ b, wr.heap.size ≤ b → (S b ∧ (b < w.heap.size ∨ w1.heap.size ≤ b))) := Lib.hid fun wr hw b hb => by
    have := hw.size; have := HC1.out.size
    exact ⟨HN.out b (by omega), .inr (by omega)⟩
  have HMONO : Hid (∀ wr, Chg (fun b => S b ∧ (b < w.heap.size ∨ w1.heap.size ≤ b)) w1 wr → Chg S w wr) := Lib.hid fun wr hw => HC1.out.ofNo.trans hw fun b _ e => e.1
  clear HP HL hch1
  have HBS := Lib.hid hbase
  clear hbase
  rcases hrow.2 with ⟨rfl, hn0⟩ | ⟨b, cap, cur, rfl, hbw, _, _⟩
  · have : l = [] := List.eq_nil_of_length_eq_zero hn0
    subst this
    clear hrow
    go_wp2
    refine wp_loop_rounds 1 ?_
    rw [rounds_succ]
    go_wp2
    go_ret
    exact ⟨rfl, HP1.out.mono (fun b h => h.1), HMONO.out _ (Chg.refl _ _)⟩
  · have HV : Hid (∀ j, (hj : j < l.length) → ∀ wr, Chg (fun b => S b ∧ (b < w.heap.size ∨ w1.heap.size ≤ b)) w1 wr → wr.cell? ⟨b, j, none⟩ = some (.int .i64 l[j])) := Lib.hid fun j hj wr hw => by
      have hlt := own_lt hrow (b := b) rfl
      have hbb := HBS.out b rfl
      have hc := hrow.cells (g := b) rfl j (.int .i64 l[j]) (by simp [ints, hj])
      have e : (⟨b, 0, none⟩ : Addr).add j = ⟨b, j, none⟩ := by unfold Addr.add; split <;> simp_all
      rw [e] at hc
      exact hw.cell hc (fun e => by have := e.2; simp only at this; omega)
    clear hrow
    go_wp2
    go_loopw [3, 5] (fun sn si wr => ∃ k : Nat, k ≤ l.length ∧ si = .int .i64 k ∧ sn = .int .i64 (cleanL (σ, 0) (l.take k)).2 ∧ RPoolAt wr rb x.rd (fun b => S b ∧ (b < w.heap.size ∨ w1.heap.size ≤ b)) (cleanL (σ, 0) (l.take k)).1 ∧ Chg (fun b => S b ∧ (b < w.heap.size ∨ w1.heap.size ≤ b)) w1 wr) (fun _ si _ => l.length - (intOf si).toNat)
    case atStart => exact ⟨0, by omega, rfl, rfl, HP1.out, Chg.refl _ _⟩
    case round =>
      obtain ⟨k, hk, rfl, rfl, hP, hch⟩ := hrel
      have hnum := cleanL_num (l.take k) (σ, 0)
      have htl := List.length_take_le k l
      have hsd := cleanL_sound (l.take k) (σ, 0) _ HS.out
      have hag := cleanL_aged (l.take k) (σ, 0) HA.out
      by_cases hlt : k < l.length
      · have hcell := HV.out k hlt wr hch
        have hsn : cleanL (σ, 0) (l.take (k + 1)) = (cleanK (cleanL (σ, 0) (l.take k)).1 l[k], (cleanL (σ, 0) (l.take k)).2 + cleanN (cleanL (σ, 0) (l.take k)).1 l[k]) := by rw [List.take_succ_eq_append_getElem hlt, cleanL_snoc]
        have hmem := HSM.out l[k] (List.getElem_mem hlt)
        generalize l[k] = q at *
        have HSN := Lib.hid hsn
        clear hsn
        generalize hst : cleanL (σ, 0) (l.take k) = st at *
        obtain ⟨σk, m⟩ := st
        simp only at *
        have hqk : q ∈ keys σk.L := by rw [hsd.keys]; exact hmem
        obtain ⟨p0, hp0⟩ := aget_isSome.2 hqk
        rcases ridx hag q with ⟨hn, _⟩ | ⟨p, j, hj, hp, hjk, hi⟩
        · rw [hp0] at hn; cases hn
        obtain ⟨x2, hbd2, h2, hS2⟩ := hP
        obtain ⟨a2, cap2, hav, hcl⟩ := h2.cells
        obtain ⟨g, rfl, hcg⟩ := hcl (by omega)
        have c3 := cell_at h2.self 3 (v := x2.av) rfl
        have hcj := hcg j hj
        rw [hjk] at hcj
        rw [hav] at c3
        have hlim := h2.few
        have hqb := HK.out q hmem
        have HKK : Hid (cleanK σk q = if mayB σk p then wrote σk q else σk) := Lib.hid (by rw [cleanK, hp])
        have HNN : Hid (cleanN σk q = if mayB σk p then 1 else 0) := Lib.hid (by rw [cleanN, hp])
        have H2 := Lib.hid h2
        have HF := Lib.hid (fun w1 (hc : Chg No wr w1) => rfind_ok (h2.no hc) q)
        rw [hi] at HF
        have HM := Lib.hid (fun w1 (hc : Chg No wr w1) => rmay_ok (h2.no hc) q p hp)
        have HS2 := Lib.hid hS2
        have HSD := Lib.hid hsd
        have HPP := Lib.hid hp
        have CD := Lib.hid ((Chg.refl No wr).drew)
        have HCH := Lib.hid hch
        clear h2 hS2 hsd hp hqk hmem hst hp0 hcl hcg hav hjk hi hag hch
        simp only [ptrB] at *
        go_wp2_with fail
        go_region_with (go_at_call 34; refine (HF.out _ CD.out).mono ?_; rintro e wx ⟨rfl, rfl⟩)
        all_goals
          go_wp2_with fail
          refine (HM.out _ CD.out).mono ?_
          rintro e w2 ⟨rfl, hch2⟩
          cases hmb : mayB σk p with
          | true =>
            rw [hmb] at HKK HNN
            have hpd : p.dirty = true := by unfold mayB at hmb; simp at hmb; exact hmb.1
            have hwr : wrote σk q = { σk with L := aput σk.L q { p with dirty := false }, D := σk.D.put q p.s } := by rw [wrote, HPP.out]; simp [hpd]
            have hc02 : Chg No wr w2 := CD.out.then hch2
            have HW := Lib.hid (rwrite_ok (H2.out.no hc02) HS2.out (HN1.out w2 (HCH.out.thenNo hc02)) q p HPP.out hqb.1 (by rw [HSD.out.n]; exact hqb.2) (HSD.out.size q p HPP.out) (by have := HSD.out.writes; omega))
            rw [← hwr] at HW
            have HCC : Hid (Chg (fun b => S b ∧ (b < w.heap.size ∨ w1.heap.size ≤ b)) w1 w2) := Lib.hid (HCH.out.thenNo hc02)
            simp only [ptrB] at HW
            clear hwr hpd hmb hch2 hcell hc02
            go_wp2_with fail
            refine HW.out.mono ?_
            rintro e w3 ⟨rfl, hch3, wv', h3, hS3⟩
            have HP3 : Hid (RPoolAt w3 rb x.rd (fun b => S b ∧ (b < w.heap.size ∨ w1.heap.size ≤ b)) (wrote σk q)) := Lib.hid ⟨{ x2 with wv := wv' }, hbd2, h3, hS3⟩
            have HC3 := Lib.hid (HCC.out.then hch3)
            clear h3 hS3 hch3
            go_wp2
            go_roundw
            case rel => exact ⟨k + 1, by omega, by go_num, by rw [HSN.out, HNN.out]; simp, by rw [HSN.out, HKK.out]; exact HP3.out, HC3.out⟩
            case measure => simp [intOf]; omega
          | false =>
            rw [hmb] at HKK HNN
            have hc02 : Chg No wr w2 := CD.out.then hch2
            have HP3 : Hid (RPoolAt w2 rb x.rd (fun b => S b ∧ (b < w.heap.size ∨ w1.heap.size ≤ b)) σk) := Lib.hid ⟨x2, hbd2, H2.out.no hc02, HS2.out⟩
            have HC3 : Hid (Chg (fun b => S b ∧ (b < w.heap.size ∨ w1.heap.size ≤ b)) w1 w2) := Lib.hid (HCH.out.thenNo hc02)
            clear hmb hch2 hcell hc02
            go_wp2
            go_roundw
            case rel => exact ⟨k + 1, by omega, by go_num, by rw [HSN.out, HNN.out]; simp, by rw [HSN.out, HKK.out]; exact HP3.out, HC3.out⟩
            case measure => simp [intOf]; omega
      · have hke : k = l.length := by omega
        subst hke
        have HP3 := Lib.hid hP
        have HC3 := Lib.hid hch
        rw [List.take_length] at *
        clear hsd hP hch hag
        go_wp2
        go_ret
        exact ⟨rfl, HP3.out.mono (fun b h => h.1), HMONO.out _ HC3.out⟩
theorem rnew_ok {w : World} {rd : Nat} {lv : Value} {D : Disk} (hD : RDisk w rd lv (.slice none 0 0) D) (n : Int) (h1 : 1 ≤ n) (h2 : n ≤ 64) (S : Nat → Prop) (hS : ∀ k, w.heap.size ≤ k → S k) (hSd : S rd) (hSl : ∀ b, lv.ownBlock = some b → S b) :
    Calls Tryz.prog 7 #[ptrB rd, .int .i64 n] w fun e w' => e = .returned (.tuple #[ptrB w.heap.size, .int .i64 0]) ∧ RPoolAt w' w.heap.size rd S ⟨n, 0, [], [], D⟩ ∧ Chg No w w' := by
  have hfin : RPoolAt (w.alloc (.cells #[ptrB rd, .int .i64 n, .int .i64 0, .slice none 0 0] 64)) w.heap.size rd S ⟨n, 0, [], [], D⟩ := by
    have hc : Chg No w (w.alloc (.cells #[ptrB rd, .int .i64 n, .int .i64 0, .slice none 0 0] 64)) := (Chg.refl _ _).alloc _
    refine ⟨⟨rd, lv, .slice none 0 0, .slice none 0 0, fun _ => 0⟩, rfl, ⟨(MapKept.heap_alloc w _).1, World.ownsRow_nil _ _ _ _, fun k p hp => by simp [aget] at hp, hD.no hc, fun j k p q hp => by simp [aget] at hp, fun k hk => by simp at hk, List.nodup_nil, by simp⟩, ?_⟩
    rintro k (h | h | h | h | h | ⟨j, p, hp, _⟩)
    · exact hS k (by omega)
    · exact (show k = rd from h) ▸ hSd
    · exact hSl k h
    · simp [Value.ownBlock] at h
    · simp [Value.ownBlock] at h
    · simp [aget] at hp
  have HF := Lib.hid hfin
  clear hfin hD
  simp only [ptrB] at *
  go_enter Tryz.func7, Tryz.ntmps7
  go_wp2
  go_ret2
  exact ⟨rfl, HF.out, (Chg.refl _ _).alloc _⟩
theorem infoSt : (Tryz.prog.info? 9).map (fun i => (i.zero, i.size, i.bytes)) = some (some (.string ByteArray.empty), 1, 16) := by kernel_rfl
theorem r4new_ok (n : Nat) (h1 : 1 ≤ n) (h2 : n ≤ 1024) (w : World) :
    Calls Tryz.prog 5 #[.int .i64 n] w fun e w' => e = .returned (.tuple #[ptrB w.heap.size, .int .i64 0]) ∧ Chg No w w' ∧ ∃ lv, RDisk w' w.heap.size lv (.slice none 0 0) ⟨n, [], []⟩ ∧ ∀ b, lv.ownBlock = some b → w.heap.size ≤ b := by
  obtain ⟨i0, hi0, hz0, hz1, hz2⟩ := info_parts infoSt
  have HS := Lib.hid (fun w => seal2_ok ByteArray.empty w (by decide))
  obtain ⟨ep, hep⟩ : ∃ ep, page (padTo ByteArray.empty 252) = ep := ⟨_, rfl⟩
  rw [hep] at HS
  have HE : Hid (emptyPage = ep) := Lib.hid hep
  clear hep
  obtain ⟨db, hdb⟩ : ∃ db, w.heap.size = db := ⟨_, rfl⟩
  have HDB := Lib.hid hdb
  simp only [ptrB] at *
  go_enter Tryz.func5, Tryz.ntmps5
  go_wp2_with fail
  refine (HS.out _).mono ?_
  rintro e w1 ⟨rfl, hc1⟩
  have HC1 := Lib.hid (((Chg.refl No w).alloc (.cells #[.slice none 0 0, .slice none 0 0] 56)).then hc1)
  have hd1 := hc1.at (MapKept.heap_alloc w (.cells #[.slice none 0 0, .slice none 0 0] 56)).1 (fun e => e)
  have HD1 := Lib.hid hd1
  clear hd1 hc1
  go_wp2
  go_loopw [7] (fun si wr => ∃ (k : Nat) (lv : Value), k ≤ n ∧ si = .int .i64 k ∧ wr.heap[db]? = some (.cells #[lv, .slice none 0 0] 56 (0, 0)) ∧ wr.ownsRow db 9 1 lv k (List.replicate k (.string ep)) ∧ Chg No w wr) (fun si _ => n - (intOf si).toNat)
  case atStart => exact ⟨0, .slice none 0 0, by omega, rfl, hdb ▸ HD1.out, World.ownsRow_nil _ _ _ _, HC1.out⟩
  case round =>
    obtain ⟨k, lv, hk, rfl, hd, hrow, hch⟩ := hrel
    obtain ⟨la, lc, rfl⟩ : ∃ a c, lv = .slice a k c := by
      rcases hrow.2 with ⟨e, e2⟩ | ⟨g', cap', cur, e, _⟩
      · exact ⟨_, _, by rw [e, e2]⟩
      · exact ⟨_, _, e⟩
    have q0 := cell_at hd 0 (v := .slice la k lc) rfl
    have f0 := free_at hd 0
    have HD := Lib.hid hd
    have HR := Lib.hid hrow
    have HCH := Lib.hid hch
    have hsz := hch.size
    have hdlt := lt_of_block hd
    clear hd hrow hch
    by_cases hlt : k < n
    · go_wp2_with (at_builtin; refine wpList_append_own_at _ rfl (.tmp 29) (.tmp 31) 53 rfl db 9 i0 (.string ByteArray.empty) 1 16 Tryz.underlying53 hi0 hz0 hz1 hz2 rfl (by decide) _ k _ rfl (HR.out.alloc _) ⟨wr.heap.size, 0, none⟩ 1 1 [.string ep] rfl rfl (cell_one_new _ _ _) ?e2 ?e3 ?e4 ?e5 ?_)
      case e2 => intro u hu; simp at hu; subst hu; rfl
      case e3 => unfold maxLen; omega
      case e4 => omega
      case e5 => simp; omega
      intro v3 w3 hown3 hgrow3 hnil3 hloc3
      have hc3 : Chg (fun b => (Value.slice la k lc).ownBlock = some b) wr w3 :=
        Chg.trans ((Chg.refl _ _).alloc _) (Chg.ofGrown hgrow3) (fun _ _ e => e)
      have hs3 := hc3.at HD.out (own_ne HR.out HD.out (by decide))
      have q3' := cell_at hs3 0 (v := .slice la k lc) rfl
      have q4' := free_at hs3 0
      have HC3 : Hid (Chg No w (w3.setCell ⟨db, 0, none⟩ v3)) := Lib.hid ((HCH.out.trans hc3 (fun b hb e => by have := (HR.out.lt b e).1; have := HDB.out; omega)).trans (chg_setCell w3 db 0 v3) (fun b hb e => by have := HDB.out; omega))
      have HD3 : Hid ((w3.setCell ⟨db, 0, none⟩ v3).heap[db]? = some (.cells #[v3, .slice none 0 0] 56 (0, 0))) := Lib.hid (at_setCell hs3 0 v3)
      have HR3 : Hid ((w3.setCell ⟨db, 0, none⟩ v3).ownsRow db 9 1 v3 (k + 1) (List.replicate (k + 1) (.string ep))) := Lib.hid (by
        have := (chg_setCell w3 db 0 v3).row hown3 (fun b hb e => by subst e; exact own_ne hown3 hs3 (by decide) hb)
        rw [List.replicate_succ']; exact this)
      obtain ⟨g3, cap3, rfl⟩ := ownsRow_succ hown3
      clear hown3 hgrow3 hnil3 hloc3 hc3 hs3 q0 f0
      go_wp2
      go_roundw
      case rel => exact ⟨k + 1, _, by omega, by go_num, HD3.out, HR3.out, HC3.out⟩
      case measure => simp [intOf]; omega
    · have hke : k = n := by omega
      subst hke
      go_wp2
      go_ret2
      have hdb := HDB.out
      subst hdb
      refine ⟨rfl, HCH.out, _, ⟨HD.out, ?_, World.ownsRow_nil _ _ _ _, by simp, by simp; omega, rfl⟩, fun b hb => (HR.out.lt b hb).1⟩
      have := ownsRow_base_a HR.out (Nat.zero_le _)
      simpa [strs, HE.out] using this
end
end Go.Proofs.YtniijkcncpabaaaGreat
