/- The reference's pool: Pages, Least. -/
import Derived.Test.YtniijkcncpabaaaGreatRefJ
namespace Go.Proofs.YtniijkcncpabaaaGreat
open Go.RowKit Go.MapKept
set_option maxRecDepth 100000
set_option maxHeartbeats 1000000

/-- 0, 1, .. -/
def upI (n : Nat) : List Int := (List.range n).map Int.ofNat
theorem upI_succ (n : Nat) : upI (n + 1) = upI n ++ [(n : Int)] := by simp [upI, List.range_succ]
def keepP (σ : Pool) (d : Bool) (k : Int) : Bool := match aget σ.L k with
  | none => false
  | some p => !d || p.dirty
def pagesR (σ : Pool) (d : Bool) : List Int := (upI σ.D.n.toNat).filter (keepP σ d)
def leastStep (σ : Pool) (s : Int × Bool) (k : Int) : Int × Bool := match aget σ.L k with
  | none => s
  | some p => if p.dirty && (!s.2 || decide (p.first < s.1)) then (p.first, true) else s
def leastR (σ : Pool) (l : List Int) : Int × Bool := l.foldl (leastStep σ) (0, false)
theorem leastR_snoc (σ : Pool) (l : List Int) (k : Int) : leastR σ (l ++ [k]) = leastStep σ (leastR σ l) k := by simp [leastR]
section
variable {S T : Nat → Prop} {w w' : World} {rb rd : Nat} {x : RLocs} {σ : Pool}
theorem rpages_ok (h : RPoolIs w rb x σ) (ha : Aged σ) (d : Bool) :
    Calls Tryz.prog 13 #[ptrB rb, .bool d] w fun e w' => ∃ v, e = .returned v ∧ IntRow w' v (pagesR σ d) ∧ Chg No w w' ∧ ∀ b, v.ownBlock = some b → w.heap.size ≤ b := by
  obtain ⟨i0, hi, hz0, hz1, hz2⟩ := info_parts infoInt
  obtain ⟨gl, cl, hlv, _⟩ := h.disk.page_cell
  have c0 := cell_at h.self 0 (v := ptrB x.rd) rfl
  have r0 := cell_at h.disk.self 0 (v := x.lv) rfl
  rw [hlv] at r0
  have hrg := h.disk.range
  obtain ⟨n, hn⟩ : ∃ n : Nat, σ.D.n.toNat = n := ⟨_, rfl⟩
  rw [hn] at r0
  have hn2 : n ≤ 1024 := by omega
  have hpr : pagesR σ d = (upI n).filter (keepP σ d) := by rw [pagesR, hn]
  rw [hpr]
  have hfl : ∀ k : Nat, ((upI k).filter (keepP σ d)).length ≤ k := fun k => by
    have := List.length_filter_le (keepP σ d) (upI k); simpa [upI] using this
  have HFL := Lib.hid hfl
  have H := Lib.hid h
  have HA := Lib.hid ha
  clear h ha hlv hn hrg hpr hfl
  simp only [ptrB] at *
  go_enter Tryz.func13, Tryz.ntmps13
  go_wp2
  go_loopw [5, 6] (fun sv si wr => ∃ k : Nat, k ≤ n ∧ si = .int .i64 k ∧ wr.ownsRow w.heap.size 3 1 sv ((upI k).filter (keepP σ d)).length (ints ((upI k).filter (keepP σ d))) ∧ Chg No w wr) (fun _ si _ => n - (intOf si).toNat)
  case atStart => exact ⟨0, by omega, rfl, empty_row w, (Chg.refl _ _).alloc _⟩
  case round =>
    obtain ⟨k, hk, rfl, hrow, hch⟩ := hrel
    have c0' := hch.cell c0 (fun e => e)
    have r0' := hch.cell r0 (fun e => e)
    by_cases hlt : k < n
    · have HF := Lib.hid (rfind_ok (H.out.no hch) k)
      have HU := Lib.hid (upI_succ k)
      have HROW := Lib.hid hrow
      have HCH := Lib.hid hch
      have hfk := HFL.out k
      have hsz := hch.size
      clear hrow hch
      rcases ridx HA.out (k : Int) with ⟨hg, hix⟩ | ⟨p, j, hj, hg, hjk, hix⟩
      · rw [hix] at HF
        have HK : Hid ((upI (k + 1)).filter (keepP σ d) = (upI k).filter (keepP σ d)) := Lib.hid (by
          rw [HU.out, List.filter_append]; simp [keepP, hg])
        clear hix hg
        go_wp2_with fail
        refine HF.out.mono ?_
        rintro e w1 ⟨rfl, rfl⟩
        go_wp2
        go_roundw
        case rel => exact ⟨k + 1, by omega, by go_num, by rw [HK.out]; exact HROW.out, HCH.out⟩
        case measure => simp [intOf]; omega
      · rw [hix] at HF
        obtain ⟨a, cap, hav, hcl⟩ := (H.out.no HCH.out).cells
        obtain ⟨g, rfl, hcg⟩ := hcl (by omega)
        have c3 := cell_at (H.out.no HCH.out).self 3 (v := x.av) rfl
        have d3 := cell_at ((H.out.no HCH.out).place k p hg) 3 (v := .bool p.dirty) rfl
        have hcj := hcg j hj
        rw [hjk] at hcj
        rw [hav] at c3
        have hfew := H.out.few
        have HK : Hid ((upI (k + 1)).filter (keepP σ d) = if !d || p.dirty then (upI k).filter (keepP σ d) ++ [(k : Int)] else (upI k).filter (keepP σ d)) := Lib.hid (by
          rw [HU.out, List.filter_append]
          simp only [List.filter_cons, keepP, hg, List.filter_nil]
          split <;> simp)
        clear hix hg hjk hcl hcg hav
        simp only [ptrB] at *
        by_cases hkeep : (!d || p.dirty) = true
        · rw [hkeep] at HK
          have hrow0 := HROW.out
          generalize hxs : (upI k).filter (keepP σ d) = xs at *
          go_wp2_with fail
          refine HF.out.mono ?_
          rintro e w1 ⟨rfl, rfl⟩
          cases d with
          | false =>
            clear hkeep
            go_wp2_with (at_builtin; refine wpList_append_own_at _ rfl (.tmp 42) (.tmp 44) 42 rfl w.heap.size 3 i0 (.int .i64 0) 1 8 Tryz.underlying42 hi hz0 hz1 hz2 rfl (by decide) _ xs.length (ints xs) rfl (hrow0.alloc _) ⟨wr.heap.size, 0, none⟩ 1 1 [.int .i64 k] rfl rfl ?c1 ?c2 ?c3 ?c4 ?c5 ?_)
            case c1 => intro j u hj; match j, hj with | 0, hj => simp at hj; subst hj; simp [Addr.add]
            case c2 => intro u hu; simp at hu; subst hu; rfl
            case c3 => unfold maxLen; omega
            case c4 => omega
            case c5 => simp; omega
            intro v' w2 hown hgrow hnil hloc
            have HC : Hid (Chg No w w2) := Lib.hid ((HCH.out.alloc _).trans (Chg.ofGrown hgrow) (fun b hb e => by
              have := (HROW.out.lt b e).1; omega))
            have HO : Hid (w2.ownsRow w.heap.size 3 1 v' ((upI (k + 1)).filter (keepP σ false)).length (ints ((upI (k + 1)).filter (keepP σ false)))) := Lib.hid (by
              rw [HK.out]; simpa [ints] using hown)
            clear hown hgrow hnil hloc hrow0
            go_wp2
            go_roundw
            case rel => exact ⟨k + 1, by omega, by go_num, HO.out, HC.out⟩
            case measure => simp [intOf]; omega
          | true =>
            have hpd : p.dirty = true := by simpa using hkeep
            rw [hpd] at d3
            clear hkeep hpd
            go_wp2_with (at_builtin; refine wpList_append_own_at _ rfl (.tmp 42) (.tmp 44) 42 rfl w.heap.size 3 i0 (.int .i64 0) 1 8 Tryz.underlying42 hi hz0 hz1 hz2 rfl (by decide) _ xs.length (ints xs) rfl (hrow0.alloc _) ⟨wr.heap.size, 0, none⟩ 1 1 [.int .i64 k] rfl rfl ?c1 ?c2 ?c3 ?c4 ?c5 ?_)
            case c1 => intro j u hj; match j, hj with | 0, hj => simp at hj; subst hj; simp [Addr.add]
            case c2 => intro u hu; simp at hu; subst hu; rfl
            case c3 => unfold maxLen; omega
            case c4 => omega
            case c5 => simp; omega
            intro v' w2 hown hgrow hnil hloc
            have HC : Hid (Chg No w w2) := Lib.hid ((HCH.out.alloc _).trans (Chg.ofGrown hgrow) (fun b hb e => by
              have := (HROW.out.lt b e).1; omega))
            have HO : Hid (w2.ownsRow w.heap.size 3 1 v' ((upI (k + 1)).filter (keepP σ true)).length (ints ((upI (k + 1)).filter (keepP σ true)))) := Lib.hid (by
              rw [HK.out]; simpa [ints] using hown)
            clear hown hgrow hnil hloc hrow0
            go_wp2
            go_roundw
            case rel => exact ⟨k + 1, by omega, by go_num, HO.out, HC.out⟩
            case measure => simp [intOf]; omega
        · have hkf : (!d || p.dirty) = false := by simpa using hkeep
          rw [hkf] at HK
          have hd : d = true := by cases d <;> simp at hkf ⊢
          have hpd : p.dirty = false := by subst hd; simpa using hkf
          subst hd
          rw [hpd] at d3
          clear hkeep hkf hpd
          go_wp2_with fail
          refine HF.out.mono ?_
          rintro e w1 ⟨rfl, rfl⟩
          go_wp2
          go_roundw
          case rel => exact ⟨k + 1, by omega, by go_num, by rw [HK.out]; exact HROW.out, HCH.out⟩
          case measure => simp [intOf]; omega
    · have hke : k = n := by omega
      subst hke
      have HO := Lib.hid hrow
      have HC := Lib.hid hch
      clear hrow hch
      go_wp2
      go_ret
      exact ⟨_, rfl, ownsRow_base_a HO.out (Nat.zero_le _), HC.out, fun b hb => (HO.out.lt b hb).1⟩
theorem rleast_ok (h : RPoolIs w rb x σ) :
    Calls Tryz.prog 10 #[ptrB rb] w fun e w' => e = .returned (.tuple #[.int .i64 (leastR σ σ.ages).1, .bool (leastR σ σ.ages).2]) ∧ w = w' := by
  obtain ⟨a, cap, hav, hcl⟩ := h.cells
  have c3 := cell_at h.self 3 (v := x.av) rfl
  rw [hav] at c3
  have HCL := Lib.hid hcl
  have HM := Lib.hid (fun j (hj : j < σ.ages.length) => h.mem _ (List.getElem_mem hj))
  have HP := Lib.hid h.place
  have hfew := h.few
  clear h hav hcl
  generalize hag : σ.ages = ages at *
  clear hag
  simp only [ptrB] at *
  go_enter Tryz.func10, Tryz.ntmps10
  go_wp2
  go_loop [4, 5, 6] (fun sn sb i => ∃ (j : Nat) (n : Int) (b : Bool), j ≤ ages.length ∧ i = .int .i64 j ∧ sn = .int .i64 n ∧ sb = .bool b ∧ (n, b) = leastR σ (ages.take j)) (fun _ _ i => ages.length - (intOf i).toNat)
  case atStart => exact ⟨0, 0, false, by omega, rfl, rfl, rfl, rfl⟩
  case round =>
    obtain ⟨j, n, b, hj, rfl, rfl, rfl, hnb⟩ := hrel
    by_cases hlt : j < ages.length
    · obtain ⟨g, rfl, hg⟩ := HCL.out (by omega)
      obtain ⟨p, hp⟩ := HM.out j hlt
      have hst : leastR σ (ages.take (j + 1)) = if p.dirty && (!b || decide (p.first < n)) then (p.first, true) else (n, b) := by
        rw [List.take_succ_eq_append_getElem hlt, leastR_snoc, ← hnb, leastStep, hp]
      have d3 := cell_at (HP.out _ p hp) 3 (v := .bool p.dirty) rfl
      have d4 := cell_at (HP.out _ p hp) 4 (v := .int .i64 p.first) rfl
      have hcell := hg j hlt
      have HST := Lib.hid hst
      clear hg hp hst hnb
      generalize ages[j] = y at *
      cases hd : p.dirty with
      | false =>
        rw [hd] at HST d3
        clear hd
        go_wp2
        go_round
        case rel => exact ⟨j + 1, n, b, by omega, by go_num, rfl, rfl, by rw [HST.out]; rfl⟩
        case measure => simp [intOf]; omega
      | true =>
        rw [hd] at HST d3
        clear hd
        cases b with
        | false =>
          go_wp2
          go_round
          case rel => exact ⟨j + 1, p.first, true, by omega, by go_num, rfl, rfl, by rw [HST.out]; rfl⟩
          case measure => simp [intOf]; omega
        | true =>
          by_cases hf : p.first < n
          · have HT : Hid (leastR σ (ages.take (j + 1)) = (p.first, true)) := Lib.hid (by rw [HST.out]; simp [hf])
            go_wp2
            go_round
            case rel => exact ⟨j + 1, p.first, true, by omega, by go_num, rfl, rfl, HT.out.symm⟩
            case measure => simp [intOf]; omega
          · have HT : Hid (leastR σ (ages.take (j + 1)) = (n, true)) := Lib.hid (by rw [HST.out]; simp [hf])
            go_wp2
            go_round
            case rel => exact ⟨j + 1, n, true, by omega, by go_num, rfl, rfl, HT.out.symm⟩
            case measure => simp [intOf]; omega
    · have hje : j = ages.length := by omega
      subst hje
      rw [List.take_length] at hnb
      have HN := Lib.hid hnb
      clear hnb
      go_wp2
      go_ret2
      exact ⟨by rw [← HN.out]; rfl, rfl⟩
end
end Go.Proofs.YtniijkcncpabaaaGreat
