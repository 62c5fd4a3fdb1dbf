/- The reference's pool: cut. -/
import Derived.Test.YtniijkcncpabaaaGreatRefH
import Derived.IntWalk
namespace Go.Proofs.YtniijkcncpabaaaGreat
open Go.RowKit Go.MapKept
set_option maxRecDepth 100000
set_option maxHeartbeats 1000000

theorem infoPp : (Tryz.prog.info? 75).map (fun i => (i.zero, i.size, i.bytes)) = some (some (.pointer none), 1, 8) := by kernel_rfl
theorem empty_row_p (w : World) : (w.alloc (.cells #[] 75)).ownsRow w.heap.size 75 1 (.slice (some ⟨w.heap.size, 0, none⟩) 0 0) 0 [] :=
  ⟨rfl, .inr ⟨w.heap.size, 0, #[], rfl, Nat.le_refl _, (MapKept.heap_alloc w (.cells #[] 75)).1, Nat.le_refl _, by decide, rfl, rfl⟩⟩
theorem ptrs_take (pb : Int → Nat) (l : List Int) (i : Nat) : (ptrs pb l).take i = ptrs pb (l.take i) := by simp [ptrs, List.map_take]
theorem ptrs_drop (pb : Int → Nat) (l : List Int) (i : Nat) : (ptrs pb l).drop i = ptrs pb (l.drop i) := by simp [ptrs, List.map_drop]
section
variable {S T : Nat → Prop} {w w' : World} {rb rd : Nat} {x : RLocs} {σ : Pool}
theorem rcut_ok (h : RPoolIs w rb x σ) (i : Nat) (hi : i < σ.ages.length) :
    Calls Tryz.prog 47 #[ptrB rb, .int .i64 i] w fun e w' => e = .returned (.tuple #[]) ∧ Chg (· = rb) w w' ∧ ∃ av', RPoolIs w' rb { x with av := av' } { σ with ages := σ.ages.eraseIdx i } ∧ ∀ b, av'.ownBlock = some b → w.heap.size ≤ b := by
  obtain ⟨i0, hi0, hz0, hz1, hz2⟩ := info_parts infoPp
  obtain ⟨a, cap, hav, hcl⟩ := h.cells
  obtain ⟨g, rfl, hg⟩ := hcl (by omega)
  have c3 := cell_at h.self 3 (v := x.av) rfl
  have f3 := free_at h.self 3
  rw [hav] at c3
  have hcap : σ.ages.length ≤ cap := by
    rcases h.row.2 with ⟨e, hn⟩ | ⟨g', cap', cur, e, _, _, h1, _⟩
    · omega
    · rw [hav] at e; simp only [Value.slice.injEq] at e; omega
  have hfew := h.few
  have HG := Lib.hid hg
  have H := Lib.hid h
  clear h hcl hav hg
  simp only [ptrB] at *
  have hlt := lt_of_cell2 c3
  go_enter Tryz.func47, Tryz.ntmps47
  have hwrap : IntKind.i64.wrap ((i : Int) + 1) = (i : Int) + 1 := IntWalk.i64_in _ (by omega)
  go_wp2_with (at_builtin; refine wpList_append_own_at _ rfl (.tmp 5) (.tmp 11) 62 rfl w.heap.size 75 i0 (.pointer none) 1 8 Tryz.underlying62 hi0 hz0 hz1 hz2 rfl (by decide) _ 0 [] rfl (empty_row_p w) ⟨g, 0, none⟩ i cap (ptrs x.pb (σ.ages.take i)) rfl ?c0 ?c1 ?c2 ?c3 ?c4 ?c5 ?_)
  case c0 => simp [ptrs]; omega
  case c1 =>
    intro j u hj
    have hjl : j < i := by
      rcases Nat.lt_or_ge j i with h | h
      · exact h
      · rw [List.getElem?_eq_none (by simp [ptrs]; omega)] at hj; cases hj
    have : u = ptrB (x.pb (σ.ages[j]'(by omega))) := by
      have := hj; simp [ptrs, hjl, (show j < σ.ages.length by omega)] at this; exact this.symm
    subst this
    exact ((Chg.refl No w).alloc _).cell (HG.out j (by omega)) (fun e => e)
  case c2 => intro u hu; simp only [ptrs, List.mem_map] at hu; obtain ⟨_, _, rfl⟩ := hu; rfl
  case c3 => unfold maxLen; omega
  case c4 => omega
  intro v1 w1 hown1 hgrow1 hnil1 hloc1
  have hc1 : Chg No w w1 := ((Chg.refl No w).alloc (.cells #[] 75)).trans (Chg.ofGrown hgrow1) (fun k hk e => by simp [Value.ownBlock] at e; omega)
  have HC1 := Lib.hid hc1
  have HO1 := Lib.hid hown1
  have c3' := hc1.cell c3 (fun e => e)
  have f3' := (hc1.frozen (a := ⟨rb, 3, none⟩) hlt (fun e => e)).trans f3
  obtain ⟨g1, cap1, rfl⟩ : ∃ g1 cap1, v1 = .slice (some ⟨g1, 0, none⟩) i cap1 := by
    rcases hown1.2 with ⟨e, _⟩ | ⟨g', cap', cur, e, _⟩
    · exact absurd e hnil1
    · exact ⟨g', cap', e⟩
  clear hown1 hgrow1 hnil1 hloc1 hc1 c3 f3
  have hsub : (σ.ages.length : Int) - ((i : Int) + 1) = ((σ.ages.length - (i + 1) : Nat) : Int) := by omega
  have hsub2 : (cap : Int) - ((i : Int) + 1) = ((cap - (i + 1) : Nat) : Int) := by omega
  have HFIN : Hid (∀ v2 w2, w2.ownsRow w.heap.size 75 1 v2 (i + (σ.ages.length - (i + 1))) (ptrs x.pb (σ.ages.take i) ++ ptrs x.pb (σ.ages.drop (i + 1))) → Chg No w w2 →
      Chg (· = rb) w (w2.setCell ⟨rb, 3, none⟩ v2) ∧ ∃ av', RPoolIs (w2.setCell ⟨rb, 3, none⟩ v2) rb { x with av := av' } { σ with ages := σ.ages.eraseIdx i } ∧ ∀ b, av'.ownBlock = some b → w.heap.size ≤ b) := Lib.hid (by
    intro v2 w2 ho hc
    have e1 : ptrs x.pb (σ.ages.take i) ++ ptrs x.pb (σ.ages.drop (i + 1)) = ptrs x.pb (σ.ages.eraseIdx i) := by
      rw [List.eraseIdx_eq_take_drop_succ]; simp [ptrs]
    have e2 : i + (σ.ages.length - (i + 1)) = (σ.ages.eraseIdx i).length := by rw [List.length_eraseIdx]; simp [hi]; omega
    rw [e1, e2] at ho
    have hcs := chg_setCell w2 rb 3 v2
    have hb : ∀ b, v2.ownBlock = some b → w.heap.size ≤ b := fun b hb => (ho.lt b hb).1
    have hrow := hcs.row ho (fun b hbb e => by have := hb b hbb; omega)
    have hc2 : Chg (fun k => k = rb ∨ x.av.ownBlock = some k) w (w2.setCell ⟨rb, 3, none⟩ v2) := hc.ofNo.trans hcs (fun _ _ e => .inl e)
    refine ⟨hc.ofNo.trans hcs (fun _ _ e => e), v2, H.out.setRow (ownsRow_base_a hrow (Nat.zero_le _)) hc2 (fun k hk => H.out.mem k (List.mem_of_mem_eraseIdx hk)) (H.out.nd.sublist (List.eraseIdx_sublist ..)) (Nat.le_trans (List.length_eraseIdx_le ..) H.out.few) ?_, hb⟩
    exact at_setCell (hc.at H.out.self (fun e => e)) 3 v2)
  have HG1 : Hid (∀ j u, (ptrs x.pb (σ.ages.drop (i + 1)))[j]? = some u → w1.cell? ⟨g, i + 1 + j, none⟩ = some u) := Lib.hid (by
    intro j u hj
    have hjl : i + 1 + j < σ.ages.length := by
      rcases Nat.lt_or_ge (i + 1 + j) σ.ages.length with h | h
      · exact h
      · rw [List.getElem?_eq_none (by simp [ptrs]; omega)] at hj; cases hj
    have : u = ptrB (x.pb (σ.ages[i + 1 + j]'hjl)) := by
      have := hj; simp [ptrs, List.getElem?_drop, hjl] at this; exact this.symm
    subst this
    exact HC1.out.cell (HG.out _ hjl) (fun e => e))
  by_cases hce : cap = i + 1
  · subst hce
    have hl0 : σ.ages.length = i + 1 := by omega
    have HX : Hid (σ.ages.drop (i + 1) = []) := Lib.hid (List.drop_eq_nil_of_le (by omega))
    go_wp2_with (at_builtin; refine wpList_append_own_at _ rfl (.tmp 13) (.tmp 20) 62 rfl w.heap.size 75 i0 (.pointer none) 1 8 Tryz.underlying62 hi0 hz0 hz1 hz2 rfl (by decide) _ i (ptrs x.pb (σ.ages.take i)) rfl HO1.out ⟨g, 0, none⟩ 0 0 [] rfl ?d0 ?d1 ?d2 ?d3 ?d4 ?d5 ?_)
    --DBG
    case d0 => rfl
    case d1 => intro j u hj; simp at hj
    case d2 => intro u hu; simp at hu
    case d3 => unfold maxLen; omega
    case d4 => omega
    case d5 => exact HC1.out.size
    intro v2 w2 hown2 hgrow2 hnil2 hloc2
    have hc2 : Chg No w w2 := HC1.out.trans (Chg.ofGrown hgrow2) (fun k hk e => by have := (HO1.out.lt k e).1; omega)
    have c4' := hc2.cell (cell_at H.out.self 3 (v := x.av) rfl) (fun e => e)
    have f4' := (hc2.frozen (a := ⟨rb, 3, none⟩) hlt (fun e => e)).trans (free_at H.out.self 3)
    have HF := Lib.hid (HFIN.out v2 w2 (by rw [HX.out, show i + (σ.ages.length - (i + 1)) = i from by omega]; simpa [ptrs] using hown2) hc2)
    obtain ⟨g2, n2, cap2, rfl⟩ : ∃ a n c, v2 = .slice a n c := by
      rcases hown2.2 with ⟨e, _⟩ | ⟨g', cap', cur, e, _⟩
      · exact ⟨_, _, _, e⟩
      · exact ⟨_, _, _, e⟩
    clear hown2 hgrow2 hnil2 hloc2 hc2 c3' f3'
    go_wp2
    go_end0
    exact ⟨rfl, HF.out⟩
  · have hce2 : (cap == i + 1) = false := by simpa using hce
    go_wp2_with (at_builtin; refine wpList_append_own_at _ rfl (.tmp 13) (.tmp 20) 62 rfl w.heap.size 75 i0 (.pointer none) 1 8 Tryz.underlying62 hi0 hz0 hz1 hz2 rfl (by decide) _ i (ptrs x.pb (σ.ages.take i)) rfl HO1.out ⟨g, i + 1, none⟩ (σ.ages.length - (i + 1)) (cap - (i + 1)) (ptrs x.pb (σ.ages.drop (i + 1))) rfl ?e0 ?e1 ?e2 ?e3 ?e4 ?e5 ?_)
    --DBG
    case e0 => simp [ptrs]
    case e1 =>
      intro j u hj
      have e : (⟨g, i + 1, none⟩ : Addr).add j = ⟨g, i + 1 + j, none⟩ := by unfold Addr.add; split <;> simp_all
      rw [e]; exact HG1.out j u hj
    case e2 => intro u hu; simp only [ptrs, List.mem_map] at hu; obtain ⟨_, _, rfl⟩ := hu; rfl
    case e3 => unfold maxLen; omega
    case e4 => omega
    case e5 => exact HC1.out.size
    intro v2 w2 hown2 hgrow2 hnil2 hloc2
    have hc2 : Chg No w w2 := HC1.out.trans (Chg.ofGrown hgrow2) (fun k hk e => by have := (HO1.out.lt k e).1; omega)
    have c4' := hc2.cell (cell_at H.out.self 3 (v := x.av) rfl) (fun e => e)
    have f4' := (hc2.frozen (a := ⟨rb, 3, none⟩) hlt (fun e => e)).trans (free_at H.out.self 3)
    have HF := Lib.hid (HFIN.out v2 w2 hown2 hc2)
    obtain ⟨g2, n2, cap2, rfl⟩ : ∃ a n c, v2 = .slice a n c := by
      rcases hown2.2 with ⟨e, _⟩ | ⟨g', cap', cur, e, _⟩
      · exact ⟨_, _, _, e⟩
      · exact ⟨_, _, _, e⟩
    clear hown2 hgrow2 hnil2 hloc2 hc2 c3' f3'
    go_wp2
    go_end0
    exact ⟨rfl, HF.out⟩
end
end Go.Proofs.YtniijkcncpabaaaGreat
