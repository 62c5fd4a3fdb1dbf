/- Contract of disk.Raw. -/
import Derived.Test.YtniijkcncpabaaaGreatRaw
namespace Go.Proofs.YtniijkcncpabaaaGreat
open Go.RowKit Go.MapKept Go.Shelf
set_option maxRecDepth 100000
attribute [local go_sem] Oper.semAt_some

/-- what a page had last written to it -/
def lastW (l : List (Int × ByteArray)) (p : Int) : Option ByteArray := (l.reverse.find? fun x => decide (x.1 = p)).map (·.2)
theorem lastW_snoc (l : List (Int × ByteArray)) (q : Int) (r : ByteArray) (p : Int) : lastW (l ++ [(q, r)]) p = if q = p then some r else lastW l p := by
  unfold lastW
  rw [List.reverse_append, List.reverse_singleton, List.singleton_append, List.find?_cons]
  by_cases h : q = p <;> simp [h]
def Disk.raw (D : Disk) (p : Int) : ByteArray := (lastW D.writes p).getD ((aget D.stays p).getD emptyPage)
theorem upto_bk (l : List (Int × ByteArray)) (k : Nat) (hk : k ≤ l.length) : (upto (bk l) k).map (·.2) = l.reverse.take k := by
  apply List.ext_getElem
  · simp [upto, hk]
  · intro i h1 h2
    have hi : i < k := by simp [upto] at h1; exact h1
    simp only [upto, List.getElem_map, List.getElem_range, bk, List.getElem_take, List.getElem_reverse]
    rw [List.getD_eq_getElem?_getD, List.getElem?_eq_getElem (by omega)]
    rfl
theorem lastW_done (l : List (Int × ByteArray)) (p : Int) (h : ∀ x ∈ upto (bk l) l.length, x.2.1 ≠ p) : lastW l p = none := by
  have e := upto_bk l l.length (Nat.le_refl _)
  rw [List.take_of_length_le (by simp)] at e
  unfold lastW
  rw [← e, List.find?_eq_none.2]
  · rfl
  · intro y hy
    obtain ⟨x, hx, rfl⟩ := List.mem_map.1 hy
    simpa using h x hx
theorem lastW_stop (l : List (Int × ByteArray)) (p : Int) (k : Nat) (hk : k ≤ l.length) (ini : List (Nat × (Int × ByteArray))) (x : Nat × (Int × ByteArray)) (he : upto (bk l) k = ini ++ [x]) (hi : ∀ y ∈ ini, y.2.1 ≠ p) (hx : x.2.1 = p) : lastW l p = some x.2.2 := by
  have e := upto_bk l k hk
  rw [he, List.map_append] at e
  unfold lastW
  rw [← List.take_append_drop k l.reverse, ← e, List.append_assoc, List.find?_append, List.find?_eq_none.2]
  · simp [hx]
  · intro y hy
    obtain ⟨z, hz, rfl⟩ := List.mem_map.1 hy
    simpa using hi z hz

set_option maxHeartbeats 2000000 in
theorem raw_in {w : World} {bd bs : Nat} {wv : Value} {D : Disk} (h : DiskIs w bd bs wv D) (p : Int) (hp0 : 0 ≤ p) (hp : p < D.n) (n : Nat) (hn : 3 ≤ n) :
    CallsIn Fence.wide n Tryz.prog 19 #[.pointer (some ⟨bd, 0, none⟩), .int .i64 p] w fun e w' => e = .returned (.string (D.raw p)) ∧ Below w.heap.size w w' := by
  have hro : Fence.wide.round = none := rfl
  have h1 : 1 ≤ n := by omega
  have hb3 : Chg No w (w.alloc (.cells #[.int .i64 p] 3)) := (Chg.refl _ _).alloc _
  have hb4 : Chg No w ((w.alloc (.cells #[.int .i64 p] 3)).alloc (.cells #[.string ByteArray.empty] 9)) := hb3.alloc _
  have hhas := has_ok (h.no hb4) p
  rw [show (decide (0 ≤ p) && decide (p < D.n)) = true from by simp [hp0, hp]] at hhas
  have HH := Lib.hid hhas
  clear hhas
  have c2 := cell_at (h.no hb4).self 2 (v := wv) rfl
  obtain ⟨sa, sl, sc, rfl⟩ : ∃ a len cap, wv = .slice a len cap := by
    rcases h.writes.2 with ⟨rfl, _⟩ | ⟨g, cap, cur, rfl, _⟩
    · exact ⟨_, _, _, rfl⟩
    · exact ⟨_, _, _, rfl⟩
  refine callsIn_of_wp_marks Tryz.func19 rfl trivial ?_ hro
  simp only [Tryz.ntmps19, List.size_toArray, List.length_cons, List.length_nil, Nat.reduceAdd, Nat.reduceSub, Array.replicate_succ, Array.replicate_zero, List.push_toArray, List.append_toArray, List.nil_append, List.cons_append]
  gi_wp2_with fail
  refine ⟨trivial, ?_⟩
  refine (callsIn_wide.2 HH.out).mono ?_
  rintro e w' ⟨rfl, rfl⟩
  gi_wp2_with fail
  refine ⟨trivial, ?_⟩
  refine (back_in Fence.wide (n - 1) trivial hro _ _ _ _).mono ?_
  rintro e w' ⟨rfl, rfl⟩
  gi_wp2_with fail
  have hch0 : Chg No w (((w.alloc (.cells #[.int .i64 p] 3)).alloc (.cells #[.string ByteArray.empty] 9)).alloc (.cells #[.slice sa sl sc] 50)) := hb4.alloc _
  have hB0 : Below w.heap.size w (((w.alloc (.cells #[.int .i64 p] 3)).alloc (.cells #[.string ByteArray.empty] 9)).alloc (.cells #[.slice sa sl sc] 50)) := hch0.below (Nat.le_refl _) (fun _ h => h.elim)
  have e0 : (((w.alloc (.cells #[.int .i64 p] 3)).alloc (.cells #[.string ByteArray.empty] 9)).alloc (.cells #[.slice sa sl sc] 50)).cell? ⟨w.heap.size, 0, none⟩ = some (.int .i64 p) := by simp [go_sem]
  have e1 : (((w.alloc (.cells #[.int .i64 p] 3)).alloc (.cells #[.string ByteArray.empty] 9)).alloc (.cells #[.slice sa sl sc] 50)).cell? ⟨w.heap.size + 1, 0, none⟩ = some (.string ByteArray.empty) := by simp [go_sem]
  have e2 : (((w.alloc (.cells #[.int .i64 p] 3)).alloc (.cells #[.string ByteArray.empty] 9)).alloc (.cells #[.slice sa sl sc] 50)).frozen? ⟨w.heap.size + 1, 0, none⟩ = false := by simp [go_sem]
  have e3 : (((w.alloc (.cells #[.int .i64 p] 3)).alloc (.cells #[.string ByteArray.empty] 9)).alloc (.cells #[.slice sa sl sc] 50)).cell? ⟨w.heap.size + 1 + 1, 0, none⟩ = some (.slice sa sl sc) := by simp [go_sem]
  have hsz : (((w.alloc (.cells #[.int .i64 p] 3)).alloc (.cells #[.string ByteArray.empty] 9)).alloc (.cells #[.slice sa sl sc] 50)).heap.size = w.heap.size + 3 := by simp
  have hI0 := wr_is (h.no hch0).writes
  generalize (((w.alloc (.cells #[.int .i64 p] 3)).alloc (.cells #[.string ByteArray.empty] 9)).alloc (.cells #[.slice sa sl sc] 50)) = W0 at *
  refine wpIn_rangeFunc_ownH hro h1 (gf := 60) (lb := #[.pointer (some ⟨w.heap.size + 1 + 1, 0, none⟩)]) rfl trivial (enters_of Tryz.func60 (by kernel_rfl) rfl)
    (back_stops Fence.wide (n - 1) trivial hro (by omega) (w.heap.size + 1 + 1) W0.heap.size _ D.writes h.few W0 (by omega) (Nat.le_refl _) e3 hI0) belowK_t (belowK_b (Nat.le_refl _)) (Below.refl _ _) (fun _ => rfl)
    (fun pre W => ((∀ x ∈ pre, x.2.1 ≠ p) ∧ W.cell? ⟨w.heap.size, 0, none⟩ = some (.int .i64 p) ∧ W.cell? ⟨w.heap.size + 1, 0, none⟩ = some (.string ByteArray.empty) ∧ W.frozen? ⟨w.heap.size + 1, 0, none⟩ = false) ∧ Below w.heap.size W0 W)
    (fun c pre W => (c = .ret ∧ ∃ ini last, pre = ini ++ [last] ∧ (∀ x ∈ ini, x.2.1 ≠ p) ∧ last.2.1 = p ∧ W.cell? ⟨w.heap.size + 1, 0, none⟩ = some (.string last.2.2)) ∧ Below w.heap.size W0 W)
    (OwnFrom.and (Own.from (fun s A B row hs hg hr => ⟨hs.1, cell_kept hs.2.1 hg hr, cell_kept hs.2.2.1 hg hr, (frozen_kept hs.2.2.1 hg hr).trans hs.2.2.2⟩) _) (ownFrom_below (by omega) (by omega)))
    (fun c => OwnFrom.and (Own.from (fun s A B row hs hg hr => by obtain ⟨hc, ini, last, g1, g2, g3, g4⟩ := hs; exact ⟨hc, ini, last, g1, g2, g3, cell_kept g4 hg hr⟩) _) (ownFrom_below (by omega) (by omega)))
    ⟨⟨by simp, e0, e1, e2⟩, Below.refl _ _⟩
    (fun x a' W => ∃ Bx, W0.heap.size ≤ Bx ∧ W.heap[Bx]? = some (.cells #[.int .i64 x.2.1, .string x.2.2] 83 (0, 0)) ∧ a' = { tmps := #[.pointer (some ⟨bd, 0, none⟩), .int .i64 p, undef, .pointer (some ⟨w.heap.size, 0, none⟩), .pointer (some ⟨w.heap.size + 1, 0, none⟩), undef, .pointer (some ⟨Bx, 0, none⟩), .pointer (some ⟨bd, 0, none⟩), .int .i64 p, .bool true, .bool false, .pointer (some ⟨bd, 0, none⟩), .pointer (some ⟨bd, 0, none⟩), .pointer (some ⟨bd, 2, none⟩), .slice sa sl sc, .func (.func 60) #[] #[.pointer (some ⟨w.heap.size + 1 + 1, 0, none⟩)], .int .i64 (x.1 : Int), .agg #[.int .i64 x.2.1, .string x.2.2], undef, undef, undef, undef, undef, undef, undef, undef, undef], defers := [] }) ?ax ?assign ?body ?done ?stop
  case ax =>
    rintro x a' _ A B row ⟨Bx, g1, g2, g3⟩ hg hr
    refine ⟨Bx, g1, (hg.block Bx (lt_of_block g2) fun e => ?_).trans g2, g3⟩
    obtain ⟨_, o, ho, hc⟩ := hr Bx e.symm
    rw [g2] at ho; cases ho; cases hc
  case assign =>
    rintro l pre ⟨xi, xp, xr⟩ W K hi hK
    simp only [bkEnc]
    gi_wp2
    have hs := hi.2.size
    exact hK _ _ ((KeepsOthers.alloc _ _).from _) ((Below.refl _ W).alloc hs _) ⟨⟨hi.1.1, (World.cell?_alloc_lt _ _ _ (by show w.heap.size < _; omega)).trans hi.1.2.1, (World.cell?_alloc_lt _ _ _ (by show w.heap.size + 1 < _; omega)).trans hi.1.2.2.1, (World.frozen?_alloc_old _ _ _ (by show w.heap.size + 1 ≠ _; omega)).trans hi.1.2.2.2⟩, hi.2.alloc (by omega) _⟩ ⟨W.heap.size, by omega, (MapKept.heap_alloc W _).1, rfl⟩
  case body =>
    rintro l pre ⟨xi, xp, xr⟩ a' W hl hr ⟨⟨g1, g2, g3, g4⟩, hB⟩ ⟨Bx, hBx, hx, rfl⟩ hlt
    have x0 := cell_at hx 0 (v := .int .i64 xp) rfl
    have x1 := cell_at hx 1 (v := .string xr) rfl
    clear hx
    by_cases hxp : xp = p
    · subst hxp
      gi_wp2
      exact ⟨(KeepsOthers.setCell _ _ _).from _, ⟨rfl, pre, _, rfl, g1, rfl, World.cell?_setCell_same _ _ _ g3⟩, hB.setCell (p := ⟨w.heap.size + 1, 0, none⟩) (by show w.heap.size ≤ w.heap.size + 1; omega) _⟩
    · have hbn : (xp == p) = false := by simpa using hxp
      gi_wp2
      exact ⟨KeepsFrom.refl _ _, Below.refl _ _, ⟨fun y hy => (List.mem_append.1 hy).elim (g1 y) (fun e => by simp at e; subst e; exact hxp), g2, g3, g4⟩, hB⟩
  case done =>
    rintro E ys W hE rfl ⟨⟨g1, g2, g3, g4⟩, hB⟩ hK
    have hl := lastW_done _ _ g1
    have hkp := kept_ok (h.no (Chg.ofBelow (hB0.trans hB))) p
    gi_wp2_with fail
    refine ⟨trivial, ?_⟩
    refine (callsIn_wide.2 hkp).mono ?_
    rintro e w' ⟨rfl, hch⟩
    have g3' := hch.cell g3 (fun h => h)
    have g4' := (hch.frozen (World.block_lt_of_cell? _ _ g3) (fun h => h)).trans g4
    have hKw := hch.at hK (fun h => h)
    generalize hv : (aget D.stays p).getD emptyPage = v at *
    have hr : D.raw p = v := by rw [Disk.raw, hl, ← hv]; rfl
    have HR := Lib.hid hr
    clear hr hv hl hkp
    gi_wp2_with fail
    have hK' := (KeepsOthers.setCell w' ⟨w.heap.size + 1, 0, none⟩ (.string v)).same E _ hKw rfl
    have hc5 := cell_kept (World.cell?_setCell_same w' ⟨w.heap.size + 1, 0, none⟩ (.string v) g3') (grownBy_putObj' _ E (.deferred none)) (fun r e => by cases e; exact ⟨_, hK', rfl⟩)
    refine ⟨by simp, .inl ⟨_, _, rfl, run_takeDeferred hK', ?_⟩⟩
    refine ⟨.string v, ?_, by rw [HR.out], (((hB0.trans hB).trans (hch.below (B := w.heap.size) (by have := hB.size; have := hB0.size; omega) (fun _ h => h.elim))).setCell (p := ⟨w.heap.size + 1, 0, none⟩) (by show w.heap.size ≤ w.heap.size + 1; omega) _).trans (belowK_b (w := W0) (by omega) _ E _ _ hE hK' rfl rfl)⟩
    simp [results, Tryz.f19, go_sem, hc5]
  case stop =>
    rintro E c pre W hE ⟨k, hk, rfl⟩ ⟨⟨rfl, ini, last, g1, g2, g3, g4⟩, hB⟩ hK
    have hl := lastW_stop _ _ k hk ini last g1 g2 g3
    have hr : D.raw p = last.2.2 := by rw [Disk.raw, hl]; rfl
    have HR := Lib.hid hr
    have G1 := Lib.hid g1
    clear hr hl g1 g2 g3
    gi_wp2
    have hc5 := cell_kept g4 (grownBy_putObj' _ E (.deferred none)) (fun r e => by cases e; exact ⟨_, hK, rfl⟩)
    refine ⟨by simp, .inl ⟨_, _, rfl, run_takeDeferred hK, ?_⟩⟩
    refine ⟨.string last.2.2, ?_, by rw [HR.out], (hB0.trans hB).trans (belowK_b (w := W0) (by omega) _ E _ _ hE hK rfl rfl)⟩
    simp [results, Tryz.f19, go_sem, hc5]

theorem raw_ok {w : World} {bd bs : Nat} {wv : Value} {D : Disk} (h : DiskIs w bd bs wv D) (p : Int) (hp0 : 0 ≤ p) (hp : p < D.n) :
    Calls Tryz.prog 19 #[.pointer (some ⟨bd, 0, none⟩), .int .i64 p] w fun e w' => e = .returned (.string (D.raw p)) ∧ Chg No w w' :=
  ((callsIn_wide (n := 3)).1 (raw_in h p hp0 hp 3 (by omega))).mono fun _ _ h => ⟨h.1, .ofBelow h.2⟩
end Go.Proofs.YtniijkcncpabaaaGreat
