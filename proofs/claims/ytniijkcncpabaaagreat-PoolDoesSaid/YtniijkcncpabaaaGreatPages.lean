/- Pages: the pages in memory, sorted. -/
import Derived.Test.YtniijkcncpabaaaGreatKeys
import Derived.Test.YtniijkcncpabaaaGreatPool
import Derived.Shelf.SortM.Plain
import Derived.Shelf.SortM.SortNone
import Derived.Shelf.SlIterI.Nil
namespace Go.Proofs.YtniijkcncpabaaaGreat
open Go.RowKit Go.MapKept Go.Shelf Go.Maps Go.Sort
set_option maxRecDepth 100000
set_option maxHeartbeats 1000000

theorem sortsA (m : Nat) : AnyZI.SortsIn Tryz.prog Tryz.sortedA_ren Fence.wide m :=
  ⟨fun blk off cap ss W hH hblk hsz => callsIn_wide.2 (AnyM.slices_Sort_int Tryz.sortA blk off cap ss W hH hblk hsz),
   fun p cap W => callsIn_wide.2 (AnyM.slices_Sort_int_none Tryz.sortA p cap W)⟩
theorem pages0_ok {w : World} {bp bd : Nat} {S : Nat → Prop} {σ : Pool} (h : PoolAt w bp bd S σ) (hlen : σ.L.length ≤ 1000000) (hk : ∀ n ∈ keys σ.L, 0 ≤ n ∧ n ≤ 1000000000000) :
    Calls Tryz.prog 12 #[ptrB bp] w fun e w' => ∃ v, e = .returned v ∧ w'.ownsRow w.heap.size 3 1 v (sortI (keys σ.L)).length (ints (sortI (keys σ.L))) ∧ Below w.heap.size w w' := by
  obtain ⟨x, _, h, _⟩ := h
  have hlen' : (tabOf x.pb σ.L).length = σ.L.length := by simp [tabOf]
  obtain ⟨D0, hown, hperm, hsize⟩ := h.tab.owns (P := Tryz.prog) Tryz.underlying3 (by rw [hlen']; exact hlen) (by rw [tabOf_keys]; exact hk)
  rw [tabOf_keys] at hperm
  rw [hlen'] at hsize
  have c2 := cell_at h.self 2 (v := .map (some x.bm)) rfl
  have hbl := hown.lt
  refine (callsIn_wide (n := 6)).1 ?_
  have hseq : SeqGives Fence.wide 2 Tryz.prog 58 #[.pointer (some ⟨w.heap.size, 0, none⟩)] encZ (fun ss => ss.Perm (intKeys D0)) (Maps.size D0) (w.alloc (.cells #[.map (some x.bm)] 59)) :=
    AnyZI.keys_gives (ρ := Tryz.keysA_ren) { Tryz.keysA with } Fence.wide _ trivial rfl (by omega) w.heap.size x.bm _ D0 _ (by simp) (by simp) (by
      obtain ⟨es, clock, hb, Ft, hs, hD⟩ := hown
      exact ⟨es, clock, (Below.heap_alloc _ _ x.bm hbl).trans hb, Ft, hs, hD⟩)
  have cK : ∀ mb W, CallsIn Fence.wide 5 Tryz.prog 33 #[.map mb] W fun e w' => e = .returned (.func (.func 58) #[] #[.pointer (some ⟨W.heap.size, 0, none⟩)]) ∧ w' = W.alloc (.cells #[.map mb] 59) := fun mb W => AnyZI.keys_in Tryz.keysA Fence.wide 5 trivial rfl mb W
  have cS := AnyZI.sorted_in Tryz.sortedA Fence.wide 5 trivial trivial trivial trivial rfl (by omega) (sortsA _) (enters_of Tryz.func57 (by kernel_rfl) rfl) 58 #[.pointer (some ⟨w.heap.size, 0, none⟩)] trivial (enters_of Tryz.func58 (by kernel_rfl) rfl) _ _ (by rw [hsize]; unfold maxLen; omega) (by rw [hsize]; omega) _ hseq
  change CallsIn _ _ Tryz.prog 32 _ _ _ at cS
  have hfK : Fence.wide.fn 33 := trivial
  have hfS : Fence.wide.fn 32 := trivial
  have HP := Lib.hid hperm
  clear hperm hsize hlen' hlen hk hown hseq h
  rw [ptrB]
  refine callsIn_of_wp Tryz.func12 rfl trivial ?_ rfl
  simp only [Tryz.ntmps12, List.size_toArray, List.length_cons, List.length_nil, Nat.reduceAdd, Nat.reduceSub, Array.replicate_succ, Array.replicate_zero, List.push_toArray, List.append_toArray, List.nil_append, List.cons_append]
  gi_wp2_with (first
    | (gi_at_call 33; refine (cK _ _).mono ?_; rintro e w' ⟨rfl, rfl⟩)
    | (gi_at_call 32; refine cS.mono ?_; rintro e w' ⟨v, ss, rfl, hS, hrow, hnil, hb⟩))
  go_ret
  have hp2 : ss.Perm (keys σ.L) := hS.trans HP.out
  have e1 : sortI (keys σ.L) = sortI ss := (sortI_perm hp2).symm
  have e2 : (sortI (keys σ.L)).length = ss.length := by rw [e1, sortI_len]
  refine ⟨v, rfl, ?_, ((Below.refl _ w).alloc (Nat.le_refl _) _).trans (hb.mono (by simp))⟩
  rw [e2, e1]
  exact ownsRow_base_a hrow (by simp)
theorem pages_ok {w : World} {bp bd : Nat} {S : Nat → Prop} {σ : Pool} (h : PoolAt w bp bd S σ) (hlen : σ.L.length ≤ 1000000) (hk : ∀ n ∈ keys σ.L, 0 ≤ n ∧ n ≤ 1000000000000) :
    Calls Tryz.prog 12 #[ptrB bp] w fun e w' => ∃ v, e = .returned v ∧ w'.ownsRow w.heap.size 3 1 v (sortI (keys σ.L)).length (ints (sortI (keys σ.L))) ∧ Chg No w w' := by
  refine (pages0_ok h hlen hk).mono ?_
  rintro e w' ⟨v, rfl, h1, h2⟩
  exact ⟨v, rfl, h1, Chg.ofBelow h2⟩
end Go.Proofs.YtniijkcncpabaaaGreat
