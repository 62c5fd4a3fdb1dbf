/- The sorted keys of a map of ints. -/
import Derived.Test.YtniijkcncpabaaaGreatLaid
import Derived.Test.YtniijkcncpabaaaGreatSlices
import Derived.Maps.Own
namespace Go.Proofs.YtniijkcncpabaaaGreat
open Go.RowKit Go.MapKept Go.Shelf
set_option maxRecDepth 100000
set_option maxHeartbeats 400000

theorem insert_perm {H : Type} (x : Lit × DataW H) : ∀ l, (DataW.insert x l).Perm (x :: l)
  | [] => .refl _
  | y :: r => by
    unfold DataW.insert
    split
    · exact .refl _
    · exact (List.Perm.cons y (insert_perm x r)).trans (.swap x y r)
theorem insertAll_perm {H : Type} : ∀ l : List (Lit × DataW H), (l.foldr DataW.insert []).Perm l
  | [] => .refl _
  | y :: r => by
    rw [List.foldr_cons]
    exact (insert_perm y _).trans ((insertAll_perm r).cons y)
def keyN : Value → Int
  | .int _ n => n
  | _ => 0
def anyR : Value → Option (DataW Unit × List MemPlace) := fun _ => some (.nil, [])
theorem rg_int {P : Program} {k : TypeId} (hk : P.underlying k = some (.int .i64)) {x : MapEntry} {n : Int} (hx : x.key = .int .i64 n) (h0 : 0 ≤ n) (h1 : n ≤ 1000000000000) : WideElems.rd P k anyR x = some (.int .i64 n, .nil) := by
  have : keyOf P k x.key = some (.int .i64 n) := by
    rw [hx, keyOf, hk]
    simp [mapKey, hk, Lit.wf, IntKind.min, IntKind.max, IntKind.signed, IntKind.bits]
    omega
  rw [WideElems.rd, this]; rfl
/-- a map of ints reads as a datum whose keys are its keys -/
theorem kmap.owns {P : Program} {k : TypeId} (hk : P.underlying k = some (.int .i64)) {β : Type} {eV : β → Value} {w : World} {b : Nat} {l : List (Int × β)} (h : kmap (Value.int .i64) eV w b l) (hl : l.length ≤ 1000000) (hw : ∀ n ∈ keys l, 0 ≤ n ∧ n ≤ 1000000000000) :
    ∃ D : DataW Unit, w.ownsMap P k anyR b l.length D ∧ (intKeys D).Perm (keys l) ∧ Go.Maps.size D = l.length := by
  obtain ⟨es, clock, hb, hst, he⟩ := h
  have hsz := kmap.size he
  have hkm := kmap.keys_map he
  have hrd : ∀ x ∈ es.toList, ∃ n : Int, x.key = .int .i64 n ∧ n ∈ keys l ∧ WideElems.rd P k anyR x = some (.int .i64 n, .nil) := by
    intro x hx
    have : x.key ∈ es.toList.map (·.key) := List.mem_map_of_mem hx
    rw [hkm] at this
    obtain ⟨n, hn, e⟩ := List.mem_map.1 this
    exact ⟨n, e.symm, hn, rg_int hk e.symm (hw n hn).1 (hw n hn).2⟩
  refine ⟨_, ⟨es, clock, hb, ⟨by unfold maxLen; omega, hst, fun x hx => ?_⟩, by omega, rfl⟩, ?_, ?_⟩
  · obtain ⟨n, _, _, h3⟩ := hrd x hx; exact ⟨_, h3⟩
  · have h1 := (insertAll_perm (es.toList.map (WideElems.rg P k anyR))).map (fun p => Go.intOf p.1)
    refine h1.trans ?_
    rw [List.map_map]
    have h2 : (es.toList.map (·.key)).map keyN = keys l := by rw [hkm, List.map_map]; exact (List.map_congr_left fun _ _ => rfl).trans (List.map_id _)
    rw [← h2, List.map_map]
    refine .of_eq (List.map_congr_left fun x hx => ?_)
    obtain ⟨n, h3, _, h4⟩ := hrd x hx
    simp [WideElems.rg, h4, h3, Go.intOf, keyN]
  · rw [Go.Maps.size_eq, (insertAll_perm _).length_eq]; simp [hsz]
/-- sorted -/
def sortI (l : List Int) : List Int := l.mergeSort fun x y => decide (x ≤ y)
theorem sortI_perm {l m : List Int} (h : l.Perm m) : sortI l = sortI m := by
  have hs : ∀ l : List Int, (sortI l).Pairwise (fun a b => a ≤ b) := fun l => by
    have := List.pairwise_mergeSort (le := fun x y : Int => decide (x ≤ y)) (fun a b c h1 h2 => by simp at *; omega) (fun a b => by simp; omega) l
    exact this.imp (by simp)
  exact List.Perm.eq_of_pairwise (le := fun a b => a ≤ b) (fun a b _ _ h1 h2 => by omega) (hs l) (hs m) (((List.mergeSort_perm _ _).trans h).trans (List.mergeSort_perm _ _).symm)
theorem sortI_mem {l : List Int} {x : Int} : x ∈ sortI l ↔ x ∈ l := (List.mergeSort_perm _ _).mem_iff
theorem sortI_len (l : List Int) : (sortI l).length = l.length := (List.mergeSort_perm _ _).length_eq
end Go.Proofs.YtniijkcncpabaaaGreat
