/- PoolDoes answers true for every input, and leaves its arguments as they were: no condition. -/
import Derived.Test.YtniijkcncpabaaaGreatRows
import Derived.Test.YtniijkcncpabaaaGreatDoes
import Derived.WalkKit
import Derived.ProofKit
import Derived.OpenShut
import Derived.Carry
import Derived.Deep.Slices
namespace Go.Proofs.YtniijkcncpabaaaGreat
open Go.ChangeShapes Go.WideShapes Go.ChangeAt Go.RowKit Go.Deep
set_option maxRecDepth 100000
set_option maxHeartbeats 1000000

theorem ownKnob0 : ownKnob Tryz.prog.godebug = none := by kernel_rfl
theorem laidOut0 : laidOutB Tryz.prog = true := by kernel_rfl
theorem Chg.below0 {w w' : World} (h : Chg No w w') : Go.RowKit.Below w.heap.size w w' := ⟨h.os, h.tape, h.output, h.size, fun k hk => h.block k hk (fun e => e)⟩
/-- a struct of four cells, read -/
theorem op_at {H : Type} {enc : TypeId × Value → H} {w : World} {n : Nat} {sp : Nat → Bool} {hd : Bool} {p : Addr} {cs : List Value} {x : DataW H × List MemPlace} (hc : w.cells? 0 p 4 = some cs)
    (h : DataW.trod enc Tryz.prog w 0 sp hd n 38 cs = some x) : ∃ o, OpAt w p o := by
  obtain ⟨_, hcl, hat⟩ := World.cells?_some hc
  obtain ⟨ys, n', _, _, _, hyl, hf⟩ := DataW.trod_struct Tryz.underlying38 h
  match cs, hcl with
  | [c0, c1, c2, c3], _ =>
    have g0 : DataW.trod enc Tryz.prog w 0 sp hd n' 3 (([c0, c1, c2, c3].drop 0).take (Tryz.prog.cellsOf 3)) = ys[0]? := hf 0 _ rfl
    have g1 : DataW.trod enc Tryz.prog w 0 sp hd n' 3 (([c0, c1, c2, c3].drop 1).take (Tryz.prog.cellsOf 3)) = ys[1]? := hf 1 _ rfl
    have g2 : DataW.trod enc Tryz.prog w 0 sp hd n' 9 (([c0, c1, c2, c3].drop 2).take (Tryz.prog.cellsOf 9)) = ys[2]? := hf 2 _ rfl
    have g3 : DataW.trod enc Tryz.prog w 0 sp hd n' 3 (([c0, c1, c2, c3].drop 3).take (Tryz.prog.cellsOf 3)) = ys[3]? := hf 3 _ rfl
    have k3 : Tryz.prog.cellsOf 3 = 1 := by kernel_rfl
    have k9 : Tryz.prog.cellsOf 9 = 1 := by kernel_rfl
    rw [k3] at g0 g1 g3
    rw [k9] at g2
    simp only [List.drop_zero, List.drop_succ_cons, List.take_succ_cons, List.take_zero] at g0 g1 g2 g3
    rw [List.getElem?_eq_getElem (by rw [hyl]; decide)] at g0 g1 g2 g3
    obtain ⟨a0, e0, _, _⟩ := DataW.trod_int Tryz.underlying3 g0
    obtain ⟨a1, e1, _, _⟩ := DataW.trod_int Tryz.underlying3 g1
    obtain ⟨a2, e2, _, hs⟩ := DataW.trod_string Tryz.underlying9 g2
    obtain ⟨a3, e3, _, _⟩ := DataW.trod_int Tryz.underlying3 g3
    simp only [List.cons.injEq, and_true] at e0 e1 e2 e3
    subst e0 e1 e2 e3
    exact ⟨⟨a0, a1, a2, a3⟩, by have := hat 0 (by omega); rwa [show p.add 0 = p from rfl] at this, hat 1 (by omega), hat 2 (by omega), hat 3 (by omega), hs⟩
theorem script_of {H : Type} {enc : TypeId × Value → H} {w : World} {v : Value} {d : DataW H} {ps : List MemPlace} {sp : Nat → Bool} {hd : Bool} {b0 : Nat} (hv : Value.okWide Tryz.prog w .any b0 22 v) (h : DataW.Trod enc Tryz.prog w 0 sp hd 22 v d ps) : ∃ len, Script w v len := by
  obtain ⟨a, len, cap, rfl⟩ := okWide_slice Tryz.underlying22 hv
  obtain ⟨fuel, hf⟩ := h
  have k4 : Tryz.prog.cellsOf 38 = 4 := by kernel_rfl
  rcases open_slice Tryz.underlying22 hf with ⟨h0, _⟩ | ⟨a', len', cap', m, n, D, Pl, h0, _, hl, hm, hmm, _, hi⟩
  · simp only [Value.cells, List.cons.injEq, and_true] at h0
    rw [h0]
    exact ⟨0, by decide, .inl ⟨rfl, rfl⟩⟩
  · simp only [Value.cells, List.cons.injEq, and_true] at h0
    rw [h0]
    unfold maxLen at hm
    refine ⟨len', by omega, .inr ⟨a', cap', rfl, fun i hil => ?_⟩⟩
    obtain ⟨cs', hc, ht⟩ := hi i (by rw [hmm]; split <;> omega)
    rw [k4] at hc
    exact op_at hc ht
theorem contract (H : Type) (enc : TypeId × Value → H) (W : World) (base : Nat) (args : Array Value) (ds gs : List (DataW H)) (before : List MemPlace)
    (hval : ∀ (j : Nat) t v, Tryz.f3.params[j]? = some t → args[j]? = some v → Value.okWide Tryz.prog W .any base t v)
    (hW : DataW.Whole enc Tryz.prog Tryz.f3.params.toList Rows.poolDoesSpec.vars false W args.toList ds gs before) :
    Calls Tryz.prog 3 args W fun e W' => ∃ v, e = .returned v ∧ Rows.poolDoesSpec.post enc Tryz.prog Tryz.f3 false true false false W args v W' := by
  have hW' := hW
  obtain ⟨p, q, hA0, hV, rfl, hfz, hnd⟩ := hW
  have hA : DataW.TrodAll enc Tryz.prog W 0 (fun _ => true) true Tryz.f3.params.toList args.toList ds p := hA0
  rw [Tryz.params3] at hA hval
  obtain ⟨v0, vs0, d0, ds0, p0, q0, hargs, rfl, rfl, h0, r0⟩ := trodAll_cons hA
  obtain ⟨v1, vs1, d1, ds1, p1, q1, rfl, rfl, rfl, h1, r1⟩ := trodAll_cons r0
  obtain ⟨rfl, rfl, rfl⟩ := trodAll_nil r1
  obtain rfl : args = #[v0, v1] := by cases args; simp_all
  obtain ⟨rfl, rfl⟩ := trodVars_none hV
  obtain ⟨a0, rfl, rfl, rfl, w0⟩ := open_int Tryz.underlying3 (hval 0 3 v0 rfl rfl) h0
  obtain ⟨len, hs⟩ := script_of (hval 1 22 v1 rfl rfl) h1
  clear hA0
  have hlt : ∀ x ∈ p1, x.block < W.heap.size := fun x hx => hW'.lt x (by simpa using hx)
  refine (does_ok a0 v1 len W hs).mono fun e W' ⟨he, hc⟩ => ?_
  subst he
  have hb := hc.below0
  have h1' := hb.trod laidOut0 (t := 22) (by kernel_rfl) (of_decide_eq_true (by kernel_rfl)) h1 hlt
  refine ⟨_, rfl, _, _, _, [], _, _, hW', ?_, trodAll_cons_mk (shut_int Tryz.underlying3 w0) (trodAll_cons_mk h1' trodAll_mk0), rfl, hb.frame _, fun h => by cases h⟩
  exact trodAll_cons_mk (shut_bool Tryz.underlying4 true) trodAll_mk0
theorem lifted (os : Os) (started : os.Started) (H : Type) (enc : TypeId × Value → H) :
    ReturnsInHanded {} Tryz.checked os 3 .any (Rows.poolDoesSpec.pre6 enc Tryz.prog Tryz.f3 Rows.poolDoesRow.domain false) (Rows.poolDoesSpec.post enc Tryz.prog Tryz.f3 false true false false) := by
  refine returnsInHanded_of_change (C := Tryz.checked) ownKnob0 started (by kernel_rfl) Tryz.func3
    (ChangeSpec.witness6 (enc := enc) (C := Tryz.checked) false ⟨#[], #[.int .i64 0, .slice none 0 0], []⟩ 8 (by kernel_rfl) (by kernel_rfl) (by kernel_rfl) (by kernel_rfl)) ?_
  intro W base args ds gs before hval hW _ _
  exact contract H enc W base args ds gs before hval hW
theorem over : Rows.poolDoesRow.holds Tryz.pinned (OpenSpec.ofChange Rows.poolDoesSpec) :=
  OpenClaim.holds_of_wide 3 Tryz.f3 rfl rfl rfl rfl rfl rfl rfl ⟨rfl, rfl, rfl, rfl, rfl⟩ rfl rfl rfl rfl rfl (by kernel_rfl) Tryz.func3 (by kernel_rfl)
    (of_decide_eq_true (by kernel_rfl)) (by unfold Func.isWrapper; first | (rw [if_pos (by decide +kernel)]; kernel_rfl) | (rw [if_neg (by decide +kernel)]; exact ⟨rfl, rfl⟩))
    (fun os started H enc _ => lifted os started H enc)
theorem pool_does : Rows.PoolDoesSaid := over
end Go.Proofs.YtniijkcncpabaaaGreat
