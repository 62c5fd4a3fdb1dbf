/- Contract of disk.Raw: the range over slices.Backward. -/
import Derived.Test.YtniijkcncpabaaaGreatDisk
import Derived.RangeFuncNested
import Derived.RangeFuncBound
import Derived.RangeFuncCalls
import Derived.RangeFuncLeaves
import Derived.RangeFuncBox
import Derived.Shelf.Abstract
import Derived.OwnWalkIn
import Derived.TacticsInMore
import Derived.LoopNIn
import Derived.LoopIn
namespace Go.Proofs.YtniijkcncpabaaaGreat
open Go.RowKit Go.MapKept
set_option maxRecDepth 100000
attribute [local go_sem] Oper.semAt_some

/-- what has come when k rounds are over -/
def upto {α : Type} (f : Nat → α) (k : Nat) : List α := (List.range k).map f
theorem upto_succ {α : Type} (f : Nat → α) (k : Nat) : upto f (k + 1) = upto f k ++ [f k] := by simp [upto, List.range_succ]
theorem upto_length {α : Type} (f : Nat → α) (k : Nat) : (upto f k).length = k := by simp [upto]

/-- the j-th write from the end -/
def bk (l : List (Int × ByteArray)) (j : Nat) : Nat × (Int × ByteArray) := (l.length - 1 - j, l.getD (l.length - 1 - j) (0, ByteArray.empty))
def bkEnc (x : Nat × (Int × ByteArray)) : Array Value := #[.int .i64 (x.1 : Int), .agg #[.int .i64 x.2.1, .string x.2.2]]
def WrCells (W : World) (b : Nat) (l : List (Int × ByteArray)) : Prop := ∀ j, j < l.length → W.cell? ⟨b, j * 2, none⟩ = some (.int .i64 (l.getD j (0, ByteArray.empty)).1) ∧ W.cell? ⟨b, j * 2 + 1, none⟩ = some (.string (l.getD j (0, ByteArray.empty)).2)

set_option maxHeartbeats 2000000 in
theorem back1_in (F : Fence) (n : Nat) (h7 : F.fn 60) (hro : F.round = none) (hn : 1 ≤ n) (l Bs n₀ b cap : Nat) (zs : List (Int × ByteArray)) (hreach : zs.length ≤ 1000000000) (hb : b < n₀) (J Jx : List (Nat × (Int × ByteArray)) → World → Prop)
    (hY : ∀ pre x W, J pre W → pre.length < zs.length → YieldAt F (n - 1) Tryz.prog l (bkEnc x) W fun e W' =>
      (e = .returned (.bool true) ∧ J (pre ++ [x]) W' ∧ Below n₀ W W') ∨ (e = .returned (.bool false) ∧ Jx (pre ++ [x]) W'))
    (W : World) (hBs : W.cell? ⟨Bs, 0, none⟩ = some (.slice (some ⟨b, 0, none⟩) zs.length cap)) (hBn : Bs < n₀) (hc : WrCells W b zs) (h0 : J [] W) :
    CallsIn F n Tryz.prog 60 #[.func (.yield l) #[] #[], .pointer (some ⟨Bs, 0, none⟩)] W fun e W' => (∃ v, e = .returned v) ∧
      ((∃ ys, ys = upto (bk zs) zs.length ∧ J ys W') ∨ (∃ pre, (∃ k, k ≤ zs.length ∧ pre = upto (bk zs) k) ∧ Jx pre W')) := by
  refine callsIn_of_wp Tryz.func60 rfl h7 ?_ hro
  simp only [Tryz.ntmps60, List.size_toArray, List.length_cons, List.length_nil, Nat.reduceAdd, Nat.reduceSub, Array.replicate_succ, Array.replicate_zero, List.push_toArray, List.append_toArray, List.nil_append, List.cons_append]
  gi_wp2
  gi_loopw [3] (fun i wr => ∃ k : Nat, k ≤ zs.length ∧ i = .int .i64 ((zs.length : Int) - 1 - k) ∧ J (upto (bk zs) k) wr ∧ Below n₀ W wr)
    (fun i _ => (intOf i + 1).toNat)
  case atStart => exact ⟨0, Nat.zero_le _, by simp, h0, Below.refl _ _⟩
  case round =>
    obtain ⟨k, hk, rfl, hJs, hnx⟩ := hrel
    have hBs' := (hnx.cell (p := ⟨Bs, 0, none⟩) hBn).trans hBs
    by_cases hlt : k < zs.length
    · obtain ⟨j, hj⟩ : ∃ j : Nat, (zs.length : Int) - 1 - k = j := ⟨zs.length - 1 - k, by omega⟩
      have hjl : j < zs.length := by omega
      have hc0 := (hnx.cell (p := ⟨b, j * 2, none⟩) hb).trans (hc j hjl).1
      have hc1 := (hnx.cell (p := ⟨b, j * 2 + 1, none⟩) hb).trans (hc j hjl).2
      have hbk : bk zs k = (j, zs.getD j (0, ByteArray.empty)) := by unfold bk; rw [show zs.length - 1 - k = j from by omega]
      have hst : upto (bk zs) (k + 1) = upto (bk zs) k ++ [(j, zs.getD j (0, ByteArray.empty))] := by rw [upto_succ, hbk]
      have hnext : (zs.length : Int) - 1 - (k + 1 : Nat) = (j : Int) - 1 := by omega
      obtain ⟨fn, tmps, assign, body, hy, hR⟩ := hY _ (j, zs.getD j (0, ByteArray.empty)) wr hJs (by rw [upto_length]; exact hlt)
      rw [hj]
      generalize hz : zs.getD j (0, ByteArray.empty) = z at *
      obtain ⟨zp, zr⟩ := z
      simp only [bkEnc] at hy
      dsimp only at hc0 hc1
      have HST := Lib.hid hst
      have HN := Lib.hid hnext
      have hjl' : (j : Int) < zs.length := by omega
      clear hst hbk hz hnext hj hk hlt
      gi_wp2
      refine hR.mono ?_
      rintro e W3 (⟨rfl, hJ3, hk3⟩ | ⟨rfl, hJx3⟩)
      · gi_wp2
        go_roundw
        case rel => exact ⟨k + 1, by have := HN.out; omega, by rw [HN.out], by rw [HST.out]; exact hJ3, hnx.trans hk3⟩
        case measure => simp [intOf]
      · gi_wp2
        refine bodyPost_ret (results_none rfl _ _ _) rfl ?_
        exact ⟨⟨_, rfl⟩, .inr ⟨_, ⟨k + 1, by have := HN.out; omega, HST.out.symm⟩, hJx3⟩⟩
    · have hkl : k = zs.length := by omega
      have hm : (zs.length : Int) - 1 - k = -1 := by omega
      rw [hm]
      rw [hkl] at hJs
      clear hm
      gi_wp2
      go_end0
      exact ⟨⟨_, rfl⟩, .inl ⟨_, rfl, hJs⟩⟩

set_option maxHeartbeats 1000000 in
/-- at the nil slice: no round -/
theorem back1_nil_in (F : Fence) (n : Nat) (h7 : F.fn 60) (hro : F.round = none) (l Bs : Nat) (J : List (Nat × (Int × ByteArray)) → World → Prop) (W : World) (hBs : W.cell? ⟨Bs, 0, none⟩ = some (.slice none 0 0)) (h0 : J [] W) :
    CallsIn F n Tryz.prog 60 #[.func (.yield l) #[] #[], .pointer (some ⟨Bs, 0, none⟩)] W fun e W' => (∃ v, e = .returned v) ∧ J [] W' := by
  refine callsIn_of_wp Tryz.func60 rfl h7 ?_ hro
  simp only [Tryz.ntmps60, List.size_toArray, List.length_cons, List.length_nil, Nat.reduceAdd, Nat.reduceSub, Array.replicate_succ, Array.replicate_zero, List.push_toArray, List.append_toArray, List.nil_append, List.cons_append]
  gi_wp2
  gi_loopw [3] (fun i wr => i = .int .i64 (-1) ∧ J [] wr) (fun _ _ => 0)
  case atStart => exact ⟨rfl, h0⟩
  case round =>
    obtain ⟨rfl, hJs⟩ := hrel
    gi_wp2
    go_end0
    exact ⟨⟨_, rfl⟩, hJs⟩

set_option maxHeartbeats 1000000 in
theorem back_in (F : Fence) (n : Nat) (h5 : F.fn 38) (hro : F.round = none) (a : Option Addr) (len cap : Nat) (w : World) :
    CallsIn F n Tryz.prog 38 #[.slice a len cap] w fun e w' => e = .returned (.func (.func 60) #[] #[.pointer (some ⟨w.heap.size, 0, none⟩)]) ∧ w' = w.alloc (.cells #[.slice a len cap] 50) := by
  refine callsIn_of_wp Tryz.func38 rfl h5 ?_ hro
  simp only [Tryz.ntmps38, List.size_toArray, List.length_cons, List.length_nil, Nat.reduceAdd, Nat.reduceSub, Array.replicate_succ, Array.replicate_zero, List.push_toArray, List.append_toArray, List.nil_append, List.cons_append]
  gi_wp2
  go_ret
  exact ⟨rfl, rfl⟩

/-- The slice value sv holds these writes, in a block below n₀; or it is nil and there are none. -/
def WrIs (n₀ : Nat) (W : World) (sv : Value) (zs : List (Int × ByteArray)) : Prop :=
  (sv = .slice none 0 0 ∧ zs = []) ∨ ∃ b cap, sv = .slice (some ⟨b, 0, none⟩) zs.length cap ∧ b < n₀ ∧ WrCells W b zs
theorem WrIs.below {n₀ : Nat} {A B : World} (h : Below n₀ A B) {sv : Value} {zs : List (Int × ByteArray)} : WrIs n₀ A sv zs → WrIs n₀ B sv zs
  | .inl e => .inl e
  | .inr ⟨b, cap, e, hb, hc⟩ => .inr ⟨b, cap, e, hb, fun j hj => ⟨(h.cell (p := ⟨b, j * 2, none⟩) hb).trans (hc j hj).1, (h.cell (p := ⟨b, j * 2 + 1, none⟩) hb).trans (hc j hj).2⟩⟩

/-- **slices.Backward hands back a value that gives all writes, the last one first; or the first k of them.** -/
theorem back_stops (F : Fence) (n : Nat) (h8 : F.fn 60) (hro : F.round = none) (hn : 1 ≤ n) (Bs n₀ : Nat) (sv : Value) (zs : List (Int × ByteArray)) (hreach : zs.length ≤ 1000000000) (w : World) (hBs : Bs < n₀) (hn₀ : n₀ ≤ w.heap.size)
    (hc : w.cell? ⟨Bs, 0, none⟩ = some sv) (hI : WrIs n₀ w sv zs) :
    SeqStopsK F n Tryz.prog 60 #[.pointer (some ⟨Bs, 0, none⟩)] bkEnc (Below n₀) (fun ys => ys = upto (bk zs) zs.length)
      (fun pre => ∃ k, k ≤ zs.length ∧ pre = upto (bk zs) k) zs.length w := fun l J Jx W hW _ _ hY h0 => by
  have hc' := (hW.cell (p := ⟨Bs, 0, none⟩) (by simpa using Nat.lt_of_lt_of_le hBs hn₀)).trans hc
  rcases hI.below (hW.mono hn₀) with ⟨rfl, rfl⟩ | ⟨b, cap, rfl, hb, hcs⟩
  · exact (back1_nil_in F n h8 hro l Bs J W hc' h0).mono fun e W' ⟨he, hj⟩ => ⟨he, .inl ⟨_, rfl, hj⟩⟩
  · exact back1_in F n h8 hro hn l Bs n₀ b cap zs hreach hb J Jx hY W hc' hBs hcs h0

/-- the cells of the writes -/
theorem wr_is {w : World} {v : Value} {l : List (Int × ByteArray)} {base : Nat} {e : TypeId} (h : w.ownsRow base e 2 v l.length (wcells l)) : WrIs w.heap.size w v l := by
  have hlt := h.lt
  rcases h.2 with ⟨rfl, hn⟩ | ⟨g, cap, cur, rfl, _, hg, _, _, _, htake⟩
  · exact .inl ⟨rfl, List.eq_nil_of_length_eq_zero hn⟩
  · refine .inr ⟨g, cap, rfl, lt_of_block hg, fun j hj => ?_⟩
    have hget : ∀ (l : List (Int × ByteArray)) (j : Nat), j < l.length → (wcells l)[j * 2]? = some (.int .i64 (l.getD j (0, ByteArray.empty)).1) ∧ (wcells l)[j * 2 + 1]? = some (.string (l.getD j (0, ByteArray.empty)).2) := by
      intro l
      induction l with
      | nil => intro j hj; simp at hj
      | cons p r ih =>
        intro j hj
        cases j with
        | zero => simp [wcells]
        | succ j =>
          have := ih j (by simpa using hj)
          have e1 : (j + 1) * 2 = j * 2 + 2 := by omega
          rw [e1]
          simpa [wcells] using this
    have hcell : ∀ i u, (wcells l)[i]? = some u → w.cell? ⟨g, i, none⟩ = some u := by
      intro i u hu
      have := h.cells (g := g) rfl i u hu
      have e : (⟨g, 0, none⟩ : Addr).add i = ⟨g, i, none⟩ := by unfold Addr.add; split <;> simp_all
      rwa [e] at this
    exact ⟨hcell _ _ (hget l j hj).1, hcell _ _ (hget l j hj).2⟩
end Go.Proofs.YtniijkcncpabaaaGreat
