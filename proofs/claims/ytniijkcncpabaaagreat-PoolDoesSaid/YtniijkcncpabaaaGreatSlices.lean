/- Contracts of slices.IndexFunc and DeleteFunc at []int, with a closure that captures one value. -/
import Derived.Test.YtniijkcncpabaaaGreatCore
import Derived.Test.YtniijkcncpabaaaGreatProg
namespace Go.Proofs.YtniijkcncpabaaaGreat
open Go.RowKit Go.MapKept
set_option maxRecDepth 100000
set_option maxHeartbeats 400000

/-- ints as values -/
def ints (l : List Int) : List Value := l.map (Value.int .i64)
/-- A slice of ints of its own row. -/
abbrev IntRow (w : World) (v : Value) (l : List Int) : Prop := w.ownsRow 0 3 1 v l.length (ints l)
theorem row_cell {w : World} {g n cap : Nat} {l : List Int} (h : w.ownsRow 0 3 1 (.slice (some ⟨g, 0, none⟩) n cap) l.length (ints l)) (j : Nat) (hj : j < l.length) : w.cell? ⟨g, j, none⟩ = some (.int .i64 l[j]) := by
  have := h.cells (g := g) rfl j (.int .i64 l[j]) (by simp [ints, hj])
  have e : (⟨g, 0, none⟩ : Addr).add j = ⟨g, j, none⟩ := by unfold Addr.add; split <;> simp_all
  rwa [e] at this
/-- where the first one is; -1: nowhere -/
def idxI (q : Int → Bool) (l : List Int) : Int := match l.findIdx? q with | some i => (i : Int) | none => -1
/-- the closure gives q at these numbers -/
def PredOk (g : Nat) (c : Value) (q : Int → Bool) (l : List Int) (w : World) : Prop :=
  ∀ x ∈ l, ∀ w', Chg No w w' → Calls Tryz.prog g #[.int .i64 x, c] w' fun e w'' => e = .returned (.bool (q x)) ∧ Chg No w' w''
theorem PredOk.later {g : Nat} {c : Value} {q : Int → Bool} {l : List Int} {w w1 : World} (h : PredOk g c q l w) (hc : Chg No w w1) : PredOk g c q l w1 := fun x hx w' hw => h x hx w' (hc.then hw)
theorem findIdx_none {q : Int → Bool} {l : List Int} (h : ∀ j, (hj : j < l.length) → q l[j] = false) : idxI q l = -1 := by
  unfold idxI
  rw [List.findIdx?_eq_none_iff.2 (fun x hx => by obtain ⟨j, hj, rfl⟩ := List.getElem_of_mem hx; exact h j hj)]
theorem findIdx_some {q : Int → Bool} {l : List Int} {k : Nat} (hk : k < l.length) (hq : q l[k] = true) (h : ∀ j, (hj : j < k) → q (l[j]'(by omega)) = false) : idxI q l = k := by
  unfold idxI
  rw [List.findIdx?_eq_some_iff_getElem.2 ⟨hk, hq, fun j hj => by simpa using h j hj⟩]

theorem indexFunc_ok {w : World} {v : Value} {l : List Int} (hv : IntRow w v l) (g : Nat) (c : Value) (q : Int → Bool) (heg : ∀ args w, (callFunc g args).run Tryz.prog w = .ok (.enter g args) w) (hp : PredOk g c q l w) (hlen : l.length ≤ 1000000000) :
    Calls Tryz.prog 59 #[v, .func (.func g) #[] #[c]] w fun e w' => e = .returned (.int .i64 (idxI q l)) ∧ Chg No w w' := by
  have hv0 := hv
  rcases hv.2 with ⟨rfl, hn⟩ | ⟨b, cap, cur, rfl, _, _, _⟩
  · have : l = [] := List.eq_nil_of_length_eq_zero hn
    subst this
    clear hv hp hv0 heg
    go_enter Tryz.func59, Tryz.ntmps59
    go_wp2
    refine wp_loop_rounds 1 ?_
    rw [rounds_succ]
    go_wp2
    go_ret
    exact ⟨rfl, Chg.refl _ _⟩
  · have HP := Lib.hid hp
    clear hv hp
    have HV := Lib.hid hv0
    clear hv0
    go_enter Tryz.func59, Tryz.ntmps59
    go_wp2
    go_loopw [8] (fun i wr => ∃ k : Nat, k ≤ l.length ∧ i = .int .i64 k ∧ Chg No w wr ∧ ∀ j, (hj : j < l.length) → j < k → q l[j] = false) (fun i _ => l.length - (intOf i).toNat)
    case atStart => exact ⟨0, by omega, rfl, Chg.refl _ _, fun j _ h => by omega⟩
    case round =>
      obtain ⟨k, hk, rfl, hch, hall⟩ := hrel
      have HA := Lib.hid hall
      clear hall
      by_cases hlt : k < l.length
      · have hc := hch.cell (row_cell HV.out k hlt) (fun h => h)
        have hcall := HP.out l[k] (List.getElem_mem _) wr hch
        have HN := Lib.hid (fun h => findIdx_some (q := q) hlt h (fun j hj => HA.out j (by omega) hj))
        have HA2 : Hid (q l[k] = false → ∀ j, (hj : j < l.length) → j < k + 1 → q l[j] = false) := fun h j hj hjk => by
          rcases Nat.lt_or_ge j k with h' | h'
          · exact HA.out j hj h'
          · have : j = k := by omega
            subst this; exact h
        generalize l[k] = x at *
        have HC := Lib.hid hcall
        clear hcall
        go_wp2_with fail
        refine HC.out.mono ?_
        rintro e w2 ⟨rfl, hch2⟩
        cases hqx : q x with
        | true =>
          have HF := Lib.hid (HN.out hqx)
          clear HA HA2 HN hqx
          go_wp2
          go_ret
          exact ⟨by rw [HF.out]; rfl, hch.then hch2⟩
        | false =>
          have HF := Lib.hid (HA2.out hqx)
          clear HA HA2 HN hqx
          go_wp2
          go_roundw
          case rel => exact ⟨k + 1, by omega, by go_num, hch.then hch2, HF.out⟩
          case measure => simp [intOf]; omega
      · have HF := Lib.hid (findIdx_none (q := q) (l := l) (fun j hj => HA.out j hj (by omega)))
        clear HA
        have hke : k = l.length := by omega
        subst hke
        go_wp2
        go_ret
        exact ⟨by rw [HF.out]; rfl, hch⟩
end Go.Proofs.YtniijkcncpabaaaGreat
