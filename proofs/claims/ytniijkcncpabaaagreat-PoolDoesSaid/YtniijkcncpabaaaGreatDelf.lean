/- Contract of slices.DeleteFunc at []int. -/
import Derived.Test.YtniijkcncpabaaaGreatSlices
namespace Go.Proofs.YtniijkcncpabaaaGreat
open Go.RowKit Go.MapKept
set_option maxRecDepth 100000
set_option maxHeartbeats 400000

/-- the row behind some stores -/
theorem at_setCells {e : TypeId} {f : Nat × Nat} (b : Nat) : ∀ (vs : List Value) (o : Nat) (w : World) (cs : Array Value), w.heap[b]? = some (.cells cs e f) →
    ∃ cs' : Array Value, (w.setCells b o vs).heap[b]? = some (.cells cs' e f) ∧ cs'.size = cs.size ∧ ∀ t, t < o → cs'[t]? = cs[t]?
  | [], o, w, cs, h => ⟨cs, h, rfl, fun _ _ => rfl⟩
  | v :: r, o, w, cs, h => by
    obtain ⟨cs', h1, h2, h3⟩ := at_setCells b r (o + 1) (w.setCell ⟨b, o, none⟩ v) _ (at_setCell h o v)
    refine ⟨cs', h1, by simpa using h2, fun t ht => ?_⟩
    rw [h3 t (by omega), Array.getElem?_setIfInBounds]
    rw [if_neg (by omega)]
/-- 'clear(s)' of ints -/
theorem run_clear_ints {P : Program} {t e ty : TypeId} (ht : P.underlying t = some (.slice e)) (hz : ∀ w, (zeroValue e).run P w = .ok (.int .i64 0) w) (w : World) (b o m c : Nat) (hm : 0 < m) (hc : ∀ j, j < m → (w.cell? ⟨b, o + j, none⟩).isSome = true) (hf : ∀ j, j < m → w.frozen? ⟨b, o + j, none⟩ = false) :
    (Builtin.clear_ #[t] ty #[.slice (some ⟨b, o, none⟩) m c]).run P w = .ok (.tuple #[]) (w.setCells b o (List.replicate m (.int .i64 0))) := by
  have hst := run_storeCells_cells (P := P) b o (List.replicate m (.int .i64 0)) 0 w (by simpa using hc) (by simpa using hf) (fun v hv => by rw [List.eq_of_mem_replicate hv]; rfl)
  have hzc : (Builtin.zeroCells (Value.int .i64 0).cells m).toList = List.replicate m (.int .i64 0) := by
    apply List.ext_getElem?
    intro i
    simp [Builtin.zeroCells, Value.cells, List.getElem?_replicate]
    by_cases h : i < m <;> simp [h, Nat.mod_one]
  obtain ⟨k, rfl⟩ : ∃ k, m = k + 1 := ⟨m - 1, by omega⟩
  simp only [Builtin.clear_]
  simp [run_underlying ht, hz, hzc, hst]

/-- the closure gives q, whatever becomes of the blocks of S -/
def PredOver (S : Nat → Prop) (g : Nat) (c : Value) (q : Int → Bool) (l : List Int) (w : World) : Prop :=
  ∀ x ∈ l, ∀ w', Chg S w w' → Calls Tryz.prog g #[.int .i64 x, c] w' fun e w'' => e = .returned (.bool (q x)) ∧ Chg No w' w''

def kept (q : Int → Bool) (l : List Int) : List Int := l.filter fun x => !q x
theorem kept_snoc_no {q : Int → Bool} {l : List Int} {j : Nat} (hj : j < l.length) (h : q l[j] = true) : kept q (l.take (j + 1)) = kept q (l.take j) := by
  rw [List.take_succ_eq_append_getElem hj, kept, List.filter_append]; simp [h, kept]
theorem kept_snoc_yes {q : Int → Bool} {l : List Int} {j : Nat} (hj : j < l.length) (h : q l[j] = false) : kept q (l.take (j + 1)) = kept q (l.take j) ++ [l[j]] := by
  rw [List.take_succ_eq_append_getElem hj, kept, List.filter_append]; simp [h, kept]
theorem kept_len (q : Int → Bool) (l : List Int) (j : Nat) : (kept q (l.take j)).length ≤ j := by
  have h1 := List.length_filter_le (fun x => !q x) (l.take j)
  have h2 := List.length_take_le j l
  unfold kept; omega
/-- the row while it is gone through: F stands ahead, what is to come stands where it stood -/
structure Mid (q : Int → Bool) (l : List Int) (cap i j : Nat) (cs : Array Value) : Prop where
  size : cs.size = cap
  at_ : i = (kept q (l.take j)).length
  head : ∀ t, (h : t < (kept q (l.take j)).length) → cs[t]? = some (.int .i64 (kept q (l.take j))[t])
  rest : ∀ t, (h : t < l.length) → j ≤ t → cs[t]? = some (.int .i64 l[t])
theorem Mid.skip {q : Int → Bool} {l : List Int} {cap i j : Nat} {cs : Array Value} (h : Mid q l cap i j cs) (hj : j < l.length) (hq : q l[j] = true) : Mid q l cap i (j + 1) cs := by
  have e := kept_snoc_no hj hq
  exact ⟨h.size, by rw [e]; exact h.at_, by rw [e]; exact h.head, fun t ht hjt => h.rest t ht (by omega)⟩
theorem Mid.move {q : Int → Bool} {l : List Int} {cap i j : Nat} {cs : Array Value} (h : Mid q l cap i j cs) (hj : j < l.length) (hcap : l.length ≤ cap) (hq : q l[j] = false) : Mid q l cap (i + 1) (j + 1) (cs.setIfInBounds i (.int .i64 l[j])) := by
  have e := kept_snoc_yes hj hq
  have hi := h.at_
  have hl := kept_len q l j
  refine ⟨by simpa using h.size, by rw [e, List.length_append, ← hi]; rfl, ?_, fun t ht hjt => ?_⟩
  · rw [e]
    intro t ht
    rw [Array.getElem?_setIfInBounds]
    by_cases hti : i = t
    · rw [if_pos hti, if_pos (by rw [h.size]; omega)]
      subst hti
      rw [List.getElem_append_right (by omega)]
      simp [hi]
    · rw [if_neg hti]
      rw [List.length_append] at ht
      have ht' : t < (kept q (l.take j)).length := by simp at ht; omega
      rw [List.getElem_append_left ht']
      exact h.head t ht'
  · rw [Array.getElem?_setIfInBounds, if_neg (by omega)]
    exact h.rest t ht (by omega)

theorem zero3 (w : World) : (zeroValue 3).run Tryz.prog w = .ok (.int .i64 0) w := by kernel_rfl
theorem deleteFunc_ok {w : World} {v : Value} {l : List Int} (hv : IntRow w v l) (g : Nat) (c : Value) (q : Int → Bool) (heg : ∀ args w, (callFunc g args).run Tryz.prog w = .ok (.enter g args) w) (hp : PredOver (fun k => v.ownBlock = some k) g c q l w) (hlen : l.length ≤ 1000000000) :
    Calls Tryz.prog 35 #[v, .func (.func g) #[] #[c]] w fun e w' => ∃ v', e = .returned v' ∧ IntRow w' v' (kept q l) ∧ Chg (fun k => v.ownBlock = some k) w w' ∧ v'.ownBlock = v.ownBlock := by
  have hix := indexFunc_ok hv g c q heg (fun x hx w' hw => hp x hx w' hw.ofNo) hlen
  rcases hv.2 with ⟨rfl, hn⟩ | ⟨b, cap, cur, rfl, _, hb, hnc, hcm, hcs, htake⟩
  · have : l = [] := List.eq_nil_of_length_eq_zero hn
    subst this
    rw [show idxI q [] = -1 from rfl] at hix
    have HX := Lib.hid hix
    clear hix hv hp heg
    go_enter Tryz.func35, Tryz.ntmps35
    go_wp2_with fail
    refine HX.out.mono ?_
    rintro e w' ⟨rfl, hch⟩
    go_wp2
    go_ret
    exact ⟨_, rfl, World.ownsRow_nil _ _ _ _, hch.ofNo, rfl⟩
  · have HX := Lib.hid hix
    have HV := Lib.hid hv
    have HP := Lib.hid hp
    clear hix hv hp
    go_enter Tryz.func35, Tryz.ntmps35
    go_wp2_with fail
    refine HX.out.mono ?_
    rintro e w1 ⟨rfl, hch1⟩
    cases hf : l.findIdx? q with
    | none =>
      have hk : kept q l = l := by
        rw [kept, List.filter_eq_self]
        intro x hx
        have := List.findIdx?_eq_none_iff.1 hf x hx
        simp [this]
      rw [show idxI q l = -1 from by rw [idxI, hf]]
      have HK := Lib.hid hk
      clear hk hf
      go_wp2
      go_ret
      exact ⟨_, rfl, by rw [HK.out]; exact hch1.row HV.out (fun _ _ h => h), hch1.ofNo, rfl⟩
    | some k0 =>
      obtain ⟨hk0, hq0, hall⟩ := List.findIdx?_eq_some_iff_getElem.1 hf
      rw [show idxI q l = (k0 : Int) from by rw [idxI, hf]]
      have hm0 : Mid q l cap k0 (k0 + 1) cur := by
        have e1 : kept q (l.take k0) = l.take k0 := by
          rw [kept, List.filter_eq_self]
          intro x hx
          obtain ⟨j, hj, rfl⟩ := List.getElem_of_mem hx
          have hj' : j < k0 := by simp at hj; omega
          have := hall j hj'
          simp only [List.getElem_take, Bool.not_eq_true] at this ⊢
          simp [this]
        have e2 := kept_snoc_no hk0 hq0
        have hcell : ∀ t, (h : t < l.length) → cur[t]? = some (.int .i64 l[t]) := fun t ht => by
          have := row_cell HV.out t ht
          simpa [World.cell?, hb] using this
        refine ⟨by simpa using hcs, by rw [e2, e1]; simp; omega, ?_, fun t ht _ => hcell t ht⟩
        rw [e2, e1]
        intro t ht
        simp at ht
        rw [hcell t (by omega)]; simp
      have HM := Lib.hid hm0
      have hb1 := hch1.at hb (fun h => h)
      have HC1 := Lib.hid hch1
      have hk1 : ((k0 : Int) == -1) = false := by simp
      clear hm0 hall hq0 hf hb htake hch1
      go_wp2
      go_loopw [5, 6] (fun si sj wr => ∃ (i j : Nat) (cs : Array Value), si = .int .i64 i ∧ sj = .int .i64 j ∧ i < j ∧ j ≤ l.length ∧ wr.heap[b]? = some (.cells cs 3 (0, 0)) ∧ Mid q l cap i j cs ∧ Chg (· = b) w wr) (fun _ sj _ => l.length - (intOf sj).toNat)
      case atStart => exact ⟨k0, k0 + 1, cur, rfl, by go_num, by omega, by omega, hb1, HM.out, HC1.out.ofNo⟩
      case round =>
        obtain ⟨i, j, cs, rfl, rfl, hij, hjn, hbr, hmid, hch⟩ := hrel
        clear hb1
        have hsz := hmid.size
        by_cases hlt : j < l.length
        · have hcj := cell_at hbr j (hmid.rest j hlt (Nat.le_refl _))
          have hcall := HP.out l[j] (List.getElem_mem _) wr (hch.mono fun k _ e => by simp [Value.ownBlock, e])
          have HMs := Lib.hid (fun h => hmid.skip hlt h)
          have HMm := Lib.hid (fun h => hmid.move hlt hnc h)
          generalize l[j] = x at *
          have HC := Lib.hid hcall
          clear hcall hmid
          go_wp2_with fail
          refine HC.out.mono ?_
          rintro e w2 ⟨rfl, hch2⟩
          have hb2 := hch2.at hbr (fun h => h)
          cases hqx : q x with
          | true =>
            have HF := Lib.hid (HMs.out hqx)
            clear HMs HMm hqx
            go_wp2
            go_roundw
            case rel => exact ⟨i, j + 1, cs, rfl, by go_num, by omega, by omega, hb2, HF.out, hch.thenNo hch2⟩
            case measure => simp [intOf]; omega
          | false =>
            have HF := Lib.hid (HMm.out hqx)
            clear HMs HMm hqx
            have hci := cell_at hb2 i (v := cs[i]'(by omega)) (by rw [Array.getElem?_eq_getElem])
            have hfi := free_at hb2 i
            have HS := Lib.hid (at_setCell hb2 i (.int .i64 x))
            have HCh := Lib.hid ((hch.thenNo hch2).then (chg_setCell w2 b i (.int .i64 x)))
            generalize cs[i]'(by omega) = old at hci
            clear hb2 hbr hch hch2 hcj
            go_wp2
            go_roundw
            case rel => exact ⟨i + 1, j + 1, _, by go_num, by go_num, by omega, by omega, HS.out, HF.out, HCh.out⟩
            case measure => simp [intOf]; omega
        · have hje : j = l.length := by omega
          subst hje
          have hfz : ∀ t, t < l.length - i → wr.frozen? ⟨b, i + t, none⟩ = false := fun t _ => free_at hbr _
          have hcl : ∀ t, t < l.length - i → (wr.cell? ⟨b, i + t, none⟩).isSome = true := fun t ht => by
            rw [cell_at hbr (i + t) (v := cs[i + t]'(by omega)) (by rw [Array.getElem?_eq_getElem])]; rfl
          have hclr := run_clear_ints (P := Tryz.prog) (t := 42) (ty := 0) Tryz.underlying42 zero3 wr b i (l.length - i) (cap - i) (by omega) hcl hfz
          obtain ⟨cs', hb', hs', hh'⟩ := at_setCells b (List.replicate (l.length - i) (.int .i64 0)) i wr cs hbr
          have hchs := hch.then (chg_setCells b (List.replicate (l.length - i) (.int .i64 0)) i wr)
          have hkl : kept q l = kept q (l.take l.length) := by rw [List.take_length]
          have hil : i = (kept q l).length := by rw [hkl]; exact hmid.at_
          have hrow : ∀ W : World, W.heap[b]? = some (.cells cs' 3 (0, 0)) → IntRow W (.slice (some ⟨b, 0, none⟩) i cap) (kept q l) := fun W hW => by
            refine ⟨by simp [ints], .inr ⟨b, cap, cs', by rw [hil], Nat.zero_le _, hW, by omega, hcm, by rw [hs', hsz, Nat.mul_one], ?_⟩⟩
            rw [Nat.mul_one]
            apply List.ext_getElem?
            intro t
            rw [List.getElem?_take]
            by_cases ht : t < (kept q l).length
            · rw [if_pos ht, Array.getElem?_toList, hh' t (by omega), hmid.head t (by rw [← hkl]; exact ht)]
              simp [ints, ht, ← hkl]
            · rw [if_neg ht, List.getElem?_eq_none (by simpa [ints] using ht)]
          have hne : ¬ cap = i := by omega
          generalize wr.setCells b i (List.replicate (l.length - i) (.int .i64 0)) = w3 at *
          have HR := Lib.hid (hrow w3 hb')
          have HC := Lib.hid hchs
          have hin : i ≤ l.length := by omega
          clear hrow hfz hcl hb' hchs hh' hs' hbr hch hmid hkl hil hlt hjn
          go_wp2
          go_ret
          exact ⟨_, rfl, HR.out, HC.out.mono fun k _ e => by simp [Value.ownBlock, e], rfl⟩
end Go.Proofs.YtniijkcncpabaaaGreat
