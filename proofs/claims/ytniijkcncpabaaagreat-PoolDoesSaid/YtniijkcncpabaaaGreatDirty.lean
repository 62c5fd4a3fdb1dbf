/- The pool: Dirty, Least. -/
import Derived.Test.YtniijkcncpabaaaGreatPages
import Derived.Test.YtniijkcncpabaaaGreatDelf
import Derived.Test.YtniijkcncpabaaaGreatPoolF
namespace Go.Proofs.YtniijkcncpabaaaGreat
open Go.RowKit Go.MapKept
set_option maxRecDepth 100000
set_option maxHeartbeats 1000000

def dirtyB (σ : Pool) (k : Int) : Bool := match aget σ.L k with
  | some p => p.dirty
  | none => false
theorem dirty1_ok {w : World} {bp : Nat} {x : Locs} {σ : Pool} (h : PoolIs w bp x σ) (c : Nat) (hc : w.cell? ⟨c, 0, none⟩ = some (ptrB bp)) (k : Int) (p : Pl) (hg : aget σ.L k = some p) :
    Calls Tryz.prog 36 #[.int .i64 k, ptrB c] w fun e w' => e = .returned (.bool (!dirtyB σ k)) ∧ Chg No w w' := by
  have c2 := cell_at h.self 2 (v := .map (some x.bm)) rfl
  have hlk := h.look k
  simp only [hg, Option.map_some, Option.getD_some] at hlk
  have d2 := cell_at (h.place k p hg) 2 (v := .bool p.dirty) rfl
  have hd : dirtyB σ k = p.dirty := by rw [dirtyB, hg]
  rw [hd]
  clear h hg hd
  simp only [ptrB] at *
  go_enter Tryz.func36, Tryz.ntmps36
  go_wp2
  go_ret
  exact ⟨rfl, Chg.refl _ _⟩
def dirtyL (σ : Pool) : List Int := kept (fun k => !dirtyB σ k) (sortI (keys σ.L))
theorem dirty_ok {w : World} {bp bd : Nat} {S : Nat → Prop} {σ : Pool} (h : PoolAt w bp bd S σ) (hlen : σ.L.length ≤ 1000) (hk : ∀ n ∈ keys σ.L, 0 ≤ n ∧ n ≤ 1000000000000) :
    Calls Tryz.prog 14 #[ptrB bp] w fun e w' => ∃ v, e = .returned v ∧ IntRow w' v (dirtyL σ) ∧ Chg No w w' ∧ ∀ b, v.ownBlock = some b → w.heap.size ≤ b := by
  obtain ⟨x, rfl, h, hS⟩ := h
  have hch0 : Chg No w (w.alloc (.cells #[ptrB bp] 30)) := (Chg.refl _ _).alloc _
  have h0 := h.no hch0
  have hbox := cell_at (MapKept.heap_alloc w (.cells #[ptrB bp] 30)).1 0 (v := ptrB bp) rfl
  have HPG := Lib.hid (pages_ok ⟨x, rfl, h0, hS⟩ (by omega) hk)
  have hll : (sortI (keys σ.L)).length ≤ 1000 := by rw [sortI_len]; simpa [keys] using hlen
  have HSM := Lib.hid (fun y => (sortI_mem (l := keys σ.L) (x := y)).1)
  have hdl : dirtyL σ = kept (fun k => !dirtyB σ k) (sortI (keys σ.L)) := rfl
  rw [hdl]
  generalize sortI (keys σ.L) = l at *
  have H0 := Lib.hid h0
  have HC0 := Lib.hid hch0
  clear h h0 hS hk hch0 hdl
  simp only [ptrB] at *
  go_enter Tryz.func14, Tryz.ntmps14
  go_wp2_with fail
  refine HPG.out.mono ?_
  rintro e w1 ⟨v, rfl, hrow, hch1⟩
  have hsz0 : (w.alloc (.cells #[Value.pointer (some ⟨bp, 0, none⟩)] 30)).heap.size = w.heap.size + 1 := by simp
  have hvb : ∀ b, v.ownBlock = some b → w.heap.size + 1 ≤ b := fun b hb => by
    rw [← hsz0]; exact (hrow.lt b hb).1
  have hr0 : IntRow w1 v l := ownsRow_base_a hrow (Nat.zero_le _)
  have HD := Lib.hid (deleteFunc_ok hr0 36 (ptrB w.heap.size) (fun k => !dirtyB σ k) (enters_of Tryz.func36 (by kernel_rfl) rfl)
    (fun k hk w' hw => by
      obtain ⟨p, hp⟩ := aget_isSome.2 (HSM.out k hk)
      have h1 := H0.out.no hch1
      refine dirty1_ok (h1.chg hw (fun b hb e => ?_)) w.heap.size (hw.cell (hch1.cell hbox (fun e => e)) (fun e => ?_)) k p hp
      · have := hvb b e; have := Own.lt H0.out hb; rw [← hsz0] at *; omega
      · have := hvb _ e; simp only at this; omega) (by omega))
  have HCC : Hid (Chg No w w1) := Lib.hid (HC0.out.then hch1)
  have HV := Lib.hid hvb
  clear hr0 hrow hch1 hbox hsz0 hvb
  simp only [ptrB] at HD
  go_wp2_with fail
  refine HD.out.mono ?_
  rintro e w2 ⟨v', rfl, hrow, hch2, hown⟩
  have HR := Lib.hid hrow
  have HC2 : Hid (Chg No w w2) := Lib.hid (HCC.out.trans hch2 fun b hb e => by have := HV.out b e; omega)
  have HO : Hid (∀ b, v'.ownBlock = some b → w.heap.size ≤ b) := Lib.hid fun b hb => by have := HV.out b (hown ▸ hb); omega
  clear hrow hch2 hown
  go_wp2
  go_ret
  exact ⟨_, rfl, HR.out, HC2.out, HO.out⟩
def firstOf (σ : Pool) (k : Int) : Int := match aget σ.L k with
  | some p => p.first
  | none => 0
def leastFrom (σ : Pool) (n : Int) (l : List Int) : Int := l.foldl (fun n k => min n (firstOf σ k)) n
theorem leastFrom_snoc (σ : Pool) (n : Int) (l : List Int) (k : Int) : leastFrom σ n (l ++ [k]) = min (leastFrom σ n l) (firstOf σ k) := by simp [leastFrom]
def leastOf (σ : Pool) : Int × Bool := match dirtyL σ with
  | [] => (0, false)
  | k :: r => (leastFrom σ (firstOf σ k) (k :: r), true)
theorem dirtyL_mem {σ : Pool} {k : Int} (h : k ∈ dirtyL σ) : k ∈ keys σ.L := by
  unfold dirtyL kept at h
  exact sortI_mem.1 (List.mem_filter.1 h).1
theorem least_ok {w : World} {bp bd : Nat} {S : Nat → Prop} {σ : Pool} (h : PoolAt w bp bd S σ) (hlen : σ.L.length ≤ 1000) (hk : ∀ n ∈ keys σ.L, 0 ≤ n ∧ n ≤ 1000000000000) :
    Calls Tryz.prog 9 #[ptrB bp] w fun e w' => e = .returned (.tuple #[.int .i64 (leastOf σ).1, .bool (leastOf σ).2]) ∧ Chg No w w' := by
  have HD := Lib.hid (dirty_ok h hlen hk)
  have hmem : ∀ k ∈ dirtyL σ, ∃ p, aget σ.L k = some p := fun k hk => aget_isSome.2 (dirtyL_mem hk)
  have hle : (dirtyL σ).length ≤ 1000 := by
    have h1 : (dirtyL σ).length ≤ (sortI (keys σ.L)).length := List.length_filter_le _ _
    rw [sortI_len] at h1
    have : (keys σ.L).length = σ.L.length := by simp [keys]
    omega
  obtain ⟨x, rfl, h, hS⟩ := h
  have HM := Lib.hid hmem
  have hl0 : leastOf σ = match dirtyL σ with | [] => (0, false) | k :: r => (leastFrom σ (firstOf σ k) (k :: r), true) := rfl
  generalize dirtyL σ = l at *
  have H := Lib.hid h
  clear h hS hk hmem
  simp only [ptrB] at *
  rw [hl0]
  clear hl0
  go_enter Tryz.func9, Tryz.ntmps9
  go_wp2_with fail
  refine HD.out.mono ?_
  rintro e w1 ⟨v, rfl, hrow, hch1, _⟩
  have HR := Lib.hid hrow
  have H1 := Lib.hid (H.out.no hch1)
  have HC1 := Lib.hid hch1
  rcases hrow.2 with ⟨rfl, hn0⟩ | ⟨b, cap, cur, rfl, _, _, _⟩
  · have : l = [] := List.eq_nil_of_length_eq_zero hn0
    subst this
    clear hrow hch1
    go_wp2
    go_ret2
    exact ⟨rfl, HC1.out⟩
  · cases l with
    | nil =>
      clear hrow hch1
      go_wp2
      go_ret2
      exact ⟨rfl, HC1.out⟩
    | cons k0 r =>
      obtain ⟨p0, hp0⟩ := HM.out k0 (List.mem_cons_self ..)
      have c0 := row_cell HR.out 0 (by simp)
      simp only [List.getElem_cons_zero] at c0
      have c2 := cell_at H1.out.self 2 (v := .map (some x.bm)) rfl
      have hlk := fun nq => (H1.out.no ((Chg.refl No _).drewN nq)).look k0
      simp only [hp0, Option.map_some, Option.getD_some, ptrB] at hlk
      have d3 := cell_at (H1.out.place k0 p0 hp0) 3 (v := .int .i64 p0.first) rfl
      have HF0 : Hid (firstOf σ k0 = p0.first) := Lib.hid (by rw [firstOf, hp0])
      have hl1 : ((k0 :: r).length : Int) ≠ 0 := by simp; omega
      have HCELL : Hid (∀ j, (hj : j < (k0 :: r).length) → ∀ wr, Chg No w1 wr → wr.cell? ⟨b, j, none⟩ = some (.int .i64 (k0 :: r)[j])) := Lib.hid fun j hj wr hw => hw.cell (row_cell HR.out j hj) (fun e => e)
      clear hrow hch1 hp0
      generalize hl : k0 :: r = l at *
      have hlpos : 0 < l.length := by rw [← hl]; simp
      have HEQ := Lib.hid hl
      clear hl
      go_wp2
      go_quiet (fail)
      have HC2 : Hid (Chg No w1 (w1.drewN nq)) := Lib.hid ((Chg.refl No w1).drewN nq)
      generalize w1.drewN nq = w2 at *
      clear c0 c2 hlk d3 hl1
      go_wp2
      go_loopw [5, 26] (fun sn si wr => ∃ k : Nat, k ≤ l.length ∧ si = .int .i64 k ∧ sn = .int .i64 (leastFrom σ p0.first (l.take k)) ∧ Chg No w1 wr) (fun _ si _ => l.length - (intOf si).toNat)
      case atStart => exact ⟨0, by omega, rfl, rfl, HC2.out⟩
      case round =>
        obtain ⟨k, hk, rfl, rfl, hch⟩ := hrel
        by_cases hlt : k < l.length
        · have hcell := HCELL.out k hlt wr hch
          have hsn : leastFrom σ p0.first (l.take (k + 1)) = min (leastFrom σ p0.first (l.take k)) (firstOf σ l[k]) := by rw [List.take_succ_eq_append_getElem hlt, leastFrom_snoc]
          obtain ⟨p, hp⟩ := HM.out l[k] (List.getElem_mem hlt)
          generalize l[k] = q at *
          have hfq : firstOf σ q = p.first := by rw [firstOf, hp]
          rw [hfq] at hsn
          have HSN := Lib.hid hsn
          have h2 := H1.out.no hch
          have e2 := cell_at h2.self 2 (v := .map (some x.bm)) rfl
          have hlk := h2.look q
          simp only [hp, Option.map_some, Option.getD_some, ptrB] at hlk
          have d3 := cell_at (h2.place q p hp) 3 (v := .int .i64 p.first) rfl
          have HCH := Lib.hid hch
          clear h2 hp hfq hsn hch
          generalize leastFrom σ p0.first (l.take k) = m at *
          go_wp2
          all_goals
            go_roundw
            case rel => exact ⟨k + 1, by omega, by go_num, congrArg (Value.int .i64) (by have := HSN.out; omega), HCH.out⟩
            case measure => simp [intOf]; omega
        · have hke : k = l.length := by omega
          subst hke
          have HCH := Lib.hid hch
          rw [List.take_length] at *
          clear hch
          go_wp2
          go_ret2
          refine ⟨?_, HC1.out.then HCH.out⟩
          rw [← HEQ.out]
          simp only [HF0.out]
          rfl
end Go.Proofs.YtniijkcncpabaaaGreat
