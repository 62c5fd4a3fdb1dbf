/- The pool: Clean. -/
import Derived.Test.YtniijkcncpabaaaGreatPages
import Derived.Test.YtniijkcncpabaaaGreatPin
namespace Go.Proofs.YtniijkcncpabaaaGreat
open Go.RowKit Go.MapKept
set_option maxRecDepth 100000
set_option maxHeartbeats 1000000

def cleanK (σ : Pool) (k : Int) : Pool := match aget σ.L k with
  | some p => if mayB σ p then wrote σ k else σ
  | none => σ
def cleanN (σ : Pool) (k : Int) : Int := match aget σ.L k with
  | some p => if mayB σ p then 1 else 0
  | none => 0
def cleanL : Pool × Int → List Int → Pool × Int
  | s, [] => s
  | s, k :: r => cleanL (cleanK s.1 k, s.2 + cleanN s.1 k) r
theorem cleanL_snoc : ∀ (l : List Int) (s : Pool × Int) (k : Int), cleanL s (l ++ [k]) = (cleanK (cleanL s l).1 k, (cleanL s l).2 + cleanN (cleanL s l).1 k)
  | [], _, _ => rfl
  | _ :: r, s, k => cleanL_snoc r _ k
/-- what a walk over the pages keeps -/
structure Sound (n : Int) (m : Nat) (ks : List Int) (σ : Pool) : Prop where
  keys : keys σ.L = ks
  n : σ.D.n = n
  size : ∀ k p, aget σ.L k = some p → p.s.size ≤ 252
  writes : σ.D.writes.length ≤ m
theorem wrote_sound {n : Int} {m : Nat} {ks : List Int} {σ : Pool} (h : Sound n m ks σ) (k : Int) : Sound n (m + 1) ks (wrote σ k) := by
  have hm := h.writes
  unfold wrote
  cases hg : aget σ.L k with
  | none => exact ⟨h.keys, h.n, h.size, by show σ.D.writes.length ≤ _; omega⟩
  | some p =>
    cases hd : p.dirty with
    | false => simp only [hd, Bool.false_eq_true, if_false]; exact ⟨h.keys, h.n, h.size, by omega⟩
    | true =>
      simp only [hd, if_true]
      refine ⟨(aput_keys (aget_isSome.1 ⟨p, hg⟩)).trans h.keys, h.n, ?_, by simp [Disk.put]; omega⟩
      intro j q hq
      simp only [aget_aput] at hq
      by_cases hj : k = j
      · rw [if_pos hj] at hq; simp only [Option.some.injEq] at hq; subst hq; exact h.size k p hg
      · rw [if_neg hj] at hq; exact h.size j q hq
theorem Sound.up {n : Int} {m : Nat} {ks : List Int} {σ : Pool} (h : Sound n m ks σ) : Sound n (m + 1) ks σ := ⟨h.keys, h.n, h.size, by have := h.writes; omega⟩
theorem cleanK_sound {n : Int} {m : Nat} {ks : List Int} {σ : Pool} (h : Sound n m ks σ) (k : Int) : Sound n (m + 1) ks (cleanK σ k) := by
  unfold cleanK
  split
  · split
    · exact wrote_sound h k
    · exact h.up
  · exact h.up
theorem cleanL_sound {n : Int} {ks : List Int} : ∀ (l : List Int) (s : Pool × Int) (m : Nat), Sound n m ks s.1 → Sound n (m + l.length) ks (cleanL s l).1
  | [], _, _, h => h
  | k :: r, s, m, h => by
    have := cleanL_sound r (cleanK s.1 k, s.2 + cleanN s.1 k) (m + 1) (cleanK_sound h k)
    rw [show m + (k :: r).length = m + 1 + r.length from by simp; omega]
    exact this
theorem cleanN_le (σ : Pool) (k : Int) : 0 ≤ cleanN σ k ∧ cleanN σ k ≤ 1 := by
  unfold cleanN
  split
  · split <;> omega
  · omega
theorem cleanL_num : ∀ (l : List Int) (s : Pool × Int), s.2 ≤ (cleanL s l).2 ∧ (cleanL s l).2 ≤ s.2 + l.length
  | [], s => by simp [cleanL]
  | k :: r, s => by
    have h1 := cleanL_num r (cleanK s.1 k, s.2 + cleanN s.1 k)
    have h2 := cleanN_le s.1 k
    simp only [cleanL, List.length_cons] at h1 ⊢
    constructor
    · omega
    · push_cast; omega
def cleanS (σ : Pool) : Pool × Int := cleanL (σ, 0) (sortI (keys σ.L))

theorem clean_ok {w : World} {bp bd : Nat} {S : Nat → Prop} {σ : Pool} (h : PoolAt w bp bd S σ) (hnew : ∀ k, w.heap.size ≤ k → S k) (n : Int) (hs : Sound n 100000000 (keys σ.L) σ) (hlen : σ.L.length ≤ 1000) (hk : ∀ k ∈ keys σ.L, 0 ≤ k ∧ k < n) (hn : n ≤ 1024) :
    Calls Tryz.prog 30 #[ptrB bp] w fun e w' => e = .returned (.int .i64 (cleanS σ).2) ∧ PoolAt w' bp bd S (cleanS σ).1 ∧ Chg S w w' := by
  have HPG := Lib.hid (pages_ok h (by omega) (fun k hkk => by have := hk k hkk; omega))
  have HS := Lib.hid hs
  have HK := Lib.hid hk
  have HN := Lib.hid hnew
  have hll : (sortI (keys σ.L)).length ≤ 1000 := by rw [sortI_len]; simpa [keys] using hlen
  have HSM := Lib.hid (fun x => (sortI_mem (l := keys σ.L) (x := x)).1)
  obtain ⟨x, rfl, h, hS⟩ := h
  have HL := Lib.hid (fun k (hk : Own bp x σ k) => Own.lt h hk)
  have HP : Hid (∀ w1, Chg No w w1 → w.heap.size ≤ w1.heap.size → PoolAt w1 bp x.bd (fun b => S b ∧ (b < w.heap.size ∨ w1.heap.size ≤ b)) σ) := Lib.hid fun w1 hw _ => ⟨x, rfl, h.no hw, fun b hb => ⟨hS b hb, .inl (HL.out b hb)⟩⟩
  have hcs : cleanS σ = cleanL (σ, 0) (sortI (keys σ.L)) := rfl
  generalize sortI (keys σ.L) = l at *
  clear h hS hnew hs hk
  simp only [ptrB] at *
  rw [hcs]
  clear hcs
  go_enter Tryz.func30, Tryz.ntmps30
  go_wp2_with fail
  refine HPG.out.mono ?_
  rintro e w1 ⟨v, rfl, hrow, hch1⟩
  have HP1 := Lib.hid (HP.out w1 hch1 hch1.size)
  have HC1 := Lib.hid hch1
  have HN1 : Hid (∀ wr, Chg (fun b => S b ∧ (b < w.heap.size ∨ w1.heap.size ≤ b)) w1 wr → ∀ b, wr.heap.size ≤ b → (S b ∧ (b < w.heap.size ∨ w1.heap.size ≤ b))) := Lib.hid fun wr hw b hb => by
    have := hw.size; have := HC1.out.size
    exact ⟨HN.out b (by omega), .inr (by omega)⟩
  have HMONO : Hid (∀ wr, Chg (fun b => S b ∧ (b < w.heap.size ∨ w1.heap.size ≤ b)) w1 wr → Chg S w wr) := Lib.hid fun wr hw => HC1.out.ofNo.trans hw fun b _ e => e.1
  clear HP HL hch1
  rcases hrow.2 with ⟨rfl, hn0⟩ | ⟨b, cap, cur, rfl, hbw, _, _⟩
  · have : l = [] := List.eq_nil_of_length_eq_zero hn0
    subst this
    clear hrow
    go_wp2
    refine wp_loop_rounds 1 ?_
    rw [rounds_succ]
    go_wp2
    go_ret
    exact ⟨rfl, HP1.out.mono (fun b h => h.1), HMONO.out _ (Chg.refl _ _)⟩
  · have HV : Hid (∀ j, (hj : j < l.length) → ∀ wr, Chg (fun b => S b ∧ (b < w.heap.size ∨ w1.heap.size ≤ b)) w1 wr → wr.cell? ⟨b, j, none⟩ = some (.int .i64 l[j])) := Lib.hid fun j hj wr hw => by
      have hlt := own_lt hrow (b := b) rfl
      have hc := hrow.cells (g := b) rfl j (.int .i64 l[j]) (by simp [ints, hj])
      have e : (⟨b, 0, none⟩ : Addr).add j = ⟨b, j, none⟩ := by unfold Addr.add; split <;> simp_all
      rw [e] at hc
      exact hw.cell hc (fun e => by have := e.2; simp only at this; omega)
    clear hrow
    go_wp2
    go_loopw [3, 9] (fun sn si wr => ∃ k : Nat, k ≤ l.length ∧ si = .int .i64 k ∧ sn = .int .i64 (cleanL (σ, 0) (l.take k)).2 ∧ PoolAt wr bp x.bd (fun b => S b ∧ (b < w.heap.size ∨ w1.heap.size ≤ b)) (cleanL (σ, 0) (l.take k)).1 ∧ Chg (fun b => S b ∧ (b < w.heap.size ∨ w1.heap.size ≤ b)) w1 wr) (fun _ si _ => l.length - (intOf si).toNat)
    case atStart => exact ⟨0, by omega, rfl, rfl, HP1.out, Chg.refl _ _⟩
    case round =>
      obtain ⟨k, hk, rfl, rfl, hP, hch⟩ := hrel
      have hnum := cleanL_num (l.take k) (σ, 0)
      have htl := List.length_take_le k l
      have hsd := cleanL_sound (l.take k) (σ, 0) _ HS.out
      by_cases hlt : k < l.length
      · have hcell := HV.out k hlt wr hch
        have hsn : cleanL (σ, 0) (l.take (k + 1)) = (cleanK (cleanL (σ, 0) (l.take k)).1 l[k], (cleanL (σ, 0) (l.take k)).2 + cleanN (cleanL (σ, 0) (l.take k)).1 l[k]) := by rw [List.take_succ_eq_append_getElem hlt, cleanL_snoc]
        have hmem := HSM.out l[k] (List.getElem_mem hlt)
        generalize l[k] = q at *
        have HSN := Lib.hid hsn
        clear hsn
        generalize hst : cleanL (σ, 0) (l.take k) = st at *
        obtain ⟨σk, m⟩ := st
        simp only at *
        have hqk : q ∈ keys σk.L := by rw [hsd.keys]; exact hmem
        obtain ⟨p, hp⟩ := aget_isSome.2 hqk
        obtain ⟨x2, hbd2, h2, hS2⟩ := hP
        have hmay := may_ok h2 q p hp
        have e2 := cell_at h2.self 2 (v := .map (some x2.bm)) rfl
        have hlk := h2.look q
        simp only [hp, Option.map_some, Option.getD_some, ptrB] at hlk
        have hqb := HK.out q hmem
        have HKK : Hid (cleanK σk q = if mayB σk p then wrote σk q else σk) := Lib.hid (by rw [cleanK, hp])
        have HNN : Hid (cleanN σk q = if mayB σk p then 1 else 0) := Lib.hid (by rw [cleanN, hp])
        have HM := Lib.hid hmay
        have H2 := Lib.hid h2
        have HS2 := Lib.hid hS2
        have HSD := Lib.hid hsd
        have HPP := Lib.hid hp
        clear hmay h2 hS2 hsd hp hqk hmem hst
        simp only [ptrB] at *
        go_wp2_with fail
        refine HM.out.mono ?_
        rintro e w2 ⟨rfl, hch2⟩
        cases hmb : mayB σk p with
        | true =>
          rw [hmb] at HKK HNN
          have hpd : p.dirty = true := by unfold mayB at hmb; simp at hmb; exact hmb.1
          have hwr : wrote σk q = { σk with L := aput σk.L q { p with dirty := false }, D := σk.D.put q p.s } := by rw [wrote, HPP.out]; simp [hpd]
          have HW := Lib.hid (write_ok hbd2 (H2.out.no hch2) HS2.out (HN1.out w2 (hch.thenNo hch2)) q p HPP.out hqb.1 (by rw [HSD.out.n]; exact hqb.2) (HSD.out.size q p HPP.out) (by have := HSD.out.writes; omega))
          rw [← hwr] at HW
          have HCH : Hid (Chg (fun b => S b ∧ (b < w.heap.size ∨ w1.heap.size ≤ b)) w1 w2) := Lib.hid (hch.thenNo hch2)
          simp only [ptrB] at HW
          clear hwr hpd hmb hch hch2 hlk e2 hcell
          go_wp2_with fail
          refine HW.out.mono ?_
          rintro e w3 ⟨rfl, hP3, hch3⟩
          have HP3 := Lib.hid hP3
          have HC3 := Lib.hid (HCH.out.then hch3)
          clear hP3 hch3
          go_wp2
          go_roundw
          case rel => exact ⟨k + 1, by omega, by go_num, by rw [HSN.out, HNN.out]; simp, by rw [HSN.out, HKK.out]; exact HP3.out, HC3.out⟩
          case measure => simp [intOf]; omega
        | false =>
          rw [hmb] at HKK HNN
          have HP3 : Hid (PoolAt w2 bp x.bd (fun b => S b ∧ (b < w.heap.size ∨ w1.heap.size ≤ b)) σk) := Lib.hid ⟨x2, hbd2, H2.out.no hch2, HS2.out⟩
          have HC3 : Hid (Chg (fun b => S b ∧ (b < w.heap.size ∨ w1.heap.size ≤ b)) w1 w2) := Lib.hid (hch.thenNo hch2)
          clear hmb hch hch2 hlk e2 hcell
          go_wp2
          go_roundw
          case rel => exact ⟨k + 1, by omega, by go_num, by rw [HSN.out, HNN.out]; simp, by rw [HSN.out, HKK.out]; exact HP3.out, HC3.out⟩
          case measure => simp [intOf]; omega
      · have hke : k = l.length := by omega
        subst hke
        have HP3 := Lib.hid hP
        have HC3 := Lib.hid hch
        rw [List.take_length] at *
        clear hsd hP hch
        go_wp2
        go_ret
        exact ⟨rfl, HP3.out.mono (fun b h => h.1), HMONO.out _ HC3.out⟩
end Go.Proofs.YtniijkcncpabaaaGreat
