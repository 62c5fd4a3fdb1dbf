/- The reference's pool: where it lies; find, may, Pins, bad. -/
import Derived.Test.YtniijkcncpabaaaGreatRefG
import Derived.Test.YtniijkcncpabaaaGreatInv
import Derived.Test.YtniijkcncpabaaaGreatDirty
namespace Go.Proofs.YtniijkcncpabaaaGreat
open Go.RowKit Go.MapKept
set_option maxRecDepth 100000
set_option maxHeartbeats 1000000

def Pl.rcells (k : Int) (p : Pl) : Array Value := #[.int .i64 k, .string p.s, .int .i64 p.pins, .bool p.dirty, .int .i64 p.first, .int .i64 p.last]
structure RLocs where
  rd : Nat
  lv : Value
  wv : Value
  av : Value
  pb : Int → Nat
def ptrs (pb : Int → Nat) (l : List Int) : List Value := l.map fun k => ptrB (pb k)
structure RPoolIs (w : World) (rb : Nat) (x : RLocs) (σ : Pool) : Prop where
  self : w.heap[rb]? = some (.cells #[ptrB x.rd, .int .i64 σ.places, .int .i64 σ.sure, x.av] 64 (0, 0))
  row : w.ownsRow 0 75 1 x.av σ.ages.length (ptrs x.pb σ.ages)
  place : ∀ k p, aget σ.L k = some p → w.heap[x.pb k]? = some (.cells (p.rcells k) 74 (0, 0))
  disk : RDisk w x.rd x.lv x.wv σ.D
  inj : ∀ j k p q, aget σ.L j = some p → aget σ.L k = some q → x.pb j = x.pb k → j = k
  mem : ∀ k ∈ σ.ages, ∃ p, aget σ.L k = some p
  nd : σ.ages.Nodup
  few : σ.ages.length ≤ 1000
def ROwn (rb : Nat) (x : RLocs) (σ : Pool) (k : Nat) : Prop :=
  k = rb ∨ k = x.rd ∨ x.lv.ownBlock = some k ∨ x.wv.ownBlock = some k ∨ x.av.ownBlock = some k ∨ ∃ j p, aget σ.L j = some p ∧ k = x.pb j
section
variable {S T : Nat → Prop} {w w' : World} {rb rd : Nat} {x : RLocs} {σ : Pool}
theorem ROwn.self : ROwn rb x σ rb := .inl rfl
theorem ROwn.disk : ROwn rb x σ x.rd := .inr (.inl rfl)
theorem ROwn.pages {k : Nat} (h : x.lv.ownBlock = some k) : ROwn rb x σ k := .inr (.inr (.inl h))
theorem ROwn.writes {k : Nat} (h : x.wv.ownBlock = some k) : ROwn rb x σ k := .inr (.inr (.inr (.inl h)))
theorem ROwn.row {k : Nat} (h : x.av.ownBlock = some k) : ROwn rb x σ k := .inr (.inr (.inr (.inr (.inl h))))
theorem ROwn.at {j : Int} {p : Pl} (h : aget σ.L j = some p) : ROwn rb x σ (x.pb j) := .inr (.inr (.inr (.inr (.inr ⟨j, p, h, rfl⟩))))
theorem ROwn.lt (h : RPoolIs w rb x σ) {k : Nat} (hk : ROwn rb x σ k) : k < w.heap.size := by
  rcases hk with e | e | e | e | e | ⟨j, p, hp, e⟩
  · subst e; exact lt_of_block h.self
  · subst e; exact lt_of_block h.disk.self
  · exact own_lt h.disk.pages e
  · exact own_lt h.disk.writes e
  · exact own_lt h.row e
  · subst e; exact lt_of_block (h.place j p hp)
theorem RPoolIs.chg (h : RPoolIs w rb x σ) (hc : Chg S w w') (hS : ∀ k, ROwn rb x σ k → ¬ S k) : RPoolIs w' rb x σ :=
  ⟨hc.at h.self (hS _ .self), hc.row h.row (fun k hk => hS k (.row hk)), fun k p hp => hc.at (h.place k p hp) (hS _ (.at hp)),
    h.disk.chg hc (hS _ .disk) (fun k hk => hS k (.pages hk)) (fun k hk => hS k (.writes hk)), h.inj, h.mem, h.nd, h.few⟩
theorem RPoolIs.no (h : RPoolIs w rb x σ) (hc : Chg No w w') : RPoolIs w' rb x σ := h.chg hc fun _ _ h => h
/-- The reference's pool at block rb, its disk at rd, all that it owns in S. -/
def RPoolAt (w : World) (rb rd : Nat) (S : Nat → Prop) (σ : Pool) : Prop := ∃ x : RLocs, x.rd = rd ∧ RPoolIs w rb x σ ∧ ∀ k, ROwn rb x σ k → S k
theorem RPoolAt.no (h : RPoolAt w rb rd S σ) (hc : Chg No w w') : RPoolAt w' rb rd S σ := by
  obtain ⟨x, hx, h1, h2⟩ := h; exact ⟨x, hx, h1.no hc, h2⟩
theorem RPoolAt.chg (h : RPoolAt w rb rd S σ) (hc : Chg T w w') (hd : ∀ k, S k → ¬ T k) : RPoolAt w' rb rd S σ := by
  obtain ⟨x, hx, h1, h2⟩ := h; exact ⟨x, hx, h1.chg hc fun k hk => hd k (h2 k hk), h2⟩
theorem RPoolAt.mono (h : RPoolAt w rb rd S σ) (hS : ∀ k, S k → T k) : RPoolAt w rb rd T σ := by
  obtain ⟨x, hx, h1, h2⟩ := h; exact ⟨x, hx, h1, fun k hk => hS k (h2 k hk)⟩
theorem RPoolAt.upTo (h : RPoolAt w rb rd S σ) : RPoolAt w rb rd (fun b => S b ∧ b < w.heap.size) σ := by
  obtain ⟨x, hx, h1, h2⟩ := h; exact ⟨x, hx, h1, fun k hk => ⟨h2 k hk, ROwn.lt h1 hk⟩⟩
/-- the row's form and its cells -/
theorem RPoolIs.cells (h : RPoolIs w rb x σ) : ∃ a cap, x.av = .slice a σ.ages.length cap ∧ (0 < σ.ages.length → ∃ g, a = some ⟨g, 0, none⟩ ∧ ∀ j, (hj : j < σ.ages.length) → w.cell? ⟨g, j, none⟩ = some (ptrB (x.pb σ.ages[j]))) := by
  have h0 := h.row
  rcases h.row.2 with ⟨e, hn⟩ | ⟨g, cap, cur, e, _⟩
  · exact ⟨_, _, by rw [e, hn], fun h => by omega⟩
  · refine ⟨_, _, e, fun _ => ⟨g, rfl, fun j hj => ?_⟩⟩
    have h1 := h0.cells (g := g) (by rw [e]; rfl) j (ptrB (x.pb σ.ages[j])) (by simp [ptrs, hj])
    rwa [add_mid] at h1
/-- One place turns. -/
theorem RPoolIs.put (h : RPoolIs w rb x σ) {k : Int} {p : Pl} (hg : aget σ.L k = some p) (p' : Pl) (hc : Chg (· = x.pb k) w w') (hn : w'.heap[x.pb k]? = some (.cells (p'.rcells k) 74 (0, 0))) :
    RPoolIs w' rb x { σ with L := aput σ.L k p' } := by
  have hp := h.place k p hg
  refine ⟨hc.at h.self (cells_ne h.self hp (by decide)), hc.row h.row (fun b hb e => by subst e; exact own_ne h.row hp (by decide) hb), ?_, h.disk.chg hc (cells_ne h.disk.self hp (by decide)) (fun b hb e => by subst e; exact own_ne h.disk.pages hp (by decide) hb) (fun b hb e => by subst e; exact own_ne h.disk.writes hp (by decide) hb), ?_, ?_, h.nd, h.few⟩
  · intro j q hq
    simp only [aget_aput] at hq
    by_cases hj : k = j
    · subst hj; simp only [if_true, Option.some.injEq] at hq; subst hq; exact hn
    · rw [if_neg hj] at hq
      exact hc.at (h.place j q hq) (fun e => hj (h.inj j k q p hq hg e).symm)
  · intro i j q r hq hr e
    simp only [aget_aput] at hq hr
    have a1 : ∃ q', aget σ.L i = some q' := by by_cases hi : k = i; exact ⟨p, hi ▸ hg⟩; rw [if_neg hi] at hq; exact ⟨q, hq⟩
    have a2 : ∃ q', aget σ.L j = some q' := by by_cases hi : k = j; exact ⟨p, hi ▸ hg⟩; rw [if_neg hi] at hr; exact ⟨r, hr⟩
    obtain ⟨q1, a1⟩ := a1
    obtain ⟨q2, a2⟩ := a2
    exact h.inj i j q1 q2 a1 a2 e
  · intro j hj
    obtain ⟨q, hq⟩ := h.mem j hj
    simp only [aget_aput]
    split
    · exact ⟨_, rfl⟩
    · exact ⟨_, hq⟩
theorem ROwn.put {k : Int} {p : Pl} (hg : aget σ.L k = some p) (p' : Pl) {b : Nat} (h : ROwn rb x { σ with L := aput σ.L k p' } b) : ROwn rb x σ b := by
  rcases h with h | h | h | h | h | ⟨j, q, hq, h⟩
  · exact .inl h
  · exact .inr (.inl h)
  · exact .pages h
  · exact .writes h
  · exact .row h
  · subst h
    simp only [aget_aput] at hq
    by_cases hj : k = j
    · subst hj; exact .at hg
    · rw [if_neg hj] at hq; exact .at hq
/-- the row turns -/
theorem RPoolIs.setRow (h : RPoolIs w rb x σ) {av' : Value} {l : List Int} (hr : w'.ownsRow 0 75 1 av' l.length (ptrs x.pb l)) (hc : Chg (fun k => k = rb ∨ x.av.ownBlock = some k) w w') (hm : ∀ k ∈ l, ∃ p, aget σ.L k = some p) (hnd : l.Nodup) (hl : l.length ≤ 1000)
    (hs : w'.heap[rb]? = some (.cells #[ptrB x.rd, .int .i64 σ.places, .int .i64 σ.sure, av'] 64 (0, 0))) :
    RPoolIs w' rb { x with av := av' } { σ with ages := l } := by
  have ne1 : ∀ b cs t f, w.heap[b]? = some (.cells cs t f) → t ≠ 64 → t ≠ 75 → ¬ (b = rb ∨ x.av.ownBlock = some b) := by
    rintro b cs t f hb ht1 ht2 (e | e)
    · exact cells_ne hb h.self ht1 e
    · exact own_ne h.row hb ht2 e
  refine ⟨hs, hr, fun k p hp => hc.at (h.place k p hp) (ne1 _ _ _ _ (h.place k p hp) (by decide) (by decide)), h.disk.chg hc (ne1 _ _ _ _ h.disk.self (by decide) (by decide)) ?_ ?_, h.inj, hm, hnd, hl⟩
  · rintro b hb (e | e)
    · subst e; exact own_ne h.disk.pages h.self (by decide) hb
    · exact rows_ne h.disk.pages h.row (by decide) b hb e
  · rintro b hb (e | e)
    · subst e; exact own_ne h.disk.writes h.self (by decide) hb
    · exact rows_ne h.disk.writes h.row (by decide) b hb e
theorem ROwn.setRow {av' : Value} {l : List Int} (hS : ∀ k, ROwn rb x σ k → S k) (ha : ∀ k, av'.ownBlock = some k → S k) : ∀ k, ROwn rb { x with av := av' } { σ with ages := l } k → S k := by
  rintro b (e | e | e | e | e | e)
  · exact hS b (.inl e)
  · exact hS b (.inr (.inl e))
  · exact hS b (.pages e)
  · exact hS b (.writes e)
  · exact ha b e
  · exact hS b (.inr (.inr (.inr (.inr (.inr e)))))
/-- a place that is in no row is forgotten -/
theorem RPoolIs.forget (h : RPoolIs w rb x σ) (hnd : (keys σ.L).Nodup) (k : Int) (hk : k ∉ σ.ages) : RPoolIs w rb x { σ with L := adel σ.L k } := by
  have old : ∀ {j q}, aget (adel σ.L k) j = some q → aget σ.L j = some q := by
    intro j q hq
    rw [aget_adel hnd] at hq
    by_cases hj : k = j
    · simp [hj] at hq
    · rwa [if_neg hj] at hq
  refine ⟨h.self, h.row, fun j q hq => h.place j q (old hq), h.disk, fun i j p q hp hq => h.inj i j p q (old hp) (old hq), ?_, h.nd, h.few⟩
  intro j hj
  obtain ⟨q, hq⟩ := h.mem j hj
  refine ⟨q, ?_⟩
  show aget (adel σ.L k) j = some q
  rw [aget_adel hnd, if_neg (fun e => by subst e; exact hk hj)]; exact hq
theorem ROwn.forget (hnd : (keys σ.L).Nodup) (k : Int) {b : Nat} (h : ROwn rb x { σ with L := adel σ.L k } b) : ROwn rb x σ b := by
  rcases h with h | h | h | h | h | ⟨j, q, hq, h⟩
  · exact .inl h
  · exact .inr (.inl h)
  · exact .pages h
  · exact .writes h
  · exact .row h
  · subst h
    have hq' : aget (adel σ.L k) j = some q := hq
    rw [aget_adel hnd] at hq'
    by_cases hj : k = j
    · simp [hj] at hq'
    · rw [if_neg hj] at hq'; exact .at hq'
/-- find -/
theorem rfind_ok (h : RPoolIs w rb x σ) (k : Int) :
    Calls Tryz.prog 34 #[ptrB rb, .int .i64 k] w fun e w' => e = .returned (.int .i64 (idxI (fun y => y == k) σ.ages)) ∧ w = w' := by
  obtain ⟨a, cap, hav, hcl⟩ := h.cells
  have c3 := cell_at h.self 3 (v := x.av) rfl
  rw [hav] at c3
  have HCL := Lib.hid hcl
  have HM := Lib.hid (fun j (hj : j < σ.ages.length) => h.mem _ (List.getElem_mem hj))
  have HP := Lib.hid h.place
  have hfew := h.few
  clear h hav hcl
  generalize σ.ages = ages at *
  simp only [ptrB] at *
  go_enter Tryz.func34, Tryz.ntmps34
  go_wp2
  go_loop [5] (fun i => ∃ (j : Nat), j ≤ ages.length ∧ i = .int .i64 j ∧ ∀ m, (hm : m < j) → (hl : m < ages.length) → (ages[m] == k) = false) (fun i => ages.length - (intOf i).toNat)
  case atStart => exact ⟨0, by omega, rfl, fun m hm => by omega⟩
  case round =>
    obtain ⟨j, hj, rfl, hno⟩ := hrel
    have HNO := Lib.hid hno
    clear hno
    by_cases hlt : j < ages.length
    · obtain ⟨g, rfl, hg⟩ := HCL.out (by omega)
      obtain ⟨p, hp⟩ := HM.out j hlt
      have d0 := cell_at (HP.out _ p hp) 0 (v := .int .i64 ages[j]) rfl
      have hcell := hg j hlt
      have HG : Hid (ages[j] = ages[j]) := Lib.hid rfl
      clear hg hp
      by_cases hx : ages[j] = k
      · have HF := Lib.hid (findIdx_some (q := fun y => y == k) hlt (by simp [hx]) (fun m hm => HNO.out m hm _))
        rw [hx] at d0 hcell
        clear hx
        go_wp2
        go_ret
        exact ⟨by rw [HF.out]; rfl, rfl⟩
      · have hb : (ages[j] == k) = false := by simpa using hx
        have HN : Hid (∀ m, (hm : m < j + 1) → (hl : m < ages.length) → (ages[m] == k) = false) := Lib.hid fun m hm hl => by
          by_cases hmj : m = j
          · subst hmj; exact hb
          · exact HNO.out m (by omega) hl
        clear hx
        generalize ages[j] = y at *
        go_wp2
        go_round
        case rel => exact ⟨j + 1, by omega, by go_num, HN.out⟩
        case measure => simp [intOf]; omega
    · have hje : j = ages.length := by omega
      subst hje
      have HF := Lib.hid (findIdx_none (q := fun y => y == k) (l := ages) (fun m hm => HNO.out m hm hm))
      go_wp2
      go_ret
      exact ⟨by rw [HF.out]; rfl, rfl⟩
end
end Go.Proofs.YtniijkcncpabaaaGreat
