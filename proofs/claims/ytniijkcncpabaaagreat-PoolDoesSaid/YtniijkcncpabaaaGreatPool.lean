/- The pool in memory, and the contracts of its small methods. -/
import Derived.Test.YtniijkcncpabaaaGreatDelf
import Derived.Test.YtniijkcncpabaaaGreatRead
namespace Go.Proofs.YtniijkcncpabaaaGreat
open Go.RowKit Go.MapKept
set_option maxRecDepth 100000
set_option maxHeartbeats 400000

/-- a page in memory -/
structure Pl where
  s : ByteArray
  pins : Int
  dirty : Bool
  first : Int
  last : Int
structure Pool where
  places : Int
  sure : Int
  L : List (Int × Pl)
  ages : List Int
  D : Disk
def ptrB (b : Nat) : Value := .pointer (some ⟨b, 0, none⟩)
def Pl.cells (p : Pl) : Array Value := #[.string p.s, .int .i64 p.pins, .bool p.dirty, .int .i64 p.first, .int .i64 p.last]
/-- where its parts lie -/
structure Locs where
  bd : Nat
  bs : Nat
  bm : Nat
  wv : Value
  av : Value
  pb : Int → Nat
def tabOf (pb : Int → Nat) (L : List (Int × Pl)) : List (Int × Nat) := L.map fun p => (p.1, pb p.1)
theorem tabOf_keys (pb : Int → Nat) (L : List (Int × Pl)) : keys (tabOf pb L) = keys L := by simp [tabOf, keys]
theorem tabOf_get (pb : Int → Nat) (L : List (Int × Pl)) (k : Int) : aget (tabOf pb L) k = (aget L k).map fun _ => pb k := by
  induction L with
  | nil => rfl
  | cons p r ih =>
    obtain ⟨j, q⟩ := p
    simp only [tabOf, List.map_cons, aget] at ih ⊢
    by_cases h : j = k
    · subst h; simp
    · simp only [h, if_false]; exact ih
structure PoolIs (w : World) (bp : Nat) (x : Locs) (σ : Pool) : Prop where
  self : w.heap[bp]? = some (.cells #[ptrB x.bd, .int .i64 σ.places, .map (some x.bm), x.av, .int .i64 σ.sure] 61 (0, 0))
  tab : kmap (Value.int .i64) ptrB w x.bm (tabOf x.pb σ.L)
  place : ∀ k p, aget σ.L k = some p → w.heap[x.pb k]? = some (.cells p.cells 71 (0, 0))
  ages : IntRow w x.av σ.ages
  disk : DiskIs w x.bd x.bs x.wv σ.D
  inj : ∀ j k p q, aget σ.L j = some p → aget σ.L k = some q → x.pb j = x.pb k → j = k
  ne : x.bm ≠ x.bs
  few : σ.ages.length ≤ 1000
/-- the blocks that it owns -/
def Own (bp : Nat) (x : Locs) (σ : Pool) (k : Nat) : Prop :=
  k = bp ∨ k = x.bm ∨ k = x.bd ∨ k = x.bs ∨ x.wv.ownBlock = some k ∨ x.av.ownBlock = some k ∨ ∃ j p, aget σ.L j = some p ∧ k = x.pb j
theorem PoolIs.chg {S : Nat → Prop} {w w' : World} {bp : Nat} {x : Locs} {σ : Pool} (h : PoolIs w bp x σ) (hc : Chg S w w') (hS : ∀ k, Own bp x σ k → ¬ S k) : PoolIs w' bp x σ :=
  ⟨hc.at h.self (hS _ (.inl rfl)), h.tab.chg hc (hS _ (.inr (.inl rfl))), fun k p hp => hc.at (h.place k p hp) (hS _ (.inr (.inr (.inr (.inr (.inr (.inr ⟨k, p, hp, rfl⟩))))))),
    hc.row h.ages (fun k hk => hS _ (.inr (.inr (.inr (.inr (.inr (.inl hk))))))), h.disk.chg hc (hS _ (.inr (.inr (.inl rfl)))) (hS _ (.inr (.inr (.inr (.inl rfl))))) (fun k hk => hS _ (.inr (.inr (.inr (.inr (.inl hk)))))),
    h.inj, h.ne, h.few⟩
theorem PoolIs.no {w w' : World} {bp : Nat} {x : Locs} {σ : Pool} (h : PoolIs w bp x σ) (hc : Chg No w w') : PoolIs w' bp x σ := h.chg hc fun _ _ h => h
/-- The pool at block bp, all that it owns in S. -/
def PoolAt (w : World) (bp bd : Nat) (S : Nat → Prop) (σ : Pool) : Prop := ∃ x, x.bd = bd ∧ PoolIs w bp x σ ∧ ∀ k, Own bp x σ k → S k
theorem PoolAt.no {w w' : World} {bp bd : Nat} {S : Nat → Prop} {σ : Pool} (h : PoolAt w bp bd S σ) (hc : Chg No w w') : PoolAt w' bp bd S σ := by
  obtain ⟨x, hx, h1, h2⟩ := h; exact ⟨x, hx, h1.no hc, h2⟩
theorem PoolAt.chg {S T : Nat → Prop} {w w' : World} {bp bd : Nat} {σ : Pool} (h : PoolAt w bp bd S σ) (hc : Chg T w w') (hd : ∀ k, S k → ¬ T k) : PoolAt w' bp bd S σ := by
  obtain ⟨x, hx, h1, h2⟩ := h; exact ⟨x, hx, h1.chg hc fun k hk => hd k (h2 k hk), h2⟩

/-- the map's look-up, as an equation -/
theorem PoolIs.look {w : World} {bp : Nat} {x : Locs} {σ : Pool} (h : PoolIs w bp x σ) (k : Int) :
    (Instr.lookup 59 (.map (some x.bm)) (.int .i64 k) false).run Tryz.prog w = .ok (((aget σ.L k).map fun _ => ptrB (x.pb k)).getD (.pointer none)) w := by
  have hz : (zeroValue 72).run Tryz.prog w = .ok (.pointer none) w := by kernel_rfl
  have := (h.tab.look (P := Tryz.prog) (t := 59) keyInt Tryz.underlying59 Tryz.underlying3 hz k).1
  rw [tabOf_get] at this
  rw [this]
  cases aget σ.L k <;> rfl

/-- held: what is told -/
def heldE (σ : Pool) (k : Int) : Int := match aget σ.L k with | none => 7 | some p => if p.pins = 0 then 9 else 0
theorem held_ok {w : World} {bp : Nat} {x : Locs} {σ : Pool} (h : PoolIs w bp x σ) (k : Int) :
    Calls Tryz.prog 50 #[ptrB bp, .int .i64 k] w fun e w' => e = .returned (.tuple #[if heldE σ k = 0 then ptrB (x.pb k) else .pointer none, .int .i64 (heldE σ k)]) ∧ w = w' := by
  have c2 := cell_at h.self 2 (v := .map (some x.bm)) rfl
  have hlk := h.look k
  cases hg : aget σ.L k with
  | none =>
    have he : heldE σ k = 7 := by rw [heldE, hg]
    rw [he]
    simp only [hg, Option.map_none, Option.getD_none] at hlk
    clear h he hg
    simp only [ptrB] at *
    go_enter Tryz.func50, Tryz.ntmps50
    go_wp2
    go_ret2
    exact ⟨rfl, rfl⟩
  | some p =>
    simp only [hg, Option.map_some, Option.getD_some] at hlk
    have c1 := cell_at (h.place k p hg) 1 (v := .int .i64 p.pins) rfl
    by_cases hp : p.pins = 0
    · have he : heldE σ k = 9 := by rw [heldE, hg]; simp [hp]
      rw [he]
      rw [hp] at c1
      clear h he hg hp
      simp only [ptrB] at *
      go_enter Tryz.func50, Tryz.ntmps50
      go_wp2
      go_ret2
      exact ⟨rfl, rfl⟩
    · have he : heldE σ k = 0 := by rw [heldE, hg]; simp [hp]
      rw [he]
      have hb : (p.pins == 0) = false := by simpa using hp
      clear h he hg hp
      simp only [ptrB] at *
      go_enter Tryz.func50, Tryz.ntmps50
      go_wp2
      go_ret2
      exact ⟨rfl, rfl⟩

def pinsOf (σ : Pool) (k : Int) : Int := match aget σ.L k with | none => 0 | some p => p.pins
theorem pins_ok {w : World} {bp bd : Nat} {S : Nat → Prop} {σ : Pool} (h : PoolAt w bp bd S σ) (k : Int) :
    Calls Tryz.prog 15 #[ptrB bp, .int .i64 k] w fun e w' => e = .returned (.int .i64 (pinsOf σ k)) ∧ w = w' := by
  obtain ⟨x, _, h, _⟩ := h
  have c2 := cell_at h.self 2 (v := .map (some x.bm)) rfl
  have hlk := h.look k
  cases hg : aget σ.L k with
  | none =>
    have he : pinsOf σ k = 0 := by rw [pinsOf, hg]
    rw [he]
    simp only [hg, Option.map_none, Option.getD_none] at hlk
    clear h he hg
    simp only [ptrB] at *
    go_enter Tryz.func15, Tryz.ntmps15
    go_wp2
    go_ret
    exact ⟨rfl, rfl⟩
  | some p =>
    simp only [hg, Option.map_some, Option.getD_some] at hlk
    have c1 := cell_at (h.place k p hg) 1 (v := .int .i64 p.pins) rfl
    have he : pinsOf σ k = p.pins := by rw [pinsOf, hg]
    rw [he]
    clear h he hg
    simp only [ptrB] at *
    go_enter Tryz.func15, Tryz.ntmps15
    go_wp2
    go_ret
    exact ⟨rfl, rfl⟩

/-- may -/
def mayB (σ : Pool) (p : Pl) : Bool := p.dirty && decide (p.last ≤ σ.sure)
theorem may_ok {w : World} {bp : Nat} {x : Locs} {σ : Pool} (h : PoolIs w bp x σ) (k : Int) (p : Pl) (hg : aget σ.L k = some p) :
    Calls Tryz.prog 52 #[ptrB bp, ptrB (x.pb k)] w fun e w' => e = .returned (.bool (mayB σ p)) ∧ Chg No w w' := by
  have c4 := cell_at h.self 4 (v := .int .i64 σ.sure) rfl
  have d2 := cell_at (h.place k p hg) 2 (v := .bool p.dirty) rfl
  have d4 := cell_at (h.place k p hg) 4 (v := .int .i64 p.last) rfl
  cases hd : p.dirty with
  | false =>
    have hm : mayB σ p = false := by rw [mayB, hd]; rfl
    rw [hm]
    rw [hd] at d2
    clear h hg hd hm
    simp only [ptrB] at *
    go_enter Tryz.func52, Tryz.ntmps52
    go_wp2
    go_quiet (fail)
    go_wp2
    go_ret
    exact ⟨rfl, (Chg.refl _ _).drewN _⟩
  | true =>
    have hm : mayB σ p = decide (p.last ≤ σ.sure) := by rw [mayB, hd]; rfl
    rw [hm]
    rw [hd] at d2
    clear h hg hd hm
    simp only [ptrB] at *
    go_enter Tryz.func52, Tryz.ntmps52
    go_wp2
    go_quiet (fail)
    go_wp2
    go_ret
    exact ⟨rfl, (Chg.refl _ _).drewN _⟩
end Go.Proofs.YtniijkcncpabaaaGreat
