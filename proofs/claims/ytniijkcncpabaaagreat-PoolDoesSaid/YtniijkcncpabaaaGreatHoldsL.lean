/- PoolHolds: where all lies between two calls, and what each call makes of it. -/
import Derived.Test.YtniijkcncpabaaaGreatFixed
import Derived.Test.YtniijkcncpabaaaGreatInv
namespace Go.Proofs.YtniijkcncpabaaaGreat
open Go.RowKit Go.MapKept
set_option maxRecDepth 100000
set_option maxHeartbeats 1000000

def RowS (w : World) (b : Nat) (f : Int → ByteArray) : Prop := ∃ cs : Array Value, w.heap[b]? = some (.cells cs 9 (0, 0)) ∧ cs.size = 8 ∧ ∀ j : Nat, j < 8 → cs[j]? = some (.string (f j))
def RowI (w : World) (b : Nat) (f : Int → Int) : Prop := ∃ cs : Array Value, w.heap[b]? = some (.cells cs 3 (0, 0)) ∧ cs.size = 8 ∧ ∀ j : Nat, j < 8 → cs[j]? = some (.int .i64 (f j))
theorem RowS.chg {S : Nat → Prop} {w w' : World} {b : Nat} {f : Int → ByteArray} (h : RowS w b f) (hc : Chg S w w') (hb : ¬ S b) : RowS w' b f := by
  obtain ⟨cs, h1, h2, h3⟩ := h; exact ⟨cs, hc.at h1 hb, h2, h3⟩
theorem RowI.chg {S : Nat → Prop} {w w' : World} {b : Nat} {f : Int → Int} (h : RowI w b f) (hc : Chg S w w') (hb : ¬ S b) : RowI w' b f := by
  obtain ⟨cs, h1, h2, h3⟩ := h; exact ⟨cs, hc.at h1 hb, h2, h3⟩
theorem RowS.lt {w : World} {b : Nat} {f : Int → ByteArray} (h : RowS w b f) : b < w.heap.size := by obtain ⟨cs, h1, _⟩ := h; exact lt_of_block h1
theorem RowI.lt {w : World} {b : Nat} {f : Int → Int} (h : RowI w b f) : b < w.heap.size := by obtain ⟨cs, h1, _⟩ := h; exact lt_of_block h1
theorem rows_apart {w : World} {b b' : Nat} {f : Int → ByteArray} {g : Int → Int} (h : RowS w b f) (h' : RowI w b' g) : b ≠ b' := by
  obtain ⟨cs, h1, _⟩ := h; obtain ⟨cs', h1', _⟩ := h'; exact cells_ne h1 h1' (by decide)
theorem RowS.new (w : World) (s : ByteArray) : RowS (w.alloc (.cells (Array.replicate 8 (.string s)) 9)) w.heap.size (fun _ => s) :=
  ⟨_, (MapKept.heap_alloc w _).1, by simp, fun j hj => by simp [hj]⟩
theorem RowI.new (w : World) (s : Int) : RowI (w.alloc (.cells (Array.replicate 8 (.int .i64 s)) 3)) w.heap.size (fun _ => s) :=
  ⟨_, (MapKept.heap_alloc w _).1, by simp, fun j hj => by simp [hj]⟩
theorem RowS.newAt {w : World} {b : Nat} (s : ByteArray) (hb : b = w.heap.size) : RowS (w.alloc (.cells (Array.replicate 8 (.string s)) 9)) b (fun _ => s) := hb ▸ RowS.new w s
theorem RowI.newAt {w : World} {b : Nat} (s : Int) (hb : b = w.heap.size) : RowI (w.alloc (.cells (Array.replicate 8 (.int .i64 s)) 3)) b (fun _ => s) := hb ▸ RowI.new w s
theorem fill_next {α : Type} (a b : α) (k j : Nat) : putAt (fun j : Int => if j < k then a else b) k a j = if (j : Int) < ((k + 1 : Nat) : Int) then a else b := by
  unfold putAt
  by_cases h : (j : Int) = k
  · rw [if_pos h, if_pos (by omega)]
  · rw [if_neg h]
    show (if (j : Int) < k then a else b) = _
    by_cases h2 : (j : Int) < k
    · rw [if_pos h2, if_pos (by omega)]
    · rw [if_neg h2, if_neg (by omega)]
theorem RowS.cell {w : World} {b : Nat} {f : Int → ByteArray} (h : RowS w b f) (j : Nat) (hj : j < 8) : w.cell? ⟨b, j, none⟩ = some (.string (f j)) ∧ w.frozen? ⟨b, j, none⟩ = false := by
  obtain ⟨cs, h1, h2, h3⟩ := h; exact ⟨cell_at h1 j (h3 j hj), free_at h1 j⟩
theorem RowI.cell {w : World} {b : Nat} {f : Int → Int} (h : RowI w b f) (j : Nat) (hj : j < 8) : w.cell? ⟨b, j, none⟩ = some (.int .i64 (f j)) ∧ w.frozen? ⟨b, j, none⟩ = false := by
  obtain ⟨cs, h1, h2, h3⟩ := h; exact ⟨cell_at h1 j (h3 j hj), free_at h1 j⟩
theorem RowS.set {w : World} {b : Nat} {f : Int → ByteArray} (h : RowS w b f) (j : Nat) (s : ByteArray) : RowS (w.setCell ⟨b, j, none⟩ (.string s)) b (putAt f j s) := by
  obtain ⟨cs, h1, h2, h3⟩ := h
  refine ⟨_, at_setCell h1 j _, by simp [h2], fun i hi => ?_⟩
  rw [Array.getElem?_setIfInBounds]
  unfold putAt
  by_cases hij : j = i
  · subst hij; simp; omega
  · have : ¬ (i : Int) = j := by omega
    rw [if_neg hij, if_neg this]; exact h3 i hi
theorem RowI.set {w : World} {b : Nat} {f : Int → Int} (h : RowI w b f) (j : Nat) (s : Int) : RowI (w.setCell ⟨b, j, none⟩ (.int .i64 s)) b (putAt f j s) := by
  obtain ⟨cs, h1, h2, h3⟩ := h
  refine ⟨_, at_setCell h1 j _, by simp [h2], fun i hi => ?_⟩
  rw [Array.getElem?_setIfInBounds]
  unfold putAt
  by_cases hij : j = i
  · subst hij; simp; omega
  · have : ¬ (i : Int) = j := by omega
    rw [if_neg hij, if_neg this]; exact h3 i hi
theorem RowS.congr {w : World} {b : Nat} {f g : Int → ByteArray} (h : RowS w b f) (e : ∀ j : Nat, j < 8 → f j = g j) : RowS w b g := by
  obtain ⟨cs, h1, h2, h3⟩ := h; exact ⟨cs, h1, h2, fun j hj => by rw [← e j hj]; exact h3 j hj⟩
theorem PoolAt.upTo {w : World} {bp bd : Nat} {S : Nat → Prop} {σ : Pool} (h : PoolAt w bp bd S σ) : PoolAt w bp bd (fun b => S b ∧ b < w.heap.size) σ := by
  obtain ⟨x, hx, h1, h2⟩ := h; exact ⟨x, hx, h1, fun k hk => ⟨h2 k hk, Own.lt h1 hk⟩⟩
/-- where all lies between two calls of the script -/
def Mine (w : World) (bh bq : Nat) : Nat → Prop := fun b => w.heap.size ≤ b ∧ b ≠ bh ∧ b ≠ bq
structure Lies (w : World) (bp bd bh bq : Nat) (σ : Pool) (has : Int → ByteArray) (held : Int → Int) (wr : World) : Prop where
  pool : PoolAt wr bp bd (Mine w bh bq) σ
  has : RowS wr bh has
  held : RowI wr bq held
  hb : w.heap.size ≤ bh
  qb : w.heap.size ≤ bq
  chg : Chg No w wr
section
variable {w wr w' : World} {bp bd bh bq : Nat} {σ σ' : Pool} {has : Int → ByteArray} {held : Int → Int}
theorem Lies.no (h : Lies w bp bd bh bq σ has held wr) (hc : Chg No wr w') : Lies w bp bd bh bq σ has held w' := ⟨h.pool.no hc, h.has.chg hc (fun e => e), h.held.chg hc (fun e => e), h.hb, h.qb, h.chg.then hc⟩
theorem Lies.new (h : Lies w bp bd bh bq σ has held wr) : ∀ k, wr.heap.size ≤ k → Mine w bh bq k := fun k hk => by
  have := h.chg.size; have := h.has.lt; have := h.held.lt; exact ⟨by omega, by omega, by omega⟩
theorem Lies.call (h : Lies w bp bd bh bq σ has held wr) (hp : PoolAt w' bp bd (Mine w bh bq) σ') (hc : Chg (Mine w bh bq) wr w') : Lies w bp bd bh bq σ' has held w' :=
  ⟨hp, h.has.chg hc (fun e => e.2.1 rfl), h.held.chg hc (fun e => e.2.2 rfl), h.hb, h.qb, h.chg.trans hc fun k hk e => by have := e.1; omega⟩
theorem Lies.setHeld (h : Lies w bp bd bh bq σ has held wr) (k : Nat) (v : Int) : Lies w bp bd bh bq σ has (putAt held k v) (wr.setCell ⟨bq, k, none⟩ (.int .i64 v)) :=
  have hc := chg_setCell wr bq k (.int .i64 v)
  ⟨h.pool.chg hc (fun k hk e => hk.2.2 e), h.has.chg hc (fun e => rows_apart h.has h.held e), h.held.set k v, h.hb, h.qb, h.chg.trans hc fun k hk e => by have := h.qb; omega⟩
theorem Lies.setHas (h : Lies w bp bd bh bq σ has held wr) (k : Nat) (v : ByteArray) : Lies w bp bd bh bq σ (putAt has k v) held (wr.setCell ⟨bh, k, none⟩ (.string v)) :=
  have hc := chg_setCell wr bh k (.string v)
  ⟨h.pool.chg hc (fun k hk e => hk.2.1 e), h.has.set k v, h.held.chg hc (fun e => rows_apart h.has h.held e.symm), h.hb, h.qb, h.chg.trans hc fun k hk e => by have := h.hb; omega⟩
end
/-- the law of what stands between two calls -/
def Good (n : Int) (i : Nat) (σ : Pool) (has : Int → ByteArray) (held : Int → Int) : Prop := ∃ d, Inv n (10 * i) i σ has held d ∧ Aged σ ∧ (σ.L.length : Int) ≤ n
theorem inv_start (n : Int) (h1 : 1 ≤ n) : Inv n 0 0 ⟨n, 0, [], [], ⟨8, [], []⟩⟩ (fun j : Int => if j < (8 : Nat) then fc else ByteArray.empty) (fun _ => 0) (fun _ => fc) := by
  refine ⟨rfl, rfl, fun k hk => (by simp [keys] at hk), Nat.le_refl _, fun k _ _ => ⟨page_fc _ rfl _ rfl, fc_size⟩, fun k p hp => (by simp [aget] at hp), fun k _ h1 _ => ?_, fun k p hp => (by simp [aget] at hp), fun k _ _ _ => rfl, fun k _ h1 => ?_, fun k _ _ => ⟨Int.le_refl 0, Int.le_refl 0⟩⟩
  · show fc = if k < (8 : Nat) then fc else ByteArray.empty
    rw [if_pos (by omega)]
  · show (if k < (8 : Nat) then fc else ByteArray.empty).size = 252
    rw [if_pos (by omega)]; exact fc_size
theorem youngL_len (l : List Int) (k : Int) : (youngL l k).length ≤ l.length + 1 := by
  have := List.length_filter_le (fun x => !(x == k)) l
  unfold youngL kept
  simp only [List.length_append, List.length_singleton]; omega
theorem freeS_len (σ : Pool) : (freeS σ).ages.length ≤ σ.ages.length := by
  unfold freeS
  split
  · exact Nat.le_refl _
  · split
    · exact Nat.le_refl _
    · show ((wrote σ _).ages.eraseIdx _).length ≤ _
      rw [(wrote_ages σ _).1]; exact List.length_eraseIdx_le ..
theorem keys_len (L : List (Int × Pl)) : (keys L).length = L.length := by simp [keys]
theorem Good.more {n : Int} {i j : Nat} {σ : Pool} {has : Int → ByteArray} {held : Int → Int} (h : Good n i σ has held) (hij : i ≤ j) : Good n j σ has held := by
  obtain ⟨d, h1, h2, h3⟩ := h; exact ⟨d, h1.more (by omega) hij, h2, h3⟩
section
variable {w wr : World} {bp bd bh bq : Nat} {σ : Pool} {has : Int → ByteArray} {held : Int → Int} {n : Int} {i : Nat}
theorem lpin (h : Lies w bp bd bh bq σ has held wr) (hg : Good n i σ has held) (hn : n ≤ 8) (hi : i ≤ 1000) (K : Nat) (hK : K < 8) :
    Calls Tryz.prog 23 #[.pointer (some ⟨bp, 0, none⟩), .int .i64 K] wr fun e w' => ∃ s E σ', e = .returned (.tuple #[.string s, .int .i64 E]) ∧ Lies w bp bd bh bq σ' has held w' ∧
      ((E = 0 ∧ s = has K ∧ Good n (i + 1) σ' has (putAt held K (held K + 1))) ∨ (E = 6 ∧ held K = 0 ∧ Good n (i + 1) σ' has held)) := by
  obtain ⟨d, hI, hA, hl⟩ := hg
  have hk0 : (0 : Int) ≤ K := by omega
  have hk1 : (K : Int) < 8 := by omega
  have hag : σ.ages.length ≤ 8 := by rw [hA.1.length_eq, keys_len]; omega
  have hnum := hI.num K hk0 hk1
  have hw := hI.writes
  refine (pin_ok h.pool h.new (fun k hk => by rw [hI.dn]; exact hI.range k (hA.1.mem_iff.1 hk)) (fun k hk => hA.1.mem_iff.1 hk) (fun k p hp => by rw [hI.psize hp]; exact Nat.le_refl _) (by omega)
    K hk0 (by rw [hI.dn]; exact hk1) (d K) (hI.disk K hk0 hk1).2 (hI.disk K hk0 hk1).1 (by rw [pins_inv hI hk0 hk1]; omega) (by rw [pins_inv hI hk0 hk1]; omega) ?_).mono ?_
  · refine Nat.le_trans (youngL_len _ _) ?_
    have : (pinIn σ K (d K)).ages.length ≤ σ.ages.length := by
      unfold pinIn
      split
      · exact Nat.le_refl _
      · exact freeS_len σ
    omega
  · rintro e w' ⟨rfl, hP, hC⟩
    refine ⟨_, _, _, rfl, h.call hP hC, ?_⟩
    by_cases he : pinE σ K = 0
    · obtain ⟨d', g1, g2, g3, g4⟩ := pin_inv hI hA hl hk0 hk1 he
      exact .inl ⟨he, g4, d', g1.more (by omega) (Nat.le_refl _), g2, g3⟩
    · obtain ⟨g1, g2, g3⟩ := pin_full hI hk0 hk1 he
      rw [g3]
      exact .inr ⟨g1, g2, d, hI.more (by omega) (by omega), hA, hl⟩
theorem lunpin (h : Lies w bp bd bh bq σ has held wr) (hg : Good n i σ has held) (hi : i ≤ 1000) (K : Nat) (hK : K < 8) :
    Calls Tryz.prog 25 #[.pointer (some ⟨bp, 0, none⟩), .int .i64 K] wr fun e w' => ∃ E σ', e = .returned (.int .i64 E) ∧ Lies w bp bd bh bq σ' has held w' ∧ (E = 0 ↔ 0 < held K) ∧ Good n (i + 1) σ' has (putAt held K (max 0 (held K - 1))) := by
  obtain ⟨d, hI, hA, hl⟩ := hg
  have hk0 : (0 : Int) ≤ K := by omega
  have hk1 : (K : Int) < 8 := by omega
  have hnum := hI.num K hk0 hk1
  refine (unpin_ok h.pool K (by rw [pins_inv hI hk0 hk1]; omega) (by rw [pins_inv hI hk0 hk1]; omega)).mono ?_
  rintro e w' ⟨rfl, hP, hC⟩
  obtain ⟨g1, g2, g3⟩ := unpin_inv hI hA hk0 hk1
  exact ⟨_, _, rfl, h.call hP hC, held_inv hI hk0 hk1, d, g1.more (by omega) (by omega), g2, by rw [g3]; exact hl⟩
theorem lput (h : Lies w bp bd bh bq σ has held wr) (hg : Good n i σ has held) (K : Nat) (hK : K < 8) (s : ByteArray) (hs : s.size = 252) (lsn : Int) :
    Calls Tryz.prog 27 #[.pointer (some ⟨bp, 0, none⟩), .int .i64 K, .string s, .int .i64 lsn] wr fun e w' => ∃ E σ', e = .returned (.int .i64 E) ∧ Lies w bp bd bh bq σ' has held w' ∧ Good n (i + 1) σ' (if E = 0 then putAt has K s else has) held := by
  obtain ⟨d, hI, hA, hl⟩ := hg
  have hk0 : (0 : Int) ≤ K := by omega
  have hk1 : (K : Int) < 8 := by omega
  refine (put_ok h.pool K s lsn (by omega)).mono ?_
  rintro e w' ⟨rfl, hP, hC⟩
  obtain ⟨g1, g2, g3⟩ := put_inv hI hA hk0 hk1 s hs lsn
  exact ⟨_, _, rfl, h.call hP hC, d, g1.more (by omega) (by omega), g2, by rw [g3]; exact hl⟩
theorem lsure (h : Lies w bp bd bh bq σ has held wr) (hg : Good n i σ has held) (m : Int) :
    Calls Tryz.prog 29 #[.pointer (some ⟨bp, 0, none⟩), .int .i64 m] wr fun e w' => ∃ σ', e = .returned (.tuple #[]) ∧ Lies w bp bd bh bq σ' has held w' ∧ Good n (i + 1) σ' has held := by
  obtain ⟨d, hI, hA, hl⟩ := hg
  refine (sure_ok h.pool m).mono ?_
  rintro e w' ⟨rfl, hP, hC⟩
  have h1 := hI.more (c' := 10 * (i + 1)) (m' := i + 1) (by omega) (by omega)
  exact ⟨_, rfl, h.call hP hC, d, ⟨h1.places, h1.dn, h1.range, h1.writes, h1.disk, h1.clean, h1.out, h1.here, h1.away, h1.size, h1.num⟩, hA, hl⟩
theorem lclean (h : Lies w bp bd bh bq σ has held wr) (hg : Good n i σ has held) (hn : n ≤ 8) (hi : i ≤ 1000) :
    Calls Tryz.prog 30 #[.pointer (some ⟨bp, 0, none⟩)] wr fun e w' => ∃ m σ', e = .returned (.int .i64 m) ∧ Lies w bp bd bh bq σ' has held w' ∧ Good n (i + 1) σ' has held := by
  obtain ⟨d, hI, hA, hl⟩ := hg
  have hw := hI.writes
  refine (clean_ok h.pool h.new 8 ⟨rfl, hI.dn, fun k p hp => by rw [hI.psize hp]; exact Nat.le_refl _, by omega⟩ (by omega) hI.range (by decide)).mono ?_
  rintro e w' ⟨rfl, hP, hC⟩
  obtain ⟨⟨d', g1⟩, g2, g3⟩ := clean_inv hI hA hl hn
  exact ⟨_, _, rfl, h.call hP hC, d', g1.more (by omega) (by omega), g2, g3⟩
theorem lpages (h : Lies w bp bd bh bq σ has held wr) (hg : Good n i σ has held) (hn : n ≤ 8) :
    Calls Tryz.prog 12 #[.pointer (some ⟨bp, 0, none⟩)] wr fun e w' => ∃ a m c, e = .returned (.slice a m c) ∧ (m : Int) ≤ n ∧ Chg No wr w' := by
  obtain ⟨d, hI, hA, hl⟩ := hg
  refine (pages_ok h.pool (by omega) (fun k hk => by have := hI.range k hk; omega)).mono ?_
  rintro e w' ⟨v, rfl, hrow, hC⟩
  obtain ⟨a, c, rfl, _⟩ := row_form (ownsRow_base_a hrow (Nat.zero_le _))
  exact ⟨_, _, _, rfl, by rw [sortI_len, keys_len]; exact hl, hC⟩
theorem lpins (h : Lies w bp bd bh bq σ has held wr) (hg : Good n i σ has held) (K : Nat) (hK : K < 8) :
    Calls Tryz.prog 15 #[.pointer (some ⟨bp, 0, none⟩), .int .i64 K] wr fun e w' => e = .returned (.int .i64 (held K)) ∧ wr = w' := by
  obtain ⟨d, hI, hA, hl⟩ := hg
  have := pins_ok h.pool K
  rw [pins_inv hI (by omega) (by omega)] at this
  exact this
theorem Good.num (hg : Good n i σ has held) (K : Nat) (hK : K < 8) : 0 ≤ held K ∧ held K ≤ i := by
  obtain ⟨d, hI, _⟩ := hg; exact hI.num K (by omega) (by omega)
end
end Go.Proofs.YtniijkcncpabaaaGreat
