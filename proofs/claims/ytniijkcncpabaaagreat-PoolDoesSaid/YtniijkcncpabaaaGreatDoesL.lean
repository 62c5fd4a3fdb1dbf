/- PoolDoes: where the pool and the reference's lie between two calls, and what each call makes of both. -/
import Derived.Test.YtniijkcncpabaaaGreatSame
import Derived.Test.YtniijkcncpabaaaGreatHoldsL
namespace Go.Proofs.YtniijkcncpabaaaGreat
open Go.RowKit Go.MapKept
set_option maxRecDepth 100000
set_option maxHeartbeats 1000000

/-- the pool (of state σ) and the reference's (of state τ), apart, in blocks that are new since w; the blocks of F are as they were in wf -/
def Both (F : Nat → Prop) (wf w : World) (bp bd rb rd : Nat) (σ τ : Pool) (wr : World) : Prop := ∃ S T : Nat → Prop, PoolAt wr bp bd S σ ∧ RPoolAt wr rb rd T τ ∧ (∀ b, S b → ¬ T b) ∧ (∀ b, S b ∨ T b → w.heap.size ≤ b ∧ b < wr.heap.size ∧ ¬ F b) ∧ Chg No w wr ∧ (∀ b, F b → b < wf.heap.size) ∧ Chg (fun b => ¬ F b) wf wr
section
variable {F : Nat → Prop} {wf w wr w' : World} {bp bd rb rd : Nat} {σ τ : Pool}
theorem Both.chg (h : Both F wf w bp bd rb rd σ τ wr) : Chg No w wr := by obtain ⟨S, T, _, _, _, _, h, _⟩ := h; exact h
theorem Both.same (h : Both F wf w bp bd rb rd σ τ wr) : Chg (fun b => ¬ F b) wf wr := by obtain ⟨S, T, _, _, _, _, _, _, h⟩ := h; exact h
theorem Both.at (h : Both F wf w bp bd rb rd σ τ wr) {b : Nat} {o : Obj} (hb : wf.heap[b]? = some o) (hf : F b) : wr.heap[b]? = some o := h.same.at hb (fun e => e hf)
theorem Both.no (h : Both F wf w bp bd rb rd σ τ wr) (hc : Chg No wr w') : Both F wf w bp bd rb rd σ τ w' := by
  obtain ⟨S, T, h1, h2, h3, h4, h5, h6, h7⟩ := h
  exact ⟨S, T, h1.no hc, h2.no hc, h3, fun b hb => ⟨(h4 b hb).1, Nat.lt_of_lt_of_le (h4 b hb).2.1 hc.size, (h4 b hb).2.2⟩, h5.then hc, h6, h7.thenNo hc⟩
/-- a look at a block that is new -/
theorem Both.focus (h : Both No w w bp bd rb rd σ τ wr) (o : Obj) : Both (fun b => b = wr.heap.size) (wr.alloc o) w bp bd rb rd σ τ (wr.alloc o) := by
  have hc : Chg No wr (wr.alloc o) := (Chg.refl No wr).alloc o
  obtain ⟨S, T, h1, h2, h3, h4, h5, h6, h7⟩ := h
  exact ⟨S, T, h1.no hc, h2.no hc, h3, fun b hb => ⟨(h4 b hb).1, Nat.lt_of_lt_of_le (h4 b hb).2.1 hc.size, fun e => by have := (h4 b hb).2.1; omega⟩, h5.then hc, fun b e => by simp; omega, Chg.refl _ _⟩
theorem Both.blur (h : Both F wf w bp bd rb rd σ τ wr) : Both No w w bp bd rb rd σ τ wr := by
  obtain ⟨S, T, h1, h2, h3, h4, h5, h6, h7⟩ := h
  exact ⟨S, T, h1, h2, h3, fun b hb => ⟨(h4 b hb).1, (h4 b hb).2.1, fun e => e⟩, h5, fun b e => e.elim, h5.ofNo⟩
theorem Both.left (h : Both F wf w bp bd rb rd σ τ wr) : ∃ S : Nat → Prop, PoolAt wr bp bd S σ ∧ (∀ k, wr.heap.size ≤ k → S k) ∧ ∀ w' σ', PoolAt w' bp bd S σ' → Chg S wr w' → Both F wf w bp bd rb rd σ' τ w' := by
  obtain ⟨S, T, h1, h2, h3, h4, h5, h6, h7⟩ := h
  refine ⟨fun b => S b ∨ wr.heap.size ≤ b, h1.mono (fun _ h => .inl h), fun k hk => .inr hk, fun w' σ' hp hc => ?_⟩
  have hF : ∀ b, wr.heap.size ≤ b → ¬ F b := fun b hb e => by have := h6 b e; have := h7.size; omega
  refine ⟨fun b => (S b ∨ wr.heap.size ≤ b) ∧ b < w'.heap.size, T, hp.upTo, h2.chg hc (fun k hk e => e.elim (fun e => h3 k e hk) (fun e => by have := (h4 k (.inr hk)).2.1; omega)), fun b hb ht => ?_, fun b hb => ?_, h5.trans hc (fun i hi e => ?_), h6, h7.trans hc (fun b _ e => e.elim (fun e => (h4 b (.inl e)).2.2) (hF b))⟩
  · rcases hb.1 with e | e
    · exact h3 b e ht
    · have := (h4 b (.inr ht)).2.1; omega
  · rcases hb with ⟨e | e, hlt⟩ | e
    · exact ⟨(h4 b (.inl e)).1, hlt, (h4 b (.inl e)).2.2⟩
    · exact ⟨by have := h5.size; omega, hlt, hF b e⟩
    · exact ⟨(h4 b (.inr e)).1, Nat.lt_of_lt_of_le (h4 b (.inr e)).2.1 hc.size, (h4 b (.inr e)).2.2⟩
  · rcases e with e | e
    · have := (h4 i (.inl e)).1; omega
    · have := h5.size; omega
theorem Both.right (h : Both F wf w bp bd rb rd σ τ wr) : ∃ T : Nat → Prop, RPoolAt wr rb rd T τ ∧ (∀ k, wr.heap.size ≤ k → T k) ∧ ∀ w' τ', RPoolAt w' rb rd T τ' → Chg T wr w' → Both F wf w bp bd rb rd σ τ' w' := by
  obtain ⟨S, T, h1, h2, h3, h4, h5, h6, h7⟩ := h
  refine ⟨fun b => T b ∨ wr.heap.size ≤ b, h2.mono (fun _ h => .inl h), fun k hk => .inr hk, fun w' τ' hp hc => ?_⟩
  have hF : ∀ b, wr.heap.size ≤ b → ¬ F b := fun b hb e => by have := h6 b e; have := h7.size; omega
  refine ⟨S, fun b => (T b ∨ wr.heap.size ≤ b) ∧ b < w'.heap.size, h1.chg hc (fun k hk e => e.elim (fun e => h3 k hk e) (fun e => by have := (h4 k (.inl hk)).2.1; omega)), hp.upTo, fun b hb ht => ?_, fun b hb => ?_, h5.trans hc (fun i hi e => ?_), h6, h7.trans hc (fun b _ e => e.elim (fun e => (h4 b (.inr e)).2.2) (hF b))⟩
  · rcases ht.1 with e | e
    · exact h3 b hb e
    · have := (h4 b (.inl hb)).2.1; omega
  · rcases hb with e | ⟨e | e, hlt⟩
    · exact ⟨(h4 b (.inl e)).1, Nat.lt_of_lt_of_le (h4 b (.inl e)).2.1 hc.size, (h4 b (.inl e)).2.2⟩
    · exact ⟨(h4 b (.inr e)).1, hlt, (h4 b (.inr e)).2.2⟩
    · exact ⟨by have := h5.size; omega, hlt, hF b e⟩
  · rcases e with e | e
    · have := (h4 i (.inr e)).1; omega
    · have := h5.size; omega
/-- the law of what stands between two calls -/
def GoodD (n : Int) (i : Nat) (σ : Pool) : Prop := ∃ has held, Good n i σ has held
variable {n : Int} {i : Nat}
theorem GoodD.more {j : Nat} (h : GoodD n i σ) (hij : i ≤ j) : GoodD n j σ := by obtain ⟨a, b, h⟩ := h; exact ⟨a, b, h.more hij⟩
theorem GoodD.aged (h : GoodD n i σ) : Aged σ := by obtain ⟨_, _, _, _, h, _⟩ := h; exact h
theorem GoodD.range (h : GoodD n i σ) : ∀ k ∈ keys σ.L, 0 ≤ k ∧ k < 8 := by obtain ⟨_, _, _, h, _⟩ := h; exact h.range
theorem GoodD.dn (h : GoodD n i σ) : σ.D.n = 8 := by obtain ⟨_, _, _, h, _⟩ := h; exact h.dn
theorem GoodD.nodup (h : GoodD n i σ) : (keys σ.L).Nodup := h.aged.2
theorem GoodD.range2 (h : GoodD n i σ) : ∀ k ∈ keys σ.L, 0 ≤ k ∧ k < σ.D.n := by rw [h.dn]; exact h.range
theorem GoodD.writes (h : GoodD n i σ) : σ.D.writes.length ≤ 10 * i := by obtain ⟨_, _, _, h, _⟩ := h; exact h.writes
theorem GoodD.len (h : GoodD n i σ) : (σ.L.length : Int) ≤ n := by obtain ⟨_, _, _, _, _, h⟩ := h; exact h
theorem GoodD.psize (h : GoodD n i σ) : ∀ k p, aget σ.L k = some p → p.s.size ≤ 252 := fun k p hp => by
  obtain ⟨_, _, _, h, _⟩ := h; rw [h.psize hp]; exact Nat.le_refl _
theorem GoodD.ages (h : GoodD n i σ) (hn : n ≤ 8) : σ.ages.length ≤ 8 := by
  have := h.len; rw [h.aged.1.length_eq, keys_len]; omega
theorem GoodD.pins (h : GoodD n i σ) (k : Int) : 0 ≤ pinsOf σ k ∧ pinsOf σ k ≤ i := by
  obtain ⟨_, _, _, h, _⟩ := h
  by_cases hk : 0 ≤ k ∧ k < 8
  · rw [pins_inv h hk.1 hk.2]; exact h.num k hk.1 hk.2
  · have : aget σ.L k = none := aget_none.2 (fun hm => hk (h.range k hm))
    rw [pinsOf, this]; exact ⟨Int.le_refl 0, by show (0 : Int) ≤ i; omega⟩
theorem GoodD.out (h : GoodD n i σ) {k : Int} (hk : ¬ (0 ≤ k ∧ k < 8)) : aget σ.L k = none := aget_none.2 (fun hm => hk (h.range k hm))
theorem good_start (n : Int) (h1 : 1 ≤ n) : GoodD n 0 ⟨n, 0, [], [], ⟨8, [], []⟩⟩ := ⟨_, _, _, inv_start n h1, ⟨List.Perm.refl _, List.Pairwise.nil⟩, by show (0 : Int) ≤ n; omega⟩

theorem dpin (h : Both F wf w bp bd rb rd σ σ wr) (hg : GoodD n i σ) (hn : n ≤ 8) (hi : i ≤ 1000) (K : Int) : ∃ s E σ', GoodD n (i + 1) σ' ∧
    (∀ wx, Chg No wr wx → Calls Tryz.prog 23 #[.pointer (some ⟨bp, 0, none⟩), .int .i64 K] wx fun e w' => e = .returned (.tuple #[.string s, .int .i64 E]) ∧ Both F wf w bp bd rb rd σ' σ w') ∧
    (∀ wx, Both F wf w bp bd rb rd σ' σ wx → Calls Tryz.prog 24 #[.pointer (some ⟨rb, 0, none⟩), .int .i64 K] wx fun e w' => e = .returned (.tuple #[.string s, .int .i64 E]) ∧ Both F wf w bp bd rb rd σ' σ' w') := by
  by_cases hk : 0 ≤ K ∧ K < 8
  · have hg0 := hg
    obtain ⟨has, held, d, hI, hA, hl⟩ := hg
    have hpn := hg0.pins K
    have hag := hg0.ages hn
    have hw := hg0.writes
    have hnn : ∀ k ∈ σ.ages, 0 ≤ k ∧ k < σ.D.n := fun k hk => by rw [hI.dn]; exact hI.range k (hA.1.mem_iff.1 hk)
    refine ⟨pinC σ K (d K), pinE σ K, pinS σ K (d K), ?_, fun wx hx => ?_, fun wx hx => ?_⟩
    · by_cases he : pinE σ K = 0
      · obtain ⟨d', g1, g2, g3, g4⟩ := pin_inv hI hA hl hk.1 hk.2 he
        exact ⟨_, _, d', g1.more (by omega) (Nat.le_refl _), g2, g3⟩
      · obtain ⟨g1, g2, g3⟩ := pin_full hI hk.1 hk.2 he
        rw [g3]
        exact hg0.more (by omega)
    · obtain ⟨S, h1, h2, h3⟩ := (h.no hx).left
      refine (pin_ok h1 h2 hnn (fun k hk => hA.1.mem_iff.1 hk) hg0.psize (by omega) K hk.1 (by rw [hI.dn]; exact hk.2) (d K) (hI.disk K hk.1 hk.2).2 (hI.disk K hk.1 hk.2).1 (by omega) (by omega) ?_).mono ?_
      · refine Nat.le_trans (youngL_len _ _) ?_
        have : (pinIn σ K (d K)).ages.length ≤ σ.ages.length := by
          unfold pinIn
          split
          · exact Nat.le_refl _
          · exact freeS_len σ
        omega
      · rintro e w' ⟨rfl, hP, hC⟩
        exact ⟨rfl, h3 _ _ hP hC⟩
    · obtain ⟨T, h1, h2, h3⟩ := hx.right
      refine (rpin_ok h1 hA h2 hnn hg0.psize (by omega) K hk.1 (by rw [hI.dn]; exact hk.2) (d K) (hI.disk K hk.1 hk.2).2 (hI.disk K hk.1 hk.2).1 (by omega) (by omega) (by omega) (by have := freeS_len σ; omega)).mono ?_
      rintro e w' ⟨rfl, hP, hC⟩
      exact ⟨rfl, h3 _ _ hP hC⟩
  · have hbad : K < 0 ∨ σ.D.n ≤ K := by rw [hg.dn]; omega
    refine ⟨ByteArray.empty, 1, σ, hg.more (by omega), fun wx hx => ?_, fun wx hx => ?_⟩
    · obtain ⟨S, h1, h2, h3⟩ := (h.no hx).left
      refine (pin_bad h1 K hbad).mono ?_
      rintro e w' ⟨rfl, rfl⟩
      exact ⟨rfl, h.no hx⟩
    · obtain ⟨T, h1, h2, h3⟩ := hx.right
      refine (rpin_bad h1 K hbad).mono ?_
      rintro e w' ⟨rfl, rfl⟩
      exact ⟨rfl, hx⟩
theorem unpin_out {k : Int} (h : aget σ.L k = none) : unpin σ k = σ := by rw [unpin, h]
theorem dunpin (h : Both F wf w bp bd rb rd σ σ wr) (hg : GoodD n i σ) (hi : i ≤ 1000) (K : Int) : ∃ E σ', GoodD n (i + 1) σ' ∧
    (∀ wx, Chg No wr wx → Calls Tryz.prog 25 #[.pointer (some ⟨bp, 0, none⟩), .int .i64 K] wx fun e w' => e = .returned (.int .i64 E) ∧ Both F wf w bp bd rb rd σ' σ w') ∧
    (∀ wx, Both F wf w bp bd rb rd σ' σ wx → Calls Tryz.prog 26 #[.pointer (some ⟨rb, 0, none⟩), .int .i64 K] wx fun e w' => e = .returned (.int .i64 E) ∧ Both F wf w bp bd rb rd σ' σ' w') := by
  have hpn := hg.pins K
  refine ⟨heldE σ K, unpin σ K, ?_, fun wx hx => ?_, fun wx hx => ?_⟩
  · by_cases hk : 0 ≤ K ∧ K < 8
    · obtain ⟨has, held, d, hI, hA, hl⟩ := hg
      obtain ⟨g1, g2, g3⟩ := unpin_inv hI hA hk.1 hk.2
      exact ⟨_, _, d, g1.more (by omega) (by omega), g2, by rw [g3]; exact hl⟩
    · rw [unpin_out (hg.out hk)]; exact hg.more (by omega)
  · obtain ⟨S, h1, h2, h3⟩ := (h.no hx).left
    refine (unpin_ok h1 K (by omega) (by omega)).mono ?_
    rintro e w' ⟨rfl, hP, hC⟩
    exact ⟨rfl, h3 _ _ hP hC⟩
  · obtain ⟨T, h1, h2, h3⟩ := hx.right
    refine (runpin_ok h1 hg.aged K (by omega) (by omega)).mono ?_
    rintro e w' ⟨rfl, hP, hC⟩
    exact ⟨rfl, h3 _ _ hP hC⟩
theorem putE_out {k : Int} (h : aget σ.L k = none) (s : ByteArray) (lsn : Int) : putS σ k s lsn = σ := by
  have : putE σ k s lsn ≠ 0 := by
    have he : heldE σ k = 7 := by rw [heldE, h]
    simp [putE, he]
  rw [putS, if_neg this]
theorem put_pad (s : ByteArray) (h : s.size ≤ 252) (k lsn : Int) : putS σ k s lsn = putS σ k (padTo s 252) lsn := by
  have hp := padTo_size s 252 h
  have he : putE σ k s lsn = putE σ k (padTo s 252) lsn := by
    unfold putE
    rw [hp]
    simp [show ¬ 252 < s.size from by omega]
  have hq : ∀ p : Pl, putP p s lsn = putP p (padTo s 252) lsn := fun p => by
    unfold putP
    rw [padTo_whole (padTo s 252) hp]
  unfold putS
  rw [he]
  simp only [hq]
theorem put_big (s : ByteArray) (h : 252 < s.size) (k lsn : Int) : putS σ k s lsn = σ := by
  have : putE σ k s lsn ≠ 0 := by
    unfold putE
    split
    · assumption
    · simp
  rw [putS, if_neg this]
theorem dput (h : Both F wf w bp bd rb rd σ σ wr) (hg : GoodD n i σ) (K : Int) (s : ByteArray) (hs : s.size ≤ 300) (lsn : Int) : ∃ E σ', GoodD n (i + 1) σ' ∧
    (∀ wx, Chg No wr wx → Calls Tryz.prog 27 #[.pointer (some ⟨bp, 0, none⟩), .int .i64 K, .string s, .int .i64 lsn] wx fun e w' => e = .returned (.int .i64 E) ∧ Both F wf w bp bd rb rd σ' σ w') ∧
    (∀ wx, Both F wf w bp bd rb rd σ' σ wx → Calls Tryz.prog 28 #[.pointer (some ⟨rb, 0, none⟩), .int .i64 K, .string s, .int .i64 lsn] wx fun e w' => e = .returned (.int .i64 E) ∧ Both F wf w bp bd rb rd σ' σ' w') := by
  refine ⟨putE σ K s lsn, putS σ K s lsn, ?_, fun wx hx => ?_, fun wx hx => ?_⟩
  · by_cases hk : 0 ≤ K ∧ K < 8
    · by_cases hb : 252 < s.size
      · rw [put_big s hb]; exact hg.more (by omega)
      · obtain ⟨has, held, d, hI, hA, hl⟩ := hg
        rw [put_pad s (by omega)]
        obtain ⟨g1, g2, g3⟩ := put_inv hI hA hk.1 hk.2 (padTo s 252) (padTo_size s 252 (by omega)) lsn
        exact ⟨_, _, d, g1.more (by omega) (by omega), g2, by rw [g3]; exact hl⟩
    · rw [putE_out (hg.out hk)]; exact hg.more (by omega)
  · obtain ⟨S, h1, h2, h3⟩ := (h.no hx).left
    refine (put_ok h1 K s lsn (by omega)).mono ?_
    rintro e w' ⟨rfl, hP, hC⟩
    exact ⟨rfl, h3 _ _ hP hC⟩
  · obtain ⟨T, h1, h2, h3⟩ := hx.right
    refine (rput_ok h1 hg.aged K s lsn (by omega)).mono ?_
    rintro e w' ⟨rfl, hP, hC⟩
    exact ⟨rfl, h3 _ _ hP hC⟩
theorem dclean (h : Both F wf w bp bd rb rd σ σ wr) (hg : GoodD n i σ) (hn : n ≤ 8) (hi : i ≤ 1000) : ∃ E σ', GoodD n (i + 1) σ' ∧
    (∀ wx, Chg No wr wx → Calls Tryz.prog 30 #[.pointer (some ⟨bp, 0, none⟩)] wx fun e w' => e = .returned (.int .i64 E) ∧ Both F wf w bp bd rb rd σ' σ w') ∧
    (∀ wx, Both F wf w bp bd rb rd σ' σ wx → Calls Tryz.prog 31 #[.pointer (some ⟨rb, 0, none⟩)] wx fun e w' => e = .returned (.int .i64 E) ∧ Both F wf w bp bd rb rd σ' σ' w') := by
  have hw := hg.writes
  have hle := hg.len
  refine ⟨(cleanS σ).2, (cleanS σ).1, ?_, fun wx hx => ?_, fun wx hx => ?_⟩
  · obtain ⟨has, held, d, hI, hA, hl⟩ := hg
    obtain ⟨⟨d', g1⟩, g2, g3⟩ := clean_inv hI hA hl hn
    exact ⟨_, _, d', g1.more (by omega) (by omega), g2, g3⟩
  · obtain ⟨S, h1, h2, h3⟩ := (h.no hx).left
    refine (clean_ok h1 h2 8 ⟨rfl, hg.dn, hg.psize, by omega⟩ (by omega) hg.range (by decide)).mono ?_
    rintro e w' ⟨rfl, hP, hC⟩
    exact ⟨rfl, h3 _ _ hP hC⟩
  · obtain ⟨T, h1, h2, h3⟩ := hx.right
    have hsame := clean_same hg.nodup hg.range2
    have hds := dirty_same hg.nodup hg.range2
    have hcl := rclean_ok h1 hg.aged h2 8 ⟨rfl, hg.dn, hg.psize, by omega⟩ hg.range (by
      rw [hds]; unfold dirtyL kept
      have := List.length_filter_le (fun x => !(fun k => !dirtyB σ k) x) (sortI (keys σ.L))
      rw [sortI_len, keys_len] at this; omega) (fun k hk => dirtyL_mem (hds ▸ hk))
    rw [hsame] at hcl
    refine hcl.mono ?_
    rintro e w' ⟨rfl, hP, hC⟩
    exact ⟨rfl, h3 _ _ hP hC⟩
theorem sure_good (hg : GoodD n i σ) (m : Int) : GoodD n (i + 1) { σ with sure := m } := by
  obtain ⟨has, held, d, hI, hA, hl⟩ := hg
  have h1 := hI.more (c' := 10 * (i + 1)) (m' := i + 1) (by omega) (by omega)
  exact ⟨has, held, d, ⟨h1.places, h1.dn, h1.range, h1.writes, h1.disk, h1.clean, h1.out, h1.here, h1.away, h1.size, h1.num⟩, hA, hl⟩
theorem dsure (h : Both F wf w bp bd rb rd σ τ wr) (m : Int) :
    Calls Tryz.prog 29 #[.pointer (some ⟨bp, 0, none⟩), .int .i64 m] wr fun e w' => e = .returned (.tuple #[]) ∧ Both F wf w bp bd rb rd { σ with sure := max σ.sure m } τ w' := by
  obtain ⟨S, h1, h2, h3⟩ := h.left
  refine (sure_ok h1 m).mono ?_
  rintro e w' ⟨rfl, hP, hC⟩
  exact ⟨rfl, h3 _ _ hP hC⟩
/-- 'r.Sure = max(r.Sure, m)' -/
theorem dsure2 (h : Both F wf w bp bd rb rd σ τ wr) : wr.cell? ⟨rb, 2, none⟩ = some (.int .i64 τ.sure) ∧ wr.frozen? ⟨rb, 2, none⟩ = false ∧ ∀ m, Both F wf w bp bd rb rd σ { τ with sure := m } (wr.setCell ⟨rb, 2, none⟩ (.int .i64 m)) := by
  obtain ⟨T, ⟨x, hx, h1, hT⟩, h2, h3⟩ := h.right
  refine ⟨cell_at h1.self 2 rfl, free_at h1.self 2, fun m => ?_⟩
  have hc := chg_setCell wr rb 2 (.int .i64 m)
  refine h3 _ _ ⟨x, hx, ⟨at_setCell h1.self 2 _, hc.row h1.row (fun b hb e => by subst e; exact own_ne h1.row h1.self (by decide) hb), fun k p hp => hc.at (h1.place k p hp) (fun e => cells_ne h1.self (h1.place k p hp) (by decide) e.symm),
    h1.disk.chg hc (fun e => cells_ne h1.self h1.disk.self (by decide) e.symm) (fun b hb e => by subst e; exact own_ne h1.disk.pages h1.self (by decide) hb) (fun b hb e => by subst e; exact own_ne h1.disk.writes h1.self (by decide) hb), h1.inj, h1.mem, h1.nd, h1.few⟩, hT⟩ (hc.mono fun b _ e => by subst e; exact hT _ .self)
/-! ### what is looked at behind each call -/
theorem oleast (h : Both F wf w bp bd rb rd σ σ wr) (hg : GoodD n i σ) (hn : n ≤ 8) : (∀ wx, Chg No wr wx → Calls Tryz.prog 9 #[.pointer (some ⟨bp, 0, none⟩)] wx fun e w' => e = .returned (.tuple #[.int .i64 (leastOf σ).1, .bool (leastOf σ).2]) ∧ Chg No wx w') ∧
    (∀ wx, Chg No wr wx → Calls Tryz.prog 10 #[.pointer (some ⟨rb, 0, none⟩)] wx fun e w' => e = .returned (.tuple #[.int .i64 (leastOf σ).1, .bool (leastOf σ).2]) ∧ wx = w') := by
  have hle := hg.len
  refine ⟨fun wx hx => ?_, fun wx hx => ?_⟩
  · obtain ⟨S, h1, h2, h3⟩ := (h.no hx).left
    exact least_ok h1 (by omega) (fun k hk => by have := hg.range k hk; omega)
  · obtain ⟨T, ⟨x, _, h1, _⟩, h2, h3⟩ := (h.no hx).right
    have := rleast_ok h1
    rw [least_same hg.aged] at this
    exact this
theorem opages (h : Both F wf w bp bd rb rd σ σ wr) (hg : GoodD n i σ) (hn : n ≤ 8) : (∀ wx, Chg No wr wx → Calls Tryz.prog 12 #[.pointer (some ⟨bp, 0, none⟩)] wx fun e w' => ∃ v, e = .returned v ∧ IntRow w' v (sortI (keys σ.L)) ∧ Chg No wx w') ∧
    (∀ wx, Chg No wr wx → Calls Tryz.prog 13 #[.pointer (some ⟨rb, 0, none⟩), .bool false] wx fun e w' => ∃ v, e = .returned v ∧ IntRow w' v (sortI (keys σ.L)) ∧ Chg No wx w') ∧
    (∀ wx, Chg No wr wx → Calls Tryz.prog 14 #[.pointer (some ⟨bp, 0, none⟩)] wx fun e w' => ∃ v, e = .returned v ∧ IntRow w' v (dirtyL σ) ∧ Chg No wx w') ∧
    (∀ wx, Chg No wr wx → Calls Tryz.prog 13 #[.pointer (some ⟨rb, 0, none⟩), .bool true] wx fun e w' => ∃ v, e = .returned v ∧ IntRow w' v (dirtyL σ) ∧ Chg No wx w') := by
  have hle := hg.len
  refine ⟨fun wx hx => ?_, fun wx hx => ?_, fun wx hx => ?_, fun wx hx => ?_⟩
  · obtain ⟨S, h1, h2, h3⟩ := (h.no hx).left
    refine (pages_ok h1 (by omega) (fun k hk => by have := hg.range k hk; omega)).mono ?_
    rintro e w' ⟨v, rfl, hr, hc⟩
    exact ⟨v, rfl, ownsRow_base_a hr (Nat.zero_le _), hc⟩
  · obtain ⟨T, ⟨x, _, h1, _⟩, h2, h3⟩ := (h.no hx).right
    have := rpages_ok h1 hg.aged false
    rw [pages_same hg.nodup hg.range2] at this
    refine this.mono ?_
    rintro e w' ⟨v, rfl, hr, hc, _⟩
    exact ⟨v, rfl, hr, hc⟩
  · obtain ⟨S, h1, h2, h3⟩ := (h.no hx).left
    refine (dirty_ok h1 (by omega) (fun k hk => by have := hg.range k hk; omega)).mono ?_
    rintro e w' ⟨v, rfl, hr, hc, _⟩
    exact ⟨v, rfl, hr, hc⟩
  · obtain ⟨T, ⟨x, _, h1, _⟩, h2, h3⟩ := (h.no hx).right
    have := rpages_ok h1 hg.aged true
    rw [dirty_same hg.nodup hg.range2] at this
    refine this.mono ?_
    rintro e w' ⟨v, rfl, hr, hc, _⟩
    exact ⟨v, rfl, hr, hc⟩
theorem opins (h : Both F wf w bp bd rb rd σ σ wr) (hg : GoodD n i σ) (K : Int) : (∀ wx, Chg No wr wx → Calls Tryz.prog 15 #[.pointer (some ⟨bp, 0, none⟩), .int .i64 K] wx fun e w' => e = .returned (.int .i64 (pinsOf σ K)) ∧ wx = w') ∧
    (∀ wx, Chg No wr wx → Calls Tryz.prog 16 #[.pointer (some ⟨rb, 0, none⟩), .int .i64 K] wx fun e w' => e = .returned (.int .i64 (pinsOf σ K)) ∧ wx = w') := by
  refine ⟨fun wx hx => ?_, fun wx hx => ?_⟩
  · obtain ⟨S, h1, h2, h3⟩ := (h.no hx).left
    exact pins_ok h1 K
  · obtain ⟨T, ⟨x, _, h1, _⟩, h2, h3⟩ := (h.no hx).right
    exact rpins_ok h1 hg.aged K
theorem odisk (h : Both F wf w bp bd rb rd σ σ wr) (hg : GoodD n i σ) : (∀ wx, Chg No wr wx → Calls Tryz.prog 17 #[.pointer (some ⟨bd, 0, none⟩)] wx fun e w' => ∃ v, e = .returned v ∧ IntRow w' v (pagesOf σ.D.writes) ∧ Chg No wx w') ∧
    (∀ wx, Chg No wr wx → Calls Tryz.prog 18 #[.pointer (some ⟨rd, 0, none⟩)] wx fun e w' => ∃ v, e = .returned v ∧ IntRow w' v (pagesOf σ.D.writes) ∧ Chg No wx w') ∧
    (∀ (K : Nat), K < 8 → ∀ wx, Chg No wr wx → Calls Tryz.prog 19 #[.pointer (some ⟨bd, 0, none⟩), .int .i64 K] wx fun e w' => e = .returned (.string (σ.D.raw K)) ∧ Chg No wx w') ∧
    (∀ (K : Nat), K < 8 → ∀ wx, Chg No wr wx → Calls Tryz.prog 20 #[.pointer (some ⟨rd, 0, none⟩), .int .i64 K] wx fun e w' => e = .returned (.string (σ.D.raw K)) ∧ wx = w') := by
  refine ⟨fun wx hx => ?_, fun wx hx => ?_, fun K hK wx hx => ?_, fun K hK wx hx => ?_⟩
  · obtain ⟨S, ⟨x, rfl, h1, _⟩, h2, h3⟩ := (h.no hx).left
    refine (ddirty_ok h1.disk).mono ?_
    rintro e w' ⟨v, rfl, hr, hc, _⟩
    exact ⟨v, rfl, hr, hc⟩
  · obtain ⟨T, ⟨x, rfl, h1, _⟩, h2, h3⟩ := (h.no hx).right
    refine (r4dirty_ok h1.disk).mono ?_
    rintro e w' ⟨v, rfl, hr, hc, _⟩
    exact ⟨v, rfl, hr, hc⟩
  · obtain ⟨S, ⟨x, rfl, h1, _⟩, h2, h3⟩ := (h.no hx).left
    exact raw_ok h1.disk K (by omega) (by rw [hg.dn]; omega)
  · obtain ⟨T, ⟨x, rfl, h1, _⟩, h2, h3⟩ := (h.no hx).right
    exact r4raw_ok h1.disk K (by omega) (by rw [hg.dn]; omega)
end
end Go.Proofs.YtniijkcncpabaaaGreat
