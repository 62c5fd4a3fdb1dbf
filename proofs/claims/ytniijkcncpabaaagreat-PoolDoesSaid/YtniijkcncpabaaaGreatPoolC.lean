/- The pool: Put, New. -/
import Derived.Test.YtniijkcncpabaaaGreatPoolB
namespace Go.Proofs.YtniijkcncpabaaaGreat
open Go.RowKit Go.MapKept
set_option maxRecDepth 100000
set_option maxHeartbeats 400000

def putP (p : Pl) (s : ByteArray) (lsn : Int) : Pl := { p with s := padTo s 252, dirty := true, first := if p.dirty then p.first else lsn, last := lsn }
/-- what Put tells -/
def putE (σ : Pool) (k : Int) (s : ByteArray) (lsn : Int) : Int :=
  if heldE σ k ≠ 0 then heldE σ k else if 252 < s.size then 2 else match aget σ.L k with
    | none => 0
    | some p => if lsn < 1 ∨ lsn < p.last then 1 else 0
def putS (σ : Pool) (k : Int) (s : ByteArray) (lsn : Int) : Pool :=
  if putE σ k s lsn = 0 then match aget σ.L k with
    | none => σ
    | some p => { σ with L := aput σ.L k (putP p s lsn) }
  else σ
theorem held_zero {σ : Pool} {k : Int} (he : heldE σ k = 0) : ∃ p, aget σ.L k = some p ∧ p.pins ≠ 0 := by
  unfold heldE at he
  cases hg : aget σ.L k with
  | none => rw [hg] at he; cases he
  | some p => rw [hg] at he; exact ⟨p, rfl, fun e => by simp [e] at he⟩

/-- the stores of Put -/
theorem put_world {w : World} {bp bd : Nat} {S : Nat → Prop} {σ : Pool} {x : Locs} (hx : x.bd = bd) (h : PoolIs w bp x σ) (hS : ∀ k, Own bp x σ k → S k) {k : Int} {p : Pl} (hg : aget σ.L k = some p) (p' : Pl) {w' : World} (hc : Chg (· = x.pb k) w w')
    (hn : w'.heap[x.pb k]? = some (.cells p'.cells 71 (0, 0))) : PoolAt w' bp bd S { σ with L := aput σ.L k p' } ∧ Chg S w w' :=
  ⟨⟨x, hx, h.put hg p' hc hn, fun b hb => hS b (Own.put hg p' hb)⟩, hc.mono fun b _ e => by subst e; exact hS _ (.inr (.inr (.inr (.inr (.inr (.inr ⟨k, p, hg, rfl⟩))))))⟩

theorem put_ok {w : World} {bp bd : Nat} {S : Nat → Prop} {σ : Pool} (h : PoolAt w bp bd S σ) (k : Int) (s : ByteArray) (lsn : Int) (hs : s.size ≤ 140737488351232) :
    Calls Tryz.prog 27 #[ptrB bp, .int .i64 k, .string s, .int .i64 lsn] w fun e w' => e = .returned (.int .i64 (putE σ k s lsn)) ∧ PoolAt w' bp bd S (putS σ k s lsn) ∧ Chg S w w' := by
  obtain ⟨x, hx, h, hS⟩ := h
  have hh := held_ok h k
  by_cases he : heldE σ k = 0
  · obtain ⟨p, hg, hpn⟩ := held_zero he
    rw [he] at hh
    simp only [if_true] at hh
    by_cases hbig : 252 < s.size
    · have hE : putE σ k s lsn = 2 := by simp [putE, he, hbig]
      have hSS : putS σ k s lsn = σ := by simp [putS, hE]
      rw [hE, hSS]
      have HF := Lib.hid (show PoolAt w bp bd S σ from ⟨x, hx, h, hS⟩)
      have HH := Lib.hid hh
      clear h hh hS hE hSS he hg hpn
      simp only [ptrB] at *
      go_enter Tryz.func27, Tryz.ntmps27
      go_wp2_with fail
      refine HH.out.mono ?_
      rintro e w1 ⟨rfl, rfl⟩
      go_wp2
      go_ret
      exact ⟨rfl, HF.out, Chg.refl _ _⟩
    · have hpl := h.place k p hg
      have c4 := cell_at hpl 4 (v := .int .i64 p.last) rfl
      by_cases hl : lsn < 1 ∨ lsn < p.last
      · have hE : putE σ k s lsn = 1 := by simp [putE, he, hbig, hg, hl]
        have hSS : putS σ k s lsn = σ := by simp [putS, hE]
        rw [hE, hSS]
        have HF := Lib.hid (show PoolAt w bp bd S σ from ⟨x, hx, h, hS⟩)
        have HH := Lib.hid hh
        clear h hh hS hE hSS he hg hpn hpl
        simp only [ptrB] at *
        by_cases hl1 : lsn < 1
        · clear hl
          go_enter Tryz.func27, Tryz.ntmps27
          go_wp2_with fail
          refine HH.out.mono ?_
          rintro e w1 ⟨rfl, rfl⟩
          go_wp2
          go_ret
          exact ⟨rfl, HF.out, Chg.refl _ _⟩
        · have hl2 : lsn < p.last := hl.resolve_left hl1
          clear hl
          go_enter Tryz.func27, Tryz.ntmps27
          go_wp2_with fail
          refine HH.out.mono ?_
          rintro e w1 ⟨rfl, rfl⟩
          go_wp2
          go_ret
          exact ⟨rfl, HF.out, Chg.refl _ _⟩
      · have hE : putE σ k s lsn = 0 := by simp [putE, he, hbig, hg, hl]
        have hSS : putS σ k s lsn = { σ with L := aput σ.L k (putP p s lsn) } := by simp [putS, hE, hg]
        rw [hE, hSS]
        obtain ⟨i0, hi, hz0, hz1, hz2⟩ := info_parts infoU8
        obtain ⟨m, hm⟩ : ∃ m : Nat, s.size + m = 252 := ⟨252 - s.size, by omega⟩
        have hmk := run_make_bytes (P := Tryz.prog) (t := 97) Tryz.underlying97 hi hz0 hz1 hz2 m (by omega)
        have hcv := run_string_zeros (P := Tryz.prog) (src := 97) (dst := 9) Tryz.underlying97 Tryz.underlying5 Tryz.underlying9 m m
        have hzs := zeros_size m
        have hsub : (252 : Int) - s.size = m := by omega
        have hpad : padTo s 252 = s ++ zeros m := by rw [padTo, show 252 - s.size = m from by omega]
        have hlt := lt_of_block hpl
        have d2 := cell_at hpl 2 (v := .bool p.dirty) rfl
        have e0 := cell_at hpl 0 (v := .string p.s) rfl
        have e3 := cell_at hpl 3 (v := .int .i64 p.first) rfl
        have f0 := free_at hpl 0
        have f2 := free_at hpl 2
        have f3 := free_at hpl 3
        have f4 := free_at hpl 4
        have HW := Lib.hid (fun w' => put_world (w' := w') hx h hS hg (putP p s lsn))
        have HH := Lib.hid hh
        have HP := Lib.hid hpad
        have hl1 : 1 ≤ lsn := by omega
        have hl2 : p.last ≤ lsn := by omega
        have HPL := Lib.hid hpl
        clear h hh hS hE hSS he hg hpn hpad hpl hl hbig
        simp only [ptrB] at *
        cases hd : p.dirty with
        | false =>
          rw [hd] at d2
          have HD := Lib.hid hd
          have hcv3 := hcv (w.setCell ⟨x.pb k, 3, none⟩ (.int .i64 lsn))
          rw [World.size_setCell] at hcv3
          clear hd
          go_enter Tryz.func27, Tryz.ntmps27
          go_wp2_with fail
          refine HH.out.mono ?_
          rintro e w1 ⟨rfl, rfl⟩
          go_wp2
          go_ret
          have hn := at_setCell (at_setCell (at_setCell (at_setCell HPL.out 3 (.int .i64 lsn)) 0 (.string (s ++ zeros m))) 2 (.bool true)) 4 (.int .i64 lsn)
          have hc := (((chg_setCell w (x.pb k) 3 (.int .i64 lsn)).then (chg_setCell _ (x.pb k) 0 (.string (s ++ zeros m)))).then (chg_setCell _ (x.pb k) 2 (.bool true))).then (chg_setCell _ (x.pb k) 4 (.int .i64 lsn))
          obtain ⟨g1, g2⟩ := HW.out _ hc (hn.trans (by simp [Pl.cells, putP, HP.out, HD.out]))
          exact ⟨rfl, g1.no ((Chg.refl _ _).alloc _), g2.alloc _⟩
        | true =>
          rw [hd] at d2
          have HD := Lib.hid hd
          clear hd
          go_enter Tryz.func27, Tryz.ntmps27
          go_wp2_with fail
          refine HH.out.mono ?_
          rintro e w1 ⟨rfl, rfl⟩
          go_wp2
          go_ret
          have hn := at_setCell (at_setCell (at_setCell HPL.out 0 (.string (s ++ zeros m))) 2 (.bool true)) 4 (.int .i64 lsn)
          have hc := ((chg_setCell w (x.pb k) 0 (.string (s ++ zeros m))).then (chg_setCell _ (x.pb k) 2 (.bool true))).then (chg_setCell _ (x.pb k) 4 (.int .i64 lsn))
          obtain ⟨g1, g2⟩ := HW.out _ hc (hn.trans (by simp [Pl.cells, putP, HP.out, HD.out]))
          exact ⟨rfl, g1.no ((Chg.refl _ _).alloc _), g2.alloc _⟩
  · have hE : putE σ k s lsn = heldE σ k := by simp [putE, he]
    have hSS : putS σ k s lsn = σ := by simp [putS, hE, he]
    rw [hE, hSS]
    rw [if_neg he] at hh
    have hb : (heldE σ k == 0) = false := by simpa using he
    have hb' : (heldE σ k != 0) = true := by simpa using he
    have HF := Lib.hid (show PoolAt w bp bd S σ from ⟨x, hx, h, hS⟩)
    have HH := Lib.hid hh
    clear h hh hS hE hSS he
    generalize heldE σ k = ee at *
    simp only [ptrB] at *
    go_enter Tryz.func27, Tryz.ntmps27
    go_wp2_with fail
    refine HH.out.mono ?_
    rintro e w1 ⟨rfl, rfl⟩
    go_wp2
    go_ret
    exact ⟨rfl, HF.out, Chg.refl _ _⟩

/-- New -/
theorem pnew_ok {w : World} {bd bs : Nat} {D : Disk} (hD : DiskIs w bd bs (.slice none 0 0) D) (n : Int) (h1 : 1 ≤ n) (h2 : n ≤ 64) (S : Nat → Prop) (hS : ∀ k, w.heap.size ≤ k → S k) (hSd : S bd) (hSs : S bs) :
    Calls Tryz.prog 6 #[ptrB bd, .int .i64 n] w fun e w' => e = .returned (.tuple #[ptrB (w.heap.size + 1), .int .i64 0]) ∧ PoolAt w' (w.heap.size + 1) bd S ⟨n, 0, [], [], D⟩ ∧ Chg No w w' ∧ w'.heap.size = w.heap.size + 2 := by
  have hmm := @run_makeMap Tryz.prog
  have hlt := lt_of_block hD.self
  have hlt2 := hD.stays.lt
  have hfin : PoolAt ((w.alloc (.map #[] 0)).alloc (.cells #[ptrB bd, .int .i64 n, .map (some w.heap.size), .slice none 0 0, .int .i64 0] 61)) (w.heap.size + 1) bd S ⟨n, 0, [], [], D⟩ := by
    have hc : Chg No w ((w.alloc (.map #[] 0)).alloc (.cells #[ptrB bd, .int .i64 n, .map (some w.heap.size), .slice none 0 0, .int .i64 0] 61)) := ((Chg.refl _ _).alloc _).alloc _
    refine ⟨⟨bd, bs, w.heap.size, .slice none 0 0, .slice none 0 0, fun _ => 0⟩, rfl, ⟨?_, (kmap.made w).chg ((Chg.refl No _).alloc _) (fun h => h), fun k p hp => by simp [aget] at hp, World.ownsRow_nil _ _ _ _, hD.no hc, fun j k p q hp => by simp [aget] at hp, by show w.heap.size ≠ bs; omega, by simp⟩, ?_⟩
    · have := (MapKept.heap_alloc (w.alloc (.map #[] 0)) (.cells #[ptrB bd, .int .i64 n, .map (some w.heap.size), .slice none 0 0, .int .i64 0] 61)).1
      rw [World.size_alloc] at this
      exact this
    · rintro k (h | h | h | h | h | h | ⟨j, p, hp, _⟩)
      · exact hS k (by omega)
      · exact hS k (by simp at h; omega)
      · exact (show k = bd from h) ▸ hSd
      · exact (show k = bs from h) ▸ hSs
      · simp [Value.ownBlock] at h
      · simp [Value.ownBlock] at h
      · simp [aget] at hp
  have HF := Lib.hid hfin
  clear hfin hD
  simp only [ptrB] at *
  go_enter Tryz.func6, Tryz.ntmps6
  go_wp2
  go_ret2
  exact ⟨rfl, HF.out, ((Chg.refl _ _).alloc _).alloc _, by simp⟩
theorem pnew_bad (a : Value) (n : Int) (h : n < 1 ∨ 64 < n) (w : World) :
    Calls Tryz.prog 6 #[a, .int .i64 n] w fun e w' => e = .returned (.tuple #[.pointer none, .int .i64 1]) ∧ w = w' := by
  rcases h with h | h
  · go_enter Tryz.func6, Tryz.ntmps6
    go_wp2
    go_ret2
    exact ⟨rfl, rfl⟩
  · have h1 : ¬ n < 1 := by omega
    go_enter Tryz.func6, Tryz.ntmps6
    go_wp2
    go_ret2
    exact ⟨rfl, rfl⟩
end Go.Proofs.YtniijkcncpabaaaGreat
