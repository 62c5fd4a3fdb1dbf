/- fixed. -/
import Derived.Test.YtniijkcncpabaaaGreatClean
import Derived.Test.YtniijkcncpabaaaGreatDirty
import Derived.Test.YtniijkcncpabaaaGreatLittle
namespace Go.Proofs.YtniijkcncpabaaaGreat
open Go.RowKit Go.MapKept
set_option maxRecDepth 100000
set_option maxHeartbeats 1000000

/-- the pool of a call, all of it newer than w -/
def InF (w : World) (bp bd : Nat) (σ : Pool) (w1 : World) : Prop := PoolAt w1 bp bd (fun b => w.heap.size ≤ b) σ ∧ Chg No w w1
theorem Chg.newOnly {w w1 w2 : World} (h : Chg No w w1) (k : Chg (fun b => w.heap.size ≤ b) w1 w2) : Chg No w w2 := h.trans k fun i hi e => by omega
theorem InF.new {w : World} {bp bd : Nat} {σ : Pool} {w1 : World} (h : InF w bp bd σ w1) : ∀ k, w1.heap.size ≤ k → w.heap.size ≤ k := fun k hk => by have := h.2.size; omega
theorem InF.no {w : World} {bp bd : Nat} {σ : Pool} {w1 w2 : World} (h : InF w bp bd σ w1) (k : Chg No w1 w2) : InF w bp bd σ w2 := ⟨h.1.no k, h.2.then k⟩

def fc : ByteArray := padTo ByteArray.empty 252
def fa : ByteArray := padTo ⟨#[97]⟩ 252
theorem fc_size : fc.size = 252 := padTo_size _ _ (by decide)
theorem fa_size : fa.size = 252 := padTo_size _ _ (by decide)
theorem padTo_full (s : ByteArray) (h : s.size = 252) : padTo s 252 = s := by
  rw [padTo, h]
  apply ByteArray.ext
  simp [zeros]
def fD : Disk := ⟨4, [], []⟩
def f0 : Pool := ⟨1, 0, [], [], fD⟩
def f1 : Pool := ⟨1, 0, [(0, ⟨fc, 1, false, 0, 0⟩)], [0], fD⟩
def f2 : Pool := ⟨1, 0, [(0, ⟨fa, 1, true, 5, 5⟩)], [0], fD⟩
def f3 : Pool := ⟨1, 0, [(0, ⟨fa, 0, true, 5, 5⟩)], [0], fD⟩
def f4 : Pool := ⟨1, 5, [(0, ⟨fa, 0, true, 5, 5⟩)], [0], fD⟩
def f5 : Pool := ⟨1, 5, [(1, ⟨fc, 1, false, 0, 0⟩)], [1], ⟨4, [], [(0, page fa)]⟩⟩
theorem page_fc (D : Disk) (h : D.stays = []) (k : Int) (hw : lastW D.writes k = none) : D.raw k = page fc := by
  unfold Disk.raw
  rw [hw, h]; rfl
theorem fpin {w : World} {bp bd : Nat} {σ σ' : Pool} {w1 : World} (h : InF w bp bd σ w1) (k : Int) (e : Int) (s : ByteArray) (hn : ∀ k ∈ σ.ages, 0 ≤ k ∧ k < σ.D.n) (hin : ∀ k ∈ σ.ages, k ∈ keys σ.L) (hsz : ∀ k p, aget σ.L k = some p → p.s.size ≤ 252) (hfew : σ.D.writes.length + 1 ≤ 1000000000)
    (hk0 : 0 ≤ k) (hk1 : k < σ.D.n) (hr : σ.D.raw k = page fc) (hp0 : 0 ≤ pinsOf σ k) (hp1 : pinsOf σ k ≤ 1000000) (hlen : (youngL (pinIn σ k fc).ages k).length ≤ 1000) (hE : pinE σ k = e) (hS : pinS σ k fc = σ') (hC : pinC σ k fc = s) :
    Calls Tryz.prog 23 #[.pointer (some ⟨bp, 0, none⟩), .int .i64 k] w1 fun e' w' => e' = .returned (.tuple #[.string s, .int .i64 e]) ∧ InF w bp bd σ' w' := by
  refine (pin_ok h.1 h.new hn hin hsz hfew k hk0 hk1 fc fc_size hr hp0 hp1 hlen).mono ?_
  rintro e' w' ⟨rfl, h1, h2⟩
  rw [hE, hC]
  exact ⟨rfl, hS ▸ h1, h.2.newOnly h2⟩
theorem fput {w : World} {bp bd : Nat} {σ σ' : Pool} {w1 : World} (h : InF w bp bd σ w1) (k : Int) (s : ByteArray) (lsn e : Int) (hs : s.size ≤ 252) (hE : putE σ k s lsn = e) (hS : putS σ k s lsn = σ') :
    Calls Tryz.prog 27 #[.pointer (some ⟨bp, 0, none⟩), .int .i64 k, .string s, .int .i64 lsn] w1 fun e' w' => e' = .returned (.int .i64 e) ∧ InF w bp bd σ' w' := by
  refine (put_ok h.1 k s lsn (by omega)).mono ?_
  rintro e' w' ⟨rfl, h1, h2⟩
  rw [hE]
  exact ⟨rfl, hS ▸ h1, h.2.newOnly h2⟩
theorem funpin {w : World} {bp bd : Nat} {σ σ' : Pool} {w1 : World} (h : InF w bp bd σ w1) (k e : Int) (hp0 : 0 ≤ pinsOf σ k) (hp1 : pinsOf σ k ≤ 1000000) (hE : heldE σ k = e) (hS : unpin σ k = σ') :
    Calls Tryz.prog 25 #[.pointer (some ⟨bp, 0, none⟩), .int .i64 k] w1 fun e' w' => e' = .returned (.int .i64 e) ∧ InF w bp bd σ' w' := by
  refine (unpin_ok h.1 k hp0 hp1).mono ?_
  rintro e' w' ⟨rfl, h1, h2⟩
  rw [hE]
  exact ⟨rfl, hS ▸ h1, h.2.newOnly h2⟩
theorem fread {w : World} {bp bd : Nat} {σ : Pool} {w1 : World} (h : InF w bp bd σ w1) (p : Int) (hp0 : 0 ≤ p) (hp : p < σ.D.n) (c : ByteArray) (hc : c.size = 252) (hr : σ.D.raw p = page c) :
    Calls Tryz.prog 40 #[.pointer (some ⟨bd, 0, none⟩), .int .i64 p] w1 fun e w' => e = .returned (.tuple #[.string c, .int .i64 0]) ∧ Chg No w1 w' := by
  obtain ⟨⟨x, rfl, h1, _⟩, _⟩ := h
  exact read_ok h1.disk p hp0 hp c hc hr

theorem g1 : pinE f0 0 = 0 ∧ pinS f0 0 fc = f1 ∧ pinC f0 0 fc = fc := ⟨rfl, rfl, rfl⟩
theorem g2 : putE f1 0 ⟨#[97]⟩ 5 = 0 ∧ putS f1 0 ⟨#[97]⟩ 5 = f2 := ⟨rfl, rfl⟩
theorem g3 : putE f2 0 ⟨#[98]⟩ 4 = 1 ∧ putS f2 0 ⟨#[98]⟩ 4 = f2 := ⟨rfl, rfl⟩
theorem g4 : putE f2 1 ⟨#[99]⟩ 5 = 7 ∧ putS f2 1 ⟨#[99]⟩ 5 = f2 := ⟨rfl, rfl⟩
theorem g5 : pinE f2 1 = 6 ∧ pinS f2 1 fc = f2 ∧ pinC f2 1 fc = ByteArray.empty := ⟨rfl, rfl, rfl⟩
theorem g6 : heldE f2 0 = 0 ∧ unpin f2 0 = f3 := ⟨rfl, rfl⟩
theorem g7 : heldE f3 0 = 9 ∧ unpin f3 0 = f3 := ⟨rfl, rfl⟩
theorem g8 : pinE f3 1 = 6 ∧ pinS f3 1 fc = f3 ∧ pinC f3 1 fc = ByteArray.empty := ⟨rfl, rfl, rfl⟩
theorem sortI_one (k : Int) : sortI [k] = [k] := by simp [sortI]
theorem g9 : leastOf f3 = (5, true) := by
  have h : dirtyL f3 = [0] := by
    unfold dirtyL
    rw [show keys f3.L = [0] from rfl, sortI_one]; rfl
  unfold leastOf
  rw [h]; rfl
theorem g10 : pinE f4 1 = 0 ∧ pinS f4 1 fc = f5 ∧ pinC f4 1 fc = fc := by
  refine ⟨rfl, ?_, rfl⟩
  show (⟨1, 5, [(1, ⟨fc, 1, false, 0, 0⟩)], [1], ⟨4, [], [(0, page (padTo fa 252))]⟩⟩ : Pool) = f5
  rw [padTo_full fa fa_size]; rfl
theorem k5 : sortI (keys f5.L) = [1] := by rw [show keys f5.L = [1] from rfl, sortI_one]
theorem d5 : dirtyL f5 = [] := by unfold dirtyL; rw [k5]; rfl
theorem c5 : cleanS f5 = (f5, 0) := by unfold cleanS; rw [k5]; rfl
theorem one_at {σ : Pool} (P : ∀ p, p ∈ σ.L → p.2.s.size ≤ 252) : ∀ k p, aget σ.L k = some p → p.s.size ≤ 252 := fun k p h => P (k, p) (aget_mem h)
theorem one_row (w : World) : IntRow (w.alloc (.cells #[.int .i64 1] 3)) (.slice (some ⟨w.heap.size, 0, none⟩) 1 1) [1] := by
  refine ⟨by simp [ints], .inr ⟨w.heap.size, 1, _, rfl, Nat.zero_le _, (MapKept.heap_alloc w (.cells #[.int .i64 1] 3)).1, by simp, by decide, by simp, by simp [ints]⟩⟩
theorem fixed_ok (w : World) : Calls Tryz.prog 21 #[] w fun e w' => e = .returned (.bool true) ∧ Chg No w w' := by
  have HDN := Lib.hid (dnew_ok 4 (by decide) (by decide) w)
  go_enter Tryz.func21, Tryz.ntmps21
  go_wp2_with fail
  refine HDN.out.mono ?_
  rintro e w1 ⟨rfl, hD, hc1, hsz1⟩
  have HPN := Lib.hid (pnew_ok hD 1 (by decide) (by decide) (fun b => w.heap.size ≤ b) (fun k hk => by omega) (by show w.heap.size ≤ w.heap.size + 1; omega) (Nat.le_refl _))
  have HC1 := Lib.hid hc1
  clear hD hc1 hsz1
  simp only [ptrB] at HPN
  go_wp2_with fail
  refine HPN.out.mono ?_
  rintro e w2 ⟨rfl, hP, hc2, _⟩
  have I0 : Hid (InF w (w1.heap.size + 1) (w.heap.size + 1) f0 w2) := Lib.hid ⟨hP, HC1.out.then hc2⟩
  clear hP hc2
  generalize w1.heap.size + 1 = bp at *
  generalize w.heap.size + 1 = bd at *
  go_wp2_with fail
  refine (pnew_bad _ 0 (.inl (by decide)) w2).mono ?_
  rintro e w3 ⟨rfl, rfl⟩
  go_wp2_with fail
  refine (pnew_bad _ 65 (.inr (by decide)) w2).mono ?_
  rintro e w3 ⟨rfl, rfl⟩
  go_wp2_with fail
  refine (pin_bad I0.out.1 4 (.inr (by decide))).mono ?_
  rintro e w3 ⟨rfl, rfl⟩
  go_wp2_with fail
  refine (fpin I0.out 0 _ _ (by simp [f0]) (by simp [f0]) (one_at (by simp [f0])) (by decide) (by decide) (by decide) (page_fc _ rfl _ rfl) (by decide) (by decide) (by decide) g1.1 g1.2.1 g1.2.2).mono ?_
  rintro e w3 ⟨rfl, hI⟩
  have I1 := Lib.hid hI
  clear hI
  go_wp2_with fail
  refine (fput I1.out 0 _ 5 _ (by decide) g2.1 g2.2).mono ?_
  rintro e w4 ⟨rfl, hI⟩
  have I2 := Lib.hid hI
  clear hI
  go_wp2_with fail
  refine (fput I2.out 0 _ 4 _ (by decide) g3.1 g3.2).mono ?_
  rintro e w5 ⟨rfl, hI⟩
  have I3 := Lib.hid hI
  clear hI
  go_wp2_with fail
  refine (fput I3.out 1 _ 5 _ (by decide) g4.1 g4.2).mono ?_
  rintro e w6 ⟨rfl, hI⟩
  have I4 := Lib.hid hI
  clear hI
  go_wp2_with fail
  refine (fpin I4.out 1 _ _ (by simp [f2, fD]) (by simp [f2, keys]) (one_at (by simp [f2, fa_size])) (by decide) (by decide) (by decide) (page_fc _ rfl _ rfl) (by decide) (by decide) (by decide) g5.1 g5.2.1 g5.2.2).mono ?_
  rintro e w7 ⟨rfl, hI⟩
  have I5 := Lib.hid hI
  clear hI
  go_wp2_with fail
  refine (funpin I5.out 0 _ (by decide) (by decide) g6.1 g6.2).mono ?_
  rintro e w8 ⟨rfl, hI⟩
  have I6 := Lib.hid hI
  clear hI
  go_wp2_with fail
  refine (funpin I6.out 0 _ (by decide) (by decide) g7.1 g7.2).mono ?_
  rintro e w9 ⟨rfl, hI⟩
  have I7 := Lib.hid hI
  clear hI
  go_wp2_with fail
  refine (fpin I7.out 1 _ _ (by simp [f3, fD]) (by simp [f3, keys]) (one_at (by simp [f3, fa_size])) (by decide) (by decide) (by decide) (page_fc _ rfl _ rfl) (by decide) (by decide) (by decide) g8.1 g8.2.1 g8.2.2).mono ?_
  rintro e w10 ⟨rfl, hI⟩
  have I8 := Lib.hid hI
  clear hI
  go_wp2_with fail
  refine (least_ok I8.out.1 (by decide) (by simp [f3, keys])).mono ?_
  rw [g9]
  rintro e w11 ⟨rfl, hc⟩
  have I9 := Lib.hid (I8.out.no hc)
  clear hc
  go_wp2_with fail
  refine (sure_ok I9.out.1 5).mono ?_
  rintro e w12 ⟨rfl, hP, hc⟩
  have I10 : Hid (InF w bp bd f4 w12) := Lib.hid ⟨hP, I9.out.2.newOnly hc⟩
  clear hP hc
  go_wp2_with fail
  refine (fpin I10.out 1 _ _ (by simp [f4, fD]) (by simp [f4, keys]) (one_at (by simp [f4, fa_size])) (by decide) (by decide) (by decide) (page_fc _ rfl _ rfl) (by decide) (by decide) (by decide) g10.1 g10.2.1 g10.2.2).mono ?_
  rintro e w13 ⟨rfl, hI⟩
  have I11 := Lib.hid hI
  clear hI
  go_wp2_with fail
  refine (fread I11.out 0 (by decide) (by decide) fa fa_size rfl).mono ?_
  rintro e w14 ⟨rfl, hc⟩
  have I12 := Lib.hid (I11.out.no hc)
  clear hc
  go_wp2_with fail
  refine (r1pad_ok _ 252 w14 (by decide) (by decide)).mono ?_
  rintro e w15 ⟨rfl, hc⟩
  have I13 := Lib.hid (I12.out.no hc)
  clear hc
  have hfa : padTo ⟨#[97]⟩ 252 = fa := rfl
  rw [hfa]
  clear hfa
  go_wp2_with fail
  have HPG := Lib.hid (pages_ok I13.out.1 (by decide) (by simp [f5, keys]))
  rw [k5] at HPG
  simp only [ptrB] at HPG
  refine HPG.out.mono ?_
  rintro e w16 ⟨v, rfl, hrow, hc⟩
  have I14 := Lib.hid (I13.out.no hc)
  have hr0 : IntRow w16 v [1] := ownsRow_base_a hrow (Nat.zero_le _)
  have hca : Chg No w16 (w16.alloc (.cells #[.int .i64 1] 3)) := (Chg.refl No w16).alloc _
  have HIN := Lib.hid (ints_ok (hca.row hr0 (fun _ _ e => e)) (one_row w16) (by decide) (by decide))
  have I15 := Lib.hid (I14.out.no hca)
  clear hc hrow hr0 hca
  go_wp2_with fail
  refine HIN.out.mono ?_
  rintro e w17 ⟨rfl, hc⟩
  have I16 := Lib.hid (I15.out.no hc)
  clear hc
  have hb : (([1] : List Int) == [1]) = true := rfl
  rw [hb]
  clear hb
  have HDI := Lib.hid (dirty_ok I16.out.1 (by decide) (by simp [f5, keys]))
  rw [d5] at HDI
  simp only [ptrB] at HDI
  go_wp2_with fail
  refine HDI.out.mono ?_
  rintro e w18 ⟨v2, rfl, hrow, hc, _⟩
  have I17 := Lib.hid (I16.out.no hc)
  obtain ⟨a2, c2, rfl, _⟩ := row_form hrow
  clear hc hrow
  simp only [List.length_nil]
  go_wp2_with fail
  refine (pins_ok I17.out.1 1).mono ?_
  rintro e w19 ⟨rfl, rfl⟩
  have hp1 : pinsOf f5 1 = 1 := rfl
  have hp0 : pinsOf f5 0 = 0 := rfl
  rw [hp1]
  go_wp2_with fail
  refine (pins_ok I17.out.1 0).mono ?_
  rintro e w19 ⟨rfl, rfl⟩
  rw [hp0]
  have HCL := Lib.hid (clean_ok I17.out.1 I17.out.new 4 ⟨rfl, rfl, one_at (by simp [f5, fc_size]), by decide⟩ (by decide) (by simp [f5, keys]) (by decide))
  rw [c5] at HCL
  simp only [ptrB] at HCL
  clear hp1 hp0
  go_wp2_with fail
  refine HCL.out.mono ?_
  rintro e w20 ⟨rfl, hP, hc⟩
  have HF := Lib.hid (I17.out.2.newOnly hc)
  clear hP hc
  go_wp2
  --DBG
  go_ret
  exact ⟨rfl, HF.out⟩
end Go.Proofs.YtniijkcncpabaaaGreat
