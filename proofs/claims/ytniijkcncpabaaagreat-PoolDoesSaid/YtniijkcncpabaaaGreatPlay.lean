/- PoolDoes: a call, of both. -/
import Derived.Test.YtniijkcncpabaaaGreatDoesL
import Derived.Deep.DeepCutAuto
import Derived.Deep.RegionLaw
import Derived.Deep.RegionHeld3
import Derived.Deep.CutBlock
import Derived.Deep.CutRange
import Derived.IntWalk
namespace Go.Proofs.YtniijkcncpabaaaGreat
open Go.RowKit Go.MapKept
set_option maxRecDepth 100000
set_option maxHeartbeats 1000000

section
variable {w wr w' : World} {bp bd rb rd : Nat} {σ τ : Pool} {n : Int} {i : Nat}
theorem play_ok (h : Both No w w bp bd rb rd σ σ wr) (hg : GoodD n i σ) (hn : n ≤ 8) (hi : i ≤ 1000) (kd pg : Int) (so : ByteArray) (no : Int) (hso : so.size ≤ 9223372036854775807) :
    Calls Tryz.prog 8 #[.pointer (some ⟨bp, 0, none⟩), .pointer (some ⟨rb, 0, none⟩), .agg #[.int .i64 kd, .int .i64 pg, .string so, .int .i64 no]] wr fun e w' => e = .returned (.bool true) ∧ ∃ σ', Both No w w bp bd rb rd σ' σ' w' ∧ GoodD n (i + 1) σ' := by
  have hsz : (so.extract 0 (min (so.size : Int) 300).toNat).size ≤ 300 := by rw [ByteArray.size_extract]; omega
  have HB := Lib.hid (MapKept.heap_alloc wr (.cells #[.int .i64 kd, .int .i64 pg, .string so, .int .i64 no] 38)).1
  have hf := h.focus (.cells #[.int .i64 kd, .int .i64 pg, .string so, .int .i64 no] 38)
  have HC : Hid (∀ (σ1 σ2 : Pool) (w1 : World), Both (fun b => b = wr.heap.size) (wr.alloc (.cells #[.int .i64 kd, .int .i64 pg, .string so, .int .i64 no] 38)) w bp bd rb rd σ1 σ2 w1 → w1.cell? ⟨wr.heap.size, 1, none⟩ = some (.int .i64 pg) ∧ w1.cell? ⟨wr.heap.size, 3, none⟩ = some (.int .i64 no)) :=
    Lib.hid (fun σ1 σ2 w1 hb => ⟨cell_at (hb.at HB.out rfl) 1 rfl, cell_at (hb.at HB.out rfl) 3 rfl⟩)
  have HCC := Lib.hid (HC.out _ _ _ (hf.no ((Chg.refl No _).drew)))
  clear h
  by_cases k0 : kd = 0
  · subst k0
    obtain ⟨s, E, σ', g1, g2, g3⟩ := dpin hf hg hn hi pg
    have G1 := Lib.hid g1
    have G2 := Lib.hid (g2 _ (Chg.refl _ _))
    have G3 := Lib.hid g3
    clear g1 g2 g3 hf hg hsz
    go_enter Tryz.func8, Tryz.ntmps8
    go_wp2_with fail
    refine G2.out.mono ?_
    rintro e w1 ⟨rfl, hb⟩
    obtain ⟨c1, c3⟩ := HC.out _ _ w1 hb
    have HBB := Lib.hid hb
    clear hb
    go_wp2_with fail
    refine (G3.out _ HBB.out).mono ?_
    rintro e w2 ⟨rfl, hb⟩
    have HB2 := Lib.hid hb.blur
    clear hb
    go_wp2
    go_ret
    exact ⟨rfl, σ', HB2.out, G1.out⟩
  · have b0 : (kd == 0) = false := by simpa using k0
    by_cases k1 : kd = 1
    · subst k1
      clear b0 k0
      obtain ⟨E, σ', g1, g2, g3⟩ := dunpin hf hg hi pg
      have G1 := Lib.hid g1
      have G2 := Lib.hid (fun nq => g2 _ ((Chg.refl No _).drewN nq))
      have G2' := Lib.hid (g2 _ ((Chg.refl No _).drew))
      have G3 := Lib.hid g3
      clear g1 g2 g3 hf hg hsz
      go_enter Tryz.func8, Tryz.ntmps8
      go_wp2_with fail
      go_region_held3 (fun wz => wz.cell? ⟨wr.heap.size, 1, none⟩ = some (.int .i64 pg) ∧ wz.cell? ⟨wr.heap.size, 3, none⟩ = some (.int .i64 no)) (first | exact HCC.out | exact ⟨c1, c3⟩) (first | (go_at_call 25; refine G2'.out.mono ?_; rintro e w1 ⟨rfl, hb⟩; obtain ⟨c1, c3⟩ := HC.out _ _ w1 hb; have HBB := Lib.hid hb; clear hb) | (go_at_call 26; refine (G3.out _ HBB.out).mono ?_; rintro e w2 ⟨rfl, hb⟩; obtain ⟨c1, c3⟩ := HC.out _ _ w2 hb; have HB2 := Lib.hid hb.blur; clear hb))
      --DBG
      all_goals
        go_wp2
        go_ret
        exact ⟨rfl, σ', HB2.out, G1.out⟩
    · have b1 : (kd == 1) = false := by simpa using k1
      by_cases k2 : kd = 2
      · subst k2
        clear b0 k0 b1 k1
        obtain ⟨E, σ', g1, g2, g3⟩ := dput hf hg pg _ hsz no
        have G1 := Lib.hid g1
        have G2' := Lib.hid (g2 _ ((Chg.refl No _).drew))
        have G3 := Lib.hid g3
        clear g1 g2 g3 hf hg hsz
        go_enter Tryz.func8, Tryz.ntmps8
        go_wp2_with fail
        go_region_held3 (fun wz => wz.cell? ⟨wr.heap.size, 1, none⟩ = some (.int .i64 pg) ∧ wz.cell? ⟨wr.heap.size, 3, none⟩ = some (.int .i64 no)) (first | exact HCC.out | exact ⟨c1, c3⟩) (first | (go_at_call 27; refine G2'.out.mono ?_; rintro e w1 ⟨rfl, hb⟩; obtain ⟨c1, c3⟩ := HC.out _ _ w1 hb; have HBB := Lib.hid hb; clear hb) | (go_at_call 28; refine (G3.out _ HBB.out).mono ?_; rintro e w2 ⟨rfl, hb⟩; obtain ⟨c1, c3⟩ := HC.out _ _ w2 hb; have HB2 := Lib.hid hb.blur; clear hb))
        all_goals
          go_wp2
          go_ret
          exact ⟨rfl, σ', HB2.out, G1.out⟩
      · have b2 : (kd == 2) = false := by simpa using k2
        by_cases k3 : kd = 3
        · subst k3
          clear b0 k0 b1 k1 b2 k2
          have G2 := Lib.hid (dsure hf no)
          have G1 := Lib.hid (sure_good hg (max σ.sure no))
          clear hf hg hsz
          go_enter Tryz.func8, Tryz.ntmps8
          go_wp2_with fail
          refine G2.out.mono ?_
          rintro e w1 ⟨rfl, hb⟩
          obtain ⟨c1, c3⟩ := HC.out _ _ w1 hb
          obtain ⟨r2, f2, hb3⟩ := dsure2 (hb.no ((Chg.refl No w1).drew))
          have HB3 := Lib.hid hb3
          clear hb hb3
          go_wp2_with fail
          go_region
          --DBG
          all_goals
            go_wp2
            go_ret
            exact ⟨rfl, _, (HB3.out _).blur, G1.out⟩
        · have b3 : (kd == 3) = false := by simpa using k3
          obtain ⟨E, σ', g1, g2, g3⟩ := dclean hf hg hn hi
          have G1 := Lib.hid g1
          have G2 := Lib.hid (g2 _ (Chg.refl _ _))
          have G3 := Lib.hid g3
          clear g1 g2 g3 hf hg hsz
          go_enter Tryz.func8, Tryz.ntmps8
          go_wp2_with fail
          refine G2.out.mono ?_
          rintro e w1 ⟨rfl, hb⟩
          obtain ⟨c1, c3⟩ := HC.out _ _ w1 hb
          have HBB := Lib.hid hb
          clear hb
          go_wp2_with fail
          refine (G3.out _ HBB.out).mono ?_
          rintro e w2 ⟨rfl, hb⟩
          have HB2 := Lib.hid hb.blur
          clear hb
          go_wp2
          go_ret
          exact ⟨rfl, σ', HB2.out, G1.out⟩
end
end Go.Proofs.YtniijkcncpabaaaGreat
