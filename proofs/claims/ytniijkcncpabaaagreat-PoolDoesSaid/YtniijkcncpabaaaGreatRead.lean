/- Contract of disk.Read. -/
import Derived.Test.YtniijkcncpabaaaGreatRaw2
namespace Go.Proofs.YtniijkcncpabaaaGreat
open Go.RowKit Go.MapKept
set_option maxRecDepth 100000
set_option maxHeartbeats 400000
theorem read_ok {w : World} {bd bs : Nat} {wv : Value} {D : Disk} (h : DiskIs w bd bs wv D) (p : Int) (hp0 : 0 ≤ p) (hp : p < D.n) (c : ByteArray) (hc : c.size = 252) (hr : D.raw p = page c) :
    Calls Tryz.prog 40 #[.pointer (some ⟨bd, 0, none⟩), .int .i64 p] w fun e w' => e = .returned (.tuple #[.string c, .int .i64 0]) ∧ Chg No w w' := by
  have hhas := has_ok h p
  rw [show (decide (0 ≤ p) && decide (p < D.n)) = true from by simp [hp0, hp]] at hhas
  have hraw := raw_ok h p hp0 hp
  rw [hr] at hraw
  have hop := fun w => open_ok c w hc
  generalize page c = pg at *
  have HH := Lib.hid hhas
  have HR := Lib.hid hraw
  have HO := Lib.hid hop
  clear hhas hraw hop hr hc h
  go_enter Tryz.func40, Tryz.ntmps40
  go_wp2_with fail
  refine HH.out.mono ?_
  rintro e w1 ⟨rfl, rfl⟩
  go_wp2_with fail
  refine HR.out.mono ?_
  rintro e w1 ⟨rfl, hch1⟩
  go_wp2_with fail
  refine (HO.out _).mono ?_
  rintro e w2 ⟨rfl, hch2⟩
  go_wp2
  go_ret2
  exact ⟨rfl, hch1.then hch2⟩
end Go.Proofs.YtniijkcncpabaaaGreat
