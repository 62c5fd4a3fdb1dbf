/- The script: a slice of calls, in memory. -/
import Derived.Test.YtniijkcncpabaaaGreatHoldsL
import Derived.IntWalk
namespace Go.Proofs.YtniijkcncpabaaaGreat
open Go.RowKit Go.MapKept
set_option maxRecDepth 100000

/-- the script: a slice of calls -/
structure Op4 where
  kind : Int
  page : Int
  s : ByteArray
  n : Int
def OpAt (w : World) (p : Addr) (o : Op4) : Prop := w.cell? p = some (.int .i64 o.kind) ∧ w.cell? (p.add 1) = some (.int .i64 o.page) ∧ w.cell? (p.add 2) = some (.string o.s) ∧ w.cell? (p.add 3) = some (.int .i64 o.n) ∧ o.s.size ≤ 9223372036854775807
def Script (w : World) (v : Value) (len : Nat) : Prop := len ≤ 9223372036854775807 ∧ (v = .slice none 0 0 ∧ len = 0 ∨ ∃ a cap, v = .slice (some a) len cap ∧ ∀ i, i < len → ∃ o, OpAt w (a.add (i * 4)) o)
theorem i64_and7 (n : Int) : bits .and .i64 n 7 = n % 8 := by
  have h7 : (BitVec.ofInt 64 7).toNat = 2 ^ 3 - 1 := by decide
  have key : (BitVec.ofInt 64 n &&& BitVec.ofInt 64 7).toNat = (n % ((2 ^ 64 : Nat) : Int)).toNat % 2 ^ 3 := by
    rw [BitVec.toNat_and, BitVec.toNat_ofInt, h7, Nat.and_two_pow_sub_one_eq_mod]
  show IntKind.i64.wrap ((BitVec.ofInt 64 n &&& BitVec.ofInt 64 7).toNat : Nat) = n % 8
  rw [key, IntKind.wrap_i64]
  omega
end Go.Proofs.YtniijkcncpabaaaGreat
