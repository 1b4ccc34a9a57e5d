/- bits.Mul of one and a small number. -/
import Derived.Test.YtgamnncehjcdiaaRg
namespace Go.Proofs.Ytgamnncehjcdiaa
open Go Ev Go.RowKit
set_option linter.unusedSimpArgs false
set_option linter.unusedVariables false
set_option maxRecDepth 10000

@[simp] theorem bp_and {P : Program} {t : TypeId} {k : IntKind} {a b : Int} : bp P .and t (.int k a) (.int k b) = some (.int k (k.wrap (BitVec.ofInt k.bits a &&& BitVec.ofInt k.bits b).toNat)) := bp_of fun w => by simp [binOp, Op.intBits]
theorem and32 (n : Nat) (h : n < 4294967296) : IntKind.u64.wrap ((BitVec.ofInt IntKind.u64.bits (n : Int) &&& BitVec.ofInt IntKind.u64.bits 4294967295).toNat : Int) = n := by
  have hb : IntKind.u64.bits = 64 := rfl
  have e : (BitVec.ofInt IntKind.u64.bits (n : Int) &&& BitVec.ofInt IntKind.u64.bits 4294967295).toNat = n := by
    have e1 : (4294967295 : Int) = ((2 ^ 32 - 1 : Nat) : Int) := by decide
    rw [e1, BitVec.toNat_and, BitVec.ofInt_natCast, BitVec.ofInt_natCast, BitVec.toNat_ofNat, BitVec.toNat_ofNat, hb, Nat.mod_eq_of_lt (show n < 2 ^ 64 by omega), Nat.mod_eq_of_lt (show 2 ^ 32 - 1 < 2 ^ 64 by decide), Nat.and_two_pow_sub_one_eq_mod, Nat.mod_eq_of_lt (by omega)]
  rw [e]
  exact wrapu (by omega) (by omega)
theorem c_Mul64 (y : Nat) (h : y ≤ 64) (w : World) : CallR Try.prog 133 [.int .u64 1, .int .u64 y] w fun v w' => v = .tuple #[.int .u64 0, .int .u64 y] ∧ w' = w := by
  apply F133_ok
  have a1 := and32 1 (by omega)
  have a2 := and32 y (by omega)
  have a0 := and32 0 (by omega)
  have s1 : (1 : Int).fdiv (2 ^ (min (32 : Int).toNat IntKind.u64.bits)) = 0 := by decide
  have s0 : (0 : Int).fdiv (2 ^ (min (32 : Int).toNat IntKind.u64.bits)) = 0 := by decide
  have s2 : ((y : Int)).fdiv (2 ^ (min (32 : Int).toNat IntKind.u64.bits)) = 0 := by
    have e : (2 : Int) ^ (min (32 : Int).toNat IntKind.u64.bits) = 4294967296 := by decide
    rw [e, Int.fdiv_eq_ediv_of_nonneg _ (by omega)]; omega
  have w0 : IntKind.u64.wrap 0 = 0 := by decide
  have a0' : IntKind.u64.wrap ((BitVec.ofInt IntKind.u64.bits 0 &&& BitVec.ofInt IntKind.u64.bits 4294967295).toNat : Int) = 0 := a0
  have a1' : IntKind.u64.wrap ((BitVec.ofInt IntKind.u64.bits 1 &&& BitVec.ofInt IntKind.u64.bits 4294967295).toNat : Int) = 1 := a1
  simp -implicitDefEqProofs only [F133, bp_and, wpB_some', a1', a2, a0', bp_shr (show (0 : Int) ≤ 32 by omega), s1, s2, s0, bp_mul, bp_add, Int.one_mul, Int.zero_mul, Int.mul_zero, Int.add_zero, Int.zero_add, w0, wrapu (n := (y : Int)) (by omega) (by omega)]
  exact ⟨trivial, trivial⟩
end Go.Proofs.Ytgamnncehjcdiaa
