/- Parts of the proof of ModelCopies, one behind the other. Conditions: none. -/
import Derived.Laws.BytesArg
import Derived.Laws.Strings
import Derived.Test.YtgamnncehjcdiaaGreatZModelCopies7
set_option linter.unusedSimpArgs false
set_option linter.unusedVariables false
namespace Go.Proofs.YtgamnncehjcdiaaGreat.Ev
open Go Go.RowKit
section
variable {P : Program} {w : World}
theorem ints_ld {g k : Nat} {xs : List Int} {e : TypeId} (h : hp w g = some (.cells (ints xs).toArray e)) (hk : k < xs.length) : ldC (hp w g) (0 + k * 1) = some (.int .i64 (xs.getD k 0)) := by
  rw [h, ldC_some]
  simp [ints, List.getD_eq_getElem?_getD, hk]
@[simp] theorem be_eqlstr {t : TypeId} {x y : Operand} {a b : ByteArray} : be P .eql t x y (.string a) (.string b) = some (.bool (a.toList == b.toList)) := be_of fun w => by
  rw [Sem.run_bind, binOp_string_eql]; simp [eqGuard]
@[simp] theorem be_neqstr {t : TypeId} {x y : Operand} {a b : ByteArray} : be P .neq t x y (.string a) (.string b) = some (.bool (!(a.toList == b.toList))) := be_of fun w => by
  rw [Sem.run_bind, binOp_string_neq]; simp [eqGuard]
end
end Go.Proofs.YtgamnncehjcdiaaGreat.Ev

