/- Parts of the proof of SearchRaw, one behind the other. Conditions: none. -/
import Derived.Laws.BytesArg
import Derived.Laws.Strings
import Derived.Test.YteapggpkgfiacaaGreatZSearchRaw7
set_option linter.unusedSimpArgs false
set_option linter.unusedVariables false
namespace Go.Proofs.YteapggpkgfiacaaGreat.Ev
open Go Go.RowKit
section
variable {P : Program} {w : World}
@[simp] theorem be_eqlstr {t : TypeId} {x y : Operand} {a b : ByteArray} : be P .eql t x y (.string a) (.string b) = some (.bool (a.toList == b.toList)) := be_of fun w => by
  rw [Sem.run_bind, binOp_string_eql]; simp [eqGuard]
@[simp] theorem be_neqstr {t : TypeId} {x y : Operand} {a b : ByteArray} : be P .neq t x y (.string a) (.string b) = some (.bool (!(a.toList == b.toList))) := be_of fun w => by
  rw [Sem.run_bind, binOp_string_neq]; simp [eqGuard]
end
end Go.Proofs.YteapggpkgfiacaaGreat.Ev

