/- Parts of the proof of SearchTurns, one behind the other. Conditions: none. -/
import Derived.ChangeArms
import Derived.OpenShut
import Derived.Test.YteapggpkgfiacaaZSearchTurns6
namespace Go.Proofs.Yteapggpkgfiacaa.Ev
open Go Go.RowKit
set_option linter.unusedSimpArgs false
set_option linter.unusedVariables false

section
variable {H : Type} {enc : TypeId × Value → H} {P : Program} {w : World} {base : Nat} {spare : Nat → Bool} {held : Bool}
end
end Go.Proofs.Yteapggpkgfiacaa.Ev

