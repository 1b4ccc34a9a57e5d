/- Parts of the proof of ModelCopies, one behind the other. Conditions: none. -/
import Derived.ChangeArms
import Derived.OpenShut
import Derived.Test.YtgamnncehjcdiaaGreatZModelCopies6
set_option linter.unusedSimpArgs false
set_option linter.unusedVariables false
namespace Go.Proofs.YtgamnncehjcdiaaGreat.Ev
open Go Go.RowKit

section
variable {H : Type} {enc : TypeId × Value → H} {P : Program} {w : World} {base : Nat} {spare : Nat → Bool} {held : Bool}
end
end Go.Proofs.YtgamnncehjcdiaaGreat.Ev

