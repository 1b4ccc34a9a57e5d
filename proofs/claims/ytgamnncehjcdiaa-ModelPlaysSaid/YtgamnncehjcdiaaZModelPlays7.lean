/- Parts of the proof of ModelPlays, one behind the other. Conditions: none. -/
import Derived.ChangeArms
import Derived.OpenShut
import Derived.Test.YtgamnncehjcdiaaZModelPlays6
set_option linter.unusedSimpArgs false
set_option linter.unusedVariables false
namespace Go.Proofs.Ytgamnncehjcdiaa.Ev
open Go Go.RowKit

section
variable {H : Type} {enc : TypeId × Value → H} {P : Program} {w : World} {base : Nat} {spare : Nat → Bool} {held : Bool}
end
end Go.Proofs.Ytgamnncehjcdiaa.Ev

