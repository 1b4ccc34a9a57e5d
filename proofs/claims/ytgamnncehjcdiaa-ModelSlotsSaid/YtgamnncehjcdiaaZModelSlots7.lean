/- Parts of the proof of ModelSlots, one behind the other. Conditions: none. -/
import Derived.ChangeArms
import Derived.OpenShut
import Derived.Test.YtgamnncehjcdiaaZModelSlots6
namespace Go.Proofs.Ytgamnncehjcdiaa.Ev
open Go Go.RowKit
set_option linter.unusedSimpArgs false
set_option linter.unusedVariables false

section
variable {H : Type} {enc : TypeId × Value → H} {P : Program} {w : World} {base : Nat} {spare : Nat → Bool} {held : Bool}
end
end Go.Proofs.Ytgamnncehjcdiaa.Ev

