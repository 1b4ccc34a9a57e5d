/- Parts of the proof of OrderChecks, one behind the other. Conditions: none. -/
import Derived.ChangeArms
import Derived.OpenShut
import Derived.Test.YtnpflajdbchghaaGreatZOrderChecks6
set_option linter.unusedSimpArgs false
set_option linter.unusedVariables false
noncomputable section
namespace Go.Proofs.YtnpflajdbchghaaGreat.Ev
open Go Go.RowKit
section
variable{H:Type}{enc:TypeId×Value->H}{P:Program}{w:World}{base:Nat}{spare:Nat->Bool}{held:Bool}
end
end Go.Proofs.YtnpflajdbchghaaGreat.Ev
