/- Spans: the reference's MayRecord. -/
import Derived.Test.YtgamnncehjcdiaaRf
namespace Go.Proofs.Ytgamnncehjcdiaa
open Go Ev Go.RowKit
set_option linter.unusedSimpArgs false
set_option linter.unusedVariables false
set_option maxRecDepth 10000

end Go.Proofs.Ytgamnncehjcdiaa
