/- Spans: any two, ahead, asked of both. -/
import Derived.Test.YtgamnncehjcdiaaRh
namespace Go.Proofs.Ytgamnncehjcdiaa
open Go Ev Go.RowKit
set_option linter.unusedSimpArgs false
set_option linter.unusedVariables false
set_option maxRecDepth 10000

end Go.Proofs.Ytgamnncehjcdiaa
