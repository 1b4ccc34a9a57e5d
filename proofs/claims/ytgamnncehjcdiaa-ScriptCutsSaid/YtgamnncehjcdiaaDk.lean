/- Scripts out of bytes: the reference's ReadScript, its outer loop; both readers say the same. -/
import Derived.Test.YtgamnncehjcdiaaDj
namespace Go.Proofs.Ytgamnncehjcdiaa
open Go Ev Go.RowKit
set_option linter.unusedSimpArgs false
set_option linter.unusedVariables false
set_option maxRecDepth 10000
end Go.Proofs.Ytgamnncehjcdiaa
