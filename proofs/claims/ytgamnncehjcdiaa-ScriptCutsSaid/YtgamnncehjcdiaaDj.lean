/- Scripts out of bytes: the reference's ReadScript is the plain answer. -/
import Derived.Test.YtgamnncehjcdiaaDi
namespace Go.Proofs.Ytgamnncehjcdiaa
open Go Ev Go.RowKit
set_option linter.unusedSimpArgs false
set_option linter.unusedVariables false
set_option maxRecDepth 10000

theorem t3_2 {a b c : Value} : (#[a, b, c] : Array Value)[0 + 2]? = some c := (rfl)
theorem t3_1 {a b c : Value} : (#[a, b, c] : Array Value)[0 + 1]? = some b := (rfl)
theorem t2_1 {a b : Value} : (#[a, b] : Array Value)[0 + 1]? = some b := (rfl)
theorem t2_0 {a b : Value} : (#[a, b] : Array Value)[0 + 0]? = some a := (rfl)
end Go.Proofs.Ytgamnncehjcdiaa
