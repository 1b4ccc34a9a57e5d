/- The record's own functions. -/
import Derived.Test.YtgamnncehjcdiaaRi
namespace Go.Proofs.Ytgamnncehjcdiaa
open Go Ev Go.RowKit
set_option linter.unusedSimpArgs false
set_option linter.unusedVariables false
set_option maxRecDepth 10000

theorem c_rstep {r : Nat} {lv ov : Value} {last t : Int} {w : World} (h : hp w r = some (.cells #[lv, ov, .int .i64 last] 121)) :
    CallR Try.prog 73 [.pointer (some ⟨r, 0, none⟩), .int .i64 t] w fun v w' => v = .bool (decide (last ≤ t)) ∧ w' = (if last ≤ t then put w r #[lv, ov, .int .i64 t] 121 else w) := by
  apply F73_ok
  by_cases h1 : t < last
  · have h2 : ¬ last ≤ t := by omega
    simp -implicitDefEqProofs [F73, h, h1, h2]
  · have h2 : last ≤ t := by omega
    simp -implicitDefEqProofs [F73, h, h1, h2, st_3]
end Go.Proofs.Ytgamnncehjcdiaa
