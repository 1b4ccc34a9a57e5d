/- Operations out of bytes: the program's reader and the reference's. -/
import Derived.Test.YtgamnncehjcdiaaDb
namespace Go.Proofs.Ytgamnncehjcdiaa
open Go Ev Go.RowKit
set_option linter.unusedSimpArgs false
set_option linter.unusedVariables false
set_option maxRecDepth 10000

theorem getD_mem (bs : List Int) (i : Nat) (h : i < bs.length) : bs.getD i 0 ∈ bs := by
  rw [List.getD_eq_getElem?_getD, List.getElem?_eq_getElem h]; simp
end Go.Proofs.Ytgamnncehjcdiaa
