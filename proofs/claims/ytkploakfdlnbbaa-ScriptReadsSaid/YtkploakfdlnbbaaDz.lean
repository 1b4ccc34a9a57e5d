/- What the seat's earlier texts give to the common templates, under common names. -/
import Derived.Test.YtkploakfdlnbbaaCe
import Derived.Test.YtkploakfdlnbbaaDd
namespace Go.Proofs.Ytkploakfdlnbbaa
open Go Ev Go.RowKit
theorem c_SameInts {xs ys : List Int} (hl : xs.length ≤ 4611686018427387904) {u v : Value} {w : World} (hx : SlI w u xs) (hy : SlI w v ys) : CallR Try.prog 32 [u, v] w fun r w' => r = .bool (decide (xs = ys)) ∧ Below w.heap.size w w' := c32 hl hx hy
end Go.Proofs.Ytkploakfdlnbbaa
