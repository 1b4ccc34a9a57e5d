/-
  No cell of these rows narrows 'for every input' (looked for: loops, veiled, ifaces, maps, wideKeys, modest, calm, conditions, laid).
  DERIVED. THE GIVEN ROWS OF THIS SEAT. 11 by the template 'for every input the law returns true; each argument reads behind the call as it read before'; 0 by the template 'total and deterministic' (their statements: YtgamnncehjcdiaaTotals.lean).
  GIVEN WITH THE SEED: the statements are not yours to turn. If you find one false, say at which input.
  Laid BY PROGRAM, IN A SANDBOX (cutbox-rows.mjs): the forced cells as the released guide's own fill.sh prints them over the translation 2a70b4f9bf05e1ba… (all of the seat's roots in one cut). By AI agents, Wed Nov 11 2026. No macro, syntax, notation, axiom, sorry.
-/
import Derived.Test.YtgamnncehjcdiaaChecked
import GoSem.Claim
import GoSem.ClaimJoined
import GoSem.ClaimMapViews
import Derived.JoinedTies
import Derived.KernelRfl
namespace Go.Proofs.Ytgamnncehjcdiaa
/- THE CELL 'sum', in the pinned program and in every row, IS THE sha256 OF THE DUMP (.gsa) THAT YtgamnncehjcdiaaProg.lean LOADS. Nothing in Lean hashes anything: it is a label: what it is worth is what the hold of that sum in a sandbox is worth. -/
noncomputable def Try.pinned : Pinned := { name := "ytgamnncehjcdiaa", sum := "2a70b4f9bf05e1ba8a3bb6bcb8ec939f49740174b31e30086463b9524c1c7d33", checked := Try.checked }
namespace Rows
def none {H : Type} : Left H := { results := [], args := [] }

/-- 'rundalelaw20.ScriptPuts': WHATEVER THE INPUT: true; the input reads as it did. -/
def scriptPutsSpec : ChangeSpec := { name := "scriptPuts", fn := fun _ => fun
  | [d] => { results := [.lit (.bool true)], args := [d] }
  | _ => none }
def scriptPutsRow : OpenClaim := { program := "ytgamnncehjcdiaa", sum := "2a70b4f9bf05e1ba8a3bb6bcb8ec939f49740174b31e30086463b9524c1c7d33", func := "rundale/rundalelaw20.ScriptPuts", spec := "scriptPuts", apart := false }
def ScriptPutsSaid : Prop := scriptPutsRow.holds Try.pinned (OpenSpec.ofChange scriptPutsSpec)

/-- ITS FALSE NEIGHBOUR: 'it returns false'. Refute it at one input. -/
def scriptPutsWrong : ChangeSpec := { name := "scriptPuts", fn := fun _ => fun
  | [d] => { results := [.lit (.bool false)], args := [d] }
  | _ => none }
def ScriptPutsWrongFalsely : Prop := scriptPutsRow.holds Try.pinned (OpenSpec.ofChange scriptPutsWrong)

/-- 'rundalelaw20.ScriptBack': WHATEVER THE INPUT: true; the input reads as it did. -/
def scriptBackSpec : ChangeSpec := { name := "scriptBack", fn := fun _ => fun
  | [d1, d2, d3, d4, d5] => { results := [.lit (.bool true)], args := [d1, d2, d3, d4, d5] }
  | _ => none }
def scriptBackRow : OpenClaim := { program := "ytgamnncehjcdiaa", sum := "2a70b4f9bf05e1ba8a3bb6bcb8ec939f49740174b31e30086463b9524c1c7d33", func := "rundale/rundalelaw20.ScriptBack", spec := "scriptBack", apart := false }
def ScriptBackSaid : Prop := scriptBackRow.holds Try.pinned (OpenSpec.ofChange scriptBackSpec)

/-- ITS FALSE NEIGHBOUR: 'it returns false'. Refute it at one input. -/
def scriptBackWrong : ChangeSpec := { name := "scriptBack", fn := fun _ => fun
  | [d1, d2, d3, d4, d5] => { results := [.lit (.bool false)], args := [d1, d2, d3, d4, d5] }
  | _ => none }
def ScriptBackWrongFalsely : Prop := scriptBackRow.holds Try.pinned (OpenSpec.ofChange scriptBackWrong)

/-- 'rundalelaw20.ScriptCuts': WHATEVER THE INPUT: true; the input reads as it did. -/
def scriptCutsSpec : ChangeSpec := { name := "scriptCuts", fn := fun _ => fun
  | [d1, d2, d3] => { results := [.lit (.bool true)], args := [d1, d2, d3] }
  | _ => none }
def scriptCutsRow : OpenClaim := { program := "ytgamnncehjcdiaa", sum := "2a70b4f9bf05e1ba8a3bb6bcb8ec939f49740174b31e30086463b9524c1c7d33", func := "rundale/rundalelaw20.ScriptCuts", spec := "scriptCuts", apart := false }
def ScriptCutsSaid : Prop := scriptCutsRow.holds Try.pinned (OpenSpec.ofChange scriptCutsSpec)

/-- ITS FALSE NEIGHBOUR: 'it returns false'. Refute it at one input. -/
def scriptCutsWrong : ChangeSpec := { name := "scriptCuts", fn := fun _ => fun
  | [d1, d2, d3] => { results := [.lit (.bool false)], args := [d1, d2, d3] }
  | _ => none }
def ScriptCutsWrongFalsely : Prop := scriptCutsRow.holds Try.pinned (OpenSpec.ofChange scriptCutsWrong)

/-- 'rundalelaw20.ScriptMany': WHATEVER THE INPUT: true; the input reads as it did. -/
def scriptManySpec : ChangeSpec := { name := "scriptMany", fn := fun _ => fun
  | [d1, d2] => { results := [.lit (.bool true)], args := [d1, d2] }
  | _ => none }
def scriptManyRow : OpenClaim := { program := "ytgamnncehjcdiaa", sum := "2a70b4f9bf05e1ba8a3bb6bcb8ec939f49740174b31e30086463b9524c1c7d33", func := "rundale/rundalelaw20.ScriptMany", spec := "scriptMany", apart := false }
def ScriptManySaid : Prop := scriptManyRow.holds Try.pinned (OpenSpec.ofChange scriptManySpec)

/-- ITS FALSE NEIGHBOUR: 'it returns false'. Refute it at one input. -/
def scriptManyWrong : ChangeSpec := { name := "scriptMany", fn := fun _ => fun
  | [d1, d2] => { results := [.lit (.bool false)], args := [d1, d2] }
  | _ => none }
def ScriptManyWrongFalsely : Prop := scriptManyRow.holds Try.pinned (OpenSpec.ofChange scriptManyWrong)

/-- 'rundalelaw22.RecordRight': WHATEVER THE INPUT: true; the input reads as it did. -/
def recordRightSpec : ChangeSpec := { name := "recordRight", fn := fun _ => fun
  | [d] => { results := [.lit (.bool true)], args := [d] }
  | _ => none }
def recordRightRow : OpenClaim := { program := "ytgamnncehjcdiaa", sum := "2a70b4f9bf05e1ba8a3bb6bcb8ec939f49740174b31e30086463b9524c1c7d33", func := "rundale/rundalelaw22.RecordRight", spec := "recordRight", apart := false }
def RecordRightSaid : Prop := recordRightRow.holds Try.pinned (OpenSpec.ofChange recordRightSpec)

/-- ITS FALSE NEIGHBOUR: 'it returns false'. Refute it at one input. -/
def recordRightWrong : ChangeSpec := { name := "recordRight", fn := fun _ => fun
  | [d] => { results := [.lit (.bool false)], args := [d] }
  | _ => none }
def RecordRightWrongFalsely : Prop := recordRightRow.holds Try.pinned (OpenSpec.ofChange recordRightWrong)

/-- 'rundalelaw22.RecordPlays': WHATEVER THE INPUT: true; the input reads as it did. -/
def recordPlaysSpec : ChangeSpec := { name := "recordPlays", fn := fun _ => fun
  | [d1, d2] => { results := [.lit (.bool true)], args := [d1, d2] }
  | _ => none }
def recordPlaysRow : OpenClaim := { program := "ytgamnncehjcdiaa", sum := "2a70b4f9bf05e1ba8a3bb6bcb8ec939f49740174b31e30086463b9524c1c7d33", func := "rundale/rundalelaw22.RecordPlays", spec := "recordPlays", apart := false }
def RecordPlaysSaid : Prop := recordPlaysRow.holds Try.pinned (OpenSpec.ofChange recordPlaysSpec)

/-- ITS FALSE NEIGHBOUR: 'it returns false'. Refute it at one input. -/
def recordPlaysWrong : ChangeSpec := { name := "recordPlays", fn := fun _ => fun
  | [d1, d2] => { results := [.lit (.bool false)], args := [d1, d2] }
  | _ => none }
def RecordPlaysWrongFalsely : Prop := recordPlaysRow.holds Try.pinned (OpenSpec.ofChange recordPlaysWrong)

/-- 'rundalelaw22.RecordRefuses': WHATEVER THE INPUT: true; the input reads as it did. -/
def recordRefusesSpec : ChangeSpec := { name := "recordRefuses", fn := fun _ => fun
  | [d1, d2, d3] => { results := [.lit (.bool true)], args := [d1, d2, d3] }
  | _ => none }
def recordRefusesRow : OpenClaim := { program := "ytgamnncehjcdiaa", sum := "2a70b4f9bf05e1ba8a3bb6bcb8ec939f49740174b31e30086463b9524c1c7d33", func := "rundale/rundalelaw22.RecordRefuses", spec := "recordRefuses", apart := false }
def RecordRefusesSaid : Prop := recordRefusesRow.holds Try.pinned (OpenSpec.ofChange recordRefusesSpec)

/-- ITS FALSE NEIGHBOUR: 'it returns false'. Refute it at one input. -/
def recordRefusesWrong : ChangeSpec := { name := "recordRefuses", fn := fun _ => fun
  | [d1, d2, d3] => { results := [.lit (.bool false)], args := [d1, d2, d3] }
  | _ => none }
def RecordRefusesWrongFalsely : Prop := recordRefusesRow.holds Try.pinned (OpenSpec.ofChange recordRefusesWrong)

/-- 'rundalelaw24.ModelWords': WHATEVER THE INPUT: true; the input reads as it did. -/
def modelWordsSpec : ChangeSpec := { name := "modelWords", fn := fun _ => fun
  | [d1, d2, d3] => { results := [.lit (.bool true)], args := [d1, d2, d3] }
  | _ => none }
def modelWordsRow : OpenClaim := { program := "ytgamnncehjcdiaa", sum := "2a70b4f9bf05e1ba8a3bb6bcb8ec939f49740174b31e30086463b9524c1c7d33", func := "rundale/rundalelaw24.ModelWords", spec := "modelWords", apart := false }
def ModelWordsSaid : Prop := modelWordsRow.holds Try.pinned (OpenSpec.ofChange modelWordsSpec)

/-- ITS FALSE NEIGHBOUR: 'it returns false'. Refute it at one input. -/
def modelWordsWrong : ChangeSpec := { name := "modelWords", fn := fun _ => fun
  | [d1, d2, d3] => { results := [.lit (.bool false)], args := [d1, d2, d3] }
  | _ => none }
def ModelWordsWrongFalsely : Prop := modelWordsRow.holds Try.pinned (OpenSpec.ofChange modelWordsWrong)

/-- 'rundalelaw24.ModelHolds': WHATEVER THE INPUT: true; the input reads as it did. -/
def modelHoldsSpec : ChangeSpec := { name := "modelHolds", fn := fun _ => fun
  | [d] => { results := [.lit (.bool true)], args := [d] }
  | _ => none }
def modelHoldsRow : OpenClaim := { program := "ytgamnncehjcdiaa", sum := "2a70b4f9bf05e1ba8a3bb6bcb8ec939f49740174b31e30086463b9524c1c7d33", func := "rundale/rundalelaw24.ModelHolds", spec := "modelHolds", apart := false }
def ModelHoldsSaid : Prop := modelHoldsRow.holds Try.pinned (OpenSpec.ofChange modelHoldsSpec)

/-- ITS FALSE NEIGHBOUR: 'it returns false'. Refute it at one input. -/
def modelHoldsWrong : ChangeSpec := { name := "modelHolds", fn := fun _ => fun
  | [d] => { results := [.lit (.bool false)], args := [d] }
  | _ => none }
def ModelHoldsWrongFalsely : Prop := modelHoldsRow.holds Try.pinned (OpenSpec.ofChange modelHoldsWrong)

/-- 'rundalelaw24.ModelSlots': WHATEVER THE INPUT: true; the input reads as it did. -/
def modelSlotsSpec : ChangeSpec := { name := "modelSlots", fn := fun _ => fun
  | [d1, d2, d3] => { results := [.lit (.bool true)], args := [d1, d2, d3] }
  | _ => none }
def modelSlotsRow : OpenClaim := { program := "ytgamnncehjcdiaa", sum := "2a70b4f9bf05e1ba8a3bb6bcb8ec939f49740174b31e30086463b9524c1c7d33", func := "rundale/rundalelaw24.ModelSlots", spec := "modelSlots", apart := false }
def ModelSlotsSaid : Prop := modelSlotsRow.holds Try.pinned (OpenSpec.ofChange modelSlotsSpec)

/-- ITS FALSE NEIGHBOUR: 'it returns false'. Refute it at one input. -/
def modelSlotsWrong : ChangeSpec := { name := "modelSlots", fn := fun _ => fun
  | [d1, d2, d3] => { results := [.lit (.bool false)], args := [d1, d2, d3] }
  | _ => none }
def ModelSlotsWrongFalsely : Prop := modelSlotsRow.holds Try.pinned (OpenSpec.ofChange modelSlotsWrong)

/-- 'rundalelaw24.ModelPlays': WHATEVER THE INPUT: true; the input reads as it did. -/
def modelPlaysSpec : ChangeSpec := { name := "modelPlays", fn := fun _ => fun
  | [d1, d2, d3] => { results := [.lit (.bool true)], args := [d1, d2, d3] }
  | _ => none }
def modelPlaysRow : OpenClaim := { program := "ytgamnncehjcdiaa", sum := "2a70b4f9bf05e1ba8a3bb6bcb8ec939f49740174b31e30086463b9524c1c7d33", func := "rundale/rundalelaw24.ModelPlays", spec := "modelPlays", apart := false }
def ModelPlaysSaid : Prop := modelPlaysRow.holds Try.pinned (OpenSpec.ofChange modelPlaysSpec)

/-- ITS FALSE NEIGHBOUR: 'it returns false'. Refute it at one input. -/
def modelPlaysWrong : ChangeSpec := { name := "modelPlays", fn := fun _ => fun
  | [d1, d2, d3] => { results := [.lit (.bool false)], args := [d1, d2, d3] }
  | _ => none }
def ModelPlaysWrongFalsely : Prop := modelPlaysRow.holds Try.pinned (OpenSpec.ofChange modelPlaysWrong)

/- THE SECOND FORM. 'bulk': how many values and letters a reading holds, each counted each time it is reached (what is shared counts as often as it is met; a slice's spare places count too). A statement '..UptoSaid' is the law's where the arguments, and the package variables that the reading takes, are together of bulk at most 1048576: NARROWER than '..Said'. Prove '..Said' where nothing that the law and all that it calls make is longer than what came in: it says more and counts as full. Else prove '..UptoSaid'. A law counts once. -/
mutual
def uptoBulk {H : Type} : DataW H → Nat
  | .lit (.string bytes) => bytes.length + 1
  | .lit _ => 1
  | .nil => 1
  | .ptr d => uptoBulk d + 1
  | .slice elems spare => uptoBulkAll elems + uptoBulkAll spare + 1
  | .agg parts => uptoBulkAll parts + 1
  | .iface _ d => uptoBulk d + 1
  | .map entries => uptoBulkEntries entries + 1
  | .held _ => 1
def uptoBulkAll {H : Type} : List (DataW H) → Nat
  | [] => 0
  | d :: r => uptoBulk d + uptoBulkAll r
def uptoBulkEntries {H : Type} : List (Lit × DataW H) → Nat
  | [] => 0
  | x :: r => uptoBulkEntry x + uptoBulkEntries r
def uptoBulkEntry {H : Type} : Lit × DataW H → Nat
  | (.string bytes, d) => bytes.length + uptoBulk d + 1
  | (_, d) => uptoBulk d + 1
 end
def uptoSmall : (H : Type) → List (DataW H) → Bool := fun _ ds => decide (uptoBulkAll ds ≤ 1048576)
def OpenSpec.upto (s : _root_.Go.ChangeSpec) : _root_.Go.OpenSpec := { _root_.Go.OpenSpec.ofChange s with cond := some uptoSmall }

/-- 'rundalelaw20.ScriptPuts', WHERE WHAT IT READS IS OF BULK AT MOST 1048576: true; the input reads as it did. -/
def scriptPutsUptoRow : OpenClaim := { program := "ytgamnncehjcdiaa", sum := "2a70b4f9bf05e1ba8a3bb6bcb8ec939f49740174b31e30086463b9524c1c7d33", func := "rundale/rundalelaw20.ScriptPuts", spec := "scriptPuts", apart := false, narrowed := true }
def ScriptPutsUptoSaid : Prop := scriptPutsUptoRow.holds Try.pinned (OpenSpec.upto scriptPutsSpec)

/-- 'rundalelaw20.ScriptBack', WHERE WHAT IT READS IS OF BULK AT MOST 1048576: true; the input reads as it did. -/
def scriptBackUptoRow : OpenClaim := { program := "ytgamnncehjcdiaa", sum := "2a70b4f9bf05e1ba8a3bb6bcb8ec939f49740174b31e30086463b9524c1c7d33", func := "rundale/rundalelaw20.ScriptBack", spec := "scriptBack", apart := false, narrowed := true }
def ScriptBackUptoSaid : Prop := scriptBackUptoRow.holds Try.pinned (OpenSpec.upto scriptBackSpec)

/-- 'rundalelaw20.ScriptCuts', WHERE WHAT IT READS IS OF BULK AT MOST 1048576: true; the input reads as it did. -/
def scriptCutsUptoRow : OpenClaim := { program := "ytgamnncehjcdiaa", sum := "2a70b4f9bf05e1ba8a3bb6bcb8ec939f49740174b31e30086463b9524c1c7d33", func := "rundale/rundalelaw20.ScriptCuts", spec := "scriptCuts", apart := false, narrowed := true }
def ScriptCutsUptoSaid : Prop := scriptCutsUptoRow.holds Try.pinned (OpenSpec.upto scriptCutsSpec)

/-- 'rundalelaw20.ScriptMany', WHERE WHAT IT READS IS OF BULK AT MOST 1048576: true; the input reads as it did. -/
def scriptManyUptoRow : OpenClaim := { program := "ytgamnncehjcdiaa", sum := "2a70b4f9bf05e1ba8a3bb6bcb8ec939f49740174b31e30086463b9524c1c7d33", func := "rundale/rundalelaw20.ScriptMany", spec := "scriptMany", apart := false, narrowed := true }
def ScriptManyUptoSaid : Prop := scriptManyUptoRow.holds Try.pinned (OpenSpec.upto scriptManySpec)

/-- 'rundalelaw22.RecordRight', WHERE WHAT IT READS IS OF BULK AT MOST 1048576: true; the input reads as it did. -/
def recordRightUptoRow : OpenClaim := { program := "ytgamnncehjcdiaa", sum := "2a70b4f9bf05e1ba8a3bb6bcb8ec939f49740174b31e30086463b9524c1c7d33", func := "rundale/rundalelaw22.RecordRight", spec := "recordRight", apart := false, narrowed := true }
def RecordRightUptoSaid : Prop := recordRightUptoRow.holds Try.pinned (OpenSpec.upto recordRightSpec)

/-- 'rundalelaw22.RecordPlays', WHERE WHAT IT READS IS OF BULK AT MOST 1048576: true; the input reads as it did. -/
def recordPlaysUptoRow : OpenClaim := { program := "ytgamnncehjcdiaa", sum := "2a70b4f9bf05e1ba8a3bb6bcb8ec939f49740174b31e30086463b9524c1c7d33", func := "rundale/rundalelaw22.RecordPlays", spec := "recordPlays", apart := false, narrowed := true }
def RecordPlaysUptoSaid : Prop := recordPlaysUptoRow.holds Try.pinned (OpenSpec.upto recordPlaysSpec)

/-- 'rundalelaw22.RecordRefuses', WHERE WHAT IT READS IS OF BULK AT MOST 1048576: true; the input reads as it did. -/
def recordRefusesUptoRow : OpenClaim := { program := "ytgamnncehjcdiaa", sum := "2a70b4f9bf05e1ba8a3bb6bcb8ec939f49740174b31e30086463b9524c1c7d33", func := "rundale/rundalelaw22.RecordRefuses", spec := "recordRefuses", apart := false, narrowed := true }
def RecordRefusesUptoSaid : Prop := recordRefusesUptoRow.holds Try.pinned (OpenSpec.upto recordRefusesSpec)

/-- 'rundalelaw24.ModelWords', WHERE WHAT IT READS IS OF BULK AT MOST 1048576: true; the input reads as it did. -/
def modelWordsUptoRow : OpenClaim := { program := "ytgamnncehjcdiaa", sum := "2a70b4f9bf05e1ba8a3bb6bcb8ec939f49740174b31e30086463b9524c1c7d33", func := "rundale/rundalelaw24.ModelWords", spec := "modelWords", apart := false, narrowed := true }
def ModelWordsUptoSaid : Prop := modelWordsUptoRow.holds Try.pinned (OpenSpec.upto modelWordsSpec)

/-- 'rundalelaw24.ModelHolds', WHERE WHAT IT READS IS OF BULK AT MOST 1048576: true; the input reads as it did. -/
def modelHoldsUptoRow : OpenClaim := { program := "ytgamnncehjcdiaa", sum := "2a70b4f9bf05e1ba8a3bb6bcb8ec939f49740174b31e30086463b9524c1c7d33", func := "rundale/rundalelaw24.ModelHolds", spec := "modelHolds", apart := false, narrowed := true }
def ModelHoldsUptoSaid : Prop := modelHoldsUptoRow.holds Try.pinned (OpenSpec.upto modelHoldsSpec)

/-- 'rundalelaw24.ModelSlots', WHERE WHAT IT READS IS OF BULK AT MOST 1048576: true; the input reads as it did. -/
def modelSlotsUptoRow : OpenClaim := { program := "ytgamnncehjcdiaa", sum := "2a70b4f9bf05e1ba8a3bb6bcb8ec939f49740174b31e30086463b9524c1c7d33", func := "rundale/rundalelaw24.ModelSlots", spec := "modelSlots", apart := false, narrowed := true }
def ModelSlotsUptoSaid : Prop := modelSlotsUptoRow.holds Try.pinned (OpenSpec.upto modelSlotsSpec)

/-- 'rundalelaw24.ModelPlays', WHERE WHAT IT READS IS OF BULK AT MOST 1048576: true; the input reads as it did. -/
def modelPlaysUptoRow : OpenClaim := { program := "ytgamnncehjcdiaa", sum := "2a70b4f9bf05e1ba8a3bb6bcb8ec939f49740174b31e30086463b9524c1c7d33", func := "rundale/rundalelaw24.ModelPlays", spec := "modelPlays", apart := false, narrowed := true }
def ModelPlaysUptoSaid : Prop := modelPlaysUptoRow.holds Try.pinned (OpenSpec.upto modelPlaysSpec)

end Rows
end Go.Proofs.Ytgamnncehjcdiaa
