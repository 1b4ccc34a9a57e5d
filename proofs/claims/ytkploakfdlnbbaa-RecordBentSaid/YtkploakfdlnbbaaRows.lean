/-
  No cell of these rows narrows 'for every input' (looked for: loops, veiled, ifaces, maps, wideKeys, modest, calm, conditions, laid).
  DERIVED. THE GIVEN ROWS OF THIS SEAT. 11 by the template 'for every input the law returns true; each argument reads behind the call as it read before'; 0 by the template 'total and deterministic' (their statements: YtkploakfdlnbbaaTotals.lean).
  GIVEN WITH THE SEED: the statements are not yours to turn. If you find one false, say at which input.
  Laid BY PROGRAM, IN A SANDBOX (cutbox-rows.mjs): the forced cells as the released guide's own fill.sh prints them over the translation d98f7e64c1f2e4c2… (all of the seat's roots in one cut). By AI agents, Wed Nov 11 2026. No macro, syntax, notation, axiom, sorry.
-/
import Derived.Test.YtkploakfdlnbbaaChecked
import GoSem.Claim
import GoSem.ClaimJoined
import GoSem.ClaimMapViews
import Derived.JoinedTies
import Derived.KernelRfl
namespace Go.Proofs.Ytkploakfdlnbbaa
/- THE CELL 'sum', in the pinned program and in every row, IS THE sha256 OF THE DUMP (.gsa) THAT YtkploakfdlnbbaaProg.lean LOADS. Nothing in Lean hashes anything: it is a label: what it is worth is what the hold of that sum in a sandbox is worth. -/
noncomputable def Try.pinned : Pinned := { name := "ytkploakfdlnbbaa", sum := "d98f7e64c1f2e4c2e845299d79980cdac237ac2acf77113b5a1f90a49526eb40", checked := Try.checked }
namespace Rows
def none {H : Type} : Left H := { results := [], args := [] }

/-- 'rundalelaw3.SizeSays': WHATEVER THE INPUT: true; the input reads as it did. -/
def sizeSaysSpec : ChangeSpec := { name := "sizeSays", fn := fun _ => fun
  | [d1, d2, d3, d4, d5] => { results := [.lit (.bool true)], args := [d1, d2, d3, d4, d5] }
  | _ => none }
def sizeSaysRow : OpenClaim := { program := "ytkploakfdlnbbaa", sum := "d98f7e64c1f2e4c2e845299d79980cdac237ac2acf77113b5a1f90a49526eb40", func := "rundale/rundalelaw3.SizeSays", spec := "sizeSays", apart := false }
def SizeSaysSaid : Prop := sizeSaysRow.holds Try.pinned (OpenSpec.ofChange sizeSaysSpec)

/-- ITS FALSE NEIGHBOUR: 'it returns false'. Refute it at one input. -/
def sizeSaysWrong : ChangeSpec := { name := "sizeSays", fn := fun _ => fun
  | [d1, d2, d3, d4, d5] => { results := [.lit (.bool false)], args := [d1, d2, d3, d4, d5] }
  | _ => none }
def SizeSaysWrongFalsely : Prop := sizeSaysRow.holds Try.pinned (OpenSpec.ofChange sizeSaysWrong)

/-- 'rundalelaw3.SizeRounds': WHATEVER THE INPUT: true; the input reads as it did. -/
def sizeRoundsSpec : ChangeSpec := { name := "sizeRounds", fn := fun _ => fun
  | [d1, d2] => { results := [.lit (.bool true)], args := [d1, d2] }
  | _ => none }
def sizeRoundsRow : OpenClaim := { program := "ytkploakfdlnbbaa", sum := "d98f7e64c1f2e4c2e845299d79980cdac237ac2acf77113b5a1f90a49526eb40", func := "rundale/rundalelaw3.SizeRounds", spec := "sizeRounds", apart := false }
def SizeRoundsSaid : Prop := sizeRoundsRow.holds Try.pinned (OpenSpec.ofChange sizeRoundsSpec)

/-- ITS FALSE NEIGHBOUR: 'it returns false'. Refute it at one input. -/
def sizeRoundsWrong : ChangeSpec := { name := "sizeRounds", fn := fun _ => fun
  | [d1, d2] => { results := [.lit (.bool false)], args := [d1, d2] }
  | _ => none }
def SizeRoundsWrongFalsely : Prop := sizeRoundsRow.holds Try.pinned (OpenSpec.ofChange sizeRoundsWrong)

/-- 'rundalelaw3.SizeFills': WHATEVER THE INPUT: true; the input reads as it did. -/
def sizeFillsSpec : ChangeSpec := { name := "sizeFills", fn := fun _ => fun
  | [d1, d2] => { results := [.lit (.bool true)], args := [d1, d2] }
  | _ => none }
def sizeFillsRow : OpenClaim := { program := "ytkploakfdlnbbaa", sum := "d98f7e64c1f2e4c2e845299d79980cdac237ac2acf77113b5a1f90a49526eb40", func := "rundale/rundalelaw3.SizeFills", spec := "sizeFills", apart := false }
def SizeFillsSaid : Prop := sizeFillsRow.holds Try.pinned (OpenSpec.ofChange sizeFillsSpec)

/-- ITS FALSE NEIGHBOUR: 'it returns false'. Refute it at one input. -/
def sizeFillsWrong : ChangeSpec := { name := "sizeFills", fn := fun _ => fun
  | [d1, d2] => { results := [.lit (.bool false)], args := [d1, d2] }
  | _ => none }
def SizeFillsWrongFalsely : Prop := sizeFillsRow.holds Try.pinned (OpenSpec.ofChange sizeFillsWrong)

/-- 'rundalelaw3.SizeEdges': WHATEVER THE INPUT: true; the input reads as it did. -/
def sizeEdgesSpec : ChangeSpec := { name := "sizeEdges", fn := fun _ => fun
  | [d1, d2, d3] => { results := [.lit (.bool true)], args := [d1, d2, d3] }
  | _ => none }
def sizeEdgesRow : OpenClaim := { program := "ytkploakfdlnbbaa", sum := "d98f7e64c1f2e4c2e845299d79980cdac237ac2acf77113b5a1f90a49526eb40", func := "rundale/rundalelaw3.SizeEdges", spec := "sizeEdges", apart := false }
def SizeEdgesSaid : Prop := sizeEdgesRow.holds Try.pinned (OpenSpec.ofChange sizeEdgesSpec)

/-- ITS FALSE NEIGHBOUR: 'it returns false'. Refute it at one input. -/
def sizeEdgesWrong : ChangeSpec := { name := "sizeEdges", fn := fun _ => fun
  | [d1, d2, d3] => { results := [.lit (.bool false)], args := [d1, d2, d3] }
  | _ => none }
def SizeEdgesWrongFalsely : Prop := sizeEdgesRow.holds Try.pinned (OpenSpec.ofChange sizeEdgesWrong)

/-- 'rundalelaw21.TurnsTell': WHATEVER THE INPUT: true; the input reads as it did. -/
def turnsTellSpec : ChangeSpec := { name := "turnsTell", fn := fun _ => fun
  | [d1, d2] => { results := [.lit (.bool true)], args := [d1, d2] }
  | _ => none }
def turnsTellRow : OpenClaim := { program := "ytkploakfdlnbbaa", sum := "d98f7e64c1f2e4c2e845299d79980cdac237ac2acf77113b5a1f90a49526eb40", func := "rundale/rundalelaw21.TurnsTell", spec := "turnsTell", apart := false }
def TurnsTellSaid : Prop := turnsTellRow.holds Try.pinned (OpenSpec.ofChange turnsTellSpec)

/-- ITS FALSE NEIGHBOUR: 'it returns false'. Refute it at one input. -/
def turnsTellWrong : ChangeSpec := { name := "turnsTell", fn := fun _ => fun
  | [d1, d2] => { results := [.lit (.bool false)], args := [d1, d2] }
  | _ => none }
def TurnsTellWrongFalsely : Prop := turnsTellRow.holds Try.pinned (OpenSpec.ofChange turnsTellWrong)

/-- 'rundalelaw21.TurnsFair': WHATEVER THE INPUT: true; the input reads as it did. -/
def turnsFairSpec : ChangeSpec := { name := "turnsFair", fn := fun _ => fun
  | [d1, d2, d3, d4] => { results := [.lit (.bool true)], args := [d1, d2, d3, d4] }
  | _ => none }
def turnsFairRow : OpenClaim := { program := "ytkploakfdlnbbaa", sum := "d98f7e64c1f2e4c2e845299d79980cdac237ac2acf77113b5a1f90a49526eb40", func := "rundale/rundalelaw21.TurnsFair", spec := "turnsFair", apart := false }
def TurnsFairSaid : Prop := turnsFairRow.holds Try.pinned (OpenSpec.ofChange turnsFairSpec)

/-- ITS FALSE NEIGHBOUR: 'it returns false'. Refute it at one input. -/
def turnsFairWrong : ChangeSpec := { name := "turnsFair", fn := fun _ => fun
  | [d1, d2, d3, d4] => { results := [.lit (.bool false)], args := [d1, d2, d3, d4] }
  | _ => none }
def TurnsFairWrongFalsely : Prop := turnsFairRow.holds Try.pinned (OpenSpec.ofChange turnsFairWrong)

/-- 'rundalelaw21.TurnsBursts': WHATEVER THE INPUT: true; the input reads as it did. -/
def turnsBurstsSpec : ChangeSpec := { name := "turnsBursts", fn := fun _ => fun
  | [d1, d2] => { results := [.lit (.bool true)], args := [d1, d2] }
  | _ => none }
def turnsBurstsRow : OpenClaim := { program := "ytkploakfdlnbbaa", sum := "d98f7e64c1f2e4c2e845299d79980cdac237ac2acf77113b5a1f90a49526eb40", func := "rundale/rundalelaw21.TurnsBursts", spec := "turnsBursts", apart := false }
def TurnsBurstsSaid : Prop := turnsBurstsRow.holds Try.pinned (OpenSpec.ofChange turnsBurstsSpec)

/-- ITS FALSE NEIGHBOUR: 'it returns false'. Refute it at one input. -/
def turnsBurstsWrong : ChangeSpec := { name := "turnsBursts", fn := fun _ => fun
  | [d1, d2] => { results := [.lit (.bool false)], args := [d1, d2] }
  | _ => none }
def TurnsBurstsWrongFalsely : Prop := turnsBurstsRow.holds Try.pinned (OpenSpec.ofChange turnsBurstsWrong)

/-- 'rundalelaw21.TurnsSay': WHATEVER THE INPUT: true; the input reads as it did. -/
def turnsSaySpec : ChangeSpec := { name := "turnsSay", fn := fun _ => fun
  | [d1, d2, d3, d4] => { results := [.lit (.bool true)], args := [d1, d2, d3, d4] }
  | _ => none }
def turnsSayRow : OpenClaim := { program := "ytkploakfdlnbbaa", sum := "d98f7e64c1f2e4c2e845299d79980cdac237ac2acf77113b5a1f90a49526eb40", func := "rundale/rundalelaw21.TurnsSay", spec := "turnsSay", apart := false }
def TurnsSaySaid : Prop := turnsSayRow.holds Try.pinned (OpenSpec.ofChange turnsSaySpec)

/-- ITS FALSE NEIGHBOUR: 'it returns false'. Refute it at one input. -/
def turnsSayWrong : ChangeSpec := { name := "turnsSay", fn := fun _ => fun
  | [d1, d2, d3, d4] => { results := [.lit (.bool false)], args := [d1, d2, d3, d4] }
  | _ => none }
def TurnsSayWrongFalsely : Prop := turnsSayRow.holds Try.pinned (OpenSpec.ofChange turnsSayWrong)

/-- 'rundalelaw20.ScriptReads': WHATEVER THE INPUT: true; the input reads as it did. -/
def scriptReadsSpec : ChangeSpec := { name := "scriptReads", fn := fun _ => fun
  | [d] => { results := [.lit (.bool true)], args := [d] }
  | _ => none }
def scriptReadsRow : OpenClaim := { program := "ytkploakfdlnbbaa", sum := "d98f7e64c1f2e4c2e845299d79980cdac237ac2acf77113b5a1f90a49526eb40", func := "rundale/rundalelaw20.ScriptReads", spec := "scriptReads", apart := false }
def ScriptReadsSaid : Prop := scriptReadsRow.holds Try.pinned (OpenSpec.ofChange scriptReadsSpec)

/-- ITS FALSE NEIGHBOUR: 'it returns false'. Refute it at one input. -/
def scriptReadsWrong : ChangeSpec := { name := "scriptReads", fn := fun _ => fun
  | [d] => { results := [.lit (.bool false)], args := [d] }
  | _ => none }
def ScriptReadsWrongFalsely : Prop := scriptReadsRow.holds Try.pinned (OpenSpec.ofChange scriptReadsWrong)

/-- 'rundalelaw22.RecordMay': WHATEVER THE INPUT: true; the input reads as it did. -/
def recordMaySpec : ChangeSpec := { name := "recordMay", fn := fun _ => fun
  | [d] => { results := [.lit (.bool true)], args := [d] }
  | _ => none }
def recordMayRow : OpenClaim := { program := "ytkploakfdlnbbaa", sum := "d98f7e64c1f2e4c2e845299d79980cdac237ac2acf77113b5a1f90a49526eb40", func := "rundale/rundalelaw22.RecordMay", spec := "recordMay", apart := false }
def RecordMaySaid : Prop := recordMayRow.holds Try.pinned (OpenSpec.ofChange recordMaySpec)

/-- ITS FALSE NEIGHBOUR: 'it returns false'. Refute it at one input. -/
def recordMayWrong : ChangeSpec := { name := "recordMay", fn := fun _ => fun
  | [d] => { results := [.lit (.bool false)], args := [d] }
  | _ => none }
def RecordMayWrongFalsely : Prop := recordMayRow.holds Try.pinned (OpenSpec.ofChange recordMayWrong)

/-- 'rundalelaw22.RecordBent': WHATEVER THE INPUT: true; the input reads as it did. -/
def recordBentSpec : ChangeSpec := { name := "recordBent", fn := fun _ => fun
  | [d1, d2, d3] => { results := [.lit (.bool true)], args := [d1, d2, d3] }
  | _ => none }
def recordBentRow : OpenClaim := { program := "ytkploakfdlnbbaa", sum := "d98f7e64c1f2e4c2e845299d79980cdac237ac2acf77113b5a1f90a49526eb40", func := "rundale/rundalelaw22.RecordBent", spec := "recordBent", apart := false }
def RecordBentSaid : Prop := recordBentRow.holds Try.pinned (OpenSpec.ofChange recordBentSpec)

/-- ITS FALSE NEIGHBOUR: 'it returns false'. Refute it at one input. -/
def recordBentWrong : ChangeSpec := { name := "recordBent", fn := fun _ => fun
  | [d1, d2, d3] => { results := [.lit (.bool false)], args := [d1, d2, d3] }
  | _ => none }
def RecordBentWrongFalsely : Prop := recordBentRow.holds Try.pinned (OpenSpec.ofChange recordBentWrong)

/- THE SECOND FORM. 'bulk': how many values and letters a reading holds, each counted each time it is reached (what is shared counts as often as it is met; a slice's spare places count too). A statement '..UptoSaid' is the law's where the arguments, and the package variables that the reading takes, are together of bulk at most 1048576: NARROWER than '..Said'. Prove '..Said' where nothing that the law and all that it calls make is longer than what came in: it says more and counts as full. Else prove '..UptoSaid'. A law counts once. -/
mutual
def uptoBulk {H : Type} : DataW H → Nat
  | .lit (.string bytes) => bytes.length + 1
  | .lit _ => 1
  | .nil => 1
  | .ptr d => uptoBulk d + 1
  | .slice elems spare => uptoBulkAll elems + uptoBulkAll spare + 1
  | .agg parts => uptoBulkAll parts + 1
  | .iface _ d => uptoBulk d + 1
  | .map entries => uptoBulkEntries entries + 1
  | .held _ => 1
def uptoBulkAll {H : Type} : List (DataW H) → Nat
  | [] => 0
  | d :: r => uptoBulk d + uptoBulkAll r
def uptoBulkEntries {H : Type} : List (Lit × DataW H) → Nat
  | [] => 0
  | x :: r => uptoBulkEntry x + uptoBulkEntries r
def uptoBulkEntry {H : Type} : Lit × DataW H → Nat
  | (.string bytes, d) => bytes.length + uptoBulk d + 1
  | (_, d) => uptoBulk d + 1
 end
def uptoSmall : (H : Type) → List (DataW H) → Bool := fun _ ds => decide (uptoBulkAll ds ≤ 1048576)
def OpenSpec.upto (s : _root_.Go.ChangeSpec) : _root_.Go.OpenSpec := { _root_.Go.OpenSpec.ofChange s with cond := some uptoSmall }

/-- 'rundalelaw3.SizeSays', WHERE WHAT IT READS IS OF BULK AT MOST 1048576: true; the input reads as it did. -/
def sizeSaysUptoRow : OpenClaim := { program := "ytkploakfdlnbbaa", sum := "d98f7e64c1f2e4c2e845299d79980cdac237ac2acf77113b5a1f90a49526eb40", func := "rundale/rundalelaw3.SizeSays", spec := "sizeSays", apart := false, narrowed := true }
def SizeSaysUptoSaid : Prop := sizeSaysUptoRow.holds Try.pinned (OpenSpec.upto sizeSaysSpec)

/-- 'rundalelaw3.SizeRounds', WHERE WHAT IT READS IS OF BULK AT MOST 1048576: true; the input reads as it did. -/
def sizeRoundsUptoRow : OpenClaim := { program := "ytkploakfdlnbbaa", sum := "d98f7e64c1f2e4c2e845299d79980cdac237ac2acf77113b5a1f90a49526eb40", func := "rundale/rundalelaw3.SizeRounds", spec := "sizeRounds", apart := false, narrowed := true }
def SizeRoundsUptoSaid : Prop := sizeRoundsUptoRow.holds Try.pinned (OpenSpec.upto sizeRoundsSpec)

/-- 'rundalelaw3.SizeFills', WHERE WHAT IT READS IS OF BULK AT MOST 1048576: true; the input reads as it did. -/
def sizeFillsUptoRow : OpenClaim := { program := "ytkploakfdlnbbaa", sum := "d98f7e64c1f2e4c2e845299d79980cdac237ac2acf77113b5a1f90a49526eb40", func := "rundale/rundalelaw3.SizeFills", spec := "sizeFills", apart := false, narrowed := true }
def SizeFillsUptoSaid : Prop := sizeFillsUptoRow.holds Try.pinned (OpenSpec.upto sizeFillsSpec)

/-- 'rundalelaw3.SizeEdges', WHERE WHAT IT READS IS OF BULK AT MOST 1048576: true; the input reads as it did. -/
def sizeEdgesUptoRow : OpenClaim := { program := "ytkploakfdlnbbaa", sum := "d98f7e64c1f2e4c2e845299d79980cdac237ac2acf77113b5a1f90a49526eb40", func := "rundale/rundalelaw3.SizeEdges", spec := "sizeEdges", apart := false, narrowed := true }
def SizeEdgesUptoSaid : Prop := sizeEdgesUptoRow.holds Try.pinned (OpenSpec.upto sizeEdgesSpec)

/-- 'rundalelaw21.TurnsTell', WHERE WHAT IT READS IS OF BULK AT MOST 1048576: true; the input reads as it did. -/
def turnsTellUptoRow : OpenClaim := { program := "ytkploakfdlnbbaa", sum := "d98f7e64c1f2e4c2e845299d79980cdac237ac2acf77113b5a1f90a49526eb40", func := "rundale/rundalelaw21.TurnsTell", spec := "turnsTell", apart := false, narrowed := true }
def TurnsTellUptoSaid : Prop := turnsTellUptoRow.holds Try.pinned (OpenSpec.upto turnsTellSpec)

/-- 'rundalelaw21.TurnsFair', WHERE WHAT IT READS IS OF BULK AT MOST 1048576: true; the input reads as it did. -/
def turnsFairUptoRow : OpenClaim := { program := "ytkploakfdlnbbaa", sum := "d98f7e64c1f2e4c2e845299d79980cdac237ac2acf77113b5a1f90a49526eb40", func := "rundale/rundalelaw21.TurnsFair", spec := "turnsFair", apart := false, narrowed := true }
def TurnsFairUptoSaid : Prop := turnsFairUptoRow.holds Try.pinned (OpenSpec.upto turnsFairSpec)

/-- 'rundalelaw21.TurnsBursts', WHERE WHAT IT READS IS OF BULK AT MOST 1048576: true; the input reads as it did. -/
def turnsBurstsUptoRow : OpenClaim := { program := "ytkploakfdlnbbaa", sum := "d98f7e64c1f2e4c2e845299d79980cdac237ac2acf77113b5a1f90a49526eb40", func := "rundale/rundalelaw21.TurnsBursts", spec := "turnsBursts", apart := false, narrowed := true }
def TurnsBurstsUptoSaid : Prop := turnsBurstsUptoRow.holds Try.pinned (OpenSpec.upto turnsBurstsSpec)

/-- 'rundalelaw21.TurnsSay', WHERE WHAT IT READS IS OF BULK AT MOST 1048576: true; the input reads as it did. -/
def turnsSayUptoRow : OpenClaim := { program := "ytkploakfdlnbbaa", sum := "d98f7e64c1f2e4c2e845299d79980cdac237ac2acf77113b5a1f90a49526eb40", func := "rundale/rundalelaw21.TurnsSay", spec := "turnsSay", apart := false, narrowed := true }
def TurnsSayUptoSaid : Prop := turnsSayUptoRow.holds Try.pinned (OpenSpec.upto turnsSaySpec)

/-- 'rundalelaw20.ScriptReads', WHERE WHAT IT READS IS OF BULK AT MOST 1048576: true; the input reads as it did. -/
def scriptReadsUptoRow : OpenClaim := { program := "ytkploakfdlnbbaa", sum := "d98f7e64c1f2e4c2e845299d79980cdac237ac2acf77113b5a1f90a49526eb40", func := "rundale/rundalelaw20.ScriptReads", spec := "scriptReads", apart := false, narrowed := true }
def ScriptReadsUptoSaid : Prop := scriptReadsUptoRow.holds Try.pinned (OpenSpec.upto scriptReadsSpec)

/-- 'rundalelaw22.RecordMay', WHERE WHAT IT READS IS OF BULK AT MOST 1048576: true; the input reads as it did. -/
def recordMayUptoRow : OpenClaim := { program := "ytkploakfdlnbbaa", sum := "d98f7e64c1f2e4c2e845299d79980cdac237ac2acf77113b5a1f90a49526eb40", func := "rundale/rundalelaw22.RecordMay", spec := "recordMay", apart := false, narrowed := true }
def RecordMayUptoSaid : Prop := recordMayUptoRow.holds Try.pinned (OpenSpec.upto recordMaySpec)

/-- 'rundalelaw22.RecordBent', WHERE WHAT IT READS IS OF BULK AT MOST 1048576: true; the input reads as it did. -/
def recordBentUptoRow : OpenClaim := { program := "ytkploakfdlnbbaa", sum := "d98f7e64c1f2e4c2e845299d79980cdac237ac2acf77113b5a1f90a49526eb40", func := "rundale/rundalelaw22.RecordBent", spec := "recordBent", apart := false, narrowed := true }
def RecordBentUptoSaid : Prop := recordBentUptoRow.holds Try.pinned (OpenSpec.upto recordBentSpec)

end Rows
end Go.Proofs.Ytkploakfdlnbbaa
