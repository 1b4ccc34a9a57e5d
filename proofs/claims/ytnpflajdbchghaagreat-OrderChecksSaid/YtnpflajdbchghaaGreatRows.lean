/-
  No cell of these rows narrows 'for every input' (looked for: loops, veiled, ifaces, maps, wideKeys, modest, calm, conditions, laid).
  DERIVED. THE GIVEN ROWS OF THIS SEAT. 6 by the template 'for every input the law returns true; each argument reads behind the call as it read before'; 0 by the template 'total and deterministic' (their statements: YtnpflajdbchghaaGreatTotals.lean).
  GIVEN WITH THE SEED: the statements are not yours to turn. If you find one false, say at which input.
  Laid BY PROGRAM, IN A SANDBOX (cutbox-rows.mjs): the forced cells as the released guide's own fill.sh prints them over the translation 1fa20d81e2e49e12… (all of the seat's roots in one cut). By AI agents, Wed Nov 11 2026. No macro, syntax, notation, axiom, sorry.
-/
import Derived.Test.YtnpflajdbchghaaGreatChecked
import GoSem.Claim
import GoSem.ClaimJoined
import GoSem.ClaimMapViews
import Derived.JoinedTies
import Derived.KernelRfl
namespace Go.Proofs.YtnpflajdbchghaaGreat
/- THE CELL 'sum', in the pinned program and in every row, IS THE sha256 OF THE DUMP (.gsa) THAT YtnpflajdbchghaaGreatProg.lean LOADS. Nothing in Lean hashes anything: it is a label: what it is worth is what the hold of that sum in a sandbox is worth. -/
noncomputable def Tryz.pinned : Pinned := { name := "ytnpflajdbchghaagreat", sum := "1fa20d81e2e49e12350492b219360631c386b5d17bd25f76a833ffa724fcc19e", checked := Tryz.checked }
namespace Rows
def none {H : Type} : Left H := { results := [], args := [] }

/-- 'rundalelaw26.SearchFinds': WHATEVER THE INPUT: true; the input reads as it did. -/
def searchFindsSpec : ChangeSpec := { name := "searchFinds", fn := fun _ => fun
  | [d1, d2, d3, d4, d5, d6] => { results := [.lit (.bool true)], args := [d1, d2, d3, d4, d5, d6] }
  | _ => none }
def searchFindsRow : OpenClaim := { program := "ytnpflajdbchghaagreat", sum := "1fa20d81e2e49e12350492b219360631c386b5d17bd25f76a833ffa724fcc19e", func := "rundale/rundalelaw26.SearchFinds", spec := "searchFinds", recurses := true, apart := false }
def SearchFindsSaid : Prop := searchFindsRow.holds Tryz.pinned (OpenSpec.ofChange searchFindsSpec)

/-- ITS FALSE NEIGHBOUR: 'it returns false'. Refute it at one input. -/
def searchFindsWrong : ChangeSpec := { name := "searchFinds", fn := fun _ => fun
  | [d1, d2, d3, d4, d5, d6] => { results := [.lit (.bool false)], args := [d1, d2, d3, d4, d5, d6] }
  | _ => none }
def SearchFindsWrongFalsely : Prop := searchFindsRow.holds Tryz.pinned (OpenSpec.ofChange searchFindsWrong)

/-- 'rundalelaw26.SearchSound': WHATEVER THE INPUT: true; the input reads as it did. -/
def searchSoundSpec : ChangeSpec := { name := "searchSound", fn := fun _ => fun
  | [d1, d2, d3] => { results := [.lit (.bool true)], args := [d1, d2, d3] }
  | _ => none }
def searchSoundRow : OpenClaim := { program := "ytnpflajdbchghaagreat", sum := "1fa20d81e2e49e12350492b219360631c386b5d17bd25f76a833ffa724fcc19e", func := "rundale/rundalelaw26.SearchSound", spec := "searchSound", recurses := true, apart := false }
def SearchSoundSaid : Prop := searchSoundRow.holds Tryz.pinned (OpenSpec.ofChange searchSoundSpec)

/-- ITS FALSE NEIGHBOUR: 'it returns false'. Refute it at one input. -/
def searchSoundWrong : ChangeSpec := { name := "searchSound", fn := fun _ => fun
  | [d1, d2, d3] => { results := [.lit (.bool false)], args := [d1, d2, d3] }
  | _ => none }
def SearchSoundWrongFalsely : Prop := searchSoundRow.holds Tryz.pinned (OpenSpec.ofChange searchSoundWrong)

/-- 'rundalelaw25.OrderEvents': WHATEVER THE INPUT: true; the input reads as it did. -/
def orderEventsSpec : ChangeSpec := { name := "orderEvents", fn := fun _ => fun
  | [d1, d2, d3] => { results := [.lit (.bool true)], args := [d1, d2, d3] }
  | _ => none }
def orderEventsRow : OpenClaim := { program := "ytnpflajdbchghaagreat", sum := "1fa20d81e2e49e12350492b219360631c386b5d17bd25f76a833ffa724fcc19e", func := "rundale/rundalelaw25.OrderEvents", spec := "orderEvents", unfollowed := true, recurses := true, apart := false }
def OrderEventsSaid : Prop := orderEventsRow.holds Tryz.pinned (OpenSpec.ofChange orderEventsSpec)

/-- ITS FALSE NEIGHBOUR: 'it returns false'. Refute it at one input. -/
def orderEventsWrong : ChangeSpec := { name := "orderEvents", fn := fun _ => fun
  | [d1, d2, d3] => { results := [.lit (.bool false)], args := [d1, d2, d3] }
  | _ => none }
def OrderEventsWrongFalsely : Prop := orderEventsRow.holds Tryz.pinned (OpenSpec.ofChange orderEventsWrong)

/-- 'rundalelaw25.OrderCuts': WHATEVER THE INPUT: true; the input reads as it did. -/
def orderCutsSpec : ChangeSpec := { name := "orderCuts", fn := fun _ => fun
  | [d1, d2, d3, d4] => { results := [.lit (.bool true)], args := [d1, d2, d3, d4] }
  | _ => none }
def orderCutsRow : OpenClaim := { program := "ytnpflajdbchghaagreat", sum := "1fa20d81e2e49e12350492b219360631c386b5d17bd25f76a833ffa724fcc19e", func := "rundale/rundalelaw25.OrderCuts", spec := "orderCuts", unfollowed := true, recurses := true, apart := false }
def OrderCutsSaid : Prop := orderCutsRow.holds Tryz.pinned (OpenSpec.ofChange orderCutsSpec)

/-- ITS FALSE NEIGHBOUR: 'it returns false'. Refute it at one input. -/
def orderCutsWrong : ChangeSpec := { name := "orderCuts", fn := fun _ => fun
  | [d1, d2, d3, d4] => { results := [.lit (.bool false)], args := [d1, d2, d3, d4] }
  | _ => none }
def OrderCutsWrongFalsely : Prop := orderCutsRow.holds Tryz.pinned (OpenSpec.ofChange orderCutsWrong)

/-- 'rundalelaw25.OrderCatches': WHATEVER THE INPUT: true; the input reads as it did. -/
def orderCatchesSpec : ChangeSpec := { name := "orderCatches", fn := fun _ => fun
  | [d1, d2, d3, d4, d5] => { results := [.lit (.bool true)], args := [d1, d2, d3, d4, d5] }
  | _ => none }
def orderCatchesRow : OpenClaim := { program := "ytnpflajdbchghaagreat", sum := "1fa20d81e2e49e12350492b219360631c386b5d17bd25f76a833ffa724fcc19e", func := "rundale/rundalelaw25.OrderCatches", spec := "orderCatches", unfollowed := true, recurses := true, apart := false }
def OrderCatchesSaid : Prop := orderCatchesRow.holds Tryz.pinned (OpenSpec.ofChange orderCatchesSpec)

/-- ITS FALSE NEIGHBOUR: 'it returns false'. Refute it at one input. -/
def orderCatchesWrong : ChangeSpec := { name := "orderCatches", fn := fun _ => fun
  | [d1, d2, d3, d4, d5] => { results := [.lit (.bool false)], args := [d1, d2, d3, d4, d5] }
  | _ => none }
def OrderCatchesWrongFalsely : Prop := orderCatchesRow.holds Tryz.pinned (OpenSpec.ofChange orderCatchesWrong)

/-- 'rundalelaw25.OrderChecks': WHATEVER THE INPUT: true; the input reads as it did. -/
def orderChecksSpec : ChangeSpec := { name := "orderChecks", fn := fun _ => fun
  | [d1, d2, d3, d4, d5] => { results := [.lit (.bool true)], args := [d1, d2, d3, d4, d5] }
  | _ => none }
def orderChecksRow : OpenClaim := { program := "ytnpflajdbchghaagreat", sum := "1fa20d81e2e49e12350492b219360631c386b5d17bd25f76a833ffa724fcc19e", func := "rundale/rundalelaw25.OrderChecks", spec := "orderChecks", unfollowed := true, recurses := true, apart := false }
def OrderChecksSaid : Prop := orderChecksRow.holds Tryz.pinned (OpenSpec.ofChange orderChecksSpec)

/-- ITS FALSE NEIGHBOUR: 'it returns false'. Refute it at one input. -/
def orderChecksWrong : ChangeSpec := { name := "orderChecks", fn := fun _ => fun
  | [d1, d2, d3, d4, d5] => { results := [.lit (.bool false)], args := [d1, d2, d3, d4, d5] }
  | _ => none }
def OrderChecksWrongFalsely : Prop := orderChecksRow.holds Tryz.pinned (OpenSpec.ofChange orderChecksWrong)

/- THE SECOND FORM. 'bulk': how many values and letters a reading holds, each counted each time it is reached (what is shared counts as often as it is met; a slice's spare places count too). A statement '..UptoSaid' is the law's where the arguments, and the package variables that the reading takes, are together of bulk at most 1048576: NARROWER than '..Said'. Prove '..Said' where nothing that the law and all that it calls make is longer than what came in: it says more and counts as full. Else prove '..UptoSaid'. A law counts once. -/
mutual
def uptoBulk {H : Type} : DataW H → Nat
  | .lit (.string bytes) => bytes.length + 1
  | .lit _ => 1
  | .nil => 1
  | .ptr d => uptoBulk d + 1
  | .slice elems spare => uptoBulkAll elems + uptoBulkAll spare + 1
  | .agg parts => uptoBulkAll parts + 1
  | .iface _ d => uptoBulk d + 1
  | .map entries => uptoBulkEntries entries + 1
  | .held _ => 1
def uptoBulkAll {H : Type} : List (DataW H) → Nat
  | [] => 0
  | d :: r => uptoBulk d + uptoBulkAll r
def uptoBulkEntries {H : Type} : List (Lit × DataW H) → Nat
  | [] => 0
  | x :: r => uptoBulkEntry x + uptoBulkEntries r
def uptoBulkEntry {H : Type} : Lit × DataW H → Nat
  | (.string bytes, d) => bytes.length + uptoBulk d + 1
  | (_, d) => uptoBulk d + 1
 end
def uptoSmall : (H : Type) → List (DataW H) → Bool := fun _ ds => decide (uptoBulkAll ds ≤ 1048576)
def OpenSpec.upto (s : _root_.Go.ChangeSpec) : _root_.Go.OpenSpec := { _root_.Go.OpenSpec.ofChange s with cond := some uptoSmall }

/-- 'rundalelaw26.SearchFinds', WHERE WHAT IT READS IS OF BULK AT MOST 1048576: true; the input reads as it did. -/
def searchFindsUptoRow : OpenClaim := { program := "ytnpflajdbchghaagreat", sum := "1fa20d81e2e49e12350492b219360631c386b5d17bd25f76a833ffa724fcc19e", func := "rundale/rundalelaw26.SearchFinds", spec := "searchFinds", recurses := true, apart := false, narrowed := true }
def SearchFindsUptoSaid : Prop := searchFindsUptoRow.holds Tryz.pinned (OpenSpec.upto searchFindsSpec)

/-- 'rundalelaw26.SearchSound', WHERE WHAT IT READS IS OF BULK AT MOST 1048576: true; the input reads as it did. -/
def searchSoundUptoRow : OpenClaim := { program := "ytnpflajdbchghaagreat", sum := "1fa20d81e2e49e12350492b219360631c386b5d17bd25f76a833ffa724fcc19e", func := "rundale/rundalelaw26.SearchSound", spec := "searchSound", recurses := true, apart := false, narrowed := true }
def SearchSoundUptoSaid : Prop := searchSoundUptoRow.holds Tryz.pinned (OpenSpec.upto searchSoundSpec)

/-- 'rundalelaw25.OrderEvents', WHERE WHAT IT READS IS OF BULK AT MOST 1048576: true; the input reads as it did. -/
def orderEventsUptoRow : OpenClaim := { program := "ytnpflajdbchghaagreat", sum := "1fa20d81e2e49e12350492b219360631c386b5d17bd25f76a833ffa724fcc19e", func := "rundale/rundalelaw25.OrderEvents", spec := "orderEvents", unfollowed := true, recurses := true, apart := false, narrowed := true }
def OrderEventsUptoSaid : Prop := orderEventsUptoRow.holds Tryz.pinned (OpenSpec.upto orderEventsSpec)

/-- 'rundalelaw25.OrderCuts', WHERE WHAT IT READS IS OF BULK AT MOST 1048576: true; the input reads as it did. -/
def orderCutsUptoRow : OpenClaim := { program := "ytnpflajdbchghaagreat", sum := "1fa20d81e2e49e12350492b219360631c386b5d17bd25f76a833ffa724fcc19e", func := "rundale/rundalelaw25.OrderCuts", spec := "orderCuts", unfollowed := true, recurses := true, apart := false, narrowed := true }
def OrderCutsUptoSaid : Prop := orderCutsUptoRow.holds Tryz.pinned (OpenSpec.upto orderCutsSpec)

/-- 'rundalelaw25.OrderCatches', WHERE WHAT IT READS IS OF BULK AT MOST 1048576: true; the input reads as it did. -/
def orderCatchesUptoRow : OpenClaim := { program := "ytnpflajdbchghaagreat", sum := "1fa20d81e2e49e12350492b219360631c386b5d17bd25f76a833ffa724fcc19e", func := "rundale/rundalelaw25.OrderCatches", spec := "orderCatches", unfollowed := true, recurses := true, apart := false, narrowed := true }
def OrderCatchesUptoSaid : Prop := orderCatchesUptoRow.holds Tryz.pinned (OpenSpec.upto orderCatchesSpec)

/-- 'rundalelaw25.OrderChecks', WHERE WHAT IT READS IS OF BULK AT MOST 1048576: true; the input reads as it did. -/
def orderChecksUptoRow : OpenClaim := { program := "ytnpflajdbchghaagreat", sum := "1fa20d81e2e49e12350492b219360631c386b5d17bd25f76a833ffa724fcc19e", func := "rundale/rundalelaw25.OrderChecks", spec := "orderChecks", unfollowed := true, recurses := true, apart := false, narrowed := true }
def OrderChecksUptoSaid : Prop := orderChecksUptoRow.holds Tryz.pinned (OpenSpec.upto orderChecksSpec)

end Rows
end Go.Proofs.YtnpflajdbchghaaGreat
