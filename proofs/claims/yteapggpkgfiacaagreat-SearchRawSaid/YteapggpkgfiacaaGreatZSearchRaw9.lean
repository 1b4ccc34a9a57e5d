/- Parts of the proof of SearchRaw, one behind the other. Conditions: none. -/
import Derived.Test.YteapggpkgfiacaaGreatChecked
import Derived.Eval
import Derived.Laws.Tables
import Derived.Test.YteapggpkgfiacaaGreatZSearchRaw8
set_option linter.unusedVariables false
set_option maxRecDepth 100000
namespace Go.Proofs.YteapggpkgfiacaaGreat
open Go Ev
variable {w : World} {K : Value → World → Prop} {L : World → Prop}
@[simp] theorem fa_23_0 {b o : Nat} : pureRun Tryz.prog (Instr.fieldAt 23 (.pointer (some ⟨b, o, none⟩)) 0) = some (.pointer (some ⟨b, o + 0, none⟩)) := ag (g := false) (z := 1) (by kernel_rfl) (by decide)
@[simp] theorem fa_23_1 {b o : Nat} : pureRun Tryz.prog (Instr.fieldAt 23 (.pointer (some ⟨b, o, none⟩)) 1) = some (.pointer (some ⟨b, o + 1, none⟩)) := ag (g := false) (z := 1) (by kernel_rfl) (by decide)
@[simp] theorem fa_23_2 {b o : Nat} : pureRun Tryz.prog (Instr.fieldAt 23 (.pointer (some ⟨b, o, none⟩)) 2) = some (.pointer (some ⟨b, o + 2, none⟩)) := ag (g := false) (z := 1) (by kernel_rfl) (by decide)
@[simp] theorem fa_23_3 {b o : Nat} : pureRun Tryz.prog (Instr.fieldAt 23 (.pointer (some ⟨b, o, none⟩)) 3) = some (.pointer (some ⟨b, o + 3, none⟩)) := ag (g := false) (z := 1) (by kernel_rfl) (by decide)
@[simp] theorem fa_23_4 {b o : Nat} : pureRun Tryz.prog (Instr.fieldAt 23 (.pointer (some ⟨b, o, none⟩)) 4) = some (.pointer (some ⟨b, o + 4, none⟩)) := ag (g := false) (z := 1) (by kernel_rfl) (by decide)
@[simp] theorem fa_23_5 {b o : Nat} : pureRun Tryz.prog (Instr.fieldAt 23 (.pointer (some ⟨b, o, none⟩)) 5) = some (.pointer (some ⟨b, o + 5, none⟩)) := ag (g := false) (z := 1) (by kernel_rfl) (by decide)
@[simp] theorem aj {b o : Nat} : pureRun Tryz.prog (Instr.fieldAt 36 (.pointer (some ⟨b, o, none⟩)) 0) = some (.pointer (some ⟨b, o + 0, none⟩)) := ag (g := false) (z := 1) (by kernel_rfl) (by decide)
@[simp] theorem fa_36_1 {b o : Nat} : pureRun Tryz.prog (Instr.fieldAt 36 (.pointer (some ⟨b, o, none⟩)) 1) = some (.pointer (some ⟨b, o + 1, none⟩)) := ag (g := false) (z := 1) (by kernel_rfl) (by decide)
@[simp] theorem fa_36_2 {b o : Nat} : pureRun Tryz.prog (Instr.fieldAt 36 (.pointer (some ⟨b, o, none⟩)) 2) = some (.pointer (some ⟨b, o + 2, none⟩)) := ag (g := false) (z := 1) (by kernel_rfl) (by decide)
@[simp] theorem aY {b o : Nat} : pureRun Tryz.prog (Instr.fieldAt 36 (.pointer (some ⟨b, o, none⟩)) 3) = some (.pointer (some ⟨b, o + 3, none⟩)) := ag (g := false) (z := 1) (by kernel_rfl) (by decide)
@[simp] theorem fa_36_4 {b o : Nat} : pureRun Tryz.prog (Instr.fieldAt 36 (.pointer (some ⟨b, o, none⟩)) 4) = some (.pointer (some ⟨b, o + 4, none⟩)) := ag (g := false) (z := 1) (by kernel_rfl) (by decide)
@[simp] theorem fa_36_5 {b o : Nat} : pureRun Tryz.prog (Instr.fieldAt 36 (.pointer (some ⟨b, o, none⟩)) 5) = some (.pointer (some ⟨b, o + 5, none⟩)) := ag (g := false) (z := 1) (by kernel_rfl) (by decide)
@[simp] theorem bj {b o : Nat} : pureRun Tryz.prog (Instr.fieldAt 38 (.pointer (some ⟨b, o, none⟩)) 0) = some (.pointer (some ⟨b, o + 0, none⟩)) := ag (g := false) (z := 1) (by kernel_rfl) (by decide)
@[simp] theorem fa_38_1 {b o : Nat} : pureRun Tryz.prog (Instr.fieldAt 38 (.pointer (some ⟨b, o, none⟩)) 1) = some (.pointer (some ⟨b, o + 1, none⟩)) := ag (g := false) (z := 1) (by kernel_rfl) (by decide)
@[simp] theorem fa_38_2 {b o : Nat} : pureRun Tryz.prog (Instr.fieldAt 38 (.pointer (some ⟨b, o, none⟩)) 2) = some (.pointer (some ⟨b, o + 2, none⟩)) := ag (g := false) (z := 1) (by kernel_rfl) (by decide)
@[simp] theorem fa_38_3 {b o : Nat} : pureRun Tryz.prog (Instr.fieldAt 38 (.pointer (some ⟨b, o, none⟩)) 3) = some (.pointer (some ⟨b, o + 3, none⟩)) := ag (g := false) (z := 1) (by kernel_rfl) (by decide)
@[simp] theorem fa_38_4 {b o : Nat} : pureRun Tryz.prog (Instr.fieldAt 38 (.pointer (some ⟨b, o, none⟩)) 4) = some (.pointer (some ⟨b, o + 4, none⟩)) := ag (g := false) (z := 1) (by kernel_rfl) (by decide)
@[simp] theorem fa_40_0 {b o : Nat} : pureRun Tryz.prog (Instr.fieldAt 40 (.pointer (some ⟨b, o, none⟩)) 0) = some (.pointer (some ⟨b, o + 0, none⟩)) := ag (g := false) (z := 1) (by kernel_rfl) (by decide)
@[simp] theorem fa_40_1 {b o : Nat} : pureRun Tryz.prog (Instr.fieldAt 40 (.pointer (some ⟨b, o, none⟩)) 1) = some (.pointer (some ⟨b, o + 1, none⟩)) := ag (g := true) (z := 5) (by kernel_rfl) (by decide)
@[simp] theorem fa_40_2 {b o : Nat} : pureRun Tryz.prog (Instr.fieldAt 40 (.pointer (some ⟨b, o, none⟩)) 2) = some (.pointer (some ⟨b, o + 6, none⟩)) := ag (g := false) (z := 1) (by kernel_rfl) (by decide)
@[simp] theorem fa_40_3 {b o : Nat} : pureRun Tryz.prog (Instr.fieldAt 40 (.pointer (some ⟨b, o, none⟩)) 3) = some (.pointer (some ⟨b, o + 7, none⟩)) := ag (g := false) (z := 1) (by kernel_rfl) (by decide)
@[simp] theorem fa_42_0 {b o : Nat} : pureRun Tryz.prog (Instr.fieldAt 42 (.pointer (some ⟨b, o, none⟩)) 0) = some (.pointer (some ⟨b, o + 0, none⟩)) := ag (g := false) (z := 1) (by kernel_rfl) (by decide)
@[simp] theorem fa_42_1 {b o : Nat} : pureRun Tryz.prog (Instr.fieldAt 42 (.pointer (some ⟨b, o, none⟩)) 1) = some (.pointer (some ⟨b, o + 1, none⟩)) := ag (g := false) (z := 1) (by kernel_rfl) (by decide)
@[simp] theorem fa_42_2 {b o : Nat} : pureRun Tryz.prog (Instr.fieldAt 42 (.pointer (some ⟨b, o, none⟩)) 2) = some (.pointer (some ⟨b, o + 2, none⟩)) := ag (g := true) (z := 6) (by kernel_rfl) (by decide)
@[simp] theorem fa_42_3 {b o : Nat} : pureRun Tryz.prog (Instr.fieldAt 42 (.pointer (some ⟨b, o, none⟩)) 3) = some (.pointer (some ⟨b, o + 8, none⟩)) := ag (g := false) (z := 1) (by kernel_rfl) (by decide)
@[simp] theorem fa_42_4 {b o : Nat} : pureRun Tryz.prog (Instr.fieldAt 42 (.pointer (some ⟨b, o, none⟩)) 4) = some (.pointer (some ⟨b, o + 9, none⟩)) := ag (g := false) (z := 1) (by kernel_rfl) (by decide)
@[simp] theorem fa_42_5 {b o : Nat} : pureRun Tryz.prog (Instr.fieldAt 42 (.pointer (some ⟨b, o, none⟩)) 5) = some (.pointer (some ⟨b, o + 10, none⟩)) := ag (g := false) (z := 1) (by kernel_rfl) (by decide)
@[simp] theorem fa_42_6 {b o : Nat} : pureRun Tryz.prog (Instr.fieldAt 42 (.pointer (some ⟨b, o, none⟩)) 6) = some (.pointer (some ⟨b, o + 11, none⟩)) := ag (g := false) (z := 1) (by kernel_rfl) (by decide)
@[simp] theorem fa_42_7 {b o : Nat} : pureRun Tryz.prog (Instr.fieldAt 42 (.pointer (some ⟨b, o, none⟩)) 7) = some (.pointer (some ⟨b, o + 12, none⟩)) := ag (g := true) (z := 8) (by kernel_rfl) (by decide)
@[simp] theorem fa_46_0 {b o : Nat} : pureRun Tryz.prog (Instr.fieldAt 46 (.pointer (some ⟨b, o, none⟩)) 0) = some (.pointer (some ⟨b, o + 0, none⟩)) := ag (g := false) (z := 1) (by kernel_rfl) (by decide)
@[simp] theorem fa_46_1 {b o : Nat} : pureRun Tryz.prog (Instr.fieldAt 46 (.pointer (some ⟨b, o, none⟩)) 1) = some (.pointer (some ⟨b, o + 1, none⟩)) := ag (g := false) (z := 1) (by kernel_rfl) (by decide)
@[simp] theorem fa_46_2 {b o : Nat} : pureRun Tryz.prog (Instr.fieldAt 46 (.pointer (some ⟨b, o, none⟩)) 2) = some (.pointer (some ⟨b, o + 2, none⟩)) := ag (g := false) (z := 1) (by kernel_rfl) (by decide)
@[simp] theorem fa_46_3 {b o : Nat} : pureRun Tryz.prog (Instr.fieldAt 46 (.pointer (some ⟨b, o, none⟩)) 3) = some (.pointer (some ⟨b, o + 3, none⟩)) := ag (g := false) (z := 1) (by kernel_rfl) (by decide)
@[simp] theorem fa_46_4 {b o : Nat} : pureRun Tryz.prog (Instr.fieldAt 46 (.pointer (some ⟨b, o, none⟩)) 4) = some (.pointer (some ⟨b, o + 4, none⟩)) := ag (g := false) (z := 1) (by kernel_rfl) (by decide)
@[simp] theorem fa_46_5 {b o : Nat} : pureRun Tryz.prog (Instr.fieldAt 46 (.pointer (some ⟨b, o, none⟩)) 5) = some (.pointer (some ⟨b, o + 5, none⟩)) := ag (g := false) (z := 1) (by kernel_rfl) (by decide)
@[simp] theorem fa_61_0 {b o : Nat} : pureRun Tryz.prog (Instr.fieldAt 61 (.pointer (some ⟨b, o, none⟩)) 0) = some (.pointer (some ⟨b, o + 0, none⟩)) := ag (g := true) (z := 6) (by kernel_rfl) (by decide)
@[simp] theorem fa_61_1 {b o : Nat} : pureRun Tryz.prog (Instr.fieldAt 61 (.pointer (some ⟨b, o, none⟩)) 1) = some (.pointer (some ⟨b, o + 6, none⟩)) := ag (g := false) (z := 1) (by kernel_rfl) (by decide)
@[simp] theorem fa_61_2 {b o : Nat} : pureRun Tryz.prog (Instr.fieldAt 61 (.pointer (some ⟨b, o, none⟩)) 2) = some (.pointer (some ⟨b, o + 7, none⟩)) := ag (g := false) (z := 1) (by kernel_rfl) (by decide)
@[simp] theorem fa_61_3 {b o : Nat} : pureRun Tryz.prog (Instr.fieldAt 61 (.pointer (some ⟨b, o, none⟩)) 3) = some (.pointer (some ⟨b, o + 8, none⟩)) := ag (g := false) (z := 1) (by kernel_rfl) (by decide)
@[simp] theorem fa_61_4 {b o : Nat} : pureRun Tryz.prog (Instr.fieldAt 61 (.pointer (some ⟨b, o, none⟩)) 4) = some (.pointer (some ⟨b, o + 9, none⟩)) := ag (g := false) (z := 1) (by kernel_rfl) (by decide)
@[simp] theorem fa_71_0 {b o : Nat} : pureRun Tryz.prog (Instr.fieldAt 71 (.pointer (some ⟨b, o, none⟩)) 0) = some (.pointer (some ⟨b, o + 0, none⟩)) := ag (g := false) (z := 1) (by kernel_rfl) (by decide)
@[simp] theorem fa_71_1 {b o : Nat} : pureRun Tryz.prog (Instr.fieldAt 71 (.pointer (some ⟨b, o, none⟩)) 1) = some (.pointer (some ⟨b, o + 1, none⟩)) := ag (g := false) (z := 1) (by kernel_rfl) (by decide)
@[simp] theorem fa_71_2 {b o : Nat} : pureRun Tryz.prog (Instr.fieldAt 71 (.pointer (some ⟨b, o, none⟩)) 2) = some (.pointer (some ⟨b, o + 2, none⟩)) := ag (g := false) (z := 1) (by kernel_rfl) (by decide)
@[simp] theorem fa_83_0 {b o : Nat} : pureRun Tryz.prog (Instr.fieldAt 83 (.pointer (some ⟨b, o, none⟩)) 0) = some (.pointer (some ⟨b, o + 0, none⟩)) := ag (g := false) (z := 1) (by kernel_rfl) (by decide)
@[simp] theorem fa_83_1 {b o : Nat} : pureRun Tryz.prog (Instr.fieldAt 83 (.pointer (some ⟨b, o, none⟩)) 1) = some (.pointer (some ⟨b, o + 1, none⟩)) := ag (g := false) (z := 1) (by kernel_rfl) (by decide)
@[simp] theorem fa_86_0 {b o : Nat} : pureRun Tryz.prog (Instr.fieldAt 86 (.pointer (some ⟨b, o, none⟩)) 0) = some (.pointer (some ⟨b, o + 0, none⟩)) := ag (g := true) (z := 2) (by kernel_rfl) (by decide)
@[simp] theorem fa_86_1 {b o : Nat} : pureRun Tryz.prog (Instr.fieldAt 86 (.pointer (some ⟨b, o, none⟩)) 1) = some (.pointer (some ⟨b, o + 2, none⟩)) := ag (g := false) (z := 1) (by kernel_rfl) (by decide)
@[simp] theorem fa_86_2 {b o : Nat} : pureRun Tryz.prog (Instr.fieldAt 86 (.pointer (some ⟨b, o, none⟩)) 2) = some (.pointer (some ⟨b, o + 3, none⟩)) := ag (g := false) (z := 1) (by kernel_rfl) (by decide)
@[simp] theorem fa_86_3 {b o : Nat} : pureRun Tryz.prog (Instr.fieldAt 86 (.pointer (some ⟨b, o, none⟩)) 3) = some (.pointer (some ⟨b, o + 4, none⟩)) := ag (g := false) (z := 1) (by kernel_rfl) (by decide)
@[simp] theorem fa_86_4 {b o : Nat} : pureRun Tryz.prog (Instr.fieldAt 86 (.pointer (some ⟨b, o, none⟩)) 4) = some (.pointer (some ⟨b, o + 5, none⟩)) := ag (g := false) (z := 1) (by kernel_rfl) (by decide)
@[simp] theorem fa_86_5 {b o : Nat} : pureRun Tryz.prog (Instr.fieldAt 86 (.pointer (some ⟨b, o, none⟩)) 5) = some (.pointer (some ⟨b, o + 6, none⟩)) := ag (g := false) (z := 1) (by kernel_rfl) (by decide)
@[simp] theorem fa_92_0 {b o : Nat} : pureRun Tryz.prog (Instr.fieldAt 92 (.pointer (some ⟨b, o, none⟩)) 0) = some (.pointer (some ⟨b, o + 0, none⟩)) := ag (g := false) (z := 1) (by kernel_rfl) (by decide)
@[simp] theorem fa_92_1 {b o : Nat} : pureRun Tryz.prog (Instr.fieldAt 92 (.pointer (some ⟨b, o, none⟩)) 1) = some (.pointer (some ⟨b, o + 1, none⟩)) := ag (g := false) (z := 1) (by kernel_rfl) (by decide)
@[simp] theorem fa_96_0 {b o : Nat} : pureRun Tryz.prog (Instr.fieldAt 96 (.pointer (some ⟨b, o, none⟩)) 0) = some (.pointer (some ⟨b, o + 0, none⟩)) := ag (g := false) (z := 1) (by kernel_rfl) (by decide)
@[simp] theorem fa_96_1 {b o : Nat} : pureRun Tryz.prog (Instr.fieldAt 96 (.pointer (some ⟨b, o, none⟩)) 1) = some (.pointer (some ⟨b, o + 1, none⟩)) := ag (g := false) (z := 1) (by kernel_rfl) (by decide)
@[simp] theorem fa_112_0 {b o : Nat} : pureRun Tryz.prog (Instr.fieldAt 112 (.pointer (some ⟨b, o, none⟩)) 0) = some (.pointer (some ⟨b, o + 0, none⟩)) := ag (g := true) (z := 6) (by kernel_rfl) (by decide)
@[simp] theorem fa_112_1 {b o : Nat} : pureRun Tryz.prog (Instr.fieldAt 112 (.pointer (some ⟨b, o, none⟩)) 1) = some (.pointer (some ⟨b, o + 6, none⟩)) := ag (g := false) (z := 1) (by kernel_rfl) (by decide)
@[simp] theorem fa_112_2 {b o : Nat} : pureRun Tryz.prog (Instr.fieldAt 112 (.pointer (some ⟨b, o, none⟩)) 2) = some (.pointer (some ⟨b, o + 7, none⟩)) := ag (g := false) (z := 1) (by kernel_rfl) (by decide)
@[simp] theorem fa_112_3 {b o : Nat} : pureRun Tryz.prog (Instr.fieldAt 112 (.pointer (some ⟨b, o, none⟩)) 3) = some (.pointer (some ⟨b, o + 8, none⟩)) := ag (g := false) (z := 1) (by kernel_rfl) (by decide)
@[simp] theorem aA {b o : Nat} : pureRun Tryz.prog (Instr.fieldAt 112 (.pointer (some ⟨b, o, none⟩)) 4) = some (.pointer (some ⟨b, o + 9, none⟩)) := ag (g := false) (z := 1) (by kernel_rfl) (by decide)
@[simp] theorem fa_112_5 {b o : Nat} : pureRun Tryz.prog (Instr.fieldAt 112 (.pointer (some ⟨b, o, none⟩)) 5) = some (.pointer (some ⟨b, o + 10, none⟩)) := ag (g := false) (z := 1) (by kernel_rfl) (by decide)
@[simp] theorem fa_112_6 {b o : Nat} : pureRun Tryz.prog (Instr.fieldAt 112 (.pointer (some ⟨b, o, none⟩)) 6) = some (.pointer (some ⟨b, o + 11, none⟩)) := ag (g := false) (z := 1) (by kernel_rfl) (by decide)
@[simp] theorem fa_116_0 {b o : Nat} : pureRun Tryz.prog (Instr.fieldAt 116 (.pointer (some ⟨b, o, none⟩)) 0) = some (.pointer (some ⟨b, o + 0, none⟩)) := ag (g := false) (z := 1) (by kernel_rfl) (by decide)
@[simp] theorem fa_116_1 {b o : Nat} : pureRun Tryz.prog (Instr.fieldAt 116 (.pointer (some ⟨b, o, none⟩)) 1) = some (.pointer (some ⟨b, o + 1, none⟩)) := ag (g := false) (z := 1) (by kernel_rfl) (by decide)
@[simp] theorem fa_116_2 {b o : Nat} : pureRun Tryz.prog (Instr.fieldAt 116 (.pointer (some ⟨b, o, none⟩)) 2) = some (.pointer (some ⟨b, o + 2, none⟩)) := ag (g := false) (z := 1) (by kernel_rfl) (by decide)
@[simp] theorem fa_116_3 {b o : Nat} : pureRun Tryz.prog (Instr.fieldAt 116 (.pointer (some ⟨b, o, none⟩)) 3) = some (.pointer (some ⟨b, o + 3, none⟩)) := ag (g := false) (z := 1) (by kernel_rfl) (by decide)
@[simp] theorem fa_116_4 {b o : Nat} : pureRun Tryz.prog (Instr.fieldAt 116 (.pointer (some ⟨b, o, none⟩)) 4) = some (.pointer (some ⟨b, o + 4, none⟩)) := ag (g := false) (z := 1) (by kernel_rfl) (by decide)
@[simp] theorem fa_126_0 {b o : Nat} : pureRun Tryz.prog (Instr.fieldAt 126 (.pointer (some ⟨b, o, none⟩)) 0) = some (.pointer (some ⟨b, o + 0, none⟩)) := ag (g := false) (z := 1) (by kernel_rfl) (by decide)
@[simp] theorem fa_126_1 {b o : Nat} : pureRun Tryz.prog (Instr.fieldAt 126 (.pointer (some ⟨b, o, none⟩)) 1) = some (.pointer (some ⟨b, o + 1, none⟩)) := ag (g := false) (z := 1) (by kernel_rfl) (by decide)
@[simp] theorem fa_126_2 {b o : Nat} : pureRun Tryz.prog (Instr.fieldAt 126 (.pointer (some ⟨b, o, none⟩)) 2) = some (.pointer (some ⟨b, o + 2, none⟩)) := ag (g := false) (z := 1) (by kernel_rfl) (by decide)
@[simp] theorem fa_126_3 {b o : Nat} : pureRun Tryz.prog (Instr.fieldAt 126 (.pointer (some ⟨b, o, none⟩)) 3) = some (.pointer (some ⟨b, o + 3, none⟩)) := ag (g := false) (z := 1) (by kernel_rfl) (by decide)
@[simp] theorem fa_126_4 {b o : Nat} : pureRun Tryz.prog (Instr.fieldAt 126 (.pointer (some ⟨b, o, none⟩)) 4) = some (.pointer (some ⟨b, o + 4, none⟩)) := ag (g := false) (z := 1) (by kernel_rfl) (by decide)
@[simp] theorem fa_126_5 {b o : Nat} : pureRun Tryz.prog (Instr.fieldAt 126 (.pointer (some ⟨b, o, none⟩)) 5) = some (.pointer (some ⟨b, o + 5, none⟩)) := ag (g := false) (z := 1) (by kernel_rfl) (by decide)
@[simp] theorem fa_126_6 {b o : Nat} : pureRun Tryz.prog (Instr.fieldAt 126 (.pointer (some ⟨b, o, none⟩)) 6) = some (.pointer (some ⟨b, o + 6, none⟩)) := ag (g := false) (z := 1) (by kernel_rfl) (by decide)
@[simp] theorem fa_126_7 {b o : Nat} : pureRun Tryz.prog (Instr.fieldAt 126 (.pointer (some ⟨b, o, none⟩)) 7) = some (.pointer (some ⟨b, o + 7, none⟩)) := ag (g := false) (z := 1) (by kernel_rfl) (by decide)
@[simp] theorem fi_116_1 {x0 x1 x2 x3 x4 : Value} : pureRun Tryz.prog (Instr.field 116 (.agg #[x0, x1, x2, x3, x4]) 1) = some x1 := pr_field1 (off := 1) (z := 1) (by kernel_rfl) rfl
theorem sz_3 : (Tryz.prog.info? 3).map (·.size) = some 1 := by kernel_rfl
theorem ag_3 : (Tryz.prog.underlying 3).map isAggD = some false := by kernel_rfl
@[simp] theorem ac {b o : Nat} : ldv Tryz.prog 3 (.pointer (some ⟨b, o, none⟩)) w = ldC (hp w b) o := ldv_blk ag_3
theorem sz_4 : (Tryz.prog.info? 4).map (·.size) = some 1 := by kernel_rfl
theorem ag_4 : (Tryz.prog.underlying 4).map isAggD = some false := by kernel_rfl
@[simp] theorem ld_4 {b o : Nat} : ldv Tryz.prog 4 (.pointer (some ⟨b, o, none⟩)) w = ldC (hp w b) o := ldv_blk ag_4
theorem ag_9 : (Tryz.prog.underlying 9).map isAggD = some false := by kernel_rfl
@[simp] theorem ld_9 {b o : Nat} : ldv Tryz.prog 9 (.pointer (some ⟨b, o, none⟩)) w = ldC (hp w b) o := ldv_blk ag_9
theorem sz_23 : (Tryz.prog.info? 23).map (·.size) = some 6 := by kernel_rfl
theorem ag_23 : (Tryz.prog.underlying 23).map isAggD = some true := by kernel_rfl
theorem ld_23 {b o : Nat} : ldv Tryz.prog 23 (.pointer (some ⟨b, o, none⟩)) w = (ldL (hp w b) o 6).map fun l => .agg l.toArray := ldv_L ag_23 sz_23
theorem ag_24 : (Tryz.prog.underlying 24).map isAggD = some false := by kernel_rfl
@[simp] theorem ld_24 {b o : Nat} : ldv Tryz.prog 24 (.pointer (some ⟨b, o, none⟩)) w = ldC (hp w b) o := ldv_blk ag_24
theorem sz_26 : (Tryz.prog.info? 26).map (·.size) = some 1 := by kernel_rfl
theorem ag_26 : (Tryz.prog.underlying 26).map isAggD = some false := by kernel_rfl
@[simp] theorem ld_26 {b o : Nat} : ldv Tryz.prog 26 (.pointer (some ⟨b, o, none⟩)) w = ldC (hp w b) o := ldv_blk ag_26
theorem ag_27 : (Tryz.prog.underlying 27).map isAggD = some false := by kernel_rfl
@[simp] theorem ld_27 {b o : Nat} : ldv Tryz.prog 27 (.pointer (some ⟨b, o, none⟩)) w = ldC (hp w b) o := ldv_blk ag_27
theorem sz_34 : (Tryz.prog.info? 34).map (·.size) = some 1 := by kernel_rfl
theorem ag_34 : (Tryz.prog.underlying 34).map isAggD = some false := by kernel_rfl
@[simp] theorem ld_34 {b o : Nat} : ldv Tryz.prog 34 (.pointer (some ⟨b, o, none⟩)) w = ldC (hp w b) o := ldv_blk ag_34
theorem sz_36 : (Tryz.prog.info? 36).map (·.size) = some 6 := by kernel_rfl
theorem ag_36 : (Tryz.prog.underlying 36).map isAggD = some true := by kernel_rfl
theorem ld_36 {b o : Nat} : ldv Tryz.prog 36 (.pointer (some ⟨b, o, none⟩)) w = (ldL (hp w b) o 6).map fun l => .agg l.toArray := ldv_L ag_36 sz_36
theorem sz_38 : (Tryz.prog.info? 38).map (·.size) = some 5 := by kernel_rfl
theorem ag_38 : (Tryz.prog.underlying 38).map isAggD = some true := by kernel_rfl
theorem ld_38 {b o : Nat} : ldv Tryz.prog 38 (.pointer (some ⟨b, o, none⟩)) w = (ldL (hp w b) o 5).map fun l => .agg l.toArray := ldv_L ag_38 sz_38
theorem sz_40 : (Tryz.prog.info? 40).map (·.size) = some 8 := by kernel_rfl
theorem ag_40 : (Tryz.prog.underlying 40).map isAggD = some true := by kernel_rfl
theorem ld_40 {b o : Nat} : ldv Tryz.prog 40 (.pointer (some ⟨b, o, none⟩)) w = (ldL (hp w b) o 8).map fun l => .agg l.toArray := ldv_L ag_40 sz_40
theorem sz_42 : (Tryz.prog.info? 42).map (·.size) = some 20 := by kernel_rfl
theorem ag_42 : (Tryz.prog.underlying 42).map isAggD = some true := by kernel_rfl
theorem ld_42 {b o : Nat} : ldv Tryz.prog 42 (.pointer (some ⟨b, o, none⟩)) w = (ldL (hp w b) o 20).map fun l => .agg l.toArray := ldv_L ag_42 sz_42
theorem sz_44 : (Tryz.prog.info? 44).map (·.size) = some 1 := by kernel_rfl
theorem ag_44 : (Tryz.prog.underlying 44).map isAggD = some false := by kernel_rfl
@[simp] theorem ld_44 {b o : Nat} : ldv Tryz.prog 44 (.pointer (some ⟨b, o, none⟩)) w = ldC (hp w b) o := ldv_blk ag_44
theorem sz_57 : (Tryz.prog.info? 57).map (·.size) = some 1 := by kernel_rfl
theorem ag_57 : (Tryz.prog.underlying 57).map isAggD = some false := by kernel_rfl
@[simp] theorem ld_57 {b o : Nat} : ldv Tryz.prog 57 (.pointer (some ⟨b, o, none⟩)) w = ldC (hp w b) o := ldv_blk ag_57
theorem sz_58 : (Tryz.prog.info? 58).map (·.size) = some 1 := by kernel_rfl
theorem ag_58 : (Tryz.prog.underlying 58).map isAggD = some false := by kernel_rfl
@[simp] theorem ld_58 {b o : Nat} : ldv Tryz.prog 58 (.pointer (some ⟨b, o, none⟩)) w = ldC (hp w b) o := ldv_blk ag_58
theorem sz_59 : (Tryz.prog.info? 59).map (·.size) = some 1 := by kernel_rfl
theorem ag_59 : (Tryz.prog.underlying 59).map isAggD = some false := by kernel_rfl
@[simp] theorem ld_59 {b o : Nat} : ldv Tryz.prog 59 (.pointer (some ⟨b, o, none⟩)) w = ldC (hp w b) o := ldv_blk ag_59
theorem sz_61 : (Tryz.prog.info? 61).map (·.size) = some 10 := by kernel_rfl
theorem ag_61 : (Tryz.prog.underlying 61).map isAggD = some true := by kernel_rfl
theorem sz_67 : (Tryz.prog.info? 67).map (·.size) = some 4 := by kernel_rfl
theorem ag_67 : (Tryz.prog.underlying 67).map isAggD = some true := by kernel_rfl
theorem ld_67 {b o : Nat} : ldv Tryz.prog 67 (.pointer (some ⟨b, o, none⟩)) w = (ldL (hp w b) o 4).map fun l => .agg l.toArray := ldv_L ag_67 sz_67
theorem sz_83 : (Tryz.prog.info? 83).map (·.size) = some 2 := by kernel_rfl
theorem ag_83 : (Tryz.prog.underlying 83).map isAggD = some true := by kernel_rfl
theorem ld_83 {b o : Nat} : ldv Tryz.prog 83 (.pointer (some ⟨b, o, none⟩)) w = (ldL (hp w b) o 2).map fun l => .agg l.toArray := ldv_L ag_83 sz_83
theorem sz_84 : (Tryz.prog.info? 84).map (·.size) = some 1 := by kernel_rfl
theorem ag_84 : (Tryz.prog.underlying 84).map isAggD = some false := by kernel_rfl
@[simp] theorem ld_84 {b o : Nat} : ldv Tryz.prog 84 (.pointer (some ⟨b, o, none⟩)) w = ldC (hp w b) o := ldv_blk ag_84
theorem sz_86 : (Tryz.prog.info? 86).map (·.size) = some 7 := by kernel_rfl
theorem ag_86 : (Tryz.prog.underlying 86).map isAggD = some true := by kernel_rfl
theorem ld_86 {b o : Nat} : ldv Tryz.prog 86 (.pointer (some ⟨b, o, none⟩)) w = (ldL (hp w b) o 7).map fun l => .agg l.toArray := ldv_L ag_86 sz_86
theorem sz_92 : (Tryz.prog.info? 92).map (·.size) = some 2 := by kernel_rfl
theorem ag_92 : (Tryz.prog.underlying 92).map isAggD = some true := by kernel_rfl
theorem ld_92 {b o : Nat} : ldv Tryz.prog 92 (.pointer (some ⟨b, o, none⟩)) w = (ldL (hp w b) o 2).map fun l => .agg l.toArray := ldv_L ag_92 sz_92
theorem sz_94 : (Tryz.prog.info? 94).map (·.size) = some 1 := by kernel_rfl
theorem ag_94 : (Tryz.prog.underlying 94).map isAggD = some false := by kernel_rfl
@[simp] theorem ld_94 {b o : Nat} : ldv Tryz.prog 94 (.pointer (some ⟨b, o, none⟩)) w = ldC (hp w b) o := ldv_blk ag_94
theorem sz_102 : (Tryz.prog.info? 102).map (·.size) = some 1 := by kernel_rfl
theorem ag_102 : (Tryz.prog.underlying 102).map isAggD = some false := by kernel_rfl
@[simp] theorem ld_102 {b o : Nat} : ldv Tryz.prog 102 (.pointer (some ⟨b, o, none⟩)) w = ldC (hp w b) o := ldv_blk ag_102
theorem sz_109 : (Tryz.prog.info? 109).map (·.size) = some 1 := by kernel_rfl
theorem ag_109 : (Tryz.prog.underlying 109).map isAggD = some false := by kernel_rfl
@[simp] theorem aE {b o : Nat} : ldv Tryz.prog 109 (.pointer (some ⟨b, o, none⟩)) w = ldC (hp w b) o := ldv_blk ag_109
theorem sz_110 : (Tryz.prog.info? 110).map (·.size) = some 1 := by kernel_rfl
theorem ag_110 : (Tryz.prog.underlying 110).map isAggD = some false := by kernel_rfl
@[simp] theorem ld_110 {b o : Nat} : ldv Tryz.prog 110 (.pointer (some ⟨b, o, none⟩)) w = ldC (hp w b) o := ldv_blk ag_110
theorem sz_116 : (Tryz.prog.info? 116).map (·.size) = some 5 := by kernel_rfl
theorem ag_116 : (Tryz.prog.underlying 116).map isAggD = some true := by kernel_rfl
theorem ld_116 {b o : Nat} : ldv Tryz.prog 116 (.pointer (some ⟨b, o, none⟩)) w = (ldL (hp w b) o 5).map fun l => .agg l.toArray := ldv_L ag_116 sz_116
theorem sz_126 : (Tryz.prog.info? 126).map (·.size) = some 8 := by kernel_rfl
theorem ag_126 : (Tryz.prog.underlying 126).map isAggD = some true := by kernel_rfl
theorem ld_126 {b o : Nat} : ldv Tryz.prog 126 (.pointer (some ⟨b, o, none⟩)) w = (ldL (hp w b) o 8).map fun l => .agg l.toArray := ldv_L ag_126 sz_126
theorem sz_127 : (Tryz.prog.info? 127).map (·.size) = some 1 := by kernel_rfl
theorem ag_127 : (Tryz.prog.underlying 127).map isAggD = some false := by kernel_rfl
@[simp] theorem ld_127 {b o : Nat} : ldv Tryz.prog 127 (.pointer (some ⟨b, o, none⟩)) w = ldC (hp w b) o := ldv_blk ag_127
theorem sz_137 : (Tryz.prog.info? 137).map (·.size) = some 2 := by kernel_rfl
theorem ag_137 : (Tryz.prog.underlying 137).map isAggD = some true := by kernel_rfl
theorem ld_137 {b o : Nat} : ldv Tryz.prog 137 (.pointer (some ⟨b, o, none⟩)) w = (ldL (hp w b) o 2).map fun l => .agg l.toArray := ldv_L ag_137 sz_137
theorem st_3 {b o : Nat} {v : Value} (hv : v.cells = #[v]) (h1 : v.oneCell' = true) (h : okC (hp w b) (o + 1) = true) : effu Tryz.prog (Instr.storeAt 3 (.pointer (some ⟨b, o, none⟩)) v) w L = L (put w b ((getC (hp w b)).setIfInBounds o v) (getE (hp w b))) := aK sz_3 hv h1 h
theorem st_4 {b o : Nat} {v : Value} (hv : v.cells = #[v]) (h1 : v.oneCell' = true) (h : okC (hp w b) (o + 1) = true) : effu Tryz.prog (Instr.storeAt 4 (.pointer (some ⟨b, o, none⟩)) v) w L = L (put w b ((getC (hp w b)).setIfInBounds o v) (getE (hp w b))) := aK sz_4 hv h1 h
theorem st_23 {b : Nat} {c : Array Value} (hc : c.size = 6) (h1 : c.toList.all (·.oneCell') = true) (h : okC (hp w b) 6 = true) (hs : (getC (hp w b)).size = 6) : effu Tryz.prog (Instr.storeAt 23 (.pointer (some ⟨b, 0, none⟩)) (.agg c)) w L = L (put w b c (getE (hp w b))) := effu_storeW sz_23 hc h1 (by decide) h hs
theorem st_26 {b o : Nat} {v : Value} (hv : v.cells = #[v]) (h1 : v.oneCell' = true) (h : okC (hp w b) (o + 1) = true) : effu Tryz.prog (Instr.storeAt 26 (.pointer (some ⟨b, o, none⟩)) v) w L = L (put w b ((getC (hp w b)).setIfInBounds o v) (getE (hp w b))) := aK sz_26 hv h1 h
theorem st_34 {b o : Nat} {v : Value} (hv : v.cells = #[v]) (h1 : v.oneCell' = true) (h : okC (hp w b) (o + 1) = true) : effu Tryz.prog (Instr.storeAt 34 (.pointer (some ⟨b, o, none⟩)) v) w L = L (put w b ((getC (hp w b)).setIfInBounds o v) (getE (hp w b))) := aK sz_34 hv h1 h
theorem st_36 {b : Nat} {c : Array Value} (hc : c.size = 6) (h1 : c.toList.all (·.oneCell') = true) (h : okC (hp w b) 6 = true) (hs : (getC (hp w b)).size = 6) : effu Tryz.prog (Instr.storeAt 36 (.pointer (some ⟨b, 0, none⟩)) (.agg c)) w L = L (put w b c (getE (hp w b))) := effu_storeW sz_36 hc h1 (by decide) h hs
theorem st_38 {b : Nat} {c : Array Value} (hc : c.size = 5) (h1 : c.toList.all (·.oneCell') = true) (h : okC (hp w b) 5 = true) (hs : (getC (hp w b)).size = 5) : effu Tryz.prog (Instr.storeAt 38 (.pointer (some ⟨b, 0, none⟩)) (.agg c)) w L = L (put w b c (getE (hp w b))) := effu_storeW sz_38 hc h1 (by decide) h hs
theorem st_40 {b : Nat} {c : Array Value} (hc : c.size = 8) (h1 : c.toList.all (·.oneCell') = true) (h : okC (hp w b) 8 = true) (hs : (getC (hp w b)).size = 8) : effu Tryz.prog (Instr.storeAt 40 (.pointer (some ⟨b, 0, none⟩)) (.agg c)) w L = L (put w b c (getE (hp w b))) := effu_storeW sz_40 hc h1 (by decide) h hs
theorem st_42 {b : Nat} {c : Array Value} (hc : c.size = 20) (h1 : c.toList.all (·.oneCell') = true) (h : okC (hp w b) 20 = true) (hs : (getC (hp w b)).size = 20) : effu Tryz.prog (Instr.storeAt 42 (.pointer (some ⟨b, 0, none⟩)) (.agg c)) w L = L (put w b c (getE (hp w b))) := effu_storeW sz_42 hc h1 (by decide) h hs
theorem st_44 {b o : Nat} {v : Value} (hv : v.cells = #[v]) (h1 : v.oneCell' = true) (h : okC (hp w b) (o + 1) = true) : effu Tryz.prog (Instr.storeAt 44 (.pointer (some ⟨b, o, none⟩)) v) w L = L (put w b ((getC (hp w b)).setIfInBounds o v) (getE (hp w b))) := aK sz_44 hv h1 h
theorem st_57 {b o : Nat} {v : Value} (hv : v.cells = #[v]) (h1 : v.oneCell' = true) (h : okC (hp w b) (o + 1) = true) : effu Tryz.prog (Instr.storeAt 57 (.pointer (some ⟨b, o, none⟩)) v) w L = L (put w b ((getC (hp w b)).setIfInBounds o v) (getE (hp w b))) := aK sz_57 hv h1 h
theorem st_58 {b o : Nat} {v : Value} (hv : v.cells = #[v]) (h1 : v.oneCell' = true) (h : okC (hp w b) (o + 1) = true) : effu Tryz.prog (Instr.storeAt 58 (.pointer (some ⟨b, o, none⟩)) v) w L = L (put w b ((getC (hp w b)).setIfInBounds o v) (getE (hp w b))) := aK sz_58 hv h1 h
theorem st_59 {b o : Nat} {v : Value} (hv : v.cells = #[v]) (h1 : v.oneCell' = true) (h : okC (hp w b) (o + 1) = true) : effu Tryz.prog (Instr.storeAt 59 (.pointer (some ⟨b, o, none⟩)) v) w L = L (put w b ((getC (hp w b)).setIfInBounds o v) (getE (hp w b))) := aK sz_59 hv h1 h
theorem st_61 {b : Nat} {c : Array Value} (hc : c.size = 10) (h1 : c.toList.all (·.oneCell') = true) (h : okC (hp w b) 10 = true) (hs : (getC (hp w b)).size = 10) : effu Tryz.prog (Instr.storeAt 61 (.pointer (some ⟨b, 0, none⟩)) (.agg c)) w L = L (put w b c (getE (hp w b))) := effu_storeW sz_61 hc h1 (by decide) h hs
theorem st_67 {b : Nat} {c : Array Value} (hc : c.size = 4) (h1 : c.toList.all (·.oneCell') = true) (h : okC (hp w b) 4 = true) (hs : (getC (hp w b)).size = 4) : effu Tryz.prog (Instr.storeAt 67 (.pointer (some ⟨b, 0, none⟩)) (.agg c)) w L = L (put w b c (getE (hp w b))) := effu_storeW sz_67 hc h1 (by decide) h hs
theorem st_83 {b : Nat} {c : Array Value} (hc : c.size = 2) (h1 : c.toList.all (·.oneCell') = true) (h : okC (hp w b) 2 = true) (hs : (getC (hp w b)).size = 2) : effu Tryz.prog (Instr.storeAt 83 (.pointer (some ⟨b, 0, none⟩)) (.agg c)) w L = L (put w b c (getE (hp w b))) := effu_storeW sz_83 hc h1 (by decide) h hs
theorem st_84 {b o : Nat} {v : Value} (hv : v.cells = #[v]) (h1 : v.oneCell' = true) (h : okC (hp w b) (o + 1) = true) : effu Tryz.prog (Instr.storeAt 84 (.pointer (some ⟨b, o, none⟩)) v) w L = L (put w b ((getC (hp w b)).setIfInBounds o v) (getE (hp w b))) := aK sz_84 hv h1 h
theorem st_86 {b : Nat} {c : Array Value} (hc : c.size = 7) (h1 : c.toList.all (·.oneCell') = true) (h : okC (hp w b) 7 = true) (hs : (getC (hp w b)).size = 7) : effu Tryz.prog (Instr.storeAt 86 (.pointer (some ⟨b, 0, none⟩)) (.agg c)) w L = L (put w b c (getE (hp w b))) := effu_storeW sz_86 hc h1 (by decide) h hs
theorem st_92 {b : Nat} {c : Array Value} (hc : c.size = 2) (h1 : c.toList.all (·.oneCell') = true) (h : okC (hp w b) 2 = true) (hs : (getC (hp w b)).size = 2) : effu Tryz.prog (Instr.storeAt 92 (.pointer (some ⟨b, 0, none⟩)) (.agg c)) w L = L (put w b c (getE (hp w b))) := effu_storeW sz_92 hc h1 (by decide) h hs
theorem st_94 {b o : Nat} {v : Value} (hv : v.cells = #[v]) (h1 : v.oneCell' = true) (h : okC (hp w b) (o + 1) = true) : effu Tryz.prog (Instr.storeAt 94 (.pointer (some ⟨b, o, none⟩)) v) w L = L (put w b ((getC (hp w b)).setIfInBounds o v) (getE (hp w b))) := aK sz_94 hv h1 h
theorem st_102 {b o : Nat} {v : Value} (hv : v.cells = #[v]) (h1 : v.oneCell' = true) (h : okC (hp w b) (o + 1) = true) : effu Tryz.prog (Instr.storeAt 102 (.pointer (some ⟨b, o, none⟩)) v) w L = L (put w b ((getC (hp w b)).setIfInBounds o v) (getE (hp w b))) := aK sz_102 hv h1 h
theorem st_109 {b o : Nat} {v : Value} (hv : v.cells = #[v]) (h1 : v.oneCell' = true) (h : okC (hp w b) (o + 1) = true) : effu Tryz.prog (Instr.storeAt 109 (.pointer (some ⟨b, o, none⟩)) v) w L = L (put w b ((getC (hp w b)).setIfInBounds o v) (getE (hp w b))) := aK sz_109 hv h1 h
theorem st_110 {b o : Nat} {v : Value} (hv : v.cells = #[v]) (h1 : v.oneCell' = true) (h : okC (hp w b) (o + 1) = true) : effu Tryz.prog (Instr.storeAt 110 (.pointer (some ⟨b, o, none⟩)) v) w L = L (put w b ((getC (hp w b)).setIfInBounds o v) (getE (hp w b))) := aK sz_110 hv h1 h
theorem st_116 {b : Nat} {c : Array Value} (hc : c.size = 5) (h1 : c.toList.all (·.oneCell') = true) (h : okC (hp w b) 5 = true) (hs : (getC (hp w b)).size = 5) : effu Tryz.prog (Instr.storeAt 116 (.pointer (some ⟨b, 0, none⟩)) (.agg c)) w L = L (put w b c (getE (hp w b))) := effu_storeW sz_116 hc h1 (by decide) h hs
theorem st_126 {b : Nat} {c : Array Value} (hc : c.size = 8) (h1 : c.toList.all (·.oneCell') = true) (h : okC (hp w b) 8 = true) (hs : (getC (hp w b)).size = 8) : effu Tryz.prog (Instr.storeAt 126 (.pointer (some ⟨b, 0, none⟩)) (.agg c)) w L = L (put w b c (getE (hp w b))) := effu_storeW sz_126 hc h1 (by decide) h hs
theorem st_127 {b o : Nat} {v : Value} (hv : v.cells = #[v]) (h1 : v.oneCell' = true) (h : okC (hp w b) (o + 1) = true) : effu Tryz.prog (Instr.storeAt 127 (.pointer (some ⟨b, o, none⟩)) v) w L = L (put w b ((getC (hp w b)).setIfInBounds o v) (getE (hp w b))) := aK sz_127 hv h1 h
@[simp] theorem al_23 {x : Value} : effv Tryz.prog (Instr.alloc 23 true x) w K = K (.pointer (some ⟨w.heap.size, 0, none⟩)) (w.alloc (.cells #[.int .i64 0, .int .i64 0, .int .i64 0, .int .i64 0, .int .i64 0, .int .i64 0] 23)) := effv_alloc (z := (.agg #[.int .i64 0, .int .i64 0, .int .i64 0, .int .i64 0, .int .i64 0, .int .i64 0])) (by kernel_rfl)
@[simp] theorem al_36 {x : Value} : effv Tryz.prog (Instr.alloc 36 true x) w K = K (.pointer (some ⟨w.heap.size, 0, none⟩)) (w.alloc (.cells #[.int .i64 0, .int .i64 0, .int .i64 0, .int .i64 0, .int .u64 0, .int .u64 0] 36)) := effv_alloc (z := (.agg #[.int .i64 0, .int .i64 0, .int .i64 0, .int .i64 0, .int .u64 0, .int .u64 0])) (by kernel_rfl)
@[simp] theorem al_38 {x : Value} : effv Tryz.prog (Instr.alloc 38 true x) w K = K (.pointer (some ⟨w.heap.size, 0, none⟩)) (w.alloc (.cells #[.int .i64 0, .int .i64 0, .int .i64 0, .int .i64 0, .int .i64 0] 38)) := effv_alloc (z := (.agg #[.int .i64 0, .int .i64 0, .int .i64 0, .int .i64 0, .int .i64 0])) (by kernel_rfl)
@[simp] theorem al_40 {x : Value} : effv Tryz.prog (Instr.alloc 40 true x) w K = K (.pointer (some ⟨w.heap.size, 0, none⟩)) (w.alloc (.cells #[.int .i64 0, .int .i64 0, .int .i64 0, .int .i64 0, .int .i64 0, .int .i64 0, .int .i64 0, .int .u64 0] 40)) := effv_alloc (z := (.agg #[.int .i64 0, .int .i64 0, .int .i64 0, .int .i64 0, .int .i64 0, .int .i64 0, .int .i64 0, .int .u64 0])) (by kernel_rfl)
@[simp] theorem al_42 {x : Value} : effv Tryz.prog (Instr.alloc 42 true x) w K = K (.pointer (some ⟨w.heap.size, 0, none⟩)) (w.alloc (.cells #[.int .i64 0, .int .i64 0, .int .i64 0, .int .i64 0, .int .i64 0, .int .i64 0, .int .u64 0, .int .u64 0, .int .i64 0, .int .i64 0, .int .i64 0, .int .i64 0, .int .i64 0, .int .i64 0, .int .i64 0, .int .i64 0, .int .i64 0, .int .i64 0, .int .i64 0, .int .u64 0] 42)) := effv_alloc (z := (.agg #[.int .i64 0, .int .i64 0, .int .i64 0, .int .i64 0, .int .i64 0, .int .i64 0, .int .u64 0, .int .u64 0, .int .i64 0, .int .i64 0, .int .i64 0, .int .i64 0, .int .i64 0, .int .i64 0, .int .i64 0, .int .i64 0, .int .i64 0, .int .i64 0, .int .i64 0, .int .u64 0])) (by kernel_rfl)
@[simp] theorem al_61 {x : Value} : effv Tryz.prog (Instr.alloc 61 true x) w K = K (.pointer (some ⟨w.heap.size, 0, none⟩)) (w.alloc (.cells #[.int .i64 0, .int .i64 0, .int .i64 0, .int .i64 0, .int .i64 0, .int .i64 0, .bool false, .slice none 0 0, .slice none 0 0, .slice none 0 0] 61)) := effv_alloc (z := (.agg #[.int .i64 0, .int .i64 0, .int .i64 0, .int .i64 0, .int .i64 0, .int .i64 0, .bool false, .slice none 0 0, .slice none 0 0, .slice none 0 0])) (by kernel_rfl)
@[simp] theorem al_67 {x : Value} : effv Tryz.prog (Instr.alloc 67 true x) w K = K (.pointer (some ⟨w.heap.size, 0, none⟩)) (w.alloc (.cells #[.int .i64 0, .int .i64 0, .int .i64 0, .int .i64 0] 67)) := effv_alloc (z := (.agg #[.int .i64 0, .int .i64 0, .int .i64 0, .int .i64 0])) (by kernel_rfl)
@[simp] theorem al_83 {x : Value} : effv Tryz.prog (Instr.alloc 83 true x) w K = K (.pointer (some ⟨w.heap.size, 0, none⟩)) (w.alloc (.cells #[.int .i64 0, .int .i64 0] 83)) := effv_alloc (z := (.agg #[.int .i64 0, .int .i64 0])) (by kernel_rfl)
@[simp] theorem al_86 {x : Value} : effv Tryz.prog (Instr.alloc 86 true x) w K = K (.pointer (some ⟨w.heap.size, 0, none⟩)) (w.alloc (.cells #[.int .i64 0, .int .i64 0, .int .i64 0, .int .i64 0, .slice none 0 0, .slice none 0 0, .slice none 0 0] 86)) := effv_alloc (z := (.agg #[.int .i64 0, .int .i64 0, .int .i64 0, .int .i64 0, .slice none 0 0, .slice none 0 0, .slice none 0 0])) (by kernel_rfl)
@[simp] theorem al_92 {x : Value} : effv Tryz.prog (Instr.alloc 92 true x) w K = K (.pointer (some ⟨w.heap.size, 0, none⟩)) (w.alloc (.cells #[.int .i64 0, .int .i64 0] 92)) := effv_alloc (z := (.agg #[.int .i64 0, .int .i64 0])) (by kernel_rfl)
@[simp] theorem al_116 {x : Value} : effv Tryz.prog (Instr.alloc 116 true x) w K = K (.pointer (some ⟨w.heap.size, 0, none⟩)) (w.alloc (.cells #[.string { data := #[] }, .int .i64 0, .bool false, .bool false, .bool false] 116)) := effv_alloc (z := (.agg #[.string { data := #[] }, .int .i64 0, .bool false, .bool false, .bool false])) (by kernel_rfl)
@[simp] theorem al_126 {x : Value} : effv Tryz.prog (Instr.alloc 126 true x) w K = K (.pointer (some ⟨w.heap.size, 0, none⟩)) (w.alloc (.cells #[.int .i64 0, .int .i64 0, .int .i64 0, .int .i64 0, .bool false, .slice none 0 0, .slice none 0 0, .slice none 0 0] 126)) := effv_alloc (z := (.agg #[.int .i64 0, .int .i64 0, .int .i64 0, .int .i64 0, .bool false, .slice none 0 0, .slice none 0 0, .slice none 0 0])) (by kernel_rfl)
@[simp] theorem bd_23_0_1_2_3_4_5 {x0 : Int} {x1 : Int} {x2 : Int} {x3 : Int} {x4 : Int} {x5 : Int} : pureRun Tryz.prog (Instr.build 23 #[(0, (.int .i64 x0)), (1, (.int .i64 x1)), (2, (.int .i64 x2)), (3, (.int .i64 x3)), (4, (.int .i64 x4)), (5, (.int .i64 x5))]) = some (.agg #[(.int .i64 x0), (.int .i64 x1), (.int .i64 x2), (.int .i64 x3), (.int .i64 x4), (.int .i64 x5)]) := ap fun w => run_build w 23 _ _ (by kernel_rfl)
@[simp] theorem bd_23_0_1_2_3_5 {x0 : Int} {x1 : Int} {x2 : Int} {x3 : Int} {x5 : Int} : pureRun Tryz.prog (Instr.build 23 #[(0, (.int .i64 x0)), (1, (.int .i64 x1)), (2, (.int .i64 x2)), (3, (.int .i64 x3)), (5, (.int .i64 x5))]) = some (.agg #[(.int .i64 x0), (.int .i64 x1), (.int .i64 x2), (.int .i64 x3), (.int .i64 0), (.int .i64 x5)]) := ap fun w => run_build w 23 _ _ (by kernel_rfl)
@[simp] theorem bd_36_0 {x0 : Int} : pureRun Tryz.prog (Instr.build 36 #[(0, (.int .i64 x0))]) = some (.agg #[(.int .i64 x0), (.int .i64 0), (.int .i64 0), (.int .i64 0), (.int .u64 0), (.int .u64 0)]) := ap fun w => run_build w 36 _ _ (by kernel_rfl)
@[simp] theorem bd_38_  : pureRun Tryz.prog (Instr.build 38 #[]) = some (.agg #[(.int .i64 0), (.int .i64 0), (.int .i64 0), (.int .i64 0), (.int .i64 0)]) := ap fun w => run_build w 38 _ _ (by kernel_rfl)
@[simp] theorem bd_38_0_1 {x0 : Int} {x1 : Int} : pureRun Tryz.prog (Instr.build 38 #[(0, (.int .i64 x0)), (1, (.int .i64 x1))]) = some (.agg #[(.int .i64 x0), (.int .i64 x1), (.int .i64 0), (.int .i64 0), (.int .i64 0)]) := ap fun w => run_build w 38 _ _ (by kernel_rfl)
@[simp] theorem bd_38_0_1_2_4 {x0 : Int} {x1 : Int} {x2 : Int} {x4 : Int} : pureRun Tryz.prog (Instr.build 38 #[(0, (.int .i64 x0)), (1, (.int .i64 x1)), (2, (.int .i64 x2)), (4, (.int .i64 x4))]) = some (.agg #[(.int .i64 x0), (.int .i64 x1), (.int .i64 x2), (.int .i64 0), (.int .i64 x4)]) := ap fun w => run_build w 38 _ _ (by kernel_rfl)
@[simp] theorem bd_40_  : pureRun Tryz.prog (Instr.build 40 #[]) = some (.agg #[(.int .i64 0), (.int .i64 0), (.int .i64 0), (.int .i64 0), (.int .i64 0), (.int .i64 0), (.int .i64 0), (.int .u64 0)]) := ap fun w => run_build w 40 _ _ (by kernel_rfl)
@[simp] theorem bd_40_0 {x0 : Int} : pureRun Tryz.prog (Instr.build 40 #[(0, (.int .i64 x0))]) = some (.agg #[(.int .i64 x0), (.int .i64 0), (.int .i64 0), (.int .i64 0), (.int .i64 0), (.int .i64 0), (.int .i64 0), (.int .u64 0)]) := ap fun w => run_build w 40 _ _ (by kernel_rfl)
@[simp] theorem bd_40_1 {x1_0 x1_1 x1_2 x1_3 x1_4 : Value} : pureRun Tryz.prog (Instr.build 40 #[(1, (.agg #[x1_0, x1_1, x1_2, x1_3, x1_4]))]) = some (.agg #[(.int .i64 0), x1_0, x1_1, x1_2, x1_3, x1_4, (.int .i64 0), (.int .u64 0)]) := ap fun w => run_build w 40 _ _ (by kernel_rfl)
@[simp] theorem bd_40_2 {x2 : Int} : pureRun Tryz.prog (Instr.build 40 #[(2, (.int .i64 x2))]) = some (.agg #[(.int .i64 0), (.int .i64 0), (.int .i64 0), (.int .i64 0), (.int .i64 0), (.int .i64 0), (.int .i64 x2), (.int .u64 0)]) := ap fun w => run_build w 40 _ _ (by kernel_rfl)
@[simp] theorem bd_40_3 {x3 : Int} : pureRun Tryz.prog (Instr.build 40 #[(3, (.int .u64 x3))]) = some (.agg #[(.int .i64 0), (.int .i64 0), (.int .i64 0), (.int .i64 0), (.int .i64 0), (.int .i64 0), (.int .i64 0), (.int .u64 x3)]) := ap fun w => run_build w 40 _ _ (by kernel_rfl)
@[simp] theorem bd_42_2_4_5_6 {x2_0 x2_1 x2_2 x2_3 x2_4 x2_5 : Value} {x4 : Int} {x5 : Int} {x6 : Int} : pureRun Tryz.prog (Instr.build 42 #[(2, (.agg #[x2_0, x2_1, x2_2, x2_3, x2_4, x2_5])), (4, (.int .i64 x4)), (5, (.int .i64 x5)), (6, (.int .i64 x6))]) = some (.agg #[(.int .i64 0), (.int .i64 0), x2_0, x2_1, x2_2, x2_3, x2_4, x2_5, (.int .i64 0), (.int .i64 x4), (.int .i64 x5), (.int .i64 x6), (.int .i64 0), (.int .i64 0), (.int .i64 0), (.int .i64 0), (.int .i64 0), (.int .i64 0), (.int .i64 0), (.int .u64 0)]) := ap fun w => run_build w 42 _ _ (by kernel_rfl)
@[simp] theorem bd_46_0_4 {x0 : Option Addr} {y0 z0 : Nat} {x4 : Int} : pureRun Tryz.prog (Instr.build 46 #[(0, (.slice x0 y0 z0)), (4, (.int .i64 x4))]) = some (.agg #[(.slice x0 y0 z0), (.slice none 0 0), (.slice none 0 0), (.int .i64 0), (.int .i64 x4), (.bool false)]) := ap fun w => run_build w 46 _ _ (by kernel_rfl)
@[simp] theorem bd_61_0_2_4 {x0_0 x0_1 x0_2 x0_3 x0_4 x0_5 : Value} {x2 : Option Addr} {y2 z2 : Nat} {x4 : Option Addr} {y4 z4 : Nat} : pureRun Tryz.prog (Instr.build 61 #[(0, (.agg #[x0_0, x0_1, x0_2, x0_3, x0_4, x0_5])), (2, (.slice x2 y2 z2)), (4, (.slice x4 y4 z4))]) = some (.agg #[x0_0, x0_1, x0_2, x0_3, x0_4, x0_5, (.bool false), (.slice x2 y2 z2), (.slice none 0 0), (.slice x4 y4 z4)]) := ap fun w => run_build w 61 _ _ (by kernel_rfl)
@[simp] theorem bd_67_0_1_2_3 {x0 : Int} {x1 : Int} {x2 : Int} {x3 : Int} : pureRun Tryz.prog (Instr.build 67 #[(0, (.int .i64 x0)), (1, (.int .i64 x1)), (2, (.int .i64 x2)), (3, (.int .i64 x3))]) = some (.agg #[(.int .i64 x0), (.int .i64 x1), (.int .i64 x2), (.int .i64 x3)]) := ap fun w => run_build w 67 _ _ (by kernel_rfl)
@[simp] theorem bd_71_0_1 {x0 : Option Addr} {y0 z0 : Nat} {x1 : Int} : pureRun Tryz.prog (Instr.build 71 #[(0, (.slice x0 y0 z0)), (1, (.int .i64 x1))]) = some (.agg #[(.slice x0 y0 z0), (.int .i64 x1), (.bool false)]) := ap fun w => run_build w 71 _ _ (by kernel_rfl)
@[simp] theorem bd_83_0_1 {x0 : Int} {x1 : Int} : pureRun Tryz.prog (Instr.build 83 #[(0, (.int .i64 x0)), (1, (.int .i64 x1))]) = some (.agg #[(.int .i64 x0), (.int .i64 x1)]) := ap fun w => run_build w 83 _ _ (by kernel_rfl)
@[simp] theorem bd_86_0_1 {x0_0 x0_1 : Value} {x1 : Int} : pureRun Tryz.prog (Instr.build 86 #[(0, (.agg #[x0_0, x0_1])), (1, (.int .i64 x1))]) = some (.agg #[x0_0, x0_1, (.int .i64 x1), (.int .i64 0), (.slice none 0 0), (.slice none 0 0), (.slice none 0 0)]) := ap fun w => run_build w 86 _ _ (by kernel_rfl)
@[simp] theorem bd_92_0_1 {x0 : Int} {x1 : Int} : pureRun Tryz.prog (Instr.build 92 #[(0, (.int .i64 x0)), (1, (.int .i64 x1))]) = some (.agg #[(.int .i64 x0), (.int .i64 x1)]) := ap fun w => run_build w 92 _ _ (by kernel_rfl)
@[simp] theorem bd_112_0_1_2_3_5 {x0_0 x0_1 x0_2 x0_3 x0_4 x0_5 : Value} {x1 : Bool} {x2 : Option Addr} {y2 z2 : Nat} {x3 : Option Addr} {y3 z3 : Nat} {x5 : Option Addr} {y5 z5 : Nat} : pureRun Tryz.prog (Instr.build 112 #[(0, (.agg #[x0_0, x0_1, x0_2, x0_3, x0_4, x0_5])), (1, (.bool x1)), (2, (.slice x2 y2 z2)), (3, (.slice x3 y3 z3)), (5, (.slice x5 y5 z5))]) = some (.agg #[x0_0, x0_1, x0_2, x0_3, x0_4, x0_5, (.bool x1), (.slice x2 y2 z2), (.slice x3 y3 z3), (.slice none 0 0), (.slice x5 y5 z5), (.slice none 0 0)]) := ap fun w => run_build w 112 _ _ (by kernel_rfl)
@[simp] theorem bd_112_0_1_2_3_5_6 {x0_0 x0_1 x0_2 x0_3 x0_4 x0_5 : Value} {x1 : Bool} {x2 : Option Addr} {y2 z2 : Nat} {x3 : Option Addr} {y3 z3 : Nat} {x5 : Option Addr} {y5 z5 : Nat} {x6 : Option Addr} {y6 z6 : Nat} : pureRun Tryz.prog (Instr.build 112 #[(0, (.agg #[x0_0, x0_1, x0_2, x0_3, x0_4, x0_5])), (1, (.bool x1)), (2, (.slice x2 y2 z2)), (3, (.slice x3 y3 z3)), (5, (.slice x5 y5 z5)), (6, (.slice x6 y6 z6))]) = some (.agg #[x0_0, x0_1, x0_2, x0_3, x0_4, x0_5, (.bool x1), (.slice x2 y2 z2), (.slice x3 y3 z3), (.slice none 0 0), (.slice x5 y5 z5), (.slice x6 y6 z6)]) := ap fun w => run_build w 112 _ _ (by kernel_rfl)
@[simp] theorem bd_116_  : pureRun Tryz.prog (Instr.build 116 #[]) = some (.agg #[(.string { data := #[] }), (.int .i64 0), (.bool false), (.bool false), (.bool false)]) := ap fun w => run_build w 116 _ _ (by kernel_rfl)
@[simp] theorem bd_116_0 {x0 : ByteArray} : pureRun Tryz.prog (Instr.build 116 #[(0, (.string x0))]) = some (.agg #[(.string x0), (.int .i64 0), (.bool false), (.bool false), (.bool false)]) := ap fun w => run_build w 116 _ _ (by kernel_rfl)
@[simp] theorem bd_116_0_1 {x0 : ByteArray} {x1 : Int} : pureRun Tryz.prog (Instr.build 116 #[(0, (.string x0)), (1, (.int .i64 x1))]) = some (.agg #[(.string x0), (.int .i64 x1), (.bool false), (.bool false), (.bool false)]) := ap fun w => run_build w 116 _ _ (by kernel_rfl)
@[simp] theorem bd_116_0_1_2 {x0 : ByteArray} {x1 : Int} {x2 : Bool} : pureRun Tryz.prog (Instr.build 116 #[(0, (.string x0)), (1, (.int .i64 x1)), (2, (.bool x2))]) = some (.agg #[(.string x0), (.int .i64 x1), (.bool x2), (.bool false), (.bool false)]) := ap fun w => run_build w 116 _ _ (by kernel_rfl)
@[simp] theorem bd_116_0_1_2_3 {x0 : ByteArray} {x1 : Int} {x2 : Bool} {x3 : Bool} : pureRun Tryz.prog (Instr.build 116 #[(0, (.string x0)), (1, (.int .i64 x1)), (2, (.bool x2)), (3, (.bool x3))]) = some (.agg #[(.string x0), (.int .i64 x1), (.bool x2), (.bool x3), (.bool false)]) := ap fun w => run_build w 116 _ _ (by kernel_rfl)
@[simp] theorem bd_116_0_1_2_3_4 {x0 : ByteArray} {x1 : Int} {x2 : Bool} {x3 : Bool} {x4 : Bool} : pureRun Tryz.prog (Instr.build 116 #[(0, (.string x0)), (1, (.int .i64 x1)), (2, (.bool x2)), (3, (.bool x3)), (4, (.bool x4))]) = some (.agg #[(.string x0), (.int .i64 x1), (.bool x2), (.bool x3), (.bool x4)]) := ap fun w => run_build w 116 _ _ (by kernel_rfl)
@[simp] theorem bd_116_0_2 {x0 : ByteArray} {x2 : Bool} : pureRun Tryz.prog (Instr.build 116 #[(0, (.string x0)), (2, (.bool x2))]) = some (.agg #[(.string x0), (.int .i64 0), (.bool x2), (.bool false), (.bool false)]) := ap fun w => run_build w 116 _ _ (by kernel_rfl)
@[simp] theorem bd_126_0_1_2_4 {x0 : Int} {x1 : Int} {x2 : Int} {x4 : Bool} : pureRun Tryz.prog (Instr.build 126 #[(0, (.int .i64 x0)), (1, (.int .i64 x1)), (2, (.int .i64 x2)), (4, (.bool x4))]) = some (.agg #[(.int .i64 x0), (.int .i64 x1), (.int .i64 x2), (.int .i64 0), (.bool x4), (.slice none 0 0), (.slice none 0 0), (.slice none 0 0)]) := ap fun w => run_build w 126 _ _ (by kernel_rfl)
@[simp] theorem bd_137_0_1 {x0 : Int} {x1 : Int} : pureRun Tryz.prog (Instr.build 137 #[(0, (.int .i64 x0)), (1, (.int .i64 x1))]) = some (.agg #[(.int .i64 x0), (.int .i64 x1)]) := ap fun w => run_build w 137 _ _ (by kernel_rfl)
theorem inf_42 : ∃ i, Tryz.prog.info? 42 = some i ∧ i.zero = some (.agg #[.int .i64 0, .int .i64 0, .int .i64 0, .int .i64 0, .int .i64 0, .int .i64 0, .int .u64 0, .int .u64 0, .int .i64 0, .int .i64 0, .int .i64 0, .int .i64 0, .int .i64 0, .int .i64 0, .int .i64 0, .int .i64 0, .int .i64 0, .int .i64 0, .int .i64 0, .int .u64 0]) ∧ i.size = 20 ∧ i.bytes = 160 := ⟨Tryz.t42, by kernel_rfl, rfl, rfl, rfl⟩
theorem inf_3 : ∃ i, Tryz.prog.info? 3 = some i ∧ i.zero = some (.int .i64 0) ∧ i.size = 1 ∧ i.bytes = 8 := ⟨Tryz.t3, by kernel_rfl, rfl, rfl, rfl⟩
theorem inf_38 : ∃ i, Tryz.prog.info? 38 = some i ∧ i.zero = some (.agg #[.int .i64 0, .int .i64 0, .int .i64 0, .int .i64 0, .int .i64 0]) ∧ i.size = 5 ∧ i.bytes = 40 := ⟨Tryz.t38, by kernel_rfl, rfl, rfl, rfl⟩
theorem inf_92 : ∃ i, Tryz.prog.info? 92 = some i ∧ i.zero = some (.agg #[.int .i64 0, .int .i64 0]) ∧ i.size = 2 ∧ i.bytes = 16 := ⟨Tryz.t92, by kernel_rfl, rfl, rfl, rfl⟩
theorem inf_86 : ∃ i, Tryz.prog.info? 86 = some i ∧ i.zero = some (.agg #[.int .i64 0, .int .i64 0, .int .i64 0, .int .i64 0, .slice none 0 0, .slice none 0 0, .slice none 0 0]) ∧ i.size = 7 ∧ i.bytes = 104 := ⟨Tryz.t86, by kernel_rfl, rfl, rfl, rfl⟩
theorem inf_96 : ∃ i, Tryz.prog.info? 96 = some i ∧ i.zero = some (.agg #[.int .i64 0, .slice none 0 0]) ∧ i.size = 2 ∧ i.bytes = 32 := ⟨Tryz.t96, by kernel_rfl, rfl, rfl, rfl⟩
theorem inf_102 : ∃ i, Tryz.prog.info? 102 = some i ∧ i.zero = some (.slice none 0 0) ∧ i.size = 1 ∧ i.bytes = 24 := ⟨Tryz.t102, by kernel_rfl, rfl, rfl, rfl⟩
theorem inf_83 : ∃ i, Tryz.prog.info? 83 = some i ∧ i.zero = some (.agg #[.int .i64 0, .int .i64 0]) ∧ i.size = 2 ∧ i.bytes = 16 := ⟨Tryz.t83, by kernel_rfl, rfl, rfl, rfl⟩
theorem inf_34 : ∃ i, Tryz.prog.info? 34 = some i ∧ i.zero = some (.int .u64 0) ∧ i.size = 1 ∧ i.bytes = 8 := ⟨Tryz.t34, by kernel_rfl, rfl, rfl, rfl⟩
theorem inf_126 : ∃ i, Tryz.prog.info? 126 = some i ∧ i.zero = some (.agg #[.int .i64 0, .int .i64 0, .int .i64 0, .int .i64 0, .bool false, .slice none 0 0, .slice none 0 0, .slice none 0 0]) ∧ i.size = 8 ∧ i.bytes = 112 := ⟨Tryz.t126, by kernel_rfl, rfl, rfl, rfl⟩
theorem inf_127 : ∃ i, Tryz.prog.info? 127 = some i ∧ i.zero = some (.slice none 0 0) ∧ i.size = 1 ∧ i.bytes = 24 := ⟨Tryz.t127, by kernel_rfl, rfl, rfl, rfl⟩
theorem inf_137 : ∃ i, Tryz.prog.info? 137 = some i ∧ i.zero = some (.agg #[.int .i64 0, .int .i64 0]) ∧ i.size = 2 ∧ i.bytes = 16 := ⟨Tryz.t137, by kernel_rfl, rfl, rfl, rfl⟩
@[simp] theorem bs_24_1 {x0_0 x0_1 x0_2 x0_3 x0_4 x0_5 x0_6 x0_7 x0_8 x0_9 x0_10 x0_11 x0_12 x0_13 x0_14 x0_15 x0_16 x0_17 x0_18 x0_19 : Value} : effv Tryz.prog (Instr.buildSlice 24 1 #[(0, (.agg #[x0_0, x0_1, x0_2, x0_3, x0_4, x0_5, x0_6, x0_7, x0_8, x0_9, x0_10, x0_11, x0_12, x0_13, x0_14, x0_15, x0_16, x0_17, x0_18, x0_19]))]) w K = K (.slice (some ⟨w.heap.size, 0, none⟩) 1 1) (w.alloc (.cells #[x0_0, x0_1, x0_2, x0_3, x0_4, x0_5, x0_6, x0_7, x0_8, x0_9, x0_10, x0_11, x0_12, x0_13, x0_14, x0_15, x0_16, x0_17, x0_18, x0_19] 42)) := by
  obtain ⟨i, hi, hz, hs, hb⟩ := inf_42
  exact bf (z := 20) Tryz.underlying24 hi hz hs (by decide) (by decide) (by kernel_rfl)
theorem ps_26 {x0 : Int} {x : Value} {base n : Nat} {xs : List Value} (h1 : ∀ u ∈ ([(.int .i64 x0)] : List Value), u.oneCell' = true) (hown : w.ownsRow base 3 1 x n xs) (hn : n + 1 ≤ 1048577) (hbase : base ≤ w.heap.size) (hk : ∀ x' w', w'.ownsRow base 3 1 x' (n + 1) (xs ++ [(.int .i64 x0)]) → w.grownBy w' x.ownBlock → NewB w x x' → K x' w') :
    effv Tryz.prog (Instr.buildSlice 26 1 #[(0, (.int .i64 x0))]) w fun y w1 => effv Tryz.prog (Builtin.append_ #[26, 26] 26 #[x, y]) w1 K := by
  obtain ⟨i, hi, hz, hs, hb⟩ := inf_3
  exact eff_pushN (cs := [(.int .i64 x0)]) Tryz.underlying26 hi hz hs rfl (by decide) (by decide) (by kernel_rfl) rfl h1 hown (by unfold maxLen; omega) (by rw [hb]; omega) hbase hk
@[simp] theorem bs_26_1 {x0 : Int} : effv Tryz.prog (Instr.buildSlice 26 1 #[(0, (.int .i64 x0))]) w K = K (.slice (some ⟨w.heap.size, 0, none⟩) 1 1) (w.alloc (.cells #[(.int .i64 x0)] 3)) := by
  obtain ⟨i, hi, hz, hs, hb⟩ := inf_3
  exact bf (z := 1) Tryz.underlying26 hi hz hs (by decide) (by decide) (by kernel_rfl)
@[simp] theorem bs_26_4 {x0 : Int} {x1 : Int} {x2 : Int} {x3 : Int} : effv Tryz.prog (Instr.buildSlice 26 4 #[(0, (.int .i64 x0)), (1, (.int .i64 x1)), (2, (.int .i64 x2)), (3, (.int .i64 x3))]) w K = K (.slice (some ⟨w.heap.size, 0, none⟩) 4 4) (w.alloc (.cells #[(.int .i64 x0), (.int .i64 x1), (.int .i64 x2), (.int .i64 x3)] 3)) := by
  obtain ⟨i, hi, hz, hs, hb⟩ := inf_3
  exact bf (z := 1) Tryz.underlying26 hi hz hs (by decide) (by decide) (by kernel_rfl)
theorem ps_44 {x0_0 x0_1 x0_2 x0_3 x0_4 : Value} {x : Value} {base n : Nat} {xs : List Value} (h1 : ∀ u ∈ ([x0_0, x0_1, x0_2, x0_3, x0_4] : List Value), u.oneCell' = true) (hown : w.ownsRow base 38 5 x n xs) (hn : n + 1 ≤ 1048577) (hbase : base ≤ w.heap.size) (hk : ∀ x' w', w'.ownsRow base 38 5 x' (n + 1) (xs ++ [x0_0, x0_1, x0_2, x0_3, x0_4]) → w.grownBy w' x.ownBlock → NewB w x x' → K x' w') :
    effv Tryz.prog (Instr.buildSlice 44 1 #[(0, (.agg #[x0_0, x0_1, x0_2, x0_3, x0_4]))]) w fun y w1 => effv Tryz.prog (Builtin.append_ #[44, 44] 44 #[x, y]) w1 K := by
  obtain ⟨i, hi, hz, hs, hb⟩ := inf_38
  exact eff_pushN (cs := [x0_0, x0_1, x0_2, x0_3, x0_4]) Tryz.underlying44 hi hz hs rfl (by decide) (by decide) (by kernel_rfl) rfl h1 hown (by unfold maxLen; omega) (by rw [hb]; omega) hbase hk
@[simp] theorem bs_44_1 {x0_0 x0_1 x0_2 x0_3 x0_4 : Value} : effv Tryz.prog (Instr.buildSlice 44 1 #[(0, (.agg #[x0_0, x0_1, x0_2, x0_3, x0_4]))]) w K = K (.slice (some ⟨w.heap.size, 0, none⟩) 1 1) (w.alloc (.cells #[x0_0, x0_1, x0_2, x0_3, x0_4] 38)) := by
  obtain ⟨i, hi, hz, hs, hb⟩ := inf_38
  exact bf (z := 5) Tryz.underlying44 hi hz hs (by decide) (by decide) (by kernel_rfl)
theorem ps_58 {x0_0 x0_1 x0_2 x0_3 x0_4 x0_5 x0_6 : Value} {x : Value} {base n : Nat} {xs : List Value} (h1 : ∀ u ∈ ([x0_0, x0_1, x0_2, x0_3, x0_4, x0_5, x0_6] : List Value), u.oneCell' = true) (hown : w.ownsRow base 86 7 x n xs) (hn : n + 1 ≤ 1048577) (hbase : base ≤ w.heap.size) (hk : ∀ x' w', w'.ownsRow base 86 7 x' (n + 1) (xs ++ [x0_0, x0_1, x0_2, x0_3, x0_4, x0_5, x0_6]) → w.grownBy w' x.ownBlock → NewB w x x' → K x' w') :
    effv Tryz.prog (Instr.buildSlice 58 1 #[(0, (.agg #[x0_0, x0_1, x0_2, x0_3, x0_4, x0_5, x0_6]))]) w fun y w1 => effv Tryz.prog (Builtin.append_ #[58, 58] 58 #[x, y]) w1 K := by
  obtain ⟨i, hi, hz, hs, hb⟩ := inf_86
  exact eff_pushN (cs := [x0_0, x0_1, x0_2, x0_3, x0_4, x0_5, x0_6]) Tryz.underlying58 hi hz hs rfl (by decide) (by decide) (by kernel_rfl) rfl h1 hown (by unfold maxLen; omega) (by rw [hb]; omega) hbase hk
@[simp] theorem bs_58_1 {x0_0 x0_1 x0_2 x0_3 x0_4 x0_5 x0_6 : Value} : effv Tryz.prog (Instr.buildSlice 58 1 #[(0, (.agg #[x0_0, x0_1, x0_2, x0_3, x0_4, x0_5, x0_6]))]) w K = K (.slice (some ⟨w.heap.size, 0, none⟩) 1 1) (w.alloc (.cells #[x0_0, x0_1, x0_2, x0_3, x0_4, x0_5, x0_6] 86)) := by
  obtain ⟨i, hi, hz, hs, hb⟩ := inf_86
  exact bf (z := 7) Tryz.underlying58 hi hz hs (by decide) (by decide) (by kernel_rfl)
theorem ps_84 {x0 : Option Addr} {y0 z0 : Nat} {x : Value} {base n : Nat} {xs : List Value} (h1 : ∀ u ∈ ([(.slice x0 y0 z0)] : List Value), u.oneCell' = true) (hown : w.ownsRow base 102 1 x n xs) (hn : n + 1 ≤ 1048577) (hbase : base ≤ w.heap.size) (hk : ∀ x' w', w'.ownsRow base 102 1 x' (n + 1) (xs ++ [(.slice x0 y0 z0)]) → w.grownBy w' x.ownBlock → NewB w x x' → K x' w') :
    effv Tryz.prog (Instr.buildSlice 84 1 #[(0, (.slice x0 y0 z0))]) w fun y w1 => effv Tryz.prog (Builtin.append_ #[84, 84] 84 #[x, y]) w1 K := by
  obtain ⟨i, hi, hz, hs, hb⟩ := inf_102
  exact eff_pushN (cs := [(.slice x0 y0 z0)]) Tryz.underlying84 hi hz hs rfl (by decide) (by decide) (by kernel_rfl) rfl h1 hown (by unfold maxLen; omega) (by rw [hb]; omega) hbase hk
@[simp] theorem bs_84_1 {x0 : Option Addr} {y0 z0 : Nat} : effv Tryz.prog (Instr.buildSlice 84 1 #[(0, (.slice x0 y0 z0))]) w K = K (.slice (some ⟨w.heap.size, 0, none⟩) 1 1) (w.alloc (.cells #[(.slice x0 y0 z0)] 102)) := by
  obtain ⟨i, hi, hz, hs, hb⟩ := inf_102
  exact bf (z := 1) Tryz.underlying84 hi hz hs (by decide) (by decide) (by kernel_rfl)
theorem ps_94 {x0_0 x0_1 : Value} {x : Value} {base n : Nat} {xs : List Value} (h1 : ∀ u ∈ ([x0_0, x0_1] : List Value), u.oneCell' = true) (hown : w.ownsRow base 83 2 x n xs) (hn : n + 1 ≤ 1048577) (hbase : base ≤ w.heap.size) (hk : ∀ x' w', w'.ownsRow base 83 2 x' (n + 1) (xs ++ [x0_0, x0_1]) → w.grownBy w' x.ownBlock → NewB w x x' → K x' w') :
    effv Tryz.prog (Instr.buildSlice 94 1 #[(0, (.agg #[x0_0, x0_1]))]) w fun y w1 => effv Tryz.prog (Builtin.append_ #[94, 94] 94 #[x, y]) w1 K := by
  obtain ⟨i, hi, hz, hs, hb⟩ := inf_83
  exact eff_pushN (cs := [x0_0, x0_1]) Tryz.underlying94 hi hz hs rfl (by decide) (by decide) (by kernel_rfl) rfl h1 hown (by unfold maxLen; omega) (by rw [hb]; omega) hbase hk
@[simp] theorem bs_94_1 {x0_0 x0_1 : Value} : effv Tryz.prog (Instr.buildSlice 94 1 #[(0, (.agg #[x0_0, x0_1]))]) w K = K (.slice (some ⟨w.heap.size, 0, none⟩) 1 1) (w.alloc (.cells #[x0_0, x0_1] 83)) := by
  obtain ⟨i, hi, hz, hs, hb⟩ := inf_83
  exact bf (z := 2) Tryz.underlying94 hi hz hs (by decide) (by decide) (by kernel_rfl)
theorem ps_109 {x0_0 x0_1 x0_2 x0_3 x0_4 x0_5 x0_6 x0_7 : Value} {x : Value} {base n : Nat} {xs : List Value} (h1 : ∀ u ∈ ([x0_0, x0_1, x0_2, x0_3, x0_4, x0_5, x0_6, x0_7] : List Value), u.oneCell' = true) (hown : w.ownsRow base 126 8 x n xs) (hn : n + 1 ≤ 1048577) (hbase : base ≤ w.heap.size) (hk : ∀ x' w', w'.ownsRow base 126 8 x' (n + 1) (xs ++ [x0_0, x0_1, x0_2, x0_3, x0_4, x0_5, x0_6, x0_7]) → w.grownBy w' x.ownBlock → NewB w x x' → K x' w') :
    effv Tryz.prog (Instr.buildSlice 109 1 #[(0, (.agg #[x0_0, x0_1, x0_2, x0_3, x0_4, x0_5, x0_6, x0_7]))]) w fun y w1 => effv Tryz.prog (Builtin.append_ #[109, 109] 109 #[x, y]) w1 K := by
  obtain ⟨i, hi, hz, hs, hb⟩ := inf_126
  exact eff_pushN (cs := [x0_0, x0_1, x0_2, x0_3, x0_4, x0_5, x0_6, x0_7]) Tryz.underlying109 hi hz hs rfl (by decide) (by decide) (by kernel_rfl) rfl h1 hown (by unfold maxLen; omega) (by rw [hb]; omega) hbase hk
@[simp] theorem bs_109_1 {x0_0 x0_1 x0_2 x0_3 x0_4 x0_5 x0_6 x0_7 : Value} : effv Tryz.prog (Instr.buildSlice 109 1 #[(0, (.agg #[x0_0, x0_1, x0_2, x0_3, x0_4, x0_5, x0_6, x0_7]))]) w K = K (.slice (some ⟨w.heap.size, 0, none⟩) 1 1) (w.alloc (.cells #[x0_0, x0_1, x0_2, x0_3, x0_4, x0_5, x0_6, x0_7] 126)) := by
  obtain ⟨i, hi, hz, hs, hb⟩ := inf_126
  exact bf (z := 8) Tryz.underlying109 hi hz hs (by decide) (by decide) (by kernel_rfl)
theorem ps_110 {x0 : Option Addr} {y0 z0 : Nat} {x : Value} {base n : Nat} {xs : List Value} (h1 : ∀ u ∈ ([(.slice x0 y0 z0)] : List Value), u.oneCell' = true) (hown : w.ownsRow base 127 1 x n xs) (hn : n + 1 ≤ 1048577) (hbase : base ≤ w.heap.size) (hk : ∀ x' w', w'.ownsRow base 127 1 x' (n + 1) (xs ++ [(.slice x0 y0 z0)]) → w.grownBy w' x.ownBlock → NewB w x x' → K x' w') :
    effv Tryz.prog (Instr.buildSlice 110 1 #[(0, (.slice x0 y0 z0))]) w fun y w1 => effv Tryz.prog (Builtin.append_ #[110, 110] 110 #[x, y]) w1 K := by
  obtain ⟨i, hi, hz, hs, hb⟩ := inf_127
  exact eff_pushN (cs := [(.slice x0 y0 z0)]) Tryz.underlying110 hi hz hs rfl (by decide) (by decide) (by kernel_rfl) rfl h1 hown (by unfold maxLen; omega) (by rw [hb]; omega) hbase hk
@[simp] theorem bs_110_1 {x0 : Option Addr} {y0 z0 : Nat} : effv Tryz.prog (Instr.buildSlice 110 1 #[(0, (.slice x0 y0 z0))]) w K = K (.slice (some ⟨w.heap.size, 0, none⟩) 1 1) (w.alloc (.cells #[(.slice x0 y0 z0)] 127)) := by
  obtain ⟨i, hi, hz, hs, hb⟩ := inf_127
  exact bf (z := 1) Tryz.underlying110 hi hz hs (by decide) (by decide) (by kernel_rfl)
theorem ps_127 {x0_0 x0_1 : Value} {x : Value} {base n : Nat} {xs : List Value} (h1 : ∀ u ∈ ([x0_0, x0_1] : List Value), u.oneCell' = true) (hown : w.ownsRow base 137 2 x n xs) (hn : n + 1 ≤ 1048577) (hbase : base ≤ w.heap.size) (hk : ∀ x' w', w'.ownsRow base 137 2 x' (n + 1) (xs ++ [x0_0, x0_1]) → w.grownBy w' x.ownBlock → NewB w x x' → K x' w') :
    effv Tryz.prog (Instr.buildSlice 127 1 #[(0, (.agg #[x0_0, x0_1]))]) w fun y w1 => effv Tryz.prog (Builtin.append_ #[127, 127] 127 #[x, y]) w1 K := by
  obtain ⟨i, hi, hz, hs, hb⟩ := inf_137
  exact eff_pushN (cs := [x0_0, x0_1]) Tryz.underlying127 hi hz hs rfl (by decide) (by decide) (by kernel_rfl) rfl h1 hown (by unfold maxLen; omega) (by rw [hb]; omega) hbase hk
@[simp] theorem bs_127_1 {x0_0 x0_1 : Value} : effv Tryz.prog (Instr.buildSlice 127 1 #[(0, (.agg #[x0_0, x0_1]))]) w K = K (.slice (some ⟨w.heap.size, 0, none⟩) 1 1) (w.alloc (.cells #[x0_0, x0_1] 137)) := by
  obtain ⟨i, hi, hz, hs, hb⟩ := inf_137
  exact bf (z := 2) Tryz.underlying127 hi hz hs (by decide) (by decide) (by kernel_rfl)
theorem inf_116 : ∃ i, Tryz.prog.info? 116 = some i ∧ i.zero = some (.agg #[.string { data := #[] }, .int .i64 0, .bool false, .bool false, .bool false]) ∧ i.size = 5 ∧ i.bytes = 32 := ⟨Tryz.t116, by kernel_rfl, rfl, rfl, rfl⟩
@[simp] theorem bs_131_13 {x0_0 x0_1 x0_2 x0_3 x0_4 : Value} {x1_0 x1_1 x1_2 x1_3 x1_4 : Value} {x2_0 x2_1 x2_2 x2_3 x2_4 : Value} {x3_0 x3_1 x3_2 x3_3 x3_4 : Value} {x4_0 x4_1 x4_2 x4_3 x4_4 : Value} {x5_0 x5_1 x5_2 x5_3 x5_4 : Value} {x6_0 x6_1 x6_2 x6_3 x6_4 : Value} {x7_0 x7_1 x7_2 x7_3 x7_4 : Value} {x8_0 x8_1 x8_2 x8_3 x8_4 : Value} {x9_0 x9_1 x9_2 x9_3 x9_4 : Value} {x10_0 x10_1 x10_2 x10_3 x10_4 : Value} {x11_0 x11_1 x11_2 x11_3 x11_4 : Value} {x12_0 x12_1 x12_2 x12_3 x12_4 : Value} : effv Tryz.prog (Instr.buildSlice 131 13 #[(0, (.agg #[x0_0, x0_1, x0_2, x0_3, x0_4])), (1, (.agg #[x1_0, x1_1, x1_2, x1_3, x1_4])), (2, (.agg #[x2_0, x2_1, x2_2, x2_3, x2_4])), (3, (.agg #[x3_0, x3_1, x3_2, x3_3, x3_4])), (4, (.agg #[x4_0, x4_1, x4_2, x4_3, x4_4])), (5, (.agg #[x5_0, x5_1, x5_2, x5_3, x5_4])), (6, (.agg #[x6_0, x6_1, x6_2, x6_3, x6_4])), (7, (.agg #[x7_0, x7_1, x7_2, x7_3, x7_4])), (8, (.agg #[x8_0, x8_1, x8_2, x8_3, x8_4])), (9, (.agg #[x9_0, x9_1, x9_2, x9_3, x9_4])), (10, (.agg #[x10_0, x10_1, x10_2, x10_3, x10_4])), (11, (.agg #[x11_0, x11_1, x11_2, x11_3, x11_4])), (12, (.agg #[x12_0, x12_1, x12_2, x12_3, x12_4]))]) w K = K (.slice (some ⟨w.heap.size, 0, none⟩) 13 13) (w.alloc (.cells #[x0_0, x0_1, x0_2, x0_3, x0_4, x1_0, x1_1, x1_2, x1_3, x1_4, x2_0, x2_1, x2_2, x2_3, x2_4, x3_0, x3_1, x3_2, x3_3, x3_4, x4_0, x4_1, x4_2, x4_3, x4_4, x5_0, x5_1, x5_2, x5_3, x5_4, x6_0, x6_1, x6_2, x6_3, x6_4, x7_0, x7_1, x7_2, x7_3, x7_4, x8_0, x8_1, x8_2, x8_3, x8_4, x9_0, x9_1, x9_2, x9_3, x9_4, x10_0, x10_1, x10_2, x10_3, x10_4, x11_0, x11_1, x11_2, x11_3, x11_4, x12_0, x12_1, x12_2, x12_3, x12_4] 116)) := by
  obtain ⟨i, hi, hz, hs, hb⟩ := inf_116
  exact bf (z := 5) Tryz.underlying131 hi hz hs (by decide) (by decide) (by kernel_rfl)
@[simp] theorem len_24 {A : Option Addr} {n c : Nat} : pureRun Tryz.prog (Builtin.len_ #[24] 3 #[.slice A n c]) = some (.int .i64 n) := pr_len Tryz.underlying24
@[simp] theorem len_26 {A : Option Addr} {n c : Nat} : pureRun Tryz.prog (Builtin.len_ #[26] 3 #[.slice A n c]) = some (.int .i64 n) := pr_len Tryz.underlying26
@[simp] theorem len_44 {A : Option Addr} {n c : Nat} : pureRun Tryz.prog (Builtin.len_ #[44] 3 #[.slice A n c]) = some (.int .i64 n) := pr_len Tryz.underlying44
@[simp] theorem len_57 {A : Option Addr} {n c : Nat} : pureRun Tryz.prog (Builtin.len_ #[57] 3 #[.slice A n c]) = some (.int .i64 n) := pr_len Tryz.underlying57
@[simp] theorem len_58 {A : Option Addr} {n c : Nat} : pureRun Tryz.prog (Builtin.len_ #[58] 3 #[.slice A n c]) = some (.int .i64 n) := pr_len Tryz.underlying58
@[simp] theorem len_59 {A : Option Addr} {n c : Nat} : pureRun Tryz.prog (Builtin.len_ #[59] 3 #[.slice A n c]) = some (.int .i64 n) := pr_len Tryz.underlying59
@[simp] theorem len_84 {A : Option Addr} {n c : Nat} : pureRun Tryz.prog (Builtin.len_ #[84] 3 #[.slice A n c]) = some (.int .i64 n) := pr_len Tryz.underlying84
@[simp] theorem len_94 {A : Option Addr} {n c : Nat} : pureRun Tryz.prog (Builtin.len_ #[94] 3 #[.slice A n c]) = some (.int .i64 n) := pr_len Tryz.underlying94
@[simp] theorem len_109 {A : Option Addr} {n c : Nat} : pureRun Tryz.prog (Builtin.len_ #[109] 3 #[.slice A n c]) = some (.int .i64 n) := pr_len Tryz.underlying109
@[simp] theorem len_110 {A : Option Addr} {n c : Nat} : pureRun Tryz.prog (Builtin.len_ #[110] 3 #[.slice A n c]) = some (.int .i64 n) := pr_len Tryz.underlying110
@[simp] theorem len_127 {A : Option Addr} {n c : Nat} : pureRun Tryz.prog (Builtin.len_ #[127] 3 #[.slice A n c]) = some (.int .i64 n) := pr_len Tryz.underlying127
@[simp] theorem len_131 {A : Option Addr} {n c : Nat} : pureRun Tryz.prog (Builtin.len_ #[131] 3 #[.slice A n c]) = some (.int .i64 n) := pr_len Tryz.underlying131
theorem ia_26 {b p n c : Nat} {j : IntKind} {i : Int} (h0 : 0 ≤ i) (h1 : i < n) : pureRun Tryz.prog (Instr.indexAt 26 (.slice (some ⟨b, p, none⟩) n c) (.int j i)) = some (.pointer (some ⟨b, p + i.toNat * 1, none⟩)) := by rw [← addr_add]; exact pr_index (z := 1) Tryz.underlying26 (by kernel_rfl) h0 h1
theorem ia_57 {b p n c : Nat} {j : IntKind} {i : Int} (h0 : 0 ≤ i) (h1 : i < n) : pureRun Tryz.prog (Instr.indexAt 57 (.slice (some ⟨b, p, none⟩) n c) (.int j i)) = some (.pointer (some ⟨b, p + i.toNat * 2, none⟩)) := by rw [← addr_add]; exact pr_index (z := 2) Tryz.underlying57 (by kernel_rfl) h0 h1
theorem ia_58 {b p n c : Nat} {j : IntKind} {i : Int} (h0 : 0 ≤ i) (h1 : i < n) : pureRun Tryz.prog (Instr.indexAt 58 (.slice (some ⟨b, p, none⟩) n c) (.int j i)) = some (.pointer (some ⟨b, p + i.toNat * 7, none⟩)) := by rw [← addr_add]; exact pr_index (z := 7) Tryz.underlying58 (by kernel_rfl) h0 h1
theorem ia_59 {b p n c : Nat} {j : IntKind} {i : Int} (h0 : 0 ≤ i) (h1 : i < n) : pureRun Tryz.prog (Instr.indexAt 59 (.slice (some ⟨b, p, none⟩) n c) (.int j i)) = some (.pointer (some ⟨b, p + i.toNat * 2, none⟩)) := by rw [← addr_add]; exact pr_index (z := 2) Tryz.underlying59 (by kernel_rfl) h0 h1
theorem ia_84 {b p n c : Nat} {j : IntKind} {i : Int} (h0 : 0 ≤ i) (h1 : i < n) : pureRun Tryz.prog (Instr.indexAt 84 (.slice (some ⟨b, p, none⟩) n c) (.int j i)) = some (.pointer (some ⟨b, p + i.toNat * 1, none⟩)) := by rw [← addr_add]; exact pr_index (z := 1) Tryz.underlying84 (by kernel_rfl) h0 h1
theorem ia_102 {b p n c : Nat} {j : IntKind} {i : Int} (h0 : 0 ≤ i) (h1 : i < n) : pureRun Tryz.prog (Instr.indexAt 102 (.slice (some ⟨b, p, none⟩) n c) (.int j i)) = some (.pointer (some ⟨b, p + i.toNat * 1, none⟩)) := by rw [← addr_add]; exact pr_index (z := 1) Tryz.underlying102 (by kernel_rfl) h0 h1
theorem ia_109 {b p n c : Nat} {j : IntKind} {i : Int} (h0 : 0 ≤ i) (h1 : i < n) : pureRun Tryz.prog (Instr.indexAt 109 (.slice (some ⟨b, p, none⟩) n c) (.int j i)) = some (.pointer (some ⟨b, p + i.toNat * 8, none⟩)) := by rw [← addr_add]; exact pr_index (z := 8) Tryz.underlying109 (by kernel_rfl) h0 h1
theorem ia_110 {b p n c : Nat} {j : IntKind} {i : Int} (h0 : 0 ≤ i) (h1 : i < n) : pureRun Tryz.prog (Instr.indexAt 110 (.slice (some ⟨b, p, none⟩) n c) (.int j i)) = some (.pointer (some ⟨b, p + i.toNat * 1, none⟩)) := by rw [← addr_add]; exact pr_index (z := 1) Tryz.underlying110 (by kernel_rfl) h0 h1
theorem ia_131 {b p n c : Nat} {j : IntKind} {i : Int} (h0 : 0 ≤ i) (h1 : i < n) : pureRun Tryz.prog (Instr.indexAt 131 (.slice (some ⟨b, p, none⟩) n c) (.int j i)) = some (.pointer (some ⟨b, p + i.toNat * 5, none⟩)) := by rw [← addr_add]; exact pr_index (z := 5) Tryz.underlying131 (by kernel_rfl) h0 h1
theorem ei_38 {d : Nat} {x0 y0 : Int} {x1 y1 : Int} {x2 y2 : Int} {x3 y3 : Int} {x4 y4 : Int} : (Op.equalIn (d + 2) 38 (.agg #[(.int .i64 x0), (.int .i64 x1), (.int .i64 x2), (.int .i64 x3), (.int .i64 x4)]) (.agg #[(.int .i64 y0), (.int .i64 y1), (.int .i64 y2), (.int .i64 y3), (.int .i64 y4)])).run Tryz.prog w = .ok ((x0 == y0) && ((x1 == y1) && ((x2 == y2) && ((x3 == y3) && ((x4 == y4) && (true)))))) w :=
  eqIn_struct (d := d + 1) (fs := [(true, 3, 0), (true, 3, 1), (true, 3, 2), (true, 3, 3), (true, 3, 4)]) (by kernel_rfl) (by kernel_rfl) (by kernel_rfl) (eqF_cons (aU (by kernel_rfl) rfl) (aU (by kernel_rfl) rfl) (eqIn_int Tryz.underlying3) (eqF_cons (aU (by kernel_rfl) rfl) (aU (by kernel_rfl) rfl) (eqIn_int Tryz.underlying3) (eqF_cons (aU (by kernel_rfl) rfl) (aU (by kernel_rfl) rfl) (eqIn_int Tryz.underlying3) (eqF_cons (aU (by kernel_rfl) rfl) (aU (by kernel_rfl) rfl) (eqIn_int Tryz.underlying3) (eqF_cons (aU (by kernel_rfl) rfl) (aU (by kernel_rfl) rfl) (eqIn_int Tryz.underlying3) eqF_nil)))))
@[simp] theorem be_eql_38 {x y : Operand} {x0 y0 : Int} {x1 y1 : Int} {x2 y2 : Int} {x3 y3 : Int} {x4 y4 : Int} : be Tryz.prog .eql 38 x y (.agg #[(.int .i64 x0), (.int .i64 x1), (.int .i64 x2), (.int .i64 x3), (.int .i64 x4)]) (.agg #[(.int .i64 y0), (.int .i64 y1), (.int .i64 y2), (.int .i64 y3), (.int .i64 y4)]) = some (.bool (((x0 == y0) && ((x1 == y1) && ((x2 == y2) && ((x3 == y3) && ((x4 == y4) && (true)))))))) := be_eqls (by kernel_rfl) fun w => ei_38 (d := 9998)
@[simp] theorem be_neq_38 {x y : Operand} {x0 y0 : Int} {x1 y1 : Int} {x2 y2 : Int} {x3 y3 : Int} {x4 y4 : Int} : be Tryz.prog .neq 38 x y (.agg #[(.int .i64 x0), (.int .i64 x1), (.int .i64 x2), (.int .i64 x3), (.int .i64 x4)]) (.agg #[(.int .i64 y0), (.int .i64 y1), (.int .i64 y2), (.int .i64 y3), (.int .i64 y4)]) = some (.bool (!((x0 == y0) && ((x1 == y1) && ((x2 == y2) && ((x3 == y3) && ((x4 == y4) && (true)))))))) := be_neqs (by kernel_rfl) fun w => ei_38 (d := 9998)
theorem ei_40 {d : Nat} {x0 y0 : Int} {x1 y1 : Int} {x2 y2 : Int} {x3 y3 : Int} {x4 y4 : Int} {x5 y5 : Int} {x6 y6 : Int} {x7 y7 : Int} : (Op.equalIn (d + 3) 40 (.agg #[(.int .i64 x0), (.int .i64 x1), (.int .i64 x2), (.int .i64 x3), (.int .i64 x4), (.int .i64 x5), (.int .i64 x6), (.int .u64 x7)]) (.agg #[(.int .i64 y0), (.int .i64 y1), (.int .i64 y2), (.int .i64 y3), (.int .i64 y4), (.int .i64 y5), (.int .i64 y6), (.int .u64 y7)])).run Tryz.prog w = .ok ((x0 == y0) && (((x1 == y1) && ((x2 == y2) && ((x3 == y3) && ((x4 == y4) && ((x5 == y5) && (true)))))) && ((x6 == y6) && ((x7 == y7) && (true))))) w :=
  eqIn_struct (d := d + 2) (fs := [(true, 27, 0), (true, 38, 1), (true, 3, 6), (true, 34, 7)]) (by kernel_rfl) (by kernel_rfl) (by kernel_rfl) (eqF_cons (aU (by kernel_rfl) rfl) (aU (by kernel_rfl) rfl) (eqIn_int Tryz.underlying27) (eqF_cons (part_ag (n := 5) (by kernel_rfl) (by kernel_rfl)) (part_ag (n := 5) (by kernel_rfl) (by kernel_rfl)) (ei_38 (d := d + 0)) (eqF_cons (aU (by kernel_rfl) rfl) (aU (by kernel_rfl) rfl) (eqIn_int Tryz.underlying3) (eqF_cons (aU (by kernel_rfl) rfl) (aU (by kernel_rfl) rfl) (eqIn_int Tryz.underlying34) eqF_nil))))
@[simp] theorem be_eql_40 {x y : Operand} {x0 y0 : Int} {x1 y1 : Int} {x2 y2 : Int} {x3 y3 : Int} {x4 y4 : Int} {x5 y5 : Int} {x6 y6 : Int} {x7 y7 : Int} : be Tryz.prog .eql 40 x y (.agg #[(.int .i64 x0), (.int .i64 x1), (.int .i64 x2), (.int .i64 x3), (.int .i64 x4), (.int .i64 x5), (.int .i64 x6), (.int .u64 x7)]) (.agg #[(.int .i64 y0), (.int .i64 y1), (.int .i64 y2), (.int .i64 y3), (.int .i64 y4), (.int .i64 y5), (.int .i64 y6), (.int .u64 y7)]) = some (.bool (((x0 == y0) && (((x1 == y1) && ((x2 == y2) && ((x3 == y3) && ((x4 == y4) && ((x5 == y5) && (true)))))) && ((x6 == y6) && ((x7 == y7) && (true))))))) := be_eqls (by kernel_rfl) fun w => ei_40 (d := 9997)
@[simp] theorem be_neq_40 {x y : Operand} {x0 y0 : Int} {x1 y1 : Int} {x2 y2 : Int} {x3 y3 : Int} {x4 y4 : Int} {x5 y5 : Int} {x6 y6 : Int} {x7 y7 : Int} : be Tryz.prog .neq 40 x y (.agg #[(.int .i64 x0), (.int .i64 x1), (.int .i64 x2), (.int .i64 x3), (.int .i64 x4), (.int .i64 x5), (.int .i64 x6), (.int .u64 x7)]) (.agg #[(.int .i64 y0), (.int .i64 y1), (.int .i64 y2), (.int .i64 y3), (.int .i64 y4), (.int .i64 y5), (.int .i64 y6), (.int .u64 y7)]) = some (.bool (!((x0 == y0) && (((x1 == y1) && ((x2 == y2) && ((x3 == y3) && ((x4 == y4) && ((x5 == y5) && (true)))))) && ((x6 == y6) && ((x7 == y7) && (true))))))) := be_neqs (by kernel_rfl) fun w => ei_40 (d := 9997)
theorem ei_83 {d : Nat} {x0 y0 : Int} {x1 y1 : Int} : (Op.equalIn (d + 2) 83 (.agg #[(.int .i64 x0), (.int .i64 x1)]) (.agg #[(.int .i64 y0), (.int .i64 y1)])).run Tryz.prog w = .ok ((x0 == y0) && ((x1 == y1) && (true))) w :=
  eqIn_struct (d := d + 1) (fs := [(true, 3, 0), (true, 3, 1)]) (by kernel_rfl) (by kernel_rfl) (by kernel_rfl) (eqF_cons (aU (by kernel_rfl) rfl) (aU (by kernel_rfl) rfl) (eqIn_int Tryz.underlying3) (eqF_cons (aU (by kernel_rfl) rfl) (aU (by kernel_rfl) rfl) (eqIn_int Tryz.underlying3) eqF_nil))
@[simp] theorem be_eql_83 {x y : Operand} {x0 y0 : Int} {x1 y1 : Int} : be Tryz.prog .eql 83 x y (.agg #[(.int .i64 x0), (.int .i64 x1)]) (.agg #[(.int .i64 y0), (.int .i64 y1)]) = some (.bool (((x0 == y0) && ((x1 == y1) && (true))))) := be_eqls (by kernel_rfl) fun w => ei_83 (d := 9998)
@[simp] theorem be_neq_83 {x y : Operand} {x0 y0 : Int} {x1 y1 : Int} : be Tryz.prog .neq 83 x y (.agg #[(.int .i64 x0), (.int .i64 x1)]) (.agg #[(.int .i64 y0), (.int .i64 y1)]) = some (.bool (!((x0 == y0) && ((x1 == y1) && (true))))) := be_neqs (by kernel_rfl) fun w => ei_83 (d := 9998)
theorem ei_92 {d : Nat} {x0 y0 : Int} {x1 y1 : Int} : (Op.equalIn (d + 2) 92 (.agg #[(.int .i64 x0), (.int .i64 x1)]) (.agg #[(.int .i64 y0), (.int .i64 y1)])).run Tryz.prog w = .ok ((x0 == y0) && ((x1 == y1) && (true))) w :=
  eqIn_struct (d := d + 1) (fs := [(true, 3, 0), (true, 3, 1)]) (by kernel_rfl) (by kernel_rfl) (by kernel_rfl) (eqF_cons (aU (by kernel_rfl) rfl) (aU (by kernel_rfl) rfl) (eqIn_int Tryz.underlying3) (eqF_cons (aU (by kernel_rfl) rfl) (aU (by kernel_rfl) rfl) (eqIn_int Tryz.underlying3) eqF_nil))
@[simp] theorem be_eql_92 {x y : Operand} {x0 y0 : Int} {x1 y1 : Int} : be Tryz.prog .eql 92 x y (.agg #[(.int .i64 x0), (.int .i64 x1)]) (.agg #[(.int .i64 y0), (.int .i64 y1)]) = some (.bool (((x0 == y0) && ((x1 == y1) && (true))))) := be_eqls (by kernel_rfl) fun w => ei_92 (d := 9998)
@[simp] theorem be_neq_92 {x y : Operand} {x0 y0 : Int} {x1 y1 : Int} : be Tryz.prog .neq 92 x y (.agg #[(.int .i64 x0), (.int .i64 x1)]) (.agg #[(.int .i64 y0), (.int .i64 y1)]) = some (.bool (!((x0 == y0) && ((x1 == y1) && (true))))) := be_neqs (by kernel_rfl) fun w => ei_92 (d := 9998)
theorem ei_137 {d : Nat} {x0 y0 : Int} {x1 y1 : Int} : (Op.equalIn (d + 2) 137 (.agg #[(.int .i64 x0), (.int .i64 x1)]) (.agg #[(.int .i64 y0), (.int .i64 y1)])).run Tryz.prog w = .ok ((x0 == y0) && ((x1 == y1) && (true))) w :=
  eqIn_struct (d := d + 1) (fs := [(true, 3, 0), (true, 3, 1)]) (by kernel_rfl) (by kernel_rfl) (by kernel_rfl) (eqF_cons (aU (by kernel_rfl) rfl) (aU (by kernel_rfl) rfl) (eqIn_int Tryz.underlying3) (eqF_cons (aU (by kernel_rfl) rfl) (aU (by kernel_rfl) rfl) (eqIn_int Tryz.underlying3) eqF_nil))
@[simp] theorem be_eql_137 {x y : Operand} {x0 y0 : Int} {x1 y1 : Int} : be Tryz.prog .eql 137 x y (.agg #[(.int .i64 x0), (.int .i64 x1)]) (.agg #[(.int .i64 y0), (.int .i64 y1)]) = some (.bool (((x0 == y0) && ((x1 == y1) && (true))))) := be_eqls (by kernel_rfl) fun w => ei_137 (d := 9998)
@[simp] theorem be_neq_137 {x y : Operand} {x0 y0 : Int} {x1 y1 : Int} : be Tryz.prog .neq 137 x y (.agg #[(.int .i64 x0), (.int .i64 x1)]) (.agg #[(.int .i64 y0), (.int .i64 y1)]) = some (.bool (!((x0 == y0) && ((x1 == y1) && (true))))) := be_neqs (by kernel_rfl) fun w => ei_137 (d := 9998)
end Go.Proofs.YteapggpkgfiacaaGreat

namespace Go.Proofs.YteapggpkgfiacaaGreat
open Go Ev
theorem mixed : Tryz.prog.follows .mixedOrders = true := Checked.mixed Tryz.checked
theorem ad : EntOk Tryz.prog (entR 3 105) := entOk_of (by kernel_rfl)
noncomputable def C3 : Code := (Tryz.f3.body).getD .skip
noncomputable def H3 : Hints := ⟨[], [(10, [1, 2, 3, 7])], [(6, (.ext [1, 0, 2, 3, 4, 5, 6, 7, 8]))]⟩
noncomputable def T3_0 : List It := [.jn (nav [1, 1, 1, 1, 1, 1] C3)]
def P3_0 (x1 x2 x3 x7 : Value) (w : World) (Q : Value → World → Prop) : Prop := Part Tryz.prog 3 T3_0 [1, 2, 3, 7] [x1, x2, x3, x7] w Q
def F3 (a0 a1 a2 : Value) (w : World) (Q : Value → World → Prop) : Prop :=
  effv Tryz.prog (Instr.box 23 a0) w fun t3 w =>
  CallR Tryz.prog 4 [] w fun t10 w =>
  wpB (pureRun Tryz.prog (Op.unary .not t10)) fun t12 =>
  cnd t12
  (Q (.bool false) w)
  (wpB (pureRun Tryz.prog (Builtin.len_ #[24] 3 #[a1])) fun t14 =>
  wpB (bp Tryz.prog .gtr 3 t14 (.int .i64 5)) fun t15 =>
  cnd t15
  (Q t10 w)
  (wpB (ldv Tryz.prog 23 t3 w.drew) fun t18 =>
  effv Tryz.prog (Builtin.append_ #[24, 24] 24 #[(.slice none 0 0), a1]) w.drew fun t20 w =>
  CallX Tryz.prog 5 [t18, t20, (.int .i64 0)] w fun t21 w =>
  wpB (pureRun Tryz.prog (Instr.extract t21 0)) fun t22 =>
  wpB (pureRun Tryz.prog (Instr.extract t21 1)) fun t23 =>
  wpB (ldv Tryz.prog 23 t3 w) fun t24 =>
  CallR Tryz.prog 6 [t24] w fun t25 w =>
  wpB (pureRun Tryz.prog (Op.unary .not t25)) fun t26 =>
  gE t26 false (CallR Tryz.prog 7 [(gv t26 false a1)] w) (fun t29 w =>
  wpB (gd t26 false (pureRun Tryz.prog (Op.unary .not t29))) fun t30 =>
  wpB (pickv t26 (some (.bool true)) (some t30)) fun t31 =>
  cnd t31
  (wpB (pureRun Tryz.prog (Builtin.len_ #[26] 3 #[t22])) fun t33 =>
  wpB (be Tryz.prog .neq 3 (.tmp 33) (.const (.int .i64 0)) t33 (.int .i64 0)) fun t34 =>
  wpB (gd t34 false (be Tryz.prog .neq 27 (.tmp 36) (.const (.int .i64 1)) (gv t34 false t23) (.int .i64 1))) fun t37 =>
  wpB (pickv t34 (some (.bool true)) (some t37)) fun t38 =>
  cnd t38
  (Q (.bool false) w)
  (P3_0 a1 a2 t3 t10 w Q))
  (P3_0 a1 a2 t3 t10 w Q)) w))
def L3_0 (x1 x2 x3 x7 : Value) (w : World) (Q : Value → World → Prop) : Prop :=
  wpB (gd x7 true (ldv Tryz.prog 23 x3 w)) fun t41 =>
  gE x7 true (CallR Tryz.prog 9 [t41] w) (fun t42 w =>
  wpB (gd x7 true (pureRun Tryz.prog (Builtin.min_ #[3, 3] 3 #[(gv x7 true x2), (.int .i64 300)]))) fun t45 =>
  gE x7 true (CallR Tryz.prog 8 [t42, (gv x7 true x1), t45] w) (fun t46 w =>
  wpB (pickv x7 (some t46) (some (.bool false))) fun t47 =>
  Q t47 w) w) w
theorem F3_ok {a0 a1 a2 : Value} {w : World} {Q : Value → World → Prop} (h : F3 a0 a1 a2 w Q) : CallR Tryz.prog 3 [a0, a1, a2] w Q :=
  af mixed ad Tryz.func3 (c := C3) rfl H3 (Nat.le_of_ble_eq_true rfl) (by kernel_rfl) h
theorem L3_0_ok {x1 x2 x3 x7 : Value} {w : World} {Q : Value → World → Prop} (h : L3_0 x1 x2 x3 x7 w Q) : P3_0 x1 x2 x3 x7 w Q :=
  ax mixed ad Tryz.func3 H3 (by kernel_rfl) h

noncomputable def C4 : Code := (Tryz.f4.body).getD .skip
noncomputable def H4 : Hints := ⟨[], [], []⟩
def F4 (w : World) (Q : Value → World → Prop) : Prop :=
  wpB (pureRun Tryz.prog (Instr.build 23 #[(0, (.int .i64 1)), (1, (.int .i64 1)), (2, (.int .i64 8)), (3, (.int .i64 1)), (5, (.int .i64 1))])) fun t6 =>
  effv Tryz.prog (Instr.alloc 23 true (.tuple #[])) w fun t1 w =>
  effu Tryz.prog (Instr.storeAt 23 t1 t6) w fun w =>
  wpB (ldv Tryz.prog 23 t1 w) fun t8 =>
  CallR Tryz.prog 5 [t8, (.slice none 0 0), (.int .i64 5)] w fun t9 w =>
  wpB (pureRun Tryz.prog (Instr.extract t9 0)) fun t10 =>
  wpB (pureRun Tryz.prog (Instr.extract t9 1)) fun t11 =>
  wpB (ldv Tryz.prog 23 t1 w) fun t13 =>
  wpB (pureRun Tryz.prog (Instr.build 36 #[(0, (.int .i64 3))])) fun t14 =>
  wpB (pureRun Tryz.prog (Instr.build 42 #[(2, t14), (4, (.int .i64 1)), (5, (.int .i64 (-1))), (6, (.int .i64 1))])) fun t15 =>
  effv Tryz.prog (Instr.buildSlice 24 1 #[(0, t15)]) w fun t16 w =>
  CallR Tryz.prog 5 [t13, t16, (.int .i64 5)] w fun t17 w =>
  wpB (pureRun Tryz.prog (Instr.extract t17 0)) fun t18 =>
  wpB (pureRun Tryz.prog (Instr.extract t17 1)) fun t19 =>
  wpB (pureRun Tryz.prog (Builtin.len_ #[26] 3 #[t10])) fun t21 =>
  wpB (be Tryz.prog .eql 3 (.tmp 21) (.const (.int .i64 0)) t21 (.int .i64 0)) fun t22 =>
  wpB (gd t22 true (be Tryz.prog .eql 27 (.tmp 24) (.const (.int .i64 0)) (gv t22 true t11) (.int .i64 0))) fun t25 =>
  wpB (pickv t22 (some t25) (some (.bool false))) fun t26 =>
  wpB (gd t26 true (pureRun Tryz.prog (Builtin.len_ #[26] 3 #[(gv t26 true t18)]))) fun t29 =>
  wpB (gd t26 true (be Tryz.prog .eql 3 (.tmp 29) (.const (.int .i64 1)) t29 (.int .i64 1))) fun t30 =>
  wpB (pickv t26 (some t30) (some (.bool false))) fun t31 =>
  wpB (gd t31 true (pureRun Tryz.prog (Instr.indexAt 26 (gv t31 true t18) (.int .i64 0)))) fun t34 =>
  wpB (gd t31 true (ldv Tryz.prog 3 t34 w)) fun t35 =>
  wpB (gd t31 true (be Tryz.prog .eql 3 (.tmp 35) (.const (.int .i64 0)) t35 (.int .i64 0))) fun t36 =>
  wpB (pickv t31 (some t36) (some (.bool false))) fun t37 =>
  wpB (gd t37 true (be Tryz.prog .eql 27 (.tmp 39) (.const (.int .i64 0)) (gv t37 true t19) (.int .i64 0))) fun t40 =>
  wpB (pickv t37 (some t40) (some (.bool false))) fun t41 =>
  Q t41 w
theorem F4_ok {w : World} {Q : Value → World → Prop} (h : F4  w Q) : CallR Tryz.prog 4 [] w Q :=
  af mixed ad Tryz.func4 (c := C4) rfl H4 (Nat.le_of_ble_eq_true rfl) (by kernel_rfl) h

noncomputable def C5 : Code := (Tryz.f5.body).getD .skip
noncomputable def H5 : Hints := ⟨[(5, [1, 3, 8, 31, 32])], [], [(7, (.ext [0, 1, 2, 3, 5, 6, 4, 7, 8, 9, 10, 11, 12]))]⟩
noncomputable def T5_0 : List It := [.lp (nav [1, 1, 1, 0, 1, 4, 5] C5), .blk 0, .jn (nav [1, 1, 1, 1] C5)]
def P5_0 (x1 x3 x8 x31 x32 : Value) (w : World) (Q : Value → World → Prop) : Prop := Part Tryz.prog 5 T5_0 [1, 3, 8, 31, 32] [x1, x3, x8, x31, x32] w Q
def F5 (a0 a1 a2 : Value) (w : World) (Q : Value → World → Prop) : Prop :=
  effv Tryz.prog (Instr.box 23 a0) w fun t3 w =>
  wpB (ldv Tryz.prog 23 t3 w) fun t12 =>
  CallR Tryz.prog 10 [t12] w fun t13 w =>
  wpB (pureRun Tryz.prog (Op.unary .not t13)) fun t14 =>
  gE t14 false (CallR Tryz.prog 11 [(gv t14 false a1)] w) (fun t17 w =>
  wpB (gd t14 false (pureRun Tryz.prog (Op.unary .not t17))) fun t18 =>
  wpB (pickv t14 (some (.bool true)) (some t18)) fun t19 =>
  wpB (gd t19 false (pureRun Tryz.prog (Builtin.len_ #[24] 3 #[(gv t19 false a1)]))) fun t22 =>
  wpB (gd t19 false (bp Tryz.prog .gtr 3 t22 (.int .i64 12))) fun t23 =>
  wpB (pickv t19 (some (.bool true)) (some t23)) fun t24 =>
  cnd t24
  (Q (.tuple #[(.slice none 0 0), (.int .i64 1)]) w)
  (wpB (pureRun Tryz.prog (Builtin.max_ #[3, 3] 3 #[a2, (.int .i64 0)])) fun t27 =>
  wpB (pureRun Tryz.prog (Instr.build 46 #[(0, a1), (4, t27)])) fun t28 =>
  effv Tryz.prog (Instr.box 46 t28) w fun t29 w =>
  wpB (pureRun Tryz.prog (Builtin.len_ #[24] 3 #[a1])) fun t31 =>
  P5_0 a1 t3 t29 t31 (.int .i64 0) w Q)) w
def L5_0 (x1 x3 x8 x31 x32 : Value) (w : World) (Q : Value → World → Prop) : Prop :=
  wpB (bp Tryz.prog .lss 3 x32 x31) fun t33 =>
  cnd t33
  (wpB (nilv x8) fun t37 =>
  wpB (pureRun Tryz.prog (Instr.fieldAt 46 t37 1)) fun t38 =>
  wpB (ldv Tryz.prog 44 t38 w.drew) fun t39 =>
  CallX Tryz.prog 12 [x1, x32] w.drew fun t42 w =>
  effv Tryz.prog (Instr.buildSlice 44 1 #[(0, t42)]) w fun t43 w =>
  effv Tryz.prog (Builtin.append_ #[44, 44] 44 #[t39, t43]) w fun t44 w =>
  wpB (nilv x8) fun t45 =>
  wpB (pureRun Tryz.prog (Instr.fieldAt 46 t45 1)) fun t46 =>
  effu Tryz.prog (Instr.storeAt 44 t46 t44) w fun w =>
  wpB (bp Tryz.prog .add 3 x32 (.int .i64 1)) fun t47 =>
  P5_0 x1 x3 x8 x31 t47 w Q)
  (wpB (ldv Tryz.prog 23 x3 w) fun t49 =>
  CallR Tryz.prog 13 [t49] w fun t50 w =>
  wpB (pureRun Tryz.prog (Instr.extract t50 0)) fun t51 =>
  wpB (pureRun Tryz.prog (Instr.extract t50 1)) fun t52 =>
  CallR Tryz.prog 14 [x8, t51] w fun t56 w =>
  cnd t56
  (wpB (nilv x8) fun t58 =>
  wpB (pureRun Tryz.prog (Instr.fieldAt 46 t58 2)) fun t59 =>
  wpB (ldv Tryz.prog 26 t59 w) fun t60 =>
  Q (.tuple #[t60, (.int .i64 0)]) w)
  (wpB (nilv x8) fun t63 =>
  wpB (pureRun Tryz.prog (Instr.fieldAt 46 t63 5)) fun t64 =>
  wpB (ldv Tryz.prog 4 t64 w) fun t65 =>
  cnd t65
  (Q (.tuple #[(.slice none 0 0), (.int .i64 11)]) w)
  (Q (.tuple #[(.slice none 0 0), (.int .i64 10)]) w)))
theorem F5_ok {a0 a1 a2 : Value} {w : World} {Q : Value → World → Prop} (h : F5 a0 a1 a2 w Q) : CallR Tryz.prog 5 [a0, a1, a2] w Q :=
  af mixed ad Tryz.func5 (c := C5) rfl H5 (Nat.le_of_ble_eq_true rfl) (by kernel_rfl) h
theorem L5_0_ok {x1 x3 x8 x31 x32 : Value} {w : World} {Q : Value → World → Prop} (h : L5_0 x1 x3 x8 x31 x32 w Q) : P5_0 x1 x3 x8 x31 x32 w Q :=
  aB mixed ad Tryz.func5 H5 (by kernel_rfl) h

noncomputable def C6 : Code := (Tryz.f6.body).getD .skip
noncomputable def H6 : Hints := ⟨[], [], []⟩
def F6 (a0 : Value) (w : World) (Q : Value → World → Prop) : Prop :=
  effv Tryz.prog (Instr.box 23 a0) w fun t1 w =>
  wpB (pureRun Tryz.prog (Instr.fieldAt 23 t1 0)) fun t3 =>
  wpB (ldv Tryz.prog 3 t3 w) fun t4 =>
  CallR Tryz.prog 15 [t4, (.int .i64 1), (.int .i64 64)] w fun t5 w =>
  wpB (gd t5 true (pureRun Tryz.prog (Instr.fieldAt 23 t1 1))) fun t7 =>
  wpB (gd t5 true (ldv Tryz.prog 3 t7 w)) fun t8 =>
  gE t5 true (CallR Tryz.prog 15 [t8, (.int .i64 1), (.int .i64 4096)] w) (fun t9 w =>
  wpB (pickv t5 (some t9) (some (.bool false))) fun t10 =>
  wpB (gd t10 true (pureRun Tryz.prog (Instr.fieldAt 23 t1 2))) fun t12 =>
  wpB (gd t10 true (ldv Tryz.prog 3 t12 w)) fun t13 =>
  gE t10 true (CallR Tryz.prog 15 [t13, (.int .i64 8), (.int .i64 1024)] w) (fun t14 w =>
  wpB (pickv t10 (some t14) (some (.bool false))) fun t15 =>
  wpB (gd t15 true (pureRun Tryz.prog (Instr.fieldAt 23 t1 2))) fun t17 =>
  wpB (gd t15 true (ldv Tryz.prog 3 t17 w)) fun t18 =>
  wpB (gd t15 true (bp Tryz.prog .rem 3 t18 (.int .i64 8))) fun t19 =>
  wpB (gd t15 true (be Tryz.prog .eql 3 (.tmp 19) (.const (.int .i64 0)) t19 (.int .i64 0))) fun t20 =>
  wpB (pickv t15 (some t20) (some (.bool false))) fun t21 =>
  wpB (gd t21 true (pureRun Tryz.prog (Instr.fieldAt 23 t1 3))) fun t23 =>
  wpB (gd t21 true (ldv Tryz.prog 3 t23 w)) fun t24 =>
  gE t21 true (CallR Tryz.prog 15 [t24, (.int .i64 1), (.int .i64 4096)] w) (fun t25 w =>
  wpB (pickv t21 (some t25) (some (.bool false))) fun t26 =>
  wpB (gd t26 true (pureRun Tryz.prog (Instr.fieldAt 23 t1 4))) fun t28 =>
  wpB (gd t26 true (ldv Tryz.prog 3 t28 w)) fun t29 =>
  gE t26 true (CallR Tryz.prog 15 [t29, (.int .i64 0), (.int .i64 64)] w) (fun t30 w =>
  wpB (pickv t26 (some t30) (some (.bool false))) fun t31 =>
  wpB (gd t31 true (pureRun Tryz.prog (Instr.fieldAt 23 t1 5))) fun t33 =>
  wpB (gd t31 true (ldv Tryz.prog 3 t33 w)) fun t34 =>
  gE t31 true (CallR Tryz.prog 15 [t34, (.int .i64 1), (.int .i64 8)] w) (fun t35 w =>
  wpB (pickv t31 (some t35) (some (.bool false))) fun t36 =>
  Q t36 w) w) w) w) w) w
theorem F6_ok {a0 : Value} {w : World} {Q : Value → World → Prop} (h : F6 a0 w Q) : CallR Tryz.prog 6 [a0] w Q :=
  af mixed ad Tryz.func6 (c := C6) rfl H6 (Nat.le_of_ble_eq_true rfl) (by kernel_rfl) h

noncomputable def C7 : Code := (Tryz.f7.body).getD .skip
noncomputable def H7 : Hints := ⟨[(2, [0, 3]), (7, [0, 3, 4])], [], [(4, (.leaf [0, 1, 2, 3, 4, 5, 6, 7, 8, 9, 10, 11, 12, 13, 14, 15, 16, 17, 18, 19, 20, 21, 22, 23])), (9, (.leaf [0, 1, 2, 3, 4, 5, 6, 7, 8, 9, 10, 11, 12, 13, 14, 15, 16, 17, 18, 19, 20, 21, 22, 23, 24, 25, 26, 27, 28, 29, 30, 31, 32, 33, 34, 35, 36, 37, 38, 39, 40, 41, 42, 43, 44, 45, 46]))]⟩
noncomputable def T7_0 : List It := [.lp (nav [1, 0, 1, 4, 5] C7), .blk 0, .jn (nav [1, 1] C7)]
noncomputable def T7_1 : List It := [.lp (nav [1, 0, 1, 4, 5, 1, 0, 4, 1, 1, 4, 5] C7), .blk 2, .blk 1, .jn (nav [1, 0, 1, 4, 5, 1, 1] C7), .lp (nav [1, 0, 1, 4, 5] C7), .blk 0, .jn (nav [1, 1] C7)]
def P7_0 (x0 x3 : Value) (w : World) (Q : Value → World → Prop) : Prop := Part Tryz.prog 7 T7_0 [0, 3] [x0, x3] w Q
def P7_1 (x0 x3 x4 : Value) (w : World) (Q : Value → World → Prop) : Prop := Part Tryz.prog 7 T7_1 [0, 3, 4] [x0, x3, x4] w Q
def F7 (a0 : Value) (w : World) (Q : Value → World → Prop) : Prop :=
  P7_0 a0 (.int .i64 0) w Q
def L7_0 (x0 x3 : Value) (w : World) (Q : Value → World → Prop) : Prop :=
  wpB (pureRun Tryz.prog (Builtin.len_ #[24] 3 #[x0])) fun t7 =>
  wpB (bp Tryz.prog .lss 3 x3 t7) fun t8 =>
  cnd t8
  (wpB (pureRun Tryz.prog (Instr.indexAt 24 x0 x3)) fun t13 =>
  wpB (ldv Tryz.prog 42 t13 w.drew) fun t14 =>
  CallR Tryz.prog 16 [t14] w.drew fun t15 w =>
  wpB (pureRun Tryz.prog (Op.unary .not t15)) fun t16 =>
  wpB (gd t16 false (bp Tryz.prog .gtr 3 (gv t16 false x3) (.int .i64 0))) fun t19 =>
  wpB (gd (gv t16 false t19) true (pureRun Tryz.prog (Instr.indexAt 24 (gv (gv t16 false t19) true x0) (gv (gv t16 false t19) true x3)))) fun t23 =>
  wpB (gd (gv t16 false t19) true (pureRun Tryz.prog (Instr.fieldAt 42 t23 3))) fun t24 =>
  wpB (gd (gv t16 false t19) true (ldv Tryz.prog 3 t24 w)) fun t25 =>
  wpB (gd (gv t16 false t19) true (bp Tryz.prog .sub 3 (gv (gv t16 false t19) true x3) (.int .i64 1))) fun t28 =>
  wpB (gd (gv t16 false t19) true (pureRun Tryz.prog (Instr.indexAt 24 (gv (gv t16 false t19) true x0) t28))) fun t29 =>
  wpB (gd (gv t16 false t19) true (pureRun Tryz.prog (Instr.fieldAt 42 t29 3))) fun t30 =>
  wpB (gd (gv t16 false t19) true (ldv Tryz.prog 3 t30 w)) fun t31 =>
  wpB (gd (gv t16 false t19) true (bp Tryz.prog .leq 3 t25 t31)) fun t32 =>
  wpB (gd t16 false (pickv (gv t16 false t19) (some t32) (some (.bool false)))) fun t33 =>
  wpB (pickv t16 (some (.bool true)) (some t33)) fun t34 =>
  cnd t34
  (Q (.bool false) w)
  (P7_1 x0 x3 (.int .i64 0) w Q))
  (Q (.bool true) w)
def L7_1 (x0 x3 x4 : Value) (w : World) (Q : Value → World → Prop) : Prop :=
  wpB (bp Tryz.prog .lss 3 x4 x3) fun t37 =>
  cnd t37
  (wpB (pureRun Tryz.prog (Instr.indexAt 24 x0 x3)) fun t42 =>
  wpB (ldv Tryz.prog 42 t42 w.drew) fun t43 =>
  wpB (pureRun Tryz.prog (Instr.indexAt 24 x0 x4)) fun t46 =>
  wpB (ldv Tryz.prog 42 t46 w.drew) fun t47 =>
  CallR Tryz.prog 17 [t43, t47] w.drew fun t48 w =>
  wpB (gd t48 false (pureRun Tryz.prog (Instr.indexAt 24 (gv t48 false x0) (gv t48 false x4)))) fun t52 =>
  wpB (gd t48 false (pureRun Tryz.prog (Instr.fieldAt 42 t52 0))) fun t53 =>
  wpB (gd t48 false (ldv Tryz.prog 3 t53 w)) fun t54 =>
  wpB (gd t48 false (pureRun Tryz.prog (Instr.indexAt 24 (gv t48 false x0) (gv t48 false x3)))) fun t57 =>
  wpB (gd t48 false (pureRun Tryz.prog (Instr.fieldAt 42 t57 0))) fun t58 =>
  wpB (gd t48 false (ldv Tryz.prog 3 t58 w)) fun t59 =>
  wpB (gd t48 false (be Tryz.prog .eql 3 (.tmp 54) (.tmp 59) t54 t59)) fun t60 =>
  wpB (gd (gv t48 false t60) true (pureRun Tryz.prog (Instr.indexAt 24 (gv (gv t48 false t60) true x0) (gv (gv t48 false t60) true x4)))) fun t64 =>
  wpB (gd (gv t48 false t60) true (ldv Tryz.prog 42 t64 w)) fun t65 =>
  wpB (gd (gv t48 false t60) true (pureRun Tryz.prog (Instr.indexAt 24 (gv (gv t48 false t60) true x0) (gv (gv t48 false t60) true x3)))) fun t68 =>
  wpB (gd (gv t48 false t60) true (ldv Tryz.prog 42 t68 w)) fun t69 =>
  gE (gv t48 false t60) true (CallR Tryz.prog 18 [t65, t69] w) (fun t70 w =>
  wpB (gd (gv t48 false t60) true (pureRun Tryz.prog (Op.unary .not t70))) fun t71 =>
  wpB (gd (gv (gv t48 false t60) true t71) false (pureRun Tryz.prog (Instr.indexAt 24 (gv (gv (gv t48 false t60) true t71) false x0) (gv (gv (gv t48 false t60) true t71) false x3)))) fun t75 =>
  wpB (gd (gv (gv t48 false t60) true t71) false (pureRun Tryz.prog (Instr.fieldAt 42 t75 1))) fun t76 =>
  wpB (gd (gv (gv t48 false t60) true t71) false (ldv Tryz.prog 3 t76 w)) fun t77 =>
  wpB (gd (gv (gv t48 false t60) true t71) false (pureRun Tryz.prog (Instr.indexAt 24 (gv (gv (gv t48 false t60) true t71) false x0) (gv (gv (gv t48 false t60) true t71) false x4)))) fun t80 =>
  wpB (gd (gv (gv t48 false t60) true t71) false (pureRun Tryz.prog (Instr.fieldAt 42 t80 1))) fun t81 =>
  wpB (gd (gv (gv t48 false t60) true t71) false (ldv Tryz.prog 3 t81 w)) fun t82 =>
  wpB (gd (gv (gv t48 false t60) true t71) false (bp Tryz.prog .leq 3 t77 t82)) fun t83 =>
  wpB (gd (gv t48 false t60) true (pickv (gv (gv t48 false t60) true t71) (some (.bool true)) (some t83))) fun t84 =>
  wpB (gd t48 false (pickv (gv t48 false t60) (some t84) (some (.bool false)))) fun t85 =>
  wpB (pickv t48 (some (.bool true)) (some t85)) fun t86 =>
  cnd t86
  (Q (.bool false) w)
  (wpB (bp Tryz.prog .add 3 x4 (.int .i64 1)) fun t39 =>
  P7_1 x0 x3 t39 w Q)) w)
  (wpB (bp Tryz.prog .add 3 x3 (.int .i64 1)) fun t10 =>
  P7_0 x0 t10 w Q)
theorem F7_ok {a0 : Value} {w : World} {Q : Value → World → Prop} (h : F7 a0 w Q) : CallR Tryz.prog 7 [a0] w Q :=
  af mixed ad Tryz.func7 (c := C7) rfl H7 (Nat.le_of_ble_eq_true rfl) (by kernel_rfl) h
theorem L7_0_ok {x0 x3 : Value} {w : World} {Q : Value → World → Prop} (h : L7_0 x0 x3 w Q) : P7_0 x0 x3 w Q :=
  aB mixed ad Tryz.func7 H7 (by kernel_rfl) h
theorem L7_1_ok {x0 x3 x4 : Value} {w : World} {Q : Value → World → Prop} (h : L7_1 x0 x3 x4 w Q) : P7_1 x0 x3 x4 w Q :=
  aB mixed ad Tryz.func7 H7 (by kernel_rfl) h

noncomputable def C8 : Code := (Tryz.f8.body).getD .skip
noncomputable def H8 : Hints := ⟨[], [], [(1, (.ext [1, 3, 0, 2, 4, 5, 6, 7, 8, 9]))]⟩
def F8 (a0 a1 a2 : Value) (w : World) (Q : Value → World → Prop) : Prop :=
  effv Tryz.prog (Instr.box 23 a0) w fun t3 w =>
  wpB (ldv Tryz.prog 23 t3 w.drew) fun t12 =>
  effv Tryz.prog (Builtin.append_ #[24, 24] 24 #[(.slice none 0 0), a1]) w.drew fun t14 w =>
  CallX Tryz.prog 5 [t12, t14, a2] w fun t16 w =>
  wpB (pureRun Tryz.prog (Instr.extract t16 0)) fun t17 =>
  wpB (pureRun Tryz.prog (Instr.extract t16 1)) fun t18 =>
  wpB (ldv Tryz.prog 23 t3 w) fun t20 =>
  CallR Tryz.prog 19 [t20, a1, a2] w fun t23 w =>
  wpB (pureRun Tryz.prog (Instr.extract t23 0)) fun t24 =>
  wpB (pureRun Tryz.prog (Instr.extract t23 1)) fun t25 =>
  wpB (be Tryz.prog .eql 27 (.tmp 26) (.tmp 27) t18 t25) fun t28 =>
  gE t28 true (CallR Tryz.prog 20 [(gv t28 true t17), (gv t28 true t24)] w) (fun t32 w =>
  wpB (pickv t28 (some t32) (some (.bool false))) fun t33 =>
  Q t33 w) w
theorem F8_ok {a0 a1 a2 : Value} {w : World} {Q : Value → World → Prop} (h : F8 a0 a1 a2 w Q) : CallR Tryz.prog 8 [a0, a1, a2] w Q :=
  af mixed ad Tryz.func8 (c := C8) rfl H8 (Nat.le_of_ble_eq_true rfl) (by kernel_rfl) h

noncomputable def C9 : Code := (Tryz.f9.body).getD .skip
noncomputable def H9 : Hints := ⟨[], [], [(1, (.ext [0, 4, 8, 13, 17, 20, 1, 5, 9, 14, 18, 21, 2, 3, 6, 7, 10, 11, 12, 15, 16, 19, 22, 23, 24, 25]))]⟩
def F9 (a0 : Value) (w : World) (Q : Value → World → Prop) : Prop :=
  effv Tryz.prog (Instr.box 23 a0) w fun t1 w =>
  effv Tryz.prog (Instr.alloc 23 true (.tuple #[])) w fun t2 w =>
  wpB (pureRun Tryz.prog (Instr.fieldAt 23 t1 0)) fun t3 =>
  wpB (pureRun Tryz.prog (Instr.fieldAt 23 t1 1)) fun t7 =>
  wpB (pureRun Tryz.prog (Instr.fieldAt 23 t1 2)) fun t11 =>
  wpB (pureRun Tryz.prog (Instr.fieldAt 23 t1 3)) fun t16 =>
  wpB (pureRun Tryz.prog (Instr.fieldAt 23 t1 4)) fun t20 =>
  wpB (pureRun Tryz.prog (Instr.fieldAt 23 t1 5)) fun t23 =>
  wpB (ldv Tryz.prog 3 t3 w.drew) fun t4 =>
  wpB (ldv Tryz.prog 3 t7 w.drew) fun t8 =>
  wpB (ldv Tryz.prog 3 t11 w.drew) fun t12 =>
  wpB (ldv Tryz.prog 3 t16 w.drew) fun t17 =>
  wpB (ldv Tryz.prog 3 t20 w.drew) fun t21 =>
  wpB (ldv Tryz.prog 3 t23 w.drew) fun t24 =>
  CallX Tryz.prog 21 [t4, (.int .i64 4)] w.drew fun t5 w =>
  wpB (bp Tryz.prog .add 3 (.int .i64 1) t5) fun t6 =>
  CallX Tryz.prog 21 [t8, (.int .i64 8)] w fun t9 w =>
  wpB (bp Tryz.prog .add 3 (.int .i64 1) t9) fun t10 =>
  CallX Tryz.prog 21 [t12, (.int .i64 2)] w fun t13 w =>
  wpB (bp Tryz.prog .mul 3 (.int .i64 8) t13) fun t14 =>
  wpB (bp Tryz.prog .add 3 (.int .i64 8) t14) fun t15 =>
  CallX Tryz.prog 21 [t17, (.int .i64 4)] w fun t18 w =>
  wpB (bp Tryz.prog .add 3 (.int .i64 1) t18) fun t19 =>
  CallX Tryz.prog 21 [t21, (.int .i64 4)] w fun t22 w =>
  CallX Tryz.prog 21 [t24, (.int .i64 3)] w fun t25 w =>
  wpB (bp Tryz.prog .add 3 (.int .i64 1) t25) fun t26 =>
  wpB (pureRun Tryz.prog (Instr.build 23 #[(0, t6), (1, t10), (2, t15), (3, t19), (4, t22), (5, t26)])) fun t27 =>
  effu Tryz.prog (Instr.storeAt 23 t2 t27) w fun w =>
  wpB (ldv Tryz.prog 23 t2 w) fun r2 => Q r2 w
theorem F9_ok {a0 : Value} {w : World} {Q : Value → World → Prop} (h : F9 a0 w Q) : CallR Tryz.prog 9 [a0] w Q :=
  af mixed ad Tryz.func9 (c := C9) rfl H9 (Nat.le_of_ble_eq_true rfl) (by kernel_rfl) h

noncomputable def C10 : Code := (Tryz.f10.body).getD .skip
noncomputable def H10 : Hints := ⟨[], [], []⟩
def F10 (a0 : Value) (w : World) (Q : Value → World → Prop) : Prop :=
  effv Tryz.prog (Instr.box 23 a0) w fun t1 w =>
  wpB (pureRun Tryz.prog (Instr.fieldAt 23 t1 0)) fun t3 =>
  wpB (ldv Tryz.prog 3 t3 w) fun t4 =>
  CallR Tryz.prog 22 [t4, (.int .i64 1), (.int .i64 64)] w fun t5 w =>
  wpB (gd t5 true (pureRun Tryz.prog (Instr.fieldAt 23 t1 1))) fun t7 =>
  wpB (gd t5 true (ldv Tryz.prog 3 t7 w)) fun t8 =>
  gE t5 true (CallR Tryz.prog 22 [t8, (.int .i64 1), (.int .i64 4096)] w) (fun t9 w =>
  wpB (pickv t5 (some t9) (some (.bool false))) fun t10 =>
  wpB (gd t10 true (pureRun Tryz.prog (Instr.fieldAt 23 t1 2))) fun t12 =>
  wpB (gd t10 true (ldv Tryz.prog 3 t12 w)) fun t13 =>
  gE t10 true (CallR Tryz.prog 22 [t13, (.int .i64 8), (.int .i64 1024)] w) (fun t14 w =>
  wpB (pickv t10 (some t14) (some (.bool false))) fun t15 =>
  wpB (gd t15 true (pureRun Tryz.prog (Instr.fieldAt 23 t1 2))) fun t17 =>
  wpB (gd t15 true (ldv Tryz.prog 3 t17 w)) fun t18 =>
  wpB (gd t15 true (bp Tryz.prog .rem 3 t18 (.int .i64 8))) fun t19 =>
  wpB (gd t15 true (be Tryz.prog .eql 3 (.tmp 19) (.const (.int .i64 0)) t19 (.int .i64 0))) fun t20 =>
  wpB (pickv t15 (some t20) (some (.bool false))) fun t21 =>
  wpB (gd t21 true (pureRun Tryz.prog (Instr.fieldAt 23 t1 3))) fun t23 =>
  wpB (gd t21 true (ldv Tryz.prog 3 t23 w)) fun t24 =>
  gE t21 true (CallR Tryz.prog 22 [t24, (.int .i64 1), (.int .i64 4096)] w) (fun t25 w =>
  wpB (pickv t21 (some t25) (some (.bool false))) fun t26 =>
  wpB (gd t26 true (pureRun Tryz.prog (Instr.fieldAt 23 t1 4))) fun t28 =>
  wpB (gd t26 true (ldv Tryz.prog 3 t28 w)) fun t29 =>
  gE t26 true (CallR Tryz.prog 22 [t29, (.int .i64 0), (.int .i64 64)] w) (fun t30 w =>
  wpB (pickv t26 (some t30) (some (.bool false))) fun t31 =>
  wpB (gd t31 true (pureRun Tryz.prog (Instr.fieldAt 23 t1 5))) fun t33 =>
  wpB (gd t31 true (ldv Tryz.prog 3 t33 w)) fun t34 =>
  gE t31 true (CallR Tryz.prog 22 [t34, (.int .i64 1), (.int .i64 8)] w) (fun t35 w =>
  wpB (pickv t31 (some t35) (some (.bool false))) fun t36 =>
  Q t36 w) w) w) w) w) w
theorem F10_ok {a0 : Value} {w : World} {Q : Value → World → Prop} (h : F10 a0 w Q) : CallR Tryz.prog 10 [a0] w Q :=
  af mixed ad Tryz.func10 (c := C10) rfl H10 (Nat.le_of_ble_eq_true rfl) (by kernel_rfl) h

noncomputable def C11 : Code := (Tryz.f11.body).getD .skip
noncomputable def H11 : Hints := ⟨[(2, [0, 6, 7, 8]), (7, [0, 4, 6, 7, 8, 31, 32])], [], [(4, (.leaf [0, 1, 2, 3, 4, 5, 6, 7, 8, 9, 10, 11, 12, 13, 14, 15, 16, 17])), (9, (.leaf [0, 1, 2, 3, 4, 5, 6, 7, 8, 9, 10, 11, 12, 13, 14, 15, 16, 17, 18, 19, 20, 21, 22, 23, 24, 25, 26, 27, 28, 29, 30, 31, 32, 33, 34]))]⟩
noncomputable def T11_0 : List It := [.lp (nav [1, 0, 1, 4, 5] C11), .blk 0, .jn (nav [1, 1] C11)]
noncomputable def T11_1 : List It := [.lp (nav [1, 0, 1, 4, 5, 1, 1, 0, 4, 1, 1, 1, 4, 5] C11), .blk 2, .blk 1, .jn (nav [1, 0, 1, 4, 5, 1, 1, 1] C11), .lp (nav [1, 0, 1, 4, 5] C11), .blk 0, .jn (nav [1, 1] C11)]
def P11_0 (x0 x6 x7 x8 : Value) (w : World) (Q : Value → World → Prop) : Prop := Part Tryz.prog 11 T11_0 [0, 6, 7, 8] [x0, x6, x7, x8] w Q
def P11_1 (x0 x4 x6 x7 x8 x31 x32 : Value) (w : World) (Q : Value → World → Prop) : Prop := Part Tryz.prog 11 T11_1 [0, 4, 6, 7, 8, 31, 32] [x0, x4, x6, x7, x8, x31, x32] w Q
def F11 (a0 : Value) (w : World) (Q : Value → World → Prop) : Prop :=
  wpB (pureRun Tryz.prog (Builtin.len_ #[24] 3 #[a0])) fun t7 =>
  P11_0 a0 a0 t7 (.int .i64 0) w Q
def L11_0 (x0 x6 x7 x8 : Value) (w : World) (Q : Value → World → Prop) : Prop :=
  wpB (bp Tryz.prog .lss 3 x8 x7) fun t9 =>
  cnd t9
  (wpB (pureRun Tryz.prog (Instr.indexAt 24 x6 x8)) fun t11 =>
  wpB (ldv Tryz.prog 42 t11 w) fun t12 =>
  effv Tryz.prog (Instr.alloc 42 true (.tuple #[])) w fun t4 w =>
  effu Tryz.prog (Instr.storeAt 42 t4 t12) w fun w =>
  wpB (ldv Tryz.prog 42 t4 w.drew) fun t13 =>
  CallR Tryz.prog 23 [t13] w.drew fun t14 w =>
  wpB (pureRun Tryz.prog (Op.unary .not t14)) fun t15 =>
  wpB (gd t15 false (bp Tryz.prog .gtr 3 (gv t15 false x8) (.int .i64 0))) fun t18 =>
  wpB (gd (gv t15 false t18) true (pureRun Tryz.prog (Instr.fieldAt 42 t4 3))) fun t20 =>
  wpB (gd (gv t15 false t18) true (ldv Tryz.prog 3 t20 w)) fun t21 =>
  wpB (gd (gv t15 false t18) true (bp Tryz.prog .sub 3 (gv (gv t15 false t18) true x8) (.int .i64 1))) fun t24 =>
  wpB (gd (gv t15 false t18) true (pureRun Tryz.prog (Instr.indexAt 24 (gv (gv t15 false t18) true x0) t24))) fun t25 =>
  wpB (gd (gv t15 false t18) true (pureRun Tryz.prog (Instr.fieldAt 42 t25 3))) fun t26 =>
  wpB (gd (gv t15 false t18) true (ldv Tryz.prog 3 t26 w)) fun t27 =>
  wpB (gd (gv t15 false t18) true (bp Tryz.prog .leq 3 t21 t27)) fun t28 =>
  wpB (gd t15 false (pickv (gv t15 false t18) (some t28) (some (.bool false)))) fun t29 =>
  wpB (pickv t15 (some (.bool true)) (some t29)) fun t30 =>
  cnd t30
  (Q (.bool false) w)
  (P11_1 x0 t4 x6 x7 x8 x8 (.int .i64 0) w Q))
  (Q (.bool true) w)
def L11_1 (x0 x4 x6 x7 x8 x31 x32 : Value) (w : World) (Q : Value → World → Prop) : Prop :=
  wpB (bp Tryz.prog .lss 3 x32 x31) fun t33 =>
  cnd t33
  (wpB (pureRun Tryz.prog (Instr.indexAt 24 x0 x32)) fun t37 =>
  wpB (pureRun Tryz.prog (Instr.fieldAt 42 t37 0)) fun t38 =>
  wpB (ldv Tryz.prog 3 t38 w.drew) fun t39 =>
  wpB (pureRun Tryz.prog (Instr.fieldAt 42 x4 0)) fun t40 =>
  wpB (ldv Tryz.prog 3 t40 w.drew) fun t41 =>
  wpB (be Tryz.prog .eql 3 (.tmp 39) (.tmp 41) t39 t41) fun t42 =>
  wpB (gd t42 true (pureRun Tryz.prog (Instr.indexAt 24 (gv t42 true x0) (gv t42 true x32)))) fun t46 =>
  wpB (gd t42 true (ldv Tryz.prog 42 t46 w.drew)) fun t47 =>
  wpB (gd t42 true (ldv Tryz.prog 42 x4 w.drew)) fun t48 =>
  gE t42 true (CallR Tryz.prog 24 [t47, t48] w.drew) (fun t49 w =>
  wpB (gd t42 true (pureRun Tryz.prog (Op.unary .not t49))) fun t50 =>
  wpB (gd (gv t42 true t50) false (pureRun Tryz.prog (Instr.fieldAt 42 x4 1))) fun t52 =>
  wpB (gd (gv t42 true t50) false (ldv Tryz.prog 3 t52 w)) fun t53 =>
  wpB (gd (gv t42 true t50) false (pureRun Tryz.prog (Instr.indexAt 24 (gv (gv t42 true t50) false x0) (gv (gv t42 true t50) false x32)))) fun t56 =>
  wpB (gd (gv t42 true t50) false (pureRun Tryz.prog (Instr.fieldAt 42 t56 1))) fun t57 =>
  wpB (gd (gv t42 true t50) false (ldv Tryz.prog 3 t57 w)) fun t58 =>
  wpB (gd (gv t42 true t50) false (bp Tryz.prog .leq 3 t53 t58)) fun t59 =>
  wpB (gd t42 true (pickv (gv t42 true t50) (some (.bool true)) (some t59))) fun t60 =>
  wpB (pickv t42 (some t60) (some (.bool false))) fun t61 =>
  wpB (gd t61 false (pureRun Tryz.prog (Instr.indexAt 24 (gv t61 false x0) (gv t61 false x32)))) fun t65 =>
  wpB (gd t61 false (ldv Tryz.prog 42 t65 w)) fun t66 =>
  wpB (gd t61 false (ldv Tryz.prog 42 x4 w)) fun t67 =>
  gE t61 false (CallR Tryz.prog 25 [t66, t67] w) (fun t68 w =>
  wpB (pickv t61 (some (.bool true)) (some t68)) fun t69 =>
  cnd t69
  (Q (.bool false) w)
  (wpB (bp Tryz.prog .add 3 x32 (.int .i64 1)) fun t70 =>
  P11_1 x0 x4 x6 x7 x8 x31 t70 w Q)) w) w.drew)
  (wpB (bp Tryz.prog .add 3 x8 (.int .i64 1)) fun t71 =>
  P11_0 x0 x6 x7 t71 w Q)
theorem F11_ok {a0 : Value} {w : World} {Q : Value → World → Prop} (h : F11 a0 w Q) : CallR Tryz.prog 11 [a0] w Q :=
  af mixed ad Tryz.func11 (c := C11) rfl H11 (Nat.le_of_ble_eq_true rfl) (by kernel_rfl) h
theorem L11_0_ok {x0 x6 x7 x8 : Value} {w : World} {Q : Value → World → Prop} (h : L11_0 x0 x6 x7 x8 w Q) : P11_0 x0 x6 x7 x8 w Q :=
  aB mixed ad Tryz.func11 H11 (by kernel_rfl) h
theorem L11_1_ok {x0 x4 x6 x7 x8 x31 x32 : Value} {w : World} {Q : Value → World → Prop} (h : L11_1 x0 x4 x6 x7 x8 x31 x32 w Q) : P11_1 x0 x4 x6 x7 x8 x31 x32 w Q :=
  aB mixed ad Tryz.func11 H11 (by kernel_rfl) h

noncomputable def C12 : Code := (Tryz.f12.body).getD .skip
noncomputable def H12 : Hints := ⟨[], [], []⟩
def F12 (a0 a1 : Value) (w : World) (Q : Value → World → Prop) : Prop :=
  effv Tryz.prog (Instr.alloc 38 true (.tuple #[])) w fun t4 w =>
  wpB (bp Tryz.prog .lss 3 a1 (.int .i64 0)) fun t6 =>
  wpB (gd t6 false (pureRun Tryz.prog (Builtin.len_ #[24] 3 #[(gv t6 false a0)]))) fun t10 =>
  wpB (gd t6 false (bp Tryz.prog .geq 3 (gv t6 false a1) t10)) fun t11 =>
  wpB (pickv t6 (some (.bool true)) (some t11)) fun t12 =>
  gE t12 false (CallR Tryz.prog 11 [(gv t12 false a0)] w) (fun t15 w =>
  wpB (gd t12 false (pureRun Tryz.prog (Op.unary .not t15))) fun t16 =>
  wpB (pickv t12 (some (.bool true)) (some t16)) fun t17 =>
  cnd t17
  (wpB (pureRun Tryz.prog (Instr.build 38 #[])) fun t18 =>
  effu Tryz.prog (Instr.storeAt 38 t4 t18) w fun w =>
  wpB (ldv Tryz.prog 38 t4 w) fun r4 => Q r4 w)
  (CallR Tryz.prog 26 [a0, a1] w fun t21 w =>
  effu Tryz.prog (Instr.storeAt 38 t4 t21) w fun w =>
  wpB (ldv Tryz.prog 38 t4 w) fun r4_1 => Q r4_1 w)) w
theorem F12_ok {a0 a1 : Value} {w : World} {Q : Value → World → Prop} (h : F12 a0 a1 w Q) : CallR Tryz.prog 12 [a0, a1] w Q :=
  af mixed ad Tryz.func12 (c := C12) rfl H12 (Nat.le_of_ble_eq_true rfl) (by kernel_rfl) h

noncomputable def C13 : Code := (Tryz.f13.body).getD .skip
noncomputable def H13 : Hints := ⟨[], [(4, [4, 5])], []⟩
noncomputable def T13_0 : List It := [.jn (nav [1, 1, 1] C13)]
def P13_0 (x4 x5 : Value) (w : World) (Q : Value → World → Prop) : Prop := Part Tryz.prog 13 T13_0 [4, 5] [x4, x5] w Q
def F13 (a0 : Value) (w : World) (Q : Value → World → Prop) : Prop :=
  effv Tryz.prog (Instr.box 23 a0) w fun t1 w =>
  wpB (ldv Tryz.prog 23 t1 w) fun t7 =>
  CallR Tryz.prog 27 [t7] w fun t8 w =>
  wpB (pureRun Tryz.prog (Instr.extract t8 0)) fun t9 =>
  wpB (pureRun Tryz.prog (Instr.extract t8 1)) fun t10 =>
  wpB (be Tryz.prog .eql 27 (.tmp 11) (.const (.int .i64 0)) t10 (.int .i64 0)) fun t12 =>
  cnd t12
  (wpB (nilv t9) fun t14 =>
  wpB (pureRun Tryz.prog (Instr.fieldAt 61 t14 1)) fun t15 =>
  effu Tryz.prog (Instr.storeAt 4 t15 (.bool true)) w fun w =>
  P13_0 t9 t10 w Q)
  (P13_0 t9 t10 w Q)
def L13_0 (x4 x5 : Value) (w : World) (Q : Value → World → Prop) : Prop :=
  Q (.tuple #[x4, x5]) w
theorem F13_ok {a0 : Value} {w : World} {Q : Value → World → Prop} (h : F13 a0 w Q) : CallR Tryz.prog 13 [a0] w Q :=
  af mixed ad Tryz.func13 (c := C13) rfl H13 (Nat.le_of_ble_eq_true rfl) (by kernel_rfl) h
theorem L13_0_ok {x4 x5 : Value} {w : World} {Q : Value → World → Prop} (h : L13_0 x4 x5 w Q) : P13_0 x4 x5 w Q :=
  ax mixed ad Tryz.func13 H13 (by kernel_rfl) h

noncomputable def C14 : Code := (Tryz.f14.body).getD .skip
noncomputable def H14 : Hints := ⟨[(4, [0, 1, 16, 17, 18])], [(10, [0, 1, 5, 6, 7, 8, 9, 16, 17, 18]), (12, [0, 1, 5, 6, 7, 16, 17, 18]), (24, [0, 1, 16, 17, 18])], [(9, (.ask 16 12 (.leaf [0, 1, 3, 5, 6, 7, 9, 2, 4, 8, 10, 11, 16, 12, 13, 14, 15, 17, 18]) (.leaf [0, 1, 2, 3, 4, 5, 6, 7, 8, 9, 10, 11, 12, 13, 14, 15, 16, 17, 18]))), (12, (.leaf [0, 1, 2, 3, 4, 5, 6, 7, 8])), (17, (.leaf [0, 1, 2, 3, 4, 5, 6, 7, 8, 9, 10, 11, 12, 13, 14])), (23, (.leaf [0, 1, 2, 3, 4, 5, 6, 7, 8, 9, 10, 11, 12, 13, 14]))]⟩
noncomputable def T14_0 : List It := [.lp (nav [1, 1, 0, 1, 4, 5] C14), .blk 0, .jn (nav [1, 1, 1] C14)]
noncomputable def T14_1 : List It := [.jn (nav [1, 1, 0, 1, 4, 5, 1, 1, 1] C14), .lp (nav [1, 1, 0, 1, 4, 5] C14), .blk 0, .jn (nav [1, 1, 1] C14)]
noncomputable def T14_2 : List It := [.jn (nav [1, 1, 0, 1, 4, 5, 1, 1, 0, 4, 1, 1, 1, 0, 1, 2, 1] C14), .jn (nav [1, 1, 0, 1, 4, 5, 1, 1, 0, 4, 1, 1, 1, 1] C14), .blk 1, .jn (nav [1, 1, 0, 1, 4, 5, 1, 1, 1] C14), .lp (nav [1, 1, 0, 1, 4, 5] C14), .blk 0, .jn (nav [1, 1, 1] C14)]
noncomputable def T14_3 : List It := [.jn (nav [1, 1, 0, 1, 4, 5, 1, 1, 0, 4, 1, 1, 1, 1] C14), .blk 1, .jn (nav [1, 1, 0, 1, 4, 5, 1, 1, 1] C14), .lp (nav [1, 1, 0, 1, 4, 5] C14), .blk 0, .jn (nav [1, 1, 1] C14)]
def P14_0 (x0 x1 x16 x17 x18 : Value) (w : World) (Q : Value → World → Prop) : Prop := Part Tryz.prog 14 T14_0 [0, 1, 16, 17, 18] [x0, x1, x16, x17, x18] w Q
def P14_1 (x0 x1 x16 x17 x18 : Value) (w : World) (Q : Value → World → Prop) : Prop := Part Tryz.prog 14 T14_1 [0, 1, 16, 17, 18] [x0, x1, x16, x17, x18] w Q
def P14_2 (x0 x1 x5 x6 x7 x8 x9 x16 x17 x18 : Value) (w : World) (Q : Value → World → Prop) : Prop := Part Tryz.prog 14 T14_2 [0, 1, 5, 6, 7, 8, 9, 16, 17, 18] [x0, x1, x5, x6, x7, x8, x9, x16, x17, x18] w Q
def P14_3 (x0 x1 x5 x6 x7 x16 x17 x18 : Value) (w : World) (Q : Value → World → Prop) : Prop := Part Tryz.prog 14 T14_3 [0, 1, 5, 6, 7, 16, 17, 18] [x0, x1, x5, x6, x7, x16, x17, x18] w Q
def F14 (a0 a1 : Value) (w : World) (Q : Value → World → Prop) : Prop :=
  CallR Tryz.prog 28 [a0] w fun t12 w =>
  cnd t12
  (Q (.bool true) w)
  (wpB (nilv a0) fun t14 =>
  wpB (pureRun Tryz.prog (Instr.fieldAt 46 t14 0)) fun t15 =>
  wpB (ldv Tryz.prog 24 t15 w) fun t16 =>
  wpB (pureRun Tryz.prog (Builtin.len_ #[24] 3 #[t16])) fun t17 =>
  P14_0 a0 a1 t16 t17 (.int .i64 0) w Q)
def L14_0 (x0 x1 x16 x17 x18 : Value) (w : World) (Q : Value → World → Prop) : Prop :=
  wpB (bp Tryz.prog .lss 3 x18 x17) fun t19 =>
  cnd t19
  (wpB (pureRun Tryz.prog (Instr.indexAt 24 x16 x18)) fun t21 =>
  wpB (ldv Tryz.prog 42 t21 w) fun t22 =>
  effv Tryz.prog (Instr.alloc 42 true (.tuple #[])) w fun t6 w =>
  effu Tryz.prog (Instr.storeAt 42 t6 t22) w fun w =>
  CallR Tryz.prog 29 [x0, x18] w fun t25 w =>
  wpB (pureRun Tryz.prog (Op.unary .not t25)) fun t26 =>
  cnd t26
  (P14_1 x0 x1 x16 x17 x18 w Q)
  (wpB (pureRun Tryz.prog (Instr.fieldAt 42 t6 7)) fun t27 =>
  wpB (ldv Tryz.prog 40 t27 w) fun t28 =>
  effv Tryz.prog (Instr.alloc 40 true (.tuple #[])) w fun t7 w =>
  effu Tryz.prog (Instr.storeAt 40 t7 t28) w fun w =>
  wpB (pureRun Tryz.prog (Instr.fieldAt 42 t6 6)) fun t29 =>
  wpB (ldv Tryz.prog 3 t29 w) fun t30 =>
  wpB (bp Tryz.prog .lss 3 t30 (.int .i64 0)) fun t31 =>
  wpB (gd t31 true (pureRun Tryz.prog (Instr.fieldAt 42 t6 4))) fun t33 =>
  wpB (gd t31 true (ldv Tryz.prog 3 t33 w)) fun t34 =>
  wpB (gd t31 true (bp Tryz.prog .lss 3 t34 (.int .i64 0))) fun t35 =>
  wpB (pickv t31 (some t35) (some (.bool false))) fun t36 =>
  cnd t36
  ((wpB (pureRun Tryz.prog (Instr.fieldAt 42 t6 0)) fun t39 =>
  wpB (pureRun Tryz.prog (Instr.fieldAt 42 t6 2)) fun t41 =>
  wpB (nilv x0) fun t44 =>
  wpB (pureRun Tryz.prog (Instr.fieldAt 46 t44 1)) fun t45 =>
  wpB (ldv Tryz.prog 3 t39 w.drew) fun t40 =>
  wpB (ldv Tryz.prog 36 t41 w.drew) fun t42 =>
  wpB (ldv Tryz.prog 44 t45 w.drew) fun t46 =>
  wpB (pureRun Tryz.prog (Instr.indexAt 44 t46 x18)) fun t48 =>
  wpB (ldv Tryz.prog 38 t48 w.drew) fun t49 =>
  effv Tryz.prog (Instr.alloc 40 true (.tuple #[])) w.drew fun t8 w =>
  CallR Tryz.prog 30 [x1, t40, t42, t49] w fun t50 w =>
  wpB (pureRun Tryz.prog (Instr.extract t50 0)) fun t51 =>
  wpB (pureRun Tryz.prog (Instr.extract t50 1)) fun t52 =>
  effu Tryz.prog (Instr.storeAt 40 t8 t51) w fun w =>
  P14_2 x0 x1 x18 t6 t7 t8 t52 x16 x17 x18 w Q) ∧
  (wpB (pureRun Tryz.prog (Instr.fieldAt 42 t6 0)) fun t39_1 =>
  wpB (ldv Tryz.prog 3 t39_1 w.drew) fun t40_1 =>
  wpB (pureRun Tryz.prog (Instr.fieldAt 42 t6 2)) fun t41_1 =>
  wpB (ldv Tryz.prog 36 t41_1 w.drew) fun t42_1 =>
  wpB (nilv x0) fun t44_1 =>
  wpB (pureRun Tryz.prog (Instr.fieldAt 46 t44_1 1)) fun t45_1 =>
  wpB (ldv Tryz.prog 44 t45_1 w.drew) fun t46_1 =>
  wpB (pureRun Tryz.prog (Instr.indexAt 44 t46_1 x18)) fun t48_1 =>
  wpB (ldv Tryz.prog 38 t48_1 w.drew) fun t49_1 =>
  CallR Tryz.prog 30 [x1, t40_1, t42_1, t49_1] w.drew fun t50_1 w =>
  wpB (pureRun Tryz.prog (Instr.extract t50_1 0)) fun t51_1 =>
  wpB (pureRun Tryz.prog (Instr.extract t50_1 1)) fun t52_1 =>
  effv Tryz.prog (Instr.alloc 40 true (.tuple #[])) w fun t8_1 w =>
  effu Tryz.prog (Instr.storeAt 40 t8_1 t51_1) w fun w =>
  P14_2 x0 x1 x18 t6 t7 t8_1 t52_1 x16 x17 x18 w Q))
  (P14_3 x0 x1 x18 t6 t7 x16 x17 x18 w Q)))
  (Q (.bool false) w)
def L14_1 (x0 x1 x16 x17 x18 : Value) (w : World) (Q : Value → World → Prop) : Prop :=
  wpB (bp Tryz.prog .add 3 x18 (.int .i64 1)) fun t123 =>
  P14_0 x0 x1 x16 x17 t123 w Q
def L14_2 (x0 x1 x5 x6 x7 x8 x9 x16 x17 x18 : Value) (w : World) (Q : Value → World → Prop) : Prop :=
  wpB (pureRun Tryz.prog (Op.unary .not x9)) fun t54 =>
  cnd t54
  (P14_1 x0 x1 x16 x17 x18 w Q)
  (wpB (ldv Tryz.prog 40 x8 w) fun t55 =>
  effu Tryz.prog (Instr.storeAt 40 x7 t55) w fun w =>
  P14_3 x0 x1 x5 x6 x7 x16 x17 x18 w Q)
def L14_3 (x0 x1 x5 x6 x7 x16 x17 x18 : Value) (w : World) (Q : Value → World → Prop) : Prop :=
  wpB (nilv x0) fun t57 =>
  wpB (pureRun Tryz.prog (Instr.fieldAt 46 t57 3)) fun t58 =>
  wpB (ldv Tryz.prog 3 t58 w.drew) fun t59 =>
  wpB (nilv x0) fun t61 =>
  wpB (pureRun Tryz.prog (Instr.fieldAt 46 t61 4)) fun t62 =>
  wpB (ldv Tryz.prog 3 t62 w.drew) fun t63 =>
  wpB (bp Tryz.prog .geq 3 t59 t63) fun t64 =>
  cnd t64
  (wpB (nilv x0) fun t66 =>
  wpB (pureRun Tryz.prog (Instr.fieldAt 46 t66 5)) fun t67 =>
  effu Tryz.prog (Instr.storeAt 4 t67 (.bool true)) w.drew fun w =>
  Q (.bool false) w)
  (wpB (nilv x0) fun t69 =>
  wpB (pureRun Tryz.prog (Instr.fieldAt 46 t69 3)) fun t70 =>
  wpB (ldv Tryz.prog 3 t70 w.drew) fun t71 =>
  wpB (bp Tryz.prog .add 3 t71 (.int .i64 1)) fun t72 =>
  wpB (nilv x0) fun t73 =>
  wpB (pureRun Tryz.prog (Instr.fieldAt 46 t73 3)) fun t74 =>
  effu Tryz.prog (Instr.storeAt 3 t74 t72) w.drew fun w =>
  CallR Tryz.prog 31 [x1] w fun t76 w =>
  wpB (pureRun Tryz.prog (Instr.fieldAt 42 x6 0)) fun t78 =>
  wpB (ldv Tryz.prog 3 t78 w.drew) fun t79 =>
  wpB (pureRun Tryz.prog (Instr.fieldAt 42 x6 2)) fun t80 =>
  wpB (ldv Tryz.prog 36 t80 w.drew) fun t81 =>
  wpB (nilv x0) fun t83 =>
  wpB (pureRun Tryz.prog (Instr.fieldAt 46 t83 1)) fun t84 =>
  wpB (ldv Tryz.prog 44 t84 w.drew) fun t85 =>
  wpB (pureRun Tryz.prog (Instr.indexAt 44 t85 x5)) fun t87 =>
  wpB (ldv Tryz.prog 38 t87 w.drew) fun t88 =>
  wpB (ldv Tryz.prog 40 x7 w.drew) fun t89 =>
  CallR Tryz.prog 32 [t76, t79, t81, t88, t89] w.drew fun t90 w =>
  wpB (pureRun Tryz.prog (Op.unary .not t90)) fun t91 =>
  cnd t91
  (P14_1 x0 x1 x16 x17 x18 w Q)
  (wpB (nilv x0) fun t94 =>
  wpB (pureRun Tryz.prog (Instr.fieldAt 46 t94 2)) fun t95 =>
  wpB (ldv Tryz.prog 26 t95 w) fun t96 =>
  effv Tryz.prog (Instr.buildSlice 26 1 #[(0, x5)]) w fun t98 w =>
  effv Tryz.prog (Builtin.append_ #[26, 26] 26 #[t96, t98]) w fun t99 w =>
  wpB (nilv x0) fun t100 =>
  wpB (pureRun Tryz.prog (Instr.fieldAt 46 t100 2)) fun t101 =>
  effu Tryz.prog (Instr.storeAt 26 t101 t99) w fun w =>
  CallR Tryz.prog 14 [x0, t76] w fun t104 w =>
  cnd t104
  (Q (.bool true) w)
  (wpB (nilv x0) fun t106 =>
  wpB (pureRun Tryz.prog (Instr.fieldAt 46 t106 5)) fun t107 =>
  wpB (ldv Tryz.prog 4 t107 w) fun t108 =>
  cnd t108
  (Q (.bool false) w)
  (wpB (nilv x0) fun t111 =>
  wpB (pureRun Tryz.prog (Instr.fieldAt 46 t111 2)) fun t112 =>
  wpB (ldv Tryz.prog 26 t112 w.drew) fun t113 =>
  wpB (nilv x0) fun t115 =>
  wpB (pureRun Tryz.prog (Instr.fieldAt 46 t115 2)) fun t116 =>
  wpB (ldv Tryz.prog 26 t116 w.drew) fun t117 =>
  wpB (pureRun Tryz.prog (Builtin.len_ #[26] 3 #[t117])) fun t118 =>
  wpB (bp Tryz.prog .sub 3 t118 (.int .i64 1)) fun t119 =>
  wpB (pureRun Tryz.prog (Instr.sliceAt 26 t113 none (some t119) none)) fun t120 =>
  wpB (nilv x0) fun t121 =>
  wpB (pureRun Tryz.prog (Instr.fieldAt 46 t121 2)) fun t122 =>
  effu Tryz.prog (Instr.storeAt 26 t122 t120) w.drew fun w =>
  P14_1 x0 x1 x16 x17 x18 w Q))))
theorem F14_ok {a0 a1 : Value} {w : World} {Q : Value → World → Prop} (h : F14 a0 a1 w Q) : CallR Tryz.prog 14 [a0, a1] w Q :=
  af mixed ad Tryz.func14 (c := C14) rfl H14 (Nat.le_of_ble_eq_true rfl) (by kernel_rfl) h
theorem L14_0_ok {x0 x1 x16 x17 x18 : Value} {w : World} {Q : Value → World → Prop} (h : L14_0 x0 x1 x16 x17 x18 w Q) : P14_0 x0 x1 x16 x17 x18 w Q :=
  aB mixed ad Tryz.func14 H14 (by kernel_rfl) h
theorem L14_1_ok {x0 x1 x16 x17 x18 : Value} {w : World} {Q : Value → World → Prop} (h : L14_1 x0 x1 x16 x17 x18 w Q) : P14_1 x0 x1 x16 x17 x18 w Q :=
  ax mixed ad Tryz.func14 H14 (by kernel_rfl) h
theorem L14_2_ok {x0 x1 x5 x6 x7 x8 x9 x16 x17 x18 : Value} {w : World} {Q : Value → World → Prop} (h : L14_2 x0 x1 x5 x6 x7 x8 x9 x16 x17 x18 w Q) : P14_2 x0 x1 x5 x6 x7 x8 x9 x16 x17 x18 w Q :=
  ax mixed ad Tryz.func14 H14 (by kernel_rfl) h
theorem L14_3_ok {x0 x1 x5 x6 x7 x16 x17 x18 : Value} {w : World} {Q : Value → World → Prop} (h : L14_3 x0 x1 x5 x6 x7 x16 x17 x18 w Q) : P14_3 x0 x1 x5 x6 x7 x16 x17 x18 w Q :=
  ax mixed ad Tryz.func14 H14 (by kernel_rfl) h

noncomputable def C15 : Code := (Tryz.f15.body).getD .skip
noncomputable def H15 : Hints := ⟨[], [], []⟩
def F15 (a0 a1 a2 : Value) (w : World) (Q : Value → World → Prop) : Prop :=
  wpB (bp Tryz.prog .geq 3 a0 a1) fun t9 =>
  wpB (gd t9 true (bp Tryz.prog .leq 3 (gv t9 true a0) (gv t9 true a2))) fun t13 =>
  wpB (pickv t9 (some t13) (some (.bool false))) fun t14 =>
  Q t14 w
theorem F15_ok {a0 a1 a2 : Value} {w : World} {Q : Value → World → Prop} (h : F15 a0 a1 a2 w Q) : CallR Tryz.prog 15 [a0, a1, a2] w Q :=
  af mixed ad Tryz.func15 (c := C15) rfl H15 (Nat.le_of_ble_eq_true rfl) (by kernel_rfl) h

noncomputable def C16 : Code := (Tryz.f16.body).getD .skip
noncomputable def H16 : Hints := ⟨[], [], []⟩
def F16 (a0 : Value) (w : World) (Q : Value → World → Prop) : Prop :=
  effv Tryz.prog (Instr.box 42 a0) w fun t1 w =>
  wpB (pureRun Tryz.prog (Instr.fieldAt 42 t1 0)) fun t3 =>
  wpB (ldv Tryz.prog 3 t3 w) fun t4 =>
  wpB (bp Tryz.prog .lss 3 t4 (.int .i64 0)) fun t5 =>
  wpB (gd t5 false (pureRun Tryz.prog (Instr.fieldAt 42 t1 0))) fun t7 =>
  wpB (gd t5 false (ldv Tryz.prog 3 t7 w)) fun t8 =>
  wpB (gd t5 false (bp Tryz.prog .geq 3 t8 (.int .i64 64))) fun t9 =>
  wpB (pickv t5 (some (.bool true)) (some t9)) fun t10 =>
  wpB (gd t10 false (pureRun Tryz.prog (Instr.fieldAt 42 t1 3))) fun t12 =>
  wpB (gd t10 false (ldv Tryz.prog 3 t12 w)) fun t13 =>
  wpB (gd t10 false (bp Tryz.prog .lss 3 t13 (.int .i64 0))) fun t14 =>
  wpB (pickv t10 (some (.bool true)) (some t14)) fun t15 =>
  wpB (gd t15 false (pureRun Tryz.prog (Instr.fieldAt 42 t1 4))) fun t17 =>
  wpB (gd t15 false (ldv Tryz.prog 3 t17 w)) fun t18 =>
  wpB (gd t15 false (be Tryz.prog .neq 3 (.tmp 18) (.const (.int .i64 (-1))) t18 (.int .i64 (-1)))) fun t19 =>
  wpB (gd (gv t15 false t19) true (pureRun Tryz.prog (Instr.fieldAt 42 t1 4))) fun t21 =>
  wpB (gd (gv t15 false t19) true (ldv Tryz.prog 3 t21 w)) fun t22 =>
  wpB (gd (gv t15 false t19) true (pureRun Tryz.prog (Instr.fieldAt 42 t1 3))) fun t23 =>
  wpB (gd (gv t15 false t19) true (ldv Tryz.prog 3 t23 w)) fun t24 =>
  wpB (gd (gv t15 false t19) true (bp Tryz.prog .lss 3 t22 t24)) fun t25 =>
  wpB (gd t15 false (pickv (gv t15 false t19) (some t25) (some (.bool false)))) fun t26 =>
  wpB (pickv t15 (some (.bool true)) (some t26)) fun t27 =>
  cnd t27
  (Q (.bool false) w)
  (wpB (pureRun Tryz.prog (Instr.fieldAt 42 t1 5)) fun t28 =>
  wpB (ldv Tryz.prog 3 t28 w) fun t29 =>
  wpB (be Tryz.prog .neq 3 (.tmp 29) (.const (.int .i64 (-1))) t29 (.int .i64 (-1))) fun t30 =>
  wpB (gd t30 true (pureRun Tryz.prog (Instr.fieldAt 42 t1 4))) fun t32 =>
  wpB (gd t30 true (ldv Tryz.prog 3 t32 w)) fun t33 =>
  wpB (gd t30 true (bp Tryz.prog .lss 3 t33 (.int .i64 0))) fun t34 =>
  wpB (gd (gv t30 true t34) false (pureRun Tryz.prog (Instr.fieldAt 42 t1 5))) fun t36 =>
  wpB (gd (gv t30 true t34) false (ldv Tryz.prog 3 t36 w)) fun t37 =>
  wpB (gd (gv t30 true t34) false (pureRun Tryz.prog (Instr.fieldAt 42 t1 4))) fun t38 =>
  wpB (gd (gv t30 true t34) false (ldv Tryz.prog 3 t38 w)) fun t39 =>
  wpB (gd (gv t30 true t34) false (bp Tryz.prog .leq 3 t37 t39)) fun t40 =>
  wpB (gd t30 true (pickv (gv t30 true t34) (some (.bool true)) (some t40))) fun t41 =>
  wpB (pickv t30 (some t41) (some (.bool false))) fun t42 =>
  cnd t42
  (Q (.bool false) w)
  (wpB (pureRun Tryz.prog (Instr.fieldAt 42 t1 6)) fun t43 =>
  wpB (ldv Tryz.prog 3 t43 w) fun t44 =>
  wpB (be Tryz.prog .eql 3 (.tmp 44) (.const (.int .i64 (-1))) t44 (.int .i64 (-1))) fun t45 =>
  wpB (gd t45 false (pureRun Tryz.prog (Instr.fieldAt 42 t1 4))) fun t47 =>
  wpB (gd t45 false (ldv Tryz.prog 3 t47 w)) fun t48 =>
  wpB (gd t45 false (bp Tryz.prog .geq 3 t48 (.int .i64 0))) fun t49 =>
  wpB (gd (gv t45 false t49) true (pureRun Tryz.prog (Instr.fieldAt 42 t1 6))) fun t51 =>
  wpB (gd (gv t45 false t49) true (ldv Tryz.prog 3 t51 w)) fun t52 =>
  wpB (gd (gv t45 false t49) true (pureRun Tryz.prog (Instr.fieldAt 42 t1 4))) fun t53 =>
  wpB (gd (gv t45 false t49) true (ldv Tryz.prog 3 t53 w)) fun t54 =>
  wpB (gd (gv t45 false t49) true (bp Tryz.prog .geq 3 t52 t54)) fun t55 =>
  wpB (gd t45 false (pickv (gv t45 false t49) (some t55) (some (.bool false)))) fun t56 =>
  wpB (gd (gv t45 false t56) true (pureRun Tryz.prog (Instr.fieldAt 42 t1 6))) fun t58 =>
  wpB (gd (gv t45 false t56) true (ldv Tryz.prog 3 t58 w)) fun t59 =>
  wpB (gd (gv t45 false t56) true (pureRun Tryz.prog (Instr.fieldAt 42 t1 5))) fun t60 =>
  wpB (gd (gv t45 false t56) true (ldv Tryz.prog 3 t60 w)) fun t61 =>
  wpB (gd (gv t45 false t56) true (bp Tryz.prog .geq 3 t59 t61)) fun t62 =>
  wpB (gd t45 false (pickv (gv t45 false t56) (some t62) (some (.bool false)))) fun t63 =>
  wpB (pickv t45 (some (.bool true)) (some t63)) fun t64 =>
  Q t64 w))
theorem F16_ok {a0 : Value} {w : World} {Q : Value → World → Prop} (h : F16 a0 w Q) : CallR Tryz.prog 16 [a0] w Q :=
  af mixed ad Tryz.func16 (c := C16) rfl H16 (Nat.le_of_ble_eq_true rfl) (by kernel_rfl) h

noncomputable def C17 : Code := (Tryz.f17.body).getD .skip
noncomputable def H17 : Hints := ⟨[(3, [5, 6, 7]), (6, [5, 6, 7, 8])], [(2, [5, 6])], [(1, (.ask 2 1 (.ask 4 5 (.ask 4 1 (.ask 5 1 (.leaf [0, 2, 4, 5, 1, 3, 6, 7]) (.ask 5 3 (.leaf [0, 2, 4, 1, 5, 3, 6, 7]) (.leaf [0, 2, 4, 1, 3, 5, 6, 7]))) (.ask 4 3 (.ask 5 3 (.leaf [0, 2, 1, 4, 5, 3, 6, 7]) (.leaf [0, 2, 1, 4, 3, 5, 6, 7])) (.leaf [0, 2, 1, 3, 4, 5, 6, 7]))) (.ask 5 1 (.ask 4 1 (.leaf [0, 2, 5, 4, 1, 3, 6, 7]) (.ask 4 3 (.leaf [0, 2, 5, 1, 4, 3, 6, 7]) (.leaf [0, 2, 5, 1, 3, 4, 6, 7]))) (.ask 5 3 (.ask 4 3 (.leaf [0, 2, 1, 5, 4, 3, 6, 7]) (.leaf [0, 2, 1, 5, 3, 4, 6, 7])) (.leaf [0, 2, 1, 3, 5, 4, 6, 7])))) (.ask 4 5 (.ask 4 1 (.ask 5 1 (.leaf [0, 4, 5, 1, 2, 3, 6, 7]) (.ask 5 3 (.leaf [0, 4, 1, 2, 5, 3, 6, 7]) (.leaf [0, 4, 1, 2, 3, 5, 6, 7]))) (.ask 4 3 (.ask 5 3 (.leaf [0, 1, 2, 4, 5, 3, 6, 7]) (.leaf [0, 1, 2, 4, 3, 5, 6, 7])) (.leaf [0, 1, 2, 3, 4, 5, 6, 7]))) (.ask 5 1 (.ask 4 1 (.leaf [0, 5, 4, 1, 2, 3, 6, 7]) (.ask 4 3 (.leaf [0, 5, 1, 2, 4, 3, 6, 7]) (.leaf [0, 5, 1, 2, 3, 4, 6, 7]))) (.ask 5 3 (.ask 4 3 (.leaf [0, 1, 2, 5, 4, 3, 6, 7]) (.leaf [0, 1, 2, 5, 3, 4, 6, 7])) (.leaf [0, 1, 2, 3, 5, 4, 6, 7])))))), (8, (.leaf [0, 1, 2, 3, 4, 5, 6, 7, 8, 9, 10, 11, 12]))]⟩
noncomputable def T17_0 : List It := [.jn (nav [1, 1] C17)]
noncomputable def T17_1 : List It := [.lp (nav [1, 1, 0, 1, 4, 5] C17), .blk 0, .jn (nav [1, 1, 1] C17)]
noncomputable def T17_2 : List It := [.lp (nav [1, 1, 0, 1, 4, 5, 1, 0, 4, 1, 4, 5] C17), .blk 2, .blk 1, .jn (nav [1, 1, 0, 1, 4, 5, 1, 1] C17), .lp (nav [1, 1, 0, 1, 4, 5] C17), .blk 0, .jn (nav [1, 1, 1] C17)]
def P17_0 (x5 x6 : Value) (w : World) (Q : Value → World → Prop) : Prop := Part Tryz.prog 17 T17_0 [5, 6] [x5, x6] w Q
def P17_1 (x5 x6 x7 : Value) (w : World) (Q : Value → World → Prop) : Prop := Part Tryz.prog 17 T17_1 [5, 6, 7] [x5, x6, x7] w Q
def P17_2 (x5 x6 x7 x8 : Value) (w : World) (Q : Value → World → Prop) : Prop := Part Tryz.prog 17 T17_2 [5, 6, 7, 8] [x5, x6, x7, x8] w Q
def F17 (a0 a1 : Value) (w : World) (Q : Value → World → Prop) : Prop :=
  effv Tryz.prog (Instr.box 42 a0) w fun t2 w =>
  effv Tryz.prog (Instr.box 42 a1) w fun t3 w =>
  ((((wpB (ldv Tryz.prog 42 t2 w.drew) fun t9 =>
  wpB (ldv Tryz.prog 42 t3 w.drew) fun t11 =>
  effv Tryz.prog (Instr.alloc 67 true (.tuple #[])) w.drew fun t5 w =>
  effv Tryz.prog (Instr.alloc 67 true (.tuple #[])) w fun t6 w =>
  CallR Tryz.prog 33 [t9] w fun t10 w =>
  CallR Tryz.prog 33 [t11] w fun t12 w =>
  effu Tryz.prog (Instr.storeAt 67 t5 t10) w fun w =>
  effu Tryz.prog (Instr.storeAt 67 t6 t12) w fun w =>
  P17_0 t5 t6 w Q) ∧
  ((wpB (ldv Tryz.prog 42 t2 w.drew) fun t9_1 =>
  wpB (ldv Tryz.prog 42 t3 w.drew) fun t11_1 =>
  effv Tryz.prog (Instr.alloc 67 true (.tuple #[])) w.drew fun t5_1 w =>
  CallR Tryz.prog 33 [t9_1] w fun t10_1 w =>
  effv Tryz.prog (Instr.alloc 67 true (.tuple #[])) w fun t6_1 w =>
  CallR Tryz.prog 33 [t11_1] w fun t12_1 w =>
  effu Tryz.prog (Instr.storeAt 67 t5_1 t10_1) w fun w =>
  effu Tryz.prog (Instr.storeAt 67 t6_1 t12_1) w fun w =>
  P17_0 t5_1 t6_1 w Q) ∧
  (wpB (ldv Tryz.prog 42 t2 w.drew) fun t9_2 =>
  wpB (ldv Tryz.prog 42 t3 w.drew) fun t11_2 =>
  effv Tryz.prog (Instr.alloc 67 true (.tuple #[])) w.drew fun t5_2 w =>
  CallR Tryz.prog 33 [t9_2] w fun t10_2 w =>
  CallR Tryz.prog 33 [t11_2] w fun t12_2 w =>
  effv Tryz.prog (Instr.alloc 67 true (.tuple #[])) w fun t6_2 w =>
  effu Tryz.prog (Instr.storeAt 67 t5_2 t10_2) w fun w =>
  effu Tryz.prog (Instr.storeAt 67 t6_2 t12_2) w fun w =>
  P17_0 t5_2 t6_2 w Q))) ∧
  (((wpB (ldv Tryz.prog 42 t2 w.drew) fun t9_3 =>
  wpB (ldv Tryz.prog 42 t3 w.drew) fun t11_3 =>
  CallR Tryz.prog 33 [t9_3] w.drew fun t10_3 w =>
  effv Tryz.prog (Instr.alloc 67 true (.tuple #[])) w fun t5_3 w =>
  effv Tryz.prog (Instr.alloc 67 true (.tuple #[])) w fun t6_3 w =>
  CallR Tryz.prog 33 [t11_3] w fun t12_3 w =>
  effu Tryz.prog (Instr.storeAt 67 t5_3 t10_3) w fun w =>
  effu Tryz.prog (Instr.storeAt 67 t6_3 t12_3) w fun w =>
  P17_0 t5_3 t6_3 w Q) ∧
  (wpB (ldv Tryz.prog 42 t2 w.drew) fun t9_4 =>
  wpB (ldv Tryz.prog 42 t3 w.drew) fun t11_4 =>
  CallR Tryz.prog 33 [t9_4] w.drew fun t10_4 w =>
  effv Tryz.prog (Instr.alloc 67 true (.tuple #[])) w fun t5_4 w =>
  CallR Tryz.prog 33 [t11_4] w fun t12_4 w =>
  effv Tryz.prog (Instr.alloc 67 true (.tuple #[])) w fun t6_4 w =>
  effu Tryz.prog (Instr.storeAt 67 t5_4 t10_4) w fun w =>
  effu Tryz.prog (Instr.storeAt 67 t6_4 t12_4) w fun w =>
  P17_0 t5_4 t6_4 w Q)) ∧
  (wpB (ldv Tryz.prog 42 t2 w.drew) fun t9_5 =>
  wpB (ldv Tryz.prog 42 t3 w.drew) fun t11_5 =>
  CallR Tryz.prog 33 [t9_5] w.drew fun t10_5 w =>
  CallR Tryz.prog 33 [t11_5] w fun t12_5 w =>
  effv Tryz.prog (Instr.alloc 67 true (.tuple #[])) w fun t5_5 w =>
  effv Tryz.prog (Instr.alloc 67 true (.tuple #[])) w fun t6_5 w =>
  effu Tryz.prog (Instr.storeAt 67 t5_5 t10_5) w fun w =>
  effu Tryz.prog (Instr.storeAt 67 t6_5 t12_5) w fun w =>
  P17_0 t5_5 t6_5 w Q))) ∧
  (((wpB (ldv Tryz.prog 42 t2 w.drew) fun t9_6 =>
  wpB (ldv Tryz.prog 42 t3 w.drew) fun t11_6 =>
  effv Tryz.prog (Instr.alloc 67 true (.tuple #[])) w.drew fun t6_6 w =>
  effv Tryz.prog (Instr.alloc 67 true (.tuple #[])) w fun t5_6 w =>
  CallR Tryz.prog 33 [t9_6] w fun t10_6 w =>
  CallR Tryz.prog 33 [t11_6] w fun t12_6 w =>
  effu Tryz.prog (Instr.storeAt 67 t5_6 t10_6) w fun w =>
  effu Tryz.prog (Instr.storeAt 67 t6_6 t12_6) w fun w =>
  P17_0 t5_6 t6_6 w Q) ∧
  ((wpB (ldv Tryz.prog 42 t2 w.drew) fun t9_7 =>
  wpB (ldv Tryz.prog 42 t3 w.drew) fun t11_7 =>
  effv Tryz.prog (Instr.alloc 67 true (.tuple #[])) w.drew fun t6_7 w =>
  CallR Tryz.prog 33 [t9_7] w fun t10_7 w =>
  effv Tryz.prog (Instr.alloc 67 true (.tuple #[])) w fun t5_7 w =>
  CallR Tryz.prog 33 [t11_7] w fun t12_7 w =>
  effu Tryz.prog (Instr.storeAt 67 t5_7 t10_7) w fun w =>
  effu Tryz.prog (Instr.storeAt 67 t6_7 t12_7) w fun w =>
  P17_0 t5_7 t6_7 w Q) ∧
  (wpB (ldv Tryz.prog 42 t2 w.drew) fun t9_8 =>
  wpB (ldv Tryz.prog 42 t3 w.drew) fun t11_8 =>
  effv Tryz.prog (Instr.alloc 67 true (.tuple #[])) w.drew fun t6_8 w =>
  CallR Tryz.prog 33 [t9_8] w fun t10_8 w =>
  CallR Tryz.prog 33 [t11_8] w fun t12_8 w =>
  effv Tryz.prog (Instr.alloc 67 true (.tuple #[])) w fun t5_8 w =>
  effu Tryz.prog (Instr.storeAt 67 t5_8 t10_8) w fun w =>
  effu Tryz.prog (Instr.storeAt 67 t6_8 t12_8) w fun w =>
  P17_0 t5_8 t6_8 w Q))) ∧
  (((wpB (ldv Tryz.prog 42 t2 w.drew) fun t9_9 =>
  wpB (ldv Tryz.prog 42 t3 w.drew) fun t11_9 =>
  CallR Tryz.prog 33 [t9_9] w.drew fun t10_9 w =>
  effv Tryz.prog (Instr.alloc 67 true (.tuple #[])) w fun t6_9 w =>
  effv Tryz.prog (Instr.alloc 67 true (.tuple #[])) w fun t5_9 w =>
  CallR Tryz.prog 33 [t11_9] w fun t12_9 w =>
  effu Tryz.prog (Instr.storeAt 67 t5_9 t10_9) w fun w =>
  effu Tryz.prog (Instr.storeAt 67 t6_9 t12_9) w fun w =>
  P17_0 t5_9 t6_9 w Q) ∧
  (wpB (ldv Tryz.prog 42 t2 w.drew) fun t9_10 =>
  wpB (ldv Tryz.prog 42 t3 w.drew) fun t11_10 =>
  CallR Tryz.prog 33 [t9_10] w.drew fun t10_10 w =>
  effv Tryz.prog (Instr.alloc 67 true (.tuple #[])) w fun t6_10 w =>
  CallR Tryz.prog 33 [t11_10] w fun t12_10 w =>
  effv Tryz.prog (Instr.alloc 67 true (.tuple #[])) w fun t5_10 w =>
  effu Tryz.prog (Instr.storeAt 67 t5_10 t10_10) w fun w =>
  effu Tryz.prog (Instr.storeAt 67 t6_10 t12_10) w fun w =>
  P17_0 t5_10 t6_10 w Q)) ∧
  (wpB (ldv Tryz.prog 42 t2 w.drew) fun t9_11 =>
  wpB (ldv Tryz.prog 42 t3 w.drew) fun t11_11 =>
  CallR Tryz.prog 33 [t9_11] w.drew fun t10_11 w =>
  CallR Tryz.prog 33 [t11_11] w fun t12_11 w =>
  effv Tryz.prog (Instr.alloc 67 true (.tuple #[])) w fun t6_11 w =>
  effv Tryz.prog (Instr.alloc 67 true (.tuple #[])) w fun t5_11 w =>
  effu Tryz.prog (Instr.storeAt 67 t5_11 t10_11) w fun w =>
  effu Tryz.prog (Instr.storeAt 67 t6_11 t12_11) w fun w =>
  P17_0 t5_11 t6_11 w Q)))) ∧
  ((((wpB (ldv Tryz.prog 42 t2 w.drew) fun t9_12 =>
  effv Tryz.prog (Instr.alloc 67 true (.tuple #[])) w.drew fun t5_12 w =>
  effv Tryz.prog (Instr.alloc 67 true (.tuple #[])) w fun t6_12 w =>
  CallR Tryz.prog 33 [t9_12] w fun t10_12 w =>
  wpB (ldv Tryz.prog 42 t3 w) fun t11_12 =>
  CallR Tryz.prog 33 [t11_12] w fun t12_12 w =>
  effu Tryz.prog (Instr.storeAt 67 t5_12 t10_12) w fun w =>
  effu Tryz.prog (Instr.storeAt 67 t6_12 t12_12) w fun w =>
  P17_0 t5_12 t6_12 w Q) ∧
  ((wpB (ldv Tryz.prog 42 t2 w.drew) fun t9_13 =>
  effv Tryz.prog (Instr.alloc 67 true (.tuple #[])) w.drew fun t5_13 w =>
  CallR Tryz.prog 33 [t9_13] w fun t10_13 w =>
  wpB (ldv Tryz.prog 42 t3 w) fun t11_13 =>
  effv Tryz.prog (Instr.alloc 67 true (.tuple #[])) w fun t6_13 w =>
  CallR Tryz.prog 33 [t11_13] w fun t12_13 w =>
  effu Tryz.prog (Instr.storeAt 67 t5_13 t10_13) w fun w =>
  effu Tryz.prog (Instr.storeAt 67 t6_13 t12_13) w fun w =>
  P17_0 t5_13 t6_13 w Q) ∧
  (wpB (ldv Tryz.prog 42 t2 w.drew) fun t9_14 =>
  effv Tryz.prog (Instr.alloc 67 true (.tuple #[])) w.drew fun t5_14 w =>
  CallR Tryz.prog 33 [t9_14] w fun t10_14 w =>
  wpB (ldv Tryz.prog 42 t3 w) fun t11_14 =>
  CallR Tryz.prog 33 [t11_14] w fun t12_14 w =>
  effv Tryz.prog (Instr.alloc 67 true (.tuple #[])) w fun t6_14 w =>
  effu Tryz.prog (Instr.storeAt 67 t5_14 t10_14) w fun w =>
  effu Tryz.prog (Instr.storeAt 67 t6_14 t12_14) w fun w =>
  P17_0 t5_14 t6_14 w Q))) ∧
  (((wpB (ldv Tryz.prog 42 t2 w.drew) fun t9_15 =>
  CallR Tryz.prog 33 [t9_15] w.drew fun t10_15 w =>
  wpB (ldv Tryz.prog 42 t3 w) fun t11_15 =>
  effv Tryz.prog (Instr.alloc 67 true (.tuple #[])) w fun t5_15 w =>
  effv Tryz.prog (Instr.alloc 67 true (.tuple #[])) w fun t6_15 w =>
  CallR Tryz.prog 33 [t11_15] w fun t12_15 w =>
  effu Tryz.prog (Instr.storeAt 67 t5_15 t10_15) w fun w =>
  effu Tryz.prog (Instr.storeAt 67 t6_15 t12_15) w fun w =>
  P17_0 t5_15 t6_15 w Q) ∧
  (wpB (ldv Tryz.prog 42 t2 w.drew) fun t9_16 =>
  CallR Tryz.prog 33 [t9_16] w.drew fun t10_16 w =>
  wpB (ldv Tryz.prog 42 t3 w) fun t11_16 =>
  effv Tryz.prog (Instr.alloc 67 true (.tuple #[])) w fun t5_16 w =>
  CallR Tryz.prog 33 [t11_16] w fun t12_16 w =>
  effv Tryz.prog (Instr.alloc 67 true (.tuple #[])) w fun t6_16 w =>
  effu Tryz.prog (Instr.storeAt 67 t5_16 t10_16) w fun w =>
  effu Tryz.prog (Instr.storeAt 67 t6_16 t12_16) w fun w =>
  P17_0 t5_16 t6_16 w Q)) ∧
  (wpB (ldv Tryz.prog 42 t2 w.drew) fun t9_17 =>
  CallR Tryz.prog 33 [t9_17] w.drew fun t10_17 w =>
  wpB (ldv Tryz.prog 42 t3 w) fun t11_17 =>
  CallR Tryz.prog 33 [t11_17] w fun t12_17 w =>
  effv Tryz.prog (Instr.alloc 67 true (.tuple #[])) w fun t5_17 w =>
  effv Tryz.prog (Instr.alloc 67 true (.tuple #[])) w fun t6_17 w =>
  effu Tryz.prog (Instr.storeAt 67 t5_17 t10_17) w fun w =>
  effu Tryz.prog (Instr.storeAt 67 t6_17 t12_17) w fun w =>
  P17_0 t5_17 t6_17 w Q))) ∧
  (((wpB (ldv Tryz.prog 42 t2 w.drew) fun t9_18 =>
  effv Tryz.prog (Instr.alloc 67 true (.tuple #[])) w.drew fun t6_18 w =>
  effv Tryz.prog (Instr.alloc 67 true (.tuple #[])) w fun t5_18 w =>
  CallR Tryz.prog 33 [t9_18] w fun t10_18 w =>
  wpB (ldv Tryz.prog 42 t3 w) fun t11_18 =>
  CallR Tryz.prog 33 [t11_18] w fun t12_18 w =>
  effu Tryz.prog (Instr.storeAt 67 t5_18 t10_18) w fun w =>
  effu Tryz.prog (Instr.storeAt 67 t6_18 t12_18) w fun w =>
  P17_0 t5_18 t6_18 w Q) ∧
  ((wpB (ldv Tryz.prog 42 t2 w.drew) fun t9_19 =>
  effv Tryz.prog (Instr.alloc 67 true (.tuple #[])) w.drew fun t6_19 w =>
  CallR Tryz.prog 33 [t9_19] w fun t10_19 w =>
  wpB (ldv Tryz.prog 42 t3 w) fun t11_19 =>
  effv Tryz.prog (Instr.alloc 67 true (.tuple #[])) w fun t5_19 w =>
  CallR Tryz.prog 33 [t11_19] w fun t12_19 w =>
  effu Tryz.prog (Instr.storeAt 67 t5_19 t10_19) w fun w =>
  effu Tryz.prog (Instr.storeAt 67 t6_19 t12_19) w fun w =>
  P17_0 t5_19 t6_19 w Q) ∧
  (wpB (ldv Tryz.prog 42 t2 w.drew) fun t9_20 =>
  effv Tryz.prog (Instr.alloc 67 true (.tuple #[])) w.drew fun t6_20 w =>
  CallR Tryz.prog 33 [t9_20] w fun t10_20 w =>
  wpB (ldv Tryz.prog 42 t3 w) fun t11_20 =>
  CallR Tryz.prog 33 [t11_20] w fun t12_20 w =>
  effv Tryz.prog (Instr.alloc 67 true (.tuple #[])) w fun t5_20 w =>
  effu Tryz.prog (Instr.storeAt 67 t5_20 t10_20) w fun w =>
  effu Tryz.prog (Instr.storeAt 67 t6_20 t12_20) w fun w =>
  P17_0 t5_20 t6_20 w Q))) ∧
  (((wpB (ldv Tryz.prog 42 t2 w.drew) fun t9_21 =>
  CallR Tryz.prog 33 [t9_21] w.drew fun t10_21 w =>
  wpB (ldv Tryz.prog 42 t3 w) fun t11_21 =>
  effv Tryz.prog (Instr.alloc 67 true (.tuple #[])) w fun t6_21 w =>
  effv Tryz.prog (Instr.alloc 67 true (.tuple #[])) w fun t5_21 w =>
  CallR Tryz.prog 33 [t11_21] w fun t12_21 w =>
  effu Tryz.prog (Instr.storeAt 67 t5_21 t10_21) w fun w =>
  effu Tryz.prog (Instr.storeAt 67 t6_21 t12_21) w fun w =>
  P17_0 t5_21 t6_21 w Q) ∧
  (wpB (ldv Tryz.prog 42 t2 w.drew) fun t9_22 =>
  CallR Tryz.prog 33 [t9_22] w.drew fun t10_22 w =>
  wpB (ldv Tryz.prog 42 t3 w) fun t11_22 =>
  effv Tryz.prog (Instr.alloc 67 true (.tuple #[])) w fun t6_22 w =>
  CallR Tryz.prog 33 [t11_22] w fun t12_22 w =>
  effv Tryz.prog (Instr.alloc 67 true (.tuple #[])) w fun t5_22 w =>
  effu Tryz.prog (Instr.storeAt 67 t5_22 t10_22) w fun w =>
  effu Tryz.prog (Instr.storeAt 67 t6_22 t12_22) w fun w =>
  P17_0 t5_22 t6_22 w Q)) ∧
  (wpB (ldv Tryz.prog 42 t2 w.drew) fun t9_23 =>
  CallR Tryz.prog 33 [t9_23] w.drew fun t10_23 w =>
  wpB (ldv Tryz.prog 42 t3 w) fun t11_23 =>
  CallR Tryz.prog 33 [t11_23] w fun t12_23 w =>
  effv Tryz.prog (Instr.alloc 67 true (.tuple #[])) w fun t6_23 w =>
  effv Tryz.prog (Instr.alloc 67 true (.tuple #[])) w fun t5_23 w =>
  effu Tryz.prog (Instr.storeAt 67 t5_23 t10_23) w fun w =>
  effu Tryz.prog (Instr.storeAt 67 t6_23 t12_23) w fun w =>
  P17_0 t5_23 t6_23 w Q))))
def L17_0 (x5 x6 : Value) (w : World) (Q : Value → World → Prop) : Prop :=
  P17_1 x5 x6 (.int .i64 0) w Q
def L17_1 (x5 x6 x7 : Value) (w : World) (Q : Value → World → Prop) : Prop :=
  wpB (bp Tryz.prog .lss 3 x7 (.int .i64 4)) fun t14 =>
  cnd t14
  (P17_2 x5 x6 x7 (.int .i64 0) w Q)
  (Q (.bool false) w)
def L17_2 (x5 x6 x7 x8 : Value) (w : World) (Q : Value → World → Prop) : Prop :=
  wpB (bp Tryz.prog .lss 3 x8 (.int .i64 4)) fun t18 =>
  cnd t18
  (wpB (pureRun Tryz.prog (Instr.indexAt 67 x5 x7)) fun t22 =>
  wpB (ldv Tryz.prog 3 t22 w.drew) fun t23 =>
  wpB (bp Tryz.prog .geq 3 t23 (.int .i64 0)) fun t24 =>
  wpB (gd t24 true (pureRun Tryz.prog (Instr.indexAt 67 x5 (gv t24 true x7)))) fun t27 =>
  wpB (gd t24 true (ldv Tryz.prog 3 t27 w.drew)) fun t28 =>
  wpB (gd t24 true (pureRun Tryz.prog (Instr.indexAt 67 x6 (gv t24 true x8)))) fun t30 =>
  wpB (gd t24 true (ldv Tryz.prog 3 t30 w.drew)) fun t31 =>
  wpB (gd t24 true (be Tryz.prog .eql 3 (.tmp 28) (.tmp 31) t28 t31)) fun t32 =>
  wpB (pickv t24 (some t32) (some (.bool false))) fun t33 =>
  cnd t33
  (Q (.bool true) w.drew)
  (wpB (bp Tryz.prog .add 3 x8 (.int .i64 1)) fun t20 =>
  P17_2 x5 x6 x7 t20 w.drew Q))
  (wpB (bp Tryz.prog .add 3 x7 (.int .i64 1)) fun t16 =>
  P17_1 x5 x6 t16 w Q)
theorem F17_ok {a0 a1 : Value} {w : World} {Q : Value → World → Prop} (h : F17 a0 a1 w Q) : CallR Tryz.prog 17 [a0, a1] w Q :=
  af mixed ad Tryz.func17 (c := C17) rfl H17 (Nat.le_of_ble_eq_true rfl) (by kernel_rfl) h
theorem L17_0_ok {x5 x6 : Value} {w : World} {Q : Value → World → Prop} (h : L17_0 x5 x6 w Q) : P17_0 x5 x6 w Q :=
  ax mixed ad Tryz.func17 H17 (by kernel_rfl) h
theorem L17_1_ok {x5 x6 x7 : Value} {w : World} {Q : Value → World → Prop} (h : L17_1 x5 x6 x7 w Q) : P17_1 x5 x6 x7 w Q :=
  aB mixed ad Tryz.func17 H17 (by kernel_rfl) h
theorem L17_2_ok {x5 x6 x7 x8 : Value} {w : World} {Q : Value → World → Prop} (h : L17_2 x5 x6 x7 x8 w Q) : P17_2 x5 x6 x7 x8 w Q :=
  aB mixed ad Tryz.func17 H17 (by kernel_rfl) h

noncomputable def C18 : Code := (Tryz.f18.body).getD .skip
noncomputable def H18 : Hints := ⟨[], [], []⟩
def F18 (a0 a1 : Value) (w : World) (Q : Value → World → Prop) : Prop :=
  effv Tryz.prog (Instr.box 42 a0) w fun t2 w =>
  effv Tryz.prog (Instr.box 42 a1) w fun t3 w =>
  wpB (pureRun Tryz.prog (Instr.fieldAt 42 t2 6)) fun t5 =>
  wpB (ldv Tryz.prog 3 t5 w) fun t6 =>
  wpB (bp Tryz.prog .geq 3 t6 (.int .i64 0)) fun t7 =>
  wpB (gd t7 true (pureRun Tryz.prog (Instr.fieldAt 42 t2 6))) fun t9 =>
  wpB (gd t7 true (ldv Tryz.prog 3 t9 w)) fun t10 =>
  wpB (gd t7 true (pureRun Tryz.prog (Instr.fieldAt 42 t3 3))) fun t11 =>
  wpB (gd t7 true (ldv Tryz.prog 3 t11 w)) fun t12 =>
  wpB (gd t7 true (bp Tryz.prog .lss 3 t10 t12)) fun t13 =>
  wpB (pickv t7 (some t13) (some (.bool false))) fun t14 =>
  Q t14 w
theorem F18_ok {a0 a1 : Value} {w : World} {Q : Value → World → Prop} (h : F18 a0 a1 w Q) : CallR Tryz.prog 18 [a0, a1] w Q :=
  af mixed ad Tryz.func18 (c := C18) rfl H18 (Nat.le_of_ble_eq_true rfl) (by kernel_rfl) h

noncomputable def C19 : Code := (Tryz.f19.body).getD .skip
noncomputable def H19 : Hints := ⟨[], [], []⟩
def F19 (a0 a1 a2 : Value) (w : World) (Q : Value → World → Prop) : Prop :=
  effv Tryz.prog (Instr.box 23 a0) w fun t3 w =>
  wpB (ldv Tryz.prog 23 t3 w) fun t11 =>
  CallR Tryz.prog 6 [t11] w fun t12 w =>
  wpB (pureRun Tryz.prog (Op.unary .not t12)) fun t13 =>
  gE t13 false (CallR Tryz.prog 7 [(gv t13 false a1)] w) (fun t16 w =>
  wpB (gd t13 false (pureRun Tryz.prog (Op.unary .not t16))) fun t17 =>
  wpB (pickv t13 (some (.bool true)) (some t17)) fun t18 =>
  wpB (gd t18 false (pureRun Tryz.prog (Builtin.len_ #[24] 3 #[(gv t18 false a1)]))) fun t21 =>
  wpB (gd t18 false (bp Tryz.prog .gtr 3 t21 (.int .i64 12))) fun t22 =>
  wpB (pickv t18 (some (.bool true)) (some t22)) fun t23 =>
  cnd t23
  (Q (.tuple #[(.slice none 0 0), (.int .i64 1)]) w)
  (wpB (pureRun Tryz.prog (Builtin.max_ #[3, 3] 3 #[a2, (.int .i64 0)])) fun t26 =>
  wpB (pureRun Tryz.prog (Instr.build 71 #[(0, a1), (1, t26)])) fun t27 =>
  effv Tryz.prog (Instr.box 71 t27) w fun t28 w =>
  wpB (ldv Tryz.prog 23 t3 w) fun t31 =>
  CallR Tryz.prog 35 [t31, (.bool true)] w fun t32 w =>
  CallR Tryz.prog 34 [t28, t32, (.slice none 0 0)] w fun t33 w =>
  wpB (pureRun Tryz.prog (Instr.extract t33 0)) fun t34 =>
  wpB (pureRun Tryz.prog (Instr.extract t33 1)) fun t35 =>
  cnd t35
  (Q (.tuple #[t34, (.int .i64 0)]) w)
  (wpB (nilv t28) fun t41 =>
  wpB (pureRun Tryz.prog (Instr.fieldAt 71 t41 2)) fun t42 =>
  wpB (ldv Tryz.prog 4 t42 w) fun t43 =>
  cnd t43
  (Q (.tuple #[(.slice none 0 0), (.int .i64 11)]) w)
  (Q (.tuple #[(.slice none 0 0), (.int .i64 10)]) w)))) w
theorem F19_ok {a0 a1 a2 : Value} {w : World} {Q : Value → World → Prop} (h : F19 a0 a1 a2 w Q) : CallR Tryz.prog 19 [a0, a1, a2] w Q :=
  af mixed ad Tryz.func19 (c := C19) rfl H19 (Nat.le_of_ble_eq_true rfl) (by kernel_rfl) h

noncomputable def C20 : Code := (Tryz.f20.body).getD .skip
noncomputable def H20 : Hints := ⟨[(4, [0, 1, 5])], [], [(6, (.leaf [0, 1, 2, 3, 4, 5, 6, 7, 8]))]⟩
noncomputable def T20_0 : List It := [.lp (nav [1, 1, 0, 1, 4, 5] C20), .blk 0, .jn (nav [1, 1, 1] C20)]
def P20_0 (x0 x1 x5 : Value) (w : World) (Q : Value → World → Prop) : Prop := Part Tryz.prog 20 T20_0 [0, 1, 5] [x0, x1, x5] w Q
def F20 (a0 a1 : Value) (w : World) (Q : Value → World → Prop) : Prop :=
  wpB (pureRun Tryz.prog (Builtin.len_ #[26] 3 #[a0])) fun t7 =>
  wpB (pureRun Tryz.prog (Builtin.len_ #[26] 3 #[a1])) fun t9 =>
  wpB (be Tryz.prog .neq 3 (.tmp 7) (.tmp 9) t7 t9) fun t10 =>
  cnd t10
  (Q (.bool false) w)
  (P20_0 a0 a1 (.int .i64 0) w Q)
def L20_0 (x0 x1 x5 : Value) (w : World) (Q : Value → World → Prop) : Prop :=
  wpB (pureRun Tryz.prog (Builtin.len_ #[26] 3 #[x0])) fun t13 =>
  wpB (bp Tryz.prog .lss 3 x5 t13) fun t14 =>
  cnd t14
  (wpB (pureRun Tryz.prog (Instr.indexAt 26 x0 x5)) fun t19 =>
  wpB (ldv Tryz.prog 3 t19 w.drew) fun t20 =>
  wpB (pureRun Tryz.prog (Instr.indexAt 26 x1 x5)) fun t23 =>
  wpB (ldv Tryz.prog 3 t23 w.drew) fun t24 =>
  wpB (be Tryz.prog .neq 3 (.tmp 20) (.tmp 24) t20 t24) fun t25 =>
  cnd t25
  (Q (.bool false) w.drew)
  (wpB (bp Tryz.prog .add 3 x5 (.int .i64 1)) fun t16 =>
  P20_0 x0 x1 t16 w.drew Q))
  (Q (.bool true) w)
theorem F20_ok {a0 a1 : Value} {w : World} {Q : Value → World → Prop} (h : F20 a0 a1 w Q) : CallR Tryz.prog 20 [a0, a1] w Q :=
  af mixed ad Tryz.func20 (c := C20) rfl H20 (Nat.le_of_ble_eq_true rfl) (by kernel_rfl) h
theorem L20_0_ok {x0 x1 x5 : Value} {w : World} {Q : Value → World → Prop} (h : L20_0 x0 x1 x5 w Q) : P20_0 x0 x1 x5 w Q :=
  aB mixed ad Tryz.func20 H20 (by kernel_rfl) h

noncomputable def C21 : Code := (Tryz.f21.body).getD .skip
noncomputable def H21 : Hints := ⟨[], [(4, [5])], []⟩
noncomputable def T21_0 : List It := [.jn (nav [1, 1, 1] C21)]
def P21_0 (x5 : Value) (w : World) (Q : Value → World → Prop) : Prop := Part Tryz.prog 21 T21_0 [5] [x5] w Q
def F21 (a0 a1 : Value) (w : World) (Q : Value → World → Prop) : Prop :=
  wpB (bp Tryz.prog .rem 3 a0 a1) fun t8 =>
  wpB (bp Tryz.prog .lss 3 t8 (.int .i64 0)) fun t10 =>
  cnd t10
  (wpB (bp Tryz.prog .add 3 t8 a1) fun t13 =>
  P21_0 t13 w Q)
  (P21_0 t8 w Q)
def L21_0 (x5 : Value) (w : World) (Q : Value → World → Prop) : Prop :=
  Q x5 w
theorem F21_ok {a0 a1 : Value} {w : World} {Q : Value → World → Prop} (h : F21 a0 a1 w Q) : CallR Tryz.prog 21 [a0, a1] w Q :=
  af mixed ad Tryz.func21 (c := C21) rfl H21 (Nat.le_of_ble_eq_true rfl) (by kernel_rfl) h
theorem L21_0_ok {x5 : Value} {w : World} {Q : Value → World → Prop} (h : L21_0 x5 w Q) : P21_0 x5 w Q :=
  ax mixed ad Tryz.func21 H21 (by kernel_rfl) h

noncomputable def C22 : Code := (Tryz.f22.body).getD .skip
noncomputable def H22 : Hints := ⟨[], [], []⟩
def F22 (a0 a1 a2 : Value) (w : World) (Q : Value → World → Prop) : Prop :=
  wpB (bp Tryz.prog .geq 3 a0 a1) fun t9 =>
  wpB (gd t9 true (bp Tryz.prog .leq 3 (gv t9 true a0) (gv t9 true a2))) fun t13 =>
  wpB (pickv t9 (some t13) (some (.bool false))) fun t14 =>
  Q t14 w
theorem F22_ok {a0 a1 a2 : Value} {w : World} {Q : Value → World → Prop} (h : F22 a0 a1 a2 w Q) : CallR Tryz.prog 22 [a0, a1, a2] w Q :=
  af mixed ad Tryz.func22 (c := C22) rfl H22 (Nat.le_of_ble_eq_true rfl) (by kernel_rfl) h

noncomputable def C23 : Code := (Tryz.f23.body).getD .skip
noncomputable def H23 : Hints := ⟨[], [], []⟩
def F23 (a0 : Value) (w : World) (Q : Value → World → Prop) : Prop :=
  effv Tryz.prog (Instr.box 42 a0) w fun t1 w =>
  wpB (pureRun Tryz.prog (Instr.fieldAt 42 t1 0)) fun t3 =>
  wpB (ldv Tryz.prog 3 t3 w) fun t4 =>
  wpB (bp Tryz.prog .lss 3 t4 (.int .i64 0)) fun t5 =>
  wpB (gd t5 false (pureRun Tryz.prog (Instr.fieldAt 42 t1 0))) fun t7 =>
  wpB (gd t5 false (ldv Tryz.prog 3 t7 w)) fun t8 =>
  wpB (gd t5 false (bp Tryz.prog .geq 3 t8 (.int .i64 64))) fun t9 =>
  wpB (pickv t5 (some (.bool true)) (some t9)) fun t10 =>
  wpB (gd t10 false (pureRun Tryz.prog (Instr.fieldAt 42 t1 3))) fun t12 =>
  wpB (gd t10 false (ldv Tryz.prog 3 t12 w)) fun t13 =>
  wpB (gd t10 false (bp Tryz.prog .lss 3 t13 (.int .i64 0))) fun t14 =>
  wpB (pickv t10 (some (.bool true)) (some t14)) fun t15 =>
  wpB (gd t15 false (pureRun Tryz.prog (Instr.fieldAt 42 t1 4))) fun t17 =>
  wpB (gd t15 false (ldv Tryz.prog 3 t17 w)) fun t18 =>
  wpB (gd t15 false (be Tryz.prog .neq 3 (.tmp 18) (.const (.int .i64 (-1))) t18 (.int .i64 (-1)))) fun t19 =>
  wpB (gd (gv t15 false t19) true (pureRun Tryz.prog (Instr.fieldAt 42 t1 4))) fun t21 =>
  wpB (gd (gv t15 false t19) true (ldv Tryz.prog 3 t21 w)) fun t22 =>
  wpB (gd (gv t15 false t19) true (pureRun Tryz.prog (Instr.fieldAt 42 t1 3))) fun t23 =>
  wpB (gd (gv t15 false t19) true (ldv Tryz.prog 3 t23 w)) fun t24 =>
  wpB (gd (gv t15 false t19) true (bp Tryz.prog .lss 3 t22 t24)) fun t25 =>
  wpB (gd t15 false (pickv (gv t15 false t19) (some t25) (some (.bool false)))) fun t26 =>
  wpB (pickv t15 (some (.bool true)) (some t26)) fun t27 =>
  cnd t27
  (Q (.bool false) w)
  (wpB (pureRun Tryz.prog (Instr.fieldAt 42 t1 5)) fun t28 =>
  wpB (ldv Tryz.prog 3 t28 w) fun t29 =>
  wpB (be Tryz.prog .neq 3 (.tmp 29) (.const (.int .i64 (-1))) t29 (.int .i64 (-1))) fun t30 =>
  wpB (gd t30 true (pureRun Tryz.prog (Instr.fieldAt 42 t1 4))) fun t32 =>
  wpB (gd t30 true (ldv Tryz.prog 3 t32 w)) fun t33 =>
  wpB (gd t30 true (be Tryz.prog .eql 3 (.tmp 33) (.const (.int .i64 (-1))) t33 (.int .i64 (-1)))) fun t34 =>
  wpB (gd (gv t30 true t34) false (pureRun Tryz.prog (Instr.fieldAt 42 t1 5))) fun t36 =>
  wpB (gd (gv t30 true t34) false (ldv Tryz.prog 3 t36 w)) fun t37 =>
  wpB (gd (gv t30 true t34) false (pureRun Tryz.prog (Instr.fieldAt 42 t1 4))) fun t38 =>
  wpB (gd (gv t30 true t34) false (ldv Tryz.prog 3 t38 w)) fun t39 =>
  wpB (gd (gv t30 true t34) false (bp Tryz.prog .leq 3 t37 t39)) fun t40 =>
  wpB (gd t30 true (pickv (gv t30 true t34) (some (.bool true)) (some t40))) fun t41 =>
  wpB (pickv t30 (some t41) (some (.bool false))) fun t42 =>
  cnd t42
  (Q (.bool false) w)
  (wpB (pureRun Tryz.prog (Instr.fieldAt 42 t1 6)) fun t43 =>
  wpB (ldv Tryz.prog 3 t43 w) fun t44 =>
  wpB (be Tryz.prog .eql 3 (.tmp 44) (.const (.int .i64 (-1))) t44 (.int .i64 (-1))) fun t45 =>
  wpB (gd t45 false (pureRun Tryz.prog (Instr.fieldAt 42 t1 4))) fun t47 =>
  wpB (gd t45 false (ldv Tryz.prog 3 t47 w)) fun t48 =>
  wpB (gd t45 false (be Tryz.prog .neq 3 (.tmp 48) (.const (.int .i64 (-1))) t48 (.int .i64 (-1)))) fun t49 =>
  wpB (gd (gv t45 false t49) true (pureRun Tryz.prog (Instr.fieldAt 42 t1 6))) fun t51 =>
  wpB (gd (gv t45 false t49) true (ldv Tryz.prog 3 t51 w)) fun t52 =>
  wpB (gd (gv t45 false t49) true (pureRun Tryz.prog (Instr.fieldAt 42 t1 3))) fun t53 =>
  wpB (gd (gv t45 false t49) true (ldv Tryz.prog 3 t53 w)) fun t54 =>
  wpB (gd (gv t45 false t49) true (pureRun Tryz.prog (Instr.fieldAt 42 t1 4))) fun t55 =>
  wpB (gd (gv t45 false t49) true (ldv Tryz.prog 3 t55 w)) fun t56 =>
  wpB (gd (gv t45 false t49) true (pureRun Tryz.prog (Instr.fieldAt 42 t1 5))) fun t57 =>
  wpB (gd (gv t45 false t49) true (ldv Tryz.prog 3 t57 w)) fun t58 =>
  wpB (gd (gv t45 false t49) true (pureRun Tryz.prog (Builtin.max_ #[3, 3, 3] 3 #[t54, t56, t58]))) fun t59 =>
  wpB (gd (gv t45 false t49) true (bp Tryz.prog .geq 3 t52 t59)) fun t60 =>
  wpB (gd t45 false (pickv (gv t45 false t49) (some t60) (some (.bool false)))) fun t61 =>
  wpB (pickv t45 (some (.bool true)) (some t61)) fun t62 =>
  Q t62 w))
theorem F23_ok {a0 : Value} {w : World} {Q : Value → World → Prop} (h : F23 a0 w Q) : CallR Tryz.prog 23 [a0] w Q :=
  af mixed ad Tryz.func23 (c := C23) rfl H23 (Nat.le_of_ble_eq_true rfl) (by kernel_rfl) h

noncomputable def C24 : Code := (Tryz.f24.body).getD .skip
noncomputable def H24 : Hints := ⟨[], [], []⟩
def F24 (a0 a1 : Value) (w : World) (Q : Value → World → Prop) : Prop :=
  effv Tryz.prog (Instr.box 42 a0) w fun t2 w =>
  effv Tryz.prog (Instr.box 42 a1) w fun t3 w =>
  wpB (pureRun Tryz.prog (Instr.fieldAt 42 t2 6)) fun t5 =>
  wpB (ldv Tryz.prog 3 t5 w) fun t6 =>
  wpB (bp Tryz.prog .geq 3 t6 (.int .i64 0)) fun t7 =>
  wpB (gd t7 true (pureRun Tryz.prog (Instr.fieldAt 42 t2 6))) fun t9 =>
  wpB (gd t7 true (ldv Tryz.prog 3 t9 w)) fun t10 =>
  wpB (gd t7 true (pureRun Tryz.prog (Instr.fieldAt 42 t3 3))) fun t11 =>
  wpB (gd t7 true (ldv Tryz.prog 3 t11 w)) fun t12 =>
  wpB (gd t7 true (bp Tryz.prog .lss 3 t10 t12)) fun t13 =>
  wpB (pickv t7 (some t13) (some (.bool false))) fun t14 =>
  Q t14 w
theorem F24_ok {a0 a1 : Value} {w : World} {Q : Value → World → Prop} (h : F24 a0 a1 w Q) : CallR Tryz.prog 24 [a0, a1] w Q :=
  af mixed ad Tryz.func24 (c := C24) rfl H24 (Nat.le_of_ble_eq_true rfl) (by kernel_rfl) h

noncomputable def C25 : Code := (Tryz.f25.body).getD .skip
noncomputable def H25 : Hints := ⟨[(3, [5, 25, 26, 27])], [], []⟩
noncomputable def T25_0 : List It := [.lp (nav [1, 1, 0, 1, 4, 5] C25), .blk 0, .jn (nav [1, 1, 1] C25)]
def P25_0 (x5 x25 x26 x27 : Value) (w : World) (Q : Value → World → Prop) : Prop := Part Tryz.prog 25 T25_0 [5, 25, 26, 27] [x5, x25, x26, x27] w Q
def F25 (a0 a1 : Value) (w : World) (Q : Value → World → Prop) : Prop :=
  effv Tryz.prog (Instr.box 42 a0) w fun t2 w =>
  effv Tryz.prog (Instr.box 42 a1) w fun t3 w =>
  wpB (pureRun Tryz.prog (Instr.fieldAt 42 t2 3)) fun t8 =>
  wpB (ldv Tryz.prog 3 t8 w) fun t9 =>
  wpB (pureRun Tryz.prog (Instr.fieldAt 42 t2 4)) fun t10 =>
  wpB (ldv Tryz.prog 3 t10 w) fun t11 =>
  wpB (pureRun Tryz.prog (Instr.fieldAt 42 t2 5)) fun t12 =>
  wpB (ldv Tryz.prog 3 t12 w) fun t13 =>
  wpB (pureRun Tryz.prog (Instr.fieldAt 42 t2 6)) fun t14 =>
  wpB (ldv Tryz.prog 3 t14 w) fun t15 =>
  effv Tryz.prog (Instr.buildSlice 26 4 #[(0, t9), (1, t11), (2, t13), (3, t15)]) w fun t16 w =>
  wpB (pureRun Tryz.prog (Instr.fieldAt 42 t3 3)) fun t17 =>
  wpB (ldv Tryz.prog 3 t17 w) fun t18 =>
  wpB (pureRun Tryz.prog (Instr.fieldAt 42 t3 4)) fun t19 =>
  wpB (ldv Tryz.prog 3 t19 w) fun t20 =>
  wpB (pureRun Tryz.prog (Instr.fieldAt 42 t3 5)) fun t21 =>
  wpB (ldv Tryz.prog 3 t21 w) fun t22 =>
  wpB (pureRun Tryz.prog (Instr.fieldAt 42 t3 6)) fun t23 =>
  wpB (ldv Tryz.prog 3 t23 w) fun t24 =>
  effv Tryz.prog (Instr.buildSlice 26 4 #[(0, t18), (1, t20), (2, t22), (3, t24)]) w fun t25 w =>
  wpB (pureRun Tryz.prog (Builtin.len_ #[26] 3 #[t25])) fun t26 =>
  P25_0 t16 t25 t26 (.int .i64 0) w Q
def L25_0 (x5 x25 x26 x27 : Value) (w : World) (Q : Value → World → Prop) : Prop :=
  wpB (bp Tryz.prog .lss 3 x27 x26) fun t28 =>
  cnd t28
  (wpB (pureRun Tryz.prog (Instr.indexAt 26 x25 x27)) fun t29 =>
  wpB (ldv Tryz.prog 3 t29 w) fun t30 =>
  wpB (be Tryz.prog .neq 3 (.tmp 31) (.const (.int .i64 (-1))) t30 (.int .i64 (-1))) fun t32 =>
  gE t32 true (CallR Tryz.prog 36 [(gv t32 true x5), (gv t32 true t30)] w) (fun t36 w =>
  wpB (pickv t32 (some t36) (some (.bool false))) fun t37 =>
  cnd t37
  (Q (.bool true) w)
  (wpB (bp Tryz.prog .add 3 x27 (.int .i64 1)) fun t38 =>
  P25_0 x5 x25 x26 t38 w Q)) w)
  (Q (.bool false) w)
theorem F25_ok {a0 a1 : Value} {w : World} {Q : Value → World → Prop} (h : F25 a0 a1 w Q) : CallR Tryz.prog 25 [a0, a1] w Q :=
  af mixed ad Tryz.func25 (c := C25) rfl H25 (Nat.le_of_ble_eq_true rfl) (by kernel_rfl) h
theorem L25_0_ok {x5 x25 x26 x27 : Value} {w : World} {Q : Value → World → Prop} (h : L25_0 x5 x25 x26 x27 w Q) : P25_0 x5 x25 x26 x27 w Q :=
  aB mixed ad Tryz.func25 H25 (by kernel_rfl) h

noncomputable def C26 : Code := (Tryz.f26.body).getD .skip
noncomputable def H26 : Hints := ⟨[(5, [0, 1, 4, 5, 18, 19, 20])], [], [(7, (.leaf [0, 1, 2, 3, 4, 5, 6, 7, 8, 9, 10, 11, 12, 13, 14, 15, 16, 17, 18, 19, 20, 21, 22, 23, 24, 25, 26, 27, 28, 29, 30, 31, 32, 33, 34, 35, 36, 37]))]⟩
noncomputable def T26_0 : List It := [.lp (nav [1, 1, 1, 0, 1, 4, 5] C26), .blk 0, .jn (nav [1, 1, 1, 1] C26)]
def P26_0 (x0 x1 x4 x5 x18 x19 x20 : Value) (w : World) (Q : Value → World → Prop) : Prop := Part Tryz.prog 26 T26_0 [0, 1, 4, 5, 18, 19, 20] [x0, x1, x4, x5, x18, x19, x20] w Q
def F26 (a0 a1 : Value) (w : World) (Q : Value → World → Prop) : Prop :=
  effv Tryz.prog (Instr.alloc 38 true (.tuple #[])) w fun t4 w =>
  wpB (pureRun Tryz.prog (Instr.indexAt 24 a0 a1)) fun t10 =>
  wpB (pureRun Tryz.prog (Instr.fieldAt 42 t10 2)) fun t11 =>
  wpB (ldv Tryz.prog 36 t11 w) fun t12 =>
  effv Tryz.prog (Instr.alloc 36 true (.tuple #[])) w fun t5 w =>
  effu Tryz.prog (Instr.storeAt 36 t5 t12) w fun w =>
  wpB (pureRun Tryz.prog (Instr.fieldAt 36 t5 0)) fun t13 =>
  wpB (ldv Tryz.prog 3 t13 w) fun t14 =>
  CallR Tryz.prog 37 [t14] w fun t15 w =>
  wpB (be Tryz.prog .eql 3 (.tmp 15) (.const (.int .i64 0)) t15 (.int .i64 0)) fun t16 =>
  cnd t16
  (wpB (pureRun Tryz.prog (Instr.build 38 #[])) fun t17 =>
  effu Tryz.prog (Instr.storeAt 38 t4 t17) w fun w =>
  wpB (ldv Tryz.prog 38 t4 w) fun r4 => Q r4 w)
  (wpB (pureRun Tryz.prog (Builtin.len_ #[24] 3 #[a0])) fun t19 =>
  P26_0 a0 a1 t4 t5 a0 t19 (.int .i64 0) w Q)
def L26_0 (x0 x1 x4 x5 x18 x19 x20 : Value) (w : World) (Q : Value → World → Prop) : Prop :=
  wpB (bp Tryz.prog .lss 3 x20 x19) fun t21 =>
  cnd t21
  (wpB (pureRun Tryz.prog (Instr.indexAt 24 x18 x20)) fun t22 =>
  wpB (ldv Tryz.prog 42 t22 w) fun t23 =>
  effv Tryz.prog (Instr.alloc 42 true (.tuple #[])) w fun t7 w =>
  effu Tryz.prog (Instr.storeAt 42 t7 t23) w fun w =>
  wpB (pureRun Tryz.prog (Instr.fieldAt 42 t7 0)) fun t24 =>
  wpB (ldv Tryz.prog 3 t24 w.drew) fun t25 =>
  wpB (pureRun Tryz.prog (Instr.fieldAt 36 x5 1)) fun t26 =>
  wpB (ldv Tryz.prog 3 t26 w.drew) fun t27 =>
  wpB (be Tryz.prog .eql 3 (.tmp 25) (.tmp 27) t25 t27) fun t28 =>
  wpB (gd t28 true (pureRun Tryz.prog (Instr.fieldAt 42 t7 1))) fun t30 =>
  wpB (gd t28 true (ldv Tryz.prog 3 t30 w.drew)) fun t31 =>
  wpB (gd t28 true (pureRun Tryz.prog (Instr.fieldAt 36 x5 2))) fun t32 =>
  wpB (gd t28 true (ldv Tryz.prog 3 t32 w.drew)) fun t33 =>
  wpB (gd t28 true (be Tryz.prog .eql 3 (.tmp 31) (.tmp 33) t31 t33)) fun t34 =>
  wpB (pickv t28 (some t34) (some (.bool false))) fun t35 =>
  wpB (gd t35 true (pureRun Tryz.prog (Instr.fieldAt 42 t7 2))) fun t37 =>
  wpB (gd t35 true (pureRun Tryz.prog (Instr.fieldAt 36 t37 0))) fun t38 =>
  wpB (gd t35 true (ldv Tryz.prog 3 t38 w.drew)) fun t39 =>
  wpB (gd t35 true (be Tryz.prog .eql 3 (.tmp 39) (.const (.int .i64 1)) t39 (.int .i64 1))) fun t40 =>
  wpB (gd (gv t35 true t40) false (pureRun Tryz.prog (Instr.fieldAt 42 t7 2))) fun t42 =>
  wpB (gd (gv t35 true t40) false (pureRun Tryz.prog (Instr.fieldAt 36 t42 0))) fun t43 =>
  wpB (gd (gv t35 true t40) false (ldv Tryz.prog 3 t43 w.drew)) fun t44 =>
  wpB (gd (gv t35 true t40) false (be Tryz.prog .eql 3 (.tmp 44) (.const (.int .i64 2)) t44 (.int .i64 2))) fun t45 =>
  wpB (gd t35 true (pickv (gv t35 true t40) (some (.bool true)) (some t45))) fun t46 =>
  wpB (pickv t35 (some t46) (some (.bool false))) fun t47 =>
  wpB (gd t47 true (pureRun Tryz.prog (Instr.fieldAt 42 t7 7))) fun t49 =>
  wpB (gd t47 true (pureRun Tryz.prog (Instr.fieldAt 40 t49 0))) fun t50 =>
  wpB (gd t47 true (ldv Tryz.prog 27 t50 w.drew)) fun t51 =>
  wpB (gd t47 true (be Tryz.prog .eql 27 (.tmp 51) (.const (.int .i64 0)) t51 (.int .i64 0))) fun t52 =>
  wpB (pickv t47 (some t52) (some (.bool false))) fun t53 =>
  wpB (gd t53 true (ldv Tryz.prog 42 t7 w.drew)) fun t55 =>
  wpB (gd t53 true (pureRun Tryz.prog (Instr.indexAt 24 (gv t53 true x0) (gv t53 true x1)))) fun t58 =>
  wpB (gd t53 true (ldv Tryz.prog 42 t58 w.drew)) fun t59 =>
  gE t53 true (CallR Tryz.prog 24 [t55, t59] w.drew) (fun t60 w =>
  wpB (pickv t53 (some t60) (some (.bool false))) fun t61 =>
  cnd t61
  (wpB (pureRun Tryz.prog (Instr.fieldAt 42 t7 7)) fun t62 =>
  wpB (pureRun Tryz.prog (Instr.fieldAt 40 t62 1)) fun t63 =>
  wpB (ldv Tryz.prog 38 t63 w) fun t64 =>
  effu Tryz.prog (Instr.storeAt 38 x4 t64) w fun w =>
  wpB (ldv Tryz.prog 38 x4 w) fun r4 => Q r4 w)
  (wpB (bp Tryz.prog .add 3 x20 (.int .i64 1)) fun t65 =>
  P26_0 x0 x1 x4 x5 x18 x19 t65 w Q)) w.drew)
  (wpB (pureRun Tryz.prog (Instr.build 38 #[])) fun t66 =>
  effu Tryz.prog (Instr.storeAt 38 x4 t66) w fun w =>
  wpB (ldv Tryz.prog 38 x4 w) fun r4_1 => Q r4_1 w)
theorem F26_ok {a0 a1 : Value} {w : World} {Q : Value → World → Prop} (h : F26 a0 a1 w Q) : CallR Tryz.prog 26 [a0, a1] w Q :=
  af mixed ad Tryz.func26 (c := C26) rfl H26 (Nat.le_of_ble_eq_true rfl) (by kernel_rfl) h
theorem L26_0_ok {x0 x1 x4 x5 x18 x19 x20 : Value} {w : World} {Q : Value → World → Prop} (h : L26_0 x0 x1 x4 x5 x18 x19 x20 w Q) : P26_0 x0 x1 x4 x5 x18 x19 x20 w Q :=
  aB mixed ad Tryz.func26 H26 (by kernel_rfl) h

noncomputable def C27 : Code := (Tryz.f27.body).getD .skip
noncomputable def H27 : Hints := ⟨[], [], [(3, (.ask 3 6 (.leaf [1, 4, 0, 2, 5, 3, 6, 7, 8, 9, 10]) (.leaf [1, 4, 0, 2, 5, 6, 3, 7, 8, 9, 10])))]⟩
def F27 (a0 : Value) (w : World) (Q : Value → World → Prop) : Prop :=
  effv Tryz.prog (Instr.box 23 a0) w fun t1 w =>
  wpB (ldv Tryz.prog 23 t1 w) fun t4 =>
  CallR Tryz.prog 10 [t4] w fun t5 w =>
  wpB (pureRun Tryz.prog (Op.unary .not t5)) fun t6 =>
  cnd t6
  (Q (.tuple #[(.pointer none), (.int .i64 1)]) w)
  ((wpB (pureRun Tryz.prog (Instr.fieldAt 23 t1 3)) fun t8 =>
  wpB (pureRun Tryz.prog (Instr.fieldAt 23 t1 0)) fun t11 =>
  wpB (ldv Tryz.prog 23 t1 w.drew) fun t7 =>
  wpB (ldv Tryz.prog 3 t8 w.drew) fun t9 =>
  wpB (ldv Tryz.prog 3 t11 w.drew) fun t12 =>
  effv Tryz.prog (Instr.makeSlice 57 t9 t9) w.drew fun t10 w =>
  effv Tryz.prog (Instr.makeSlice 59 t12 t12) w fun t13 w =>
  wpB (pureRun Tryz.prog (Instr.build 61 #[(0, t7), (2, t10), (4, t13)])) fun t14 =>
  effv Tryz.prog (Instr.box 61 t14) w fun t15 w =>
  Q (.tuple #[t15, (.int .i64 0)]) w) ∧
  (wpB (pureRun Tryz.prog (Instr.fieldAt 23 t1 3)) fun t8_1 =>
  wpB (pureRun Tryz.prog (Instr.fieldAt 23 t1 0)) fun t11_1 =>
  wpB (ldv Tryz.prog 23 t1 w.drew) fun t7_1 =>
  wpB (ldv Tryz.prog 3 t8_1 w.drew) fun t9_1 =>
  wpB (ldv Tryz.prog 3 t11_1 w.drew) fun t12_1 =>
  effv Tryz.prog (Instr.makeSlice 59 t12_1 t12_1) w.drew fun t13_1 w =>
  effv Tryz.prog (Instr.makeSlice 57 t9_1 t9_1) w fun t10_1 w =>
  wpB (pureRun Tryz.prog (Instr.build 61 #[(0, t7_1), (2, t10_1), (4, t13_1)])) fun t14_1 =>
  effv Tryz.prog (Instr.box 61 t14_1) w fun t15_1 w =>
  Q (.tuple #[t15_1, (.int .i64 0)]) w))
theorem F27_ok {a0 : Value} {w : World} {Q : Value → World → Prop} (h : F27 a0 w Q) : CallR Tryz.prog 27 [a0] w Q :=
  af mixed ad Tryz.func27 (c := C27) rfl H27 (Nat.le_of_ble_eq_true rfl) (by kernel_rfl) h

noncomputable def C28 : Code := (Tryz.f28.body).getD .skip
noncomputable def H28 : Hints := ⟨[(2, [0, 8, 9, 10])], [], []⟩
noncomputable def T28_0 : List It := [.lp (nav [1, 0, 1, 4, 5] C28), .blk 0, .jn (nav [1, 1] C28)]
def P28_0 (x0 x8 x9 x10 : Value) (w : World) (Q : Value → World → Prop) : Prop := Part Tryz.prog 28 T28_0 [0, 8, 9, 10] [x0, x8, x9, x10] w Q
def F28 (a0 : Value) (w : World) (Q : Value → World → Prop) : Prop :=
  wpB (nilv a0) fun t6 =>
  wpB (pureRun Tryz.prog (Instr.fieldAt 46 t6 0)) fun t7 =>
  wpB (ldv Tryz.prog 24 t7 w) fun t8 =>
  wpB (pureRun Tryz.prog (Builtin.len_ #[24] 3 #[t8])) fun t9 =>
  P28_0 a0 t8 t9 (.int .i64 0) w Q
def L28_0 (x0 x8 x9 x10 : Value) (w : World) (Q : Value → World → Prop) : Prop :=
  wpB (bp Tryz.prog .lss 3 x10 x9) fun t11 =>
  cnd t11
  (wpB (pureRun Tryz.prog (Instr.indexAt 24 x8 x10)) fun t13 =>
  wpB (ldv Tryz.prog 42 t13 w) fun t14 =>
  effv Tryz.prog (Instr.alloc 42 true (.tuple #[])) w fun t4 w =>
  effu Tryz.prog (Instr.storeAt 42 t4 t14) w fun w =>
  wpB (pureRun Tryz.prog (Instr.fieldAt 42 t4 6)) fun t15 =>
  wpB (ldv Tryz.prog 3 t15 w) fun t16 =>
  wpB (bp Tryz.prog .geq 3 t16 (.int .i64 0)) fun t17 =>
  gE t17 true (CallR Tryz.prog 38 [(gv t17 true x0), (gv t17 true x10)] w) (fun t21 w =>
  wpB (gd t17 true (pureRun Tryz.prog (Op.unary .not t21))) fun t22 =>
  wpB (pickv t17 (some t22) (some (.bool false))) fun t23 =>
  cnd t23
  (Q (.bool false) w)
  (wpB (bp Tryz.prog .add 3 x10 (.int .i64 1)) fun t24 =>
  P28_0 x0 x8 x9 t24 w Q)) w)
  (Q (.bool true) w)
theorem F28_ok {a0 : Value} {w : World} {Q : Value → World → Prop} (h : F28 a0 w Q) : CallR Tryz.prog 28 [a0] w Q :=
  af mixed ad Tryz.func28 (c := C28) rfl H28 (Nat.le_of_ble_eq_true rfl) (by kernel_rfl) h
theorem L28_0_ok {x0 x8 x9 x10 : Value} {w : World} {Q : Value → World → Prop} (h : L28_0 x0 x8 x9 x10 w Q) : P28_0 x0 x8 x9 x10 w Q :=
  aB mixed ad Tryz.func28 H28 (by kernel_rfl) h

noncomputable def C29 : Code := (Tryz.f29.body).getD .skip
noncomputable def H29 : Hints := ⟨[(2, [0, 1, 10, 11, 12])], [], [(4, (.leaf [0, 1, 2, 3, 4, 5, 6, 7, 8, 9, 10, 11, 12, 13, 14, 15, 16, 17, 18, 19]))]⟩
noncomputable def T29_0 : List It := [.lp (nav [1, 0, 1, 4, 5] C29), .blk 0, .jn (nav [1, 1] C29)]
def P29_0 (x0 x1 x10 x11 x12 : Value) (w : World) (Q : Value → World → Prop) : Prop := Part Tryz.prog 29 T29_0 [0, 1, 10, 11, 12] [x0, x1, x10, x11, x12] w Q
def F29 (a0 a1 : Value) (w : World) (Q : Value → World → Prop) : Prop :=
  wpB (nilv a0) fun t8 =>
  wpB (pureRun Tryz.prog (Instr.fieldAt 46 t8 0)) fun t9 =>
  wpB (ldv Tryz.prog 24 t9 w) fun t10 =>
  wpB (pureRun Tryz.prog (Builtin.len_ #[24] 3 #[t10])) fun t11 =>
  P29_0 a0 a1 t10 t11 (.int .i64 0) w Q
def L29_0 (x0 x1 x10 x11 x12 : Value) (w : World) (Q : Value → World → Prop) : Prop :=
  wpB (bp Tryz.prog .lss 3 x12 x11) fun t13 =>
  cnd t13
  (wpB (pureRun Tryz.prog (Instr.indexAt 24 x10 x12)) fun t15 =>
  wpB (ldv Tryz.prog 42 t15 w) fun t16 =>
  effv Tryz.prog (Instr.alloc 42 true (.tuple #[])) w fun t6 w =>
  effu Tryz.prog (Instr.storeAt 42 t6 t16) w fun w =>
  wpB (pureRun Tryz.prog (Instr.fieldAt 42 t6 6)) fun t17 =>
  wpB (ldv Tryz.prog 3 t17 w.drew) fun t18 =>
  wpB (bp Tryz.prog .geq 3 t18 (.int .i64 0)) fun t19 =>
  gE t19 true (CallR Tryz.prog 38 [(gv t19 true x0), (gv t19 true x12)] w.drew) (fun t23 w =>
  wpB (gd t19 true (pureRun Tryz.prog (Op.unary .not t23))) fun t24 =>
  wpB (pickv t19 (some t24) (some (.bool false))) fun t25 =>
  wpB (gd t25 true (ldv Tryz.prog 42 t6 w)) fun t27 =>
  wpB (gd t25 true (nilv (gv t25 true x0))) fun t29 =>
  wpB (gd t25 true (pureRun Tryz.prog (Instr.fieldAt 46 t29 0))) fun t30 =>
  wpB (gd t25 true (ldv Tryz.prog 24 t30 w)) fun t31 =>
  wpB (gd t25 true (pureRun Tryz.prog (Instr.indexAt 24 t31 (gv t25 true x1)))) fun t33 =>
  wpB (gd t25 true (ldv Tryz.prog 42 t33 w)) fun t34 =>
  gE t25 true (CallR Tryz.prog 24 [t27, t34] w) (fun t35 w =>
  wpB (pickv t25 (some t35) (some (.bool false))) fun t36 =>
  cnd t36
  (Q (.bool false) w)
  (wpB (bp Tryz.prog .add 3 x12 (.int .i64 1)) fun t37 =>
  P29_0 x0 x1 x10 x11 t37 w Q)) w) w.drew)
  (CallR Tryz.prog 38 [x0, x1] w fun t40 w =>
  wpB (pureRun Tryz.prog (Op.unary .not t40)) fun t41 =>
  Q t41 w)
theorem F29_ok {a0 a1 : Value} {w : World} {Q : Value → World → Prop} (h : F29 a0 a1 w Q) : CallR Tryz.prog 29 [a0, a1] w Q :=
  af mixed ad Tryz.func29 (c := C29) rfl H29 (Nat.le_of_ble_eq_true rfl) (by kernel_rfl) h
theorem L29_0_ok {x0 x1 x10 x11 x12 : Value} {w : World} {Q : Value → World → Prop} (h : L29_0 x0 x1 x10 x11 x12 w Q) : P29_0 x0 x1 x10 x11 x12 w Q :=
  aB mixed ad Tryz.func29 H29 (by kernel_rfl) h

noncomputable def C30 : Code := (Tryz.f30.body).getD .skip
noncomputable def H30 : Hints := ⟨[], [(9, [0, 6, 7, 8, 10, 28, 29]), (12, [0, 6, 7, 8, 10, 28, 33]), (15, [8, 10, 55]), (18, [8, 10])], [(14, (.ask 8 4 (.leaf [0, 2, 7, 1, 3, 8, 4, 5, 6, 9]) (.leaf [0, 1, 2, 3, 4, 5, 6, 7, 8, 9])))]⟩
noncomputable def T30_0 : List It := [.jn (nav [1, 1, 1, 1, 0, 1, 4, 1] C30), .blk 0, .jn (nav [1, 1, 1, 1, 1] C30)]
noncomputable def T30_1 : List It := [.jn (nav [1, 1, 1, 1, 0, 1, 4, 1, 3, 1] C30), .blk 0, .jn (nav [1, 1, 1, 1, 1] C30)]
noncomputable def T30_2 : List It := [.jn (nav [1, 1, 1, 1, 1] C30)]
noncomputable def T30_3 : List It := [.jn (nav [1, 1, 1, 1, 0, 1, 4, 1, 3, 1, 3, 1, 2, 1] C30), .blk 0, .jn (nav [1, 1, 1, 1, 1] C30)]
def P30_0 (x0 x6 x7 x8 x10 x28 x29 : Value) (w : World) (Q : Value → World → Prop) : Prop := Part Tryz.prog 30 T30_0 [0, 6, 7, 8, 10, 28, 29] [x0, x6, x7, x8, x10, x28, x29] w Q
def P30_1 (x0 x6 x7 x8 x10 x28 x33 : Value) (w : World) (Q : Value → World → Prop) : Prop := Part Tryz.prog 30 T30_1 [0, 6, 7, 8, 10, 28, 33] [x0, x6, x7, x8, x10, x28, x33] w Q
def P30_2 (x8 x10 : Value) (w : World) (Q : Value → World → Prop) : Prop := Part Tryz.prog 30 T30_2 [8, 10] [x8, x10] w Q
def P30_3 (x8 x10 x55 : Value) (w : World) (Q : Value → World → Prop) : Prop := Part Tryz.prog 30 T30_3 [8, 10, 55] [x8, x10, x55] w Q
def F30 (a0 a1 a2 a3 : Value) (w : World) (Q : Value → World → Prop) : Prop :=
  effv Tryz.prog (Instr.box 36 a2) w fun t6 w =>
  effv Tryz.prog (Instr.box 38 a3) w fun t7 w =>
  effv Tryz.prog (Instr.alloc 40 true (.tuple #[])) w fun t8 w =>
  wpB (ldv Tryz.prog 36 t6 w) fun t13 =>
  CallR Tryz.prog 39 [a0, a1, t13] w fun t14 w =>
  wpB (pureRun Tryz.prog (Op.unary .not t14)) fun t15 =>
  cnd t15
  (wpB (pureRun Tryz.prog (Instr.build 40 #[])) fun t16 =>
  effu Tryz.prog (Instr.storeAt 40 t8 t16) w fun w =>
  wpB (ldv Tryz.prog 40 t8 w) fun r8 => Q (.tuple #[r8, (.bool false)]) w)
  (wpB (ldv Tryz.prog 36 t6 w) fun t19 =>
  wpB (ldv Tryz.prog 38 t7 w) fun t20 =>
  CallR Tryz.prog 40 [a0, a1, t19, t20] w fun t21 w =>
  wpB (pureRun Tryz.prog (Instr.build 40 #[(0, t21)])) fun t22 =>
  effv Tryz.prog (Instr.alloc 40 true (.tuple #[])) w fun t10 w =>
  effu Tryz.prog (Instr.storeAt 40 t10 t22) w fun w =>
  wpB (pureRun Tryz.prog (Instr.fieldAt 40 t10 0)) fun t23 =>
  wpB (ldv Tryz.prog 27 t23 w) fun t24 =>
  wpB (be Tryz.prog .neq 27 (.tmp 24) (.const (.int .i64 0)) t24 (.int .i64 0)) fun t25 =>
  cnd t25
  (wpB (ldv Tryz.prog 40 t10 w) fun t26 =>
  effu Tryz.prog (Instr.storeAt 40 t8 t26) w fun w =>
  wpB (ldv Tryz.prog 40 t8 w) fun r8_1 => Q (.tuple #[r8_1, (.bool true)]) w)
  (wpB (pureRun Tryz.prog (Instr.fieldAt 36 t6 0)) fun t27 =>
  wpB (ldv Tryz.prog 3 t27 w) fun t28 =>
  wpB (be Tryz.prog .eql 3 (.tmp 28) (.const (.int .i64 1)) t28 (.int .i64 1)) fun t30 =>
  cnd t30
  (P30_0 a0 t6 t7 t8 t10 t28 t30 w Q)
  (wpB (be Tryz.prog .eql 3 (.tmp 28) (.const (.int .i64 2)) t28 (.int .i64 2)) fun t31 =>
  P30_0 a0 t6 t7 t8 t10 t28 t31 w Q)))
def L30_0 (x0 x6 x7 x8 x10 x28 x29 : Value) (w : World) (Q : Value → World → Prop) : Prop :=
  cnd x29
  (wpB (pureRun Tryz.prog (Instr.build 40 #[])) fun t32 =>
  effu Tryz.prog (Instr.storeAt 40 x8 t32) w fun w =>
  wpB (ldv Tryz.prog 40 x8 w) fun r8 => Q (.tuple #[r8, (.bool false)]) w)
  (wpB (be Tryz.prog .eql 3 (.tmp 28) (.const (.int .i64 6)) x28 (.int .i64 6)) fun t34 =>
  cnd t34
  (P30_1 x0 x6 x7 x8 x10 x28 t34 w Q)
  (wpB (be Tryz.prog .eql 3 (.tmp 28) (.const (.int .i64 8)) x28 (.int .i64 8)) fun t35 =>
  P30_1 x0 x6 x7 x8 x10 x28 t35 w Q))
def L30_1 (x0 x6 x7 x8 x10 x28 x33 : Value) (w : World) (Q : Value → World → Prop) : Prop :=
  cnd x33
  (wpB (ldv Tryz.prog 38 x7 w) fun t37 =>
  wpB (pureRun Tryz.prog (Instr.fieldAt 36 x6 3)) fun t38 =>
  wpB (ldv Tryz.prog 3 t38 w) fun t39 =>
  CallR Tryz.prog 41 [x0, t37, t39] w fun t40 w =>
  wpB (nilv t40) fun t41 =>
  wpB (ldv Tryz.prog 34 t41 w) fun t42 =>
  wpB (pureRun Tryz.prog (Instr.fieldAt 40 x10 3)) fun t43 =>
  effu Tryz.prog (Instr.storeAt 34 t43 t42) w fun w =>
  P30_2 x8 x10 w Q)
  (wpB (be Tryz.prog .eql 3 (.tmp 28) (.const (.int .i64 9)) x28 (.int .i64 9)) fun t45 =>
  cnd t45
  ((wpB (pureRun Tryz.prog (Instr.fieldAt 36 x6 3)) fun t48 =>
  wpB (pureRun Tryz.prog (Instr.fieldAt 36 x6 4)) fun t53 =>
  wpB (ldv Tryz.prog 38 x7 w.drew) fun t47 =>
  wpB (ldv Tryz.prog 3 t48 w.drew) fun t49 =>
  wpB (ldv Tryz.prog 34 t53 w.drew) fun t54 =>
  CallR Tryz.prog 41 [x0, t47, t49] w.drew fun t50 w =>
  wpB (nilv t50) fun t51 =>
  wpB (ldv Tryz.prog 34 t51 w) fun t52 =>
  wpB (be Tryz.prog .eql 34 (.tmp 52) (.tmp 54) t52 t54) fun t55 =>
  P30_3 x8 x10 t55 w Q) ∧
  (wpB (ldv Tryz.prog 38 x7 w.drew) fun t47_1 =>
  wpB (pureRun Tryz.prog (Instr.fieldAt 36 x6 3)) fun t48_1 =>
  wpB (ldv Tryz.prog 3 t48_1 w.drew) fun t49_1 =>
  CallR Tryz.prog 41 [x0, t47_1, t49_1] w.drew fun t50_1 w =>
  wpB (nilv t50_1) fun t51_1 =>
  wpB (ldv Tryz.prog 34 t51_1 w) fun t52_1 =>
  wpB (pureRun Tryz.prog (Instr.fieldAt 36 x6 4)) fun t53_1 =>
  wpB (ldv Tryz.prog 34 t53_1 w) fun t54_1 =>
  wpB (be Tryz.prog .eql 34 (.tmp 52) (.tmp 54) t52_1 t54_1) fun t55_1 =>
  P30_3 x8 x10 t55_1 w Q))
  (wpB (be Tryz.prog .eql 3 (.tmp 28) (.const (.int .i64 12)) x28 (.int .i64 12)) fun t58 =>
  cnd t58
  (wpB (ldv Tryz.prog 38 x7 w) fun t60 =>
  CallR Tryz.prog 43 [t60] w fun t61 w =>
  CallR Tryz.prog 42 [x0, t61] w fun t62 w =>
  wpB (nilv t62) fun t63 =>
  wpB (pureRun Tryz.prog (Instr.fieldAt 86 t63 2)) fun t64 =>
  wpB (ldv Tryz.prog 3 t64 w) fun t65 =>
  wpB (pureRun Tryz.prog (Instr.fieldAt 40 x10 2)) fun t66 =>
  effu Tryz.prog (Instr.storeAt 3 t66 t65) w fun w =>
  P30_2 x8 x10 w Q)
  (P30_2 x8 x10 w Q)))
def L30_2 (x8 x10 : Value) (w : World) (Q : Value → World → Prop) : Prop :=
  wpB (ldv Tryz.prog 40 x10 w) fun t67 =>
  effu Tryz.prog (Instr.storeAt 40 x8 t67) w fun w =>
  wpB (ldv Tryz.prog 40 x8 w) fun r8 => Q (.tuple #[r8, (.bool true)]) w
def L30_3 (x8 x10 x55 : Value) (w : World) (Q : Value → World → Prop) : Prop :=
  cnd x55
  (wpB (pureRun Tryz.prog (Instr.fieldAt 40 x10 2)) fun t56 =>
  effu Tryz.prog (Instr.storeAt 3 t56 (.int .i64 1)) w fun w =>
  P30_2 x8 x10 w Q)
  (P30_2 x8 x10 w Q)
theorem F30_ok {a0 a1 a2 a3 : Value} {w : World} {Q : Value → World → Prop} (h : F30 a0 a1 a2 a3 w Q) : CallR Tryz.prog 30 [a0, a1, a2, a3] w Q :=
  af mixed ad Tryz.func30 (c := C30) rfl H30 (Nat.le_of_ble_eq_true rfl) (by kernel_rfl) h
theorem L30_0_ok {x0 x6 x7 x8 x10 x28 x29 : Value} {w : World} {Q : Value → World → Prop} (h : L30_0 x0 x6 x7 x8 x10 x28 x29 w Q) : P30_0 x0 x6 x7 x8 x10 x28 x29 w Q :=
  ax mixed ad Tryz.func30 H30 (by kernel_rfl) h
theorem L30_1_ok {x0 x6 x7 x8 x10 x28 x33 : Value} {w : World} {Q : Value → World → Prop} (h : L30_1 x0 x6 x7 x8 x10 x28 x33 w Q) : P30_1 x0 x6 x7 x8 x10 x28 x33 w Q :=
  ax mixed ad Tryz.func30 H30 (by kernel_rfl) h
theorem L30_2_ok {x8 x10 : Value} {w : World} {Q : Value → World → Prop} (h : L30_2 x8 x10 w Q) : P30_2 x8 x10 w Q :=
  ax mixed ad Tryz.func30 H30 (by kernel_rfl) h
theorem L30_3_ok {x8 x10 x55 : Value} {w : World} {Q : Value → World → Prop} (h : L30_3 x8 x10 x55 w Q) : P30_3 x8 x10 x55 w Q :=
  ax mixed ad Tryz.func30 H30 (by kernel_rfl) h

noncomputable def C31 : Code := (Tryz.f31.body).getD .skip
noncomputable def H31 : Hints := ⟨[(5, [0, 3, 26, 27]), (11, [3, 51, 52]), (16, [3, 6, 51, 52, 86, 87, 88])], [(8, [0, 3, 26, 27]), (15, [3, 6, 51, 52]), (19, [3, 6, 51, 52, 86, 87, 88])], [(7, (.ask 1 9 (.leaf [0, 1, 2, 3, 4, 5, 6, 7, 8, 9, 10, 11, 12]) (.leaf [0, 2, 3, 5, 4, 6, 7, 8, 9, 1, 10, 11, 12]))), (14, (.ask 11 7 (.ask 16 7 (.leaf [0, 1, 2, 3, 4, 5, 8, 9, 10, 13, 14, 15, 6, 11, 16, 7, 12, 17, 18, 19, 20, 21, 22, 23, 24, 25, 26]) (.ask 16 12 (.leaf [0, 1, 2, 3, 4, 5, 8, 9, 10, 13, 14, 15, 6, 11, 7, 16, 12, 17, 18, 19, 20, 21, 22, 23, 24, 25, 26]) (.leaf [0, 1, 2, 3, 4, 5, 8, 9, 10, 13, 14, 15, 6, 11, 7, 12, 16, 17, 18, 19, 20, 21, 22, 23, 24, 25, 26]))) (.ask 16 7 (.leaf [0, 1, 2, 3, 4, 5, 8, 9, 10, 13, 14, 15, 6, 16, 7, 11, 12, 17, 18, 19, 20, 21, 22, 23, 24, 25, 26]) (.ask 16 12 (.leaf [0, 1, 2, 3, 4, 5, 8, 9, 10, 13, 14, 15, 6, 7, 11, 16, 12, 17, 18, 19, 20, 21, 22, 23, 24, 25, 26]) (.leaf [0, 1, 2, 3, 4, 5, 6, 7, 8, 9, 10, 11, 12, 13, 14, 15, 16, 17, 18, 19, 20, 21, 22, 23, 24, 25, 26]))))), (18, (.ask 3 6 (.leaf [0, 1, 2, 3, 4, 5, 6, 7, 8]) (.leaf [0, 1, 2, 4, 5, 6, 3, 7, 8])))]⟩
noncomputable def T31_0 : List It := [.lp (nav [1, 1, 1, 1, 0, 1, 4, 5] C31), .blk 0, .jn (nav [1, 1, 1, 1, 1] C31)]
noncomputable def T31_1 : List It := [.jn (nav [1, 1, 1, 1, 0, 1, 4, 5, 1, 1, 1] C31), .lp (nav [1, 1, 1, 1, 0, 1, 4, 5] C31), .blk 0, .jn (nav [1, 1, 1, 1, 1] C31)]
noncomputable def T31_2 : List It := [.lp (nav [1, 1, 1, 1, 1, 1, 0, 1, 4, 5] C31), .blk 2, .jn (nav [1, 1, 1, 1, 1, 1, 1] C31)]
noncomputable def T31_3 : List It := [.jn (nav [1, 1, 1, 1, 1, 1, 0, 1, 4, 5, 1, 1, 0, 4, 1, 1, 1] C31), .blk 3, .jn (nav [1, 1, 1, 1, 1, 1, 0, 1, 4, 5, 1, 1, 1] C31), .lp (nav [1, 1, 1, 1, 1, 1, 0, 1, 4, 5] C31), .blk 2, .jn (nav [1, 1, 1, 1, 1, 1, 1] C31)]
noncomputable def T31_4 : List It := [.lp (nav [1, 1, 1, 1, 1, 1, 0, 1, 4, 5, 1, 1, 0, 4, 1, 1, 1, 1, 4, 5] C31), .blk 4, .blk 3, .jn (nav [1, 1, 1, 1, 1, 1, 0, 1, 4, 5, 1, 1, 1] C31), .lp (nav [1, 1, 1, 1, 1, 1, 0, 1, 4, 5] C31), .blk 2, .jn (nav [1, 1, 1, 1, 1, 1, 1] C31)]
noncomputable def T31_5 : List It := [.jn (nav [1, 1, 1, 1, 1, 1, 0, 1, 4, 5, 1, 1, 0, 4, 1, 1, 1, 1, 4, 5, 1, 1, 1] C31), .lp (nav [1, 1, 1, 1, 1, 1, 0, 1, 4, 5, 1, 1, 0, 4, 1, 1, 1, 1, 4, 5] C31), .blk 4, .blk 3, .jn (nav [1, 1, 1, 1, 1, 1, 0, 1, 4, 5, 1, 1, 1] C31), .lp (nav [1, 1, 1, 1, 1, 1, 0, 1, 4, 5] C31), .blk 2, .jn (nav [1, 1, 1, 1, 1, 1, 1] C31)]
def P31_0 (x0 x3 x26 x27 : Value) (w : World) (Q : Value → World → Prop) : Prop := Part Tryz.prog 31 T31_0 [0, 3, 26, 27] [x0, x3, x26, x27] w Q
def P31_1 (x0 x3 x26 x27 : Value) (w : World) (Q : Value → World → Prop) : Prop := Part Tryz.prog 31 T31_1 [0, 3, 26, 27] [x0, x3, x26, x27] w Q
def P31_2 (x3 x51 x52 : Value) (w : World) (Q : Value → World → Prop) : Prop := Part Tryz.prog 31 T31_2 [3, 51, 52] [x3, x51, x52] w Q
def P31_3 (x3 x6 x51 x52 : Value) (w : World) (Q : Value → World → Prop) : Prop := Part Tryz.prog 31 T31_3 [3, 6, 51, 52] [x3, x6, x51, x52] w Q
def P31_4 (x3 x6 x51 x52 x86 x87 x88 : Value) (w : World) (Q : Value → World → Prop) : Prop := Part Tryz.prog 31 T31_4 [3, 6, 51, 52, 86, 87, 88] [x3, x6, x51, x52, x86, x87, x88] w Q
def P31_5 (x3 x6 x51 x52 x86 x87 x88 : Value) (w : World) (Q : Value → World → Prop) : Prop := Part Tryz.prog 31 T31_5 [3, 6, 51, 52, 86, 87, 88] [x3, x6, x51, x52, x86, x87, x88] w Q
def F31 (a0 : Value) (w : World) (Q : Value → World → Prop) : Prop :=
  wpB (nilv a0) fun t10 =>
  wpB (ldv Tryz.prog 61 t10 w) fun t11 =>
  effv Tryz.prog (Instr.alloc 61 true (.tuple #[])) w fun t3 w =>
  effu Tryz.prog (Instr.storeAt 61 t3 t11) w fun w =>
  wpB (nilv a0) fun t13 =>
  wpB (pureRun Tryz.prog (Instr.fieldAt 61 t13 2)) fun t14 =>
  wpB (ldv Tryz.prog 57 t14 w) fun t15 =>
  CallR Tryz.prog 44 [t15] w fun t16 w =>
  wpB (pureRun Tryz.prog (Instr.fieldAt 61 t3 2)) fun t17 =>
  effu Tryz.prog (Instr.storeAt 57 t17 t16) w fun w =>
  wpB (nilv a0) fun t19 =>
  wpB (pureRun Tryz.prog (Instr.fieldAt 61 t19 4)) fun t20 =>
  wpB (ldv Tryz.prog 59 t20 w) fun t21 =>
  CallR Tryz.prog 45 [t21] w fun t22 w =>
  wpB (pureRun Tryz.prog (Instr.fieldAt 61 t3 4)) fun t23 =>
  effu Tryz.prog (Instr.storeAt 59 t23 t22) w fun w =>
  wpB (pureRun Tryz.prog (Instr.fieldAt 61 t3 4)) fun t24 =>
  wpB (ldv Tryz.prog 59 t24 w) fun t25 =>
  wpB (pureRun Tryz.prog (Builtin.len_ #[59] 3 #[t25])) fun t26 =>
  P31_0 a0 t3 t26 (.int .i64 0) w Q
def L31_0 (x0 x3 x26 x27 : Value) (w : World) (Q : Value → World → Prop) : Prop :=
  wpB (bp Tryz.prog .lss 3 x27 x26) fun t28 =>
  cnd t28
  ((wpB (pureRun Tryz.prog (Instr.fieldAt 61 x3 4)) fun t30 =>
  wpB (ldv Tryz.prog 59 t30 w.drew) fun t31 =>
  wpB (pureRun Tryz.prog (Instr.fieldAt 61 x3 4)) fun t33 =>
  wpB (ldv Tryz.prog 59 t33 w.drew) fun t34 =>
  wpB (pureRun Tryz.prog (Instr.indexAt 59 t34 x27)) fun t36 =>
  wpB (pureRun Tryz.prog (Instr.fieldAt 96 t36 1)) fun t37 =>
  wpB (ldv Tryz.prog 94 t37 w.drew) fun t38 =>
  CallR Tryz.prog 46 [t38] w.drew fun t39 w =>
  wpB (pureRun Tryz.prog (Instr.indexAt 59 t31 x27)) fun t40 =>
  wpB (pureRun Tryz.prog (Instr.fieldAt 96 t40 1)) fun t41 =>
  effu Tryz.prog (Instr.storeAt 94 t41 t39) w fun w =>
  P31_1 x0 x3 x26 x27 w Q) ∧
  (wpB (pureRun Tryz.prog (Instr.fieldAt 61 x3 4)) fun t30_1 =>
  wpB (pureRun Tryz.prog (Instr.fieldAt 61 x3 4)) fun t33_1 =>
  wpB (ldv Tryz.prog 59 t33_1 w.drew) fun t34_1 =>
  wpB (pureRun Tryz.prog (Instr.indexAt 59 t34_1 x27)) fun t36_1 =>
  wpB (pureRun Tryz.prog (Instr.fieldAt 96 t36_1 1)) fun t37_1 =>
  wpB (ldv Tryz.prog 94 t37_1 w.drew) fun t38_1 =>
  CallR Tryz.prog 46 [t38_1] w.drew fun t39_1 w =>
  wpB (ldv Tryz.prog 59 t30_1 w) fun t31_1 =>
  wpB (pureRun Tryz.prog (Instr.indexAt 59 t31_1 x27)) fun t40_1 =>
  wpB (pureRun Tryz.prog (Instr.fieldAt 96 t40_1 1)) fun t41_1 =>
  effu Tryz.prog (Instr.storeAt 94 t41_1 t39_1) w fun w =>
  P31_1 x0 x3 x26 x27 w Q))
  (wpB (nilv x0) fun t44 =>
  wpB (pureRun Tryz.prog (Instr.fieldAt 61 t44 3)) fun t45 =>
  wpB (ldv Tryz.prog 58 t45 w) fun t46 =>
  CallR Tryz.prog 47 [t46] w fun t47 w =>
  wpB (pureRun Tryz.prog (Instr.fieldAt 61 x3 3)) fun t48 =>
  effu Tryz.prog (Instr.storeAt 58 t48 t47) w fun w =>
  wpB (pureRun Tryz.prog (Instr.fieldAt 61 x3 3)) fun t49 =>
  wpB (ldv Tryz.prog 58 t49 w) fun t50 =>
  wpB (pureRun Tryz.prog (Builtin.len_ #[58] 3 #[t50])) fun t51 =>
  P31_2 x3 t51 (.int .i64 0) w Q)
def L31_1 (x0 x3 x26 x27 : Value) (w : World) (Q : Value → World → Prop) : Prop :=
  wpB (bp Tryz.prog .add 3 x27 (.int .i64 1)) fun t42 =>
  P31_0 x0 x3 x26 t42 w Q
def L31_2 (x3 x51 x52 : Value) (w : World) (Q : Value → World → Prop) : Prop :=
  wpB (bp Tryz.prog .lss 3 x52 x51) fun t53 =>
  cnd t53
  (wpB (pureRun Tryz.prog (Instr.fieldAt 61 x3 3)) fun t55 =>
  wpB (ldv Tryz.prog 58 t55 w) fun t56 =>
  wpB (pureRun Tryz.prog (Instr.indexAt 58 t56 x52)) fun t58 =>
  ((wpB (nilv t58) fun t63 =>
  wpB (pureRun Tryz.prog (Instr.fieldAt 86 t63 3)) fun t64 =>
  wpB (nilv t58) fun t68 =>
  wpB (pureRun Tryz.prog (Instr.fieldAt 86 t68 5)) fun t69 =>
  wpB (nilv t58) fun t73 =>
  wpB (pureRun Tryz.prog (Instr.fieldAt 86 t73 4)) fun t74 =>
  wpB (ldv Tryz.prog 26 t64 w.drew) fun t65 =>
  wpB (ldv Tryz.prog 44 t69 w.drew) fun t70 =>
  wpB (ldv Tryz.prog 84 t74 w.drew) fun t75 =>
  CallR Tryz.prog 48 [t65] w.drew fun t66 w =>
  CallR Tryz.prog 49 [t70] w fun t71 w =>
  CallR Tryz.prog 50 [t75] w fun t76 w =>
  wpB (nilv t58) fun t77 =>
  wpB (pureRun Tryz.prog (Instr.fieldAt 86 t77 3)) fun t78 =>
  effu Tryz.prog (Instr.storeAt 26 t78 t66) w fun w =>
  wpB (nilv t58) fun t79 =>
  wpB (pureRun Tryz.prog (Instr.fieldAt 86 t79 5)) fun t80 =>
  effu Tryz.prog (Instr.storeAt 44 t80 t71) w fun w =>
  wpB (nilv t58) fun t81 =>
  wpB (pureRun Tryz.prog (Instr.fieldAt 86 t81 4)) fun t82 =>
  effu Tryz.prog (Instr.storeAt 84 t82 t76) w fun w =>
  P31_3 x3 t58 x51 x52 w Q) ∧
  ((wpB (nilv t58) fun t63_1 =>
  wpB (pureRun Tryz.prog (Instr.fieldAt 86 t63_1 3)) fun t64_1 =>
  wpB (nilv t58) fun t68_1 =>
  wpB (pureRun Tryz.prog (Instr.fieldAt 86 t68_1 5)) fun t69_1 =>
  wpB (nilv t58) fun t73_1 =>
  wpB (pureRun Tryz.prog (Instr.fieldAt 86 t73_1 4)) fun t74_1 =>
  wpB (ldv Tryz.prog 26 t64_1 w.drew) fun t65_1 =>
  wpB (ldv Tryz.prog 44 t69_1 w.drew) fun t70_1 =>
  CallR Tryz.prog 48 [t65_1] w.drew fun t66_1 w =>
  wpB (ldv Tryz.prog 84 t74_1 w) fun t75_1 =>
  CallR Tryz.prog 49 [t70_1] w fun t71_1 w =>
  CallR Tryz.prog 50 [t75_1] w fun t76_1 w =>
  wpB (nilv t58) fun t77_1 =>
  wpB (pureRun Tryz.prog (Instr.fieldAt 86 t77_1 3)) fun t78_1 =>
  effu Tryz.prog (Instr.storeAt 26 t78_1 t66_1) w fun w =>
  wpB (nilv t58) fun t79_1 =>
  wpB (pureRun Tryz.prog (Instr.fieldAt 86 t79_1 5)) fun t80_1 =>
  effu Tryz.prog (Instr.storeAt 44 t80_1 t71_1) w fun w =>
  wpB (nilv t58) fun t81_1 =>
  wpB (pureRun Tryz.prog (Instr.fieldAt 86 t81_1 4)) fun t82_1 =>
  effu Tryz.prog (Instr.storeAt 84 t82_1 t76_1) w fun w =>
  P31_3 x3 t58 x51 x52 w Q) ∧
  (wpB (nilv t58) fun t63_2 =>
  wpB (pureRun Tryz.prog (Instr.fieldAt 86 t63_2 3)) fun t64_2 =>
  wpB (nilv t58) fun t68_2 =>
  wpB (pureRun Tryz.prog (Instr.fieldAt 86 t68_2 5)) fun t69_2 =>
  wpB (nilv t58) fun t73_2 =>
  wpB (pureRun Tryz.prog (Instr.fieldAt 86 t73_2 4)) fun t74_2 =>
  wpB (ldv Tryz.prog 26 t64_2 w.drew) fun t65_2 =>
  wpB (ldv Tryz.prog 44 t69_2 w.drew) fun t70_2 =>
  CallR Tryz.prog 48 [t65_2] w.drew fun t66_2 w =>
  CallR Tryz.prog 49 [t70_2] w fun t71_2 w =>
  wpB (ldv Tryz.prog 84 t74_2 w) fun t75_2 =>
  CallR Tryz.prog 50 [t75_2] w fun t76_2 w =>
  wpB (nilv t58) fun t77_2 =>
  wpB (pureRun Tryz.prog (Instr.fieldAt 86 t77_2 3)) fun t78_2 =>
  effu Tryz.prog (Instr.storeAt 26 t78_2 t66_2) w fun w =>
  wpB (nilv t58) fun t79_2 =>
  wpB (pureRun Tryz.prog (Instr.fieldAt 86 t79_2 5)) fun t80_2 =>
  effu Tryz.prog (Instr.storeAt 44 t80_2 t71_2) w fun w =>
  wpB (nilv t58) fun t81_2 =>
  wpB (pureRun Tryz.prog (Instr.fieldAt 86 t81_2 4)) fun t82_2 =>
  effu Tryz.prog (Instr.storeAt 84 t82_2 t76_2) w fun w =>
  P31_3 x3 t58 x51 x52 w Q))) ∧
  ((wpB (nilv t58) fun t63_3 =>
  wpB (pureRun Tryz.prog (Instr.fieldAt 86 t63_3 3)) fun t64_3 =>
  wpB (nilv t58) fun t68_3 =>
  wpB (pureRun Tryz.prog (Instr.fieldAt 86 t68_3 5)) fun t69_3 =>
  wpB (nilv t58) fun t73_3 =>
  wpB (pureRun Tryz.prog (Instr.fieldAt 86 t73_3 4)) fun t74_3 =>
  wpB (ldv Tryz.prog 26 t64_3 w.drew) fun t65_3 =>
  wpB (ldv Tryz.prog 84 t74_3 w.drew) fun t75_3 =>
  CallR Tryz.prog 48 [t65_3] w.drew fun t66_3 w =>
  wpB (ldv Tryz.prog 44 t69_3 w) fun t70_3 =>
  CallR Tryz.prog 49 [t70_3] w fun t71_3 w =>
  CallR Tryz.prog 50 [t75_3] w fun t76_3 w =>
  wpB (nilv t58) fun t77_3 =>
  wpB (pureRun Tryz.prog (Instr.fieldAt 86 t77_3 3)) fun t78_3 =>
  effu Tryz.prog (Instr.storeAt 26 t78_3 t66_3) w fun w =>
  wpB (nilv t58) fun t79_3 =>
  wpB (pureRun Tryz.prog (Instr.fieldAt 86 t79_3 5)) fun t80_3 =>
  effu Tryz.prog (Instr.storeAt 44 t80_3 t71_3) w fun w =>
  wpB (nilv t58) fun t81_3 =>
  wpB (pureRun Tryz.prog (Instr.fieldAt 86 t81_3 4)) fun t82_3 =>
  effu Tryz.prog (Instr.storeAt 84 t82_3 t76_3) w fun w =>
  P31_3 x3 t58 x51 x52 w Q) ∧
  ((wpB (nilv t58) fun t63_4 =>
  wpB (pureRun Tryz.prog (Instr.fieldAt 86 t63_4 3)) fun t64_4 =>
  wpB (nilv t58) fun t68_4 =>
  wpB (pureRun Tryz.prog (Instr.fieldAt 86 t68_4 5)) fun t69_4 =>
  wpB (nilv t58) fun t73_4 =>
  wpB (pureRun Tryz.prog (Instr.fieldAt 86 t73_4 4)) fun t74_4 =>
  wpB (ldv Tryz.prog 26 t64_4 w.drew) fun t65_4 =>
  CallR Tryz.prog 48 [t65_4] w.drew fun t66_4 w =>
  wpB (ldv Tryz.prog 44 t69_4 w) fun t70_4 =>
  wpB (ldv Tryz.prog 84 t74_4 w) fun t75_4 =>
  CallR Tryz.prog 49 [t70_4] w fun t71_4 w =>
  CallR Tryz.prog 50 [t75_4] w fun t76_4 w =>
  wpB (nilv t58) fun t77_4 =>
  wpB (pureRun Tryz.prog (Instr.fieldAt 86 t77_4 3)) fun t78_4 =>
  effu Tryz.prog (Instr.storeAt 26 t78_4 t66_4) w fun w =>
  wpB (nilv t58) fun t79_4 =>
  wpB (pureRun Tryz.prog (Instr.fieldAt 86 t79_4 5)) fun t80_4 =>
  effu Tryz.prog (Instr.storeAt 44 t80_4 t71_4) w fun w =>
  wpB (nilv t58) fun t81_4 =>
  wpB (pureRun Tryz.prog (Instr.fieldAt 86 t81_4 4)) fun t82_4 =>
  effu Tryz.prog (Instr.storeAt 84 t82_4 t76_4) w fun w =>
  P31_3 x3 t58 x51 x52 w Q) ∧
  (wpB (nilv t58) fun t63_5 =>
  wpB (pureRun Tryz.prog (Instr.fieldAt 86 t63_5 3)) fun t64_5 =>
  wpB (ldv Tryz.prog 26 t64_5 w.drew) fun t65_5 =>
  CallR Tryz.prog 48 [t65_5] w.drew fun t66_5 w =>
  wpB (nilv t58) fun t68_5 =>
  wpB (pureRun Tryz.prog (Instr.fieldAt 86 t68_5 5)) fun t69_5 =>
  wpB (ldv Tryz.prog 44 t69_5 w) fun t70_5 =>
  CallR Tryz.prog 49 [t70_5] w fun t71_5 w =>
  wpB (nilv t58) fun t73_5 =>
  wpB (pureRun Tryz.prog (Instr.fieldAt 86 t73_5 4)) fun t74_5 =>
  wpB (ldv Tryz.prog 84 t74_5 w) fun t75_5 =>
  CallR Tryz.prog 50 [t75_5] w fun t76_5 w =>
  wpB (nilv t58) fun t77_5 =>
  wpB (pureRun Tryz.prog (Instr.fieldAt 86 t77_5 3)) fun t78_5 =>
  effu Tryz.prog (Instr.storeAt 26 t78_5 t66_5) w fun w =>
  wpB (nilv t58) fun t79_5 =>
  wpB (pureRun Tryz.prog (Instr.fieldAt 86 t79_5 5)) fun t80_5 =>
  effu Tryz.prog (Instr.storeAt 44 t80_5 t71_5) w fun w =>
  wpB (nilv t58) fun t81_5 =>
  wpB (pureRun Tryz.prog (Instr.fieldAt 86 t81_5 4)) fun t82_5 =>
  effu Tryz.prog (Instr.storeAt 84 t82_5 t76_5) w fun w =>
  P31_3 x3 t58 x51 x52 w Q))))
  (Q x3 w)
def L31_3 (x3 x6 x51 x52 : Value) (w : World) (Q : Value → World → Prop) : Prop :=
  wpB (nilv x6) fun t84 =>
  wpB (pureRun Tryz.prog (Instr.fieldAt 86 t84 4)) fun t85 =>
  wpB (ldv Tryz.prog 84 t85 w) fun t86 =>
  wpB (pureRun Tryz.prog (Builtin.len_ #[84] 3 #[t86])) fun t87 =>
  P31_4 x3 x6 x51 x52 t86 t87 (.int .i64 0) w Q
def L31_4 (x3 x6 x51 x52 x86 x87 x88 : Value) (w : World) (Q : Value → World → Prop) : Prop :=
  wpB (bp Tryz.prog .lss 3 x88 x87) fun t89 =>
  cnd t89
  (wpB (pureRun Tryz.prog (Instr.indexAt 84 x86 x88)) fun t91 =>
  wpB (ldv Tryz.prog 102 t91 w) fun t92 =>
  (wpB (nilv x6) fun t94 =>
  wpB (pureRun Tryz.prog (Instr.fieldAt 86 t94 4)) fun t95 =>
  wpB (ldv Tryz.prog 84 t95 w.drew) fun t96 =>
  CallR Tryz.prog 51 [t92] w.drew fun t99 w =>
  wpB (pureRun Tryz.prog (Instr.indexAt 84 t96 x88)) fun t100 =>
  effu Tryz.prog (Instr.storeAt 102 t100 t99) w fun w =>
  P31_5 x3 x6 x51 x52 x86 x87 x88 w Q) ∧
  (wpB (nilv x6) fun t94_1 =>
  wpB (pureRun Tryz.prog (Instr.fieldAt 86 t94_1 4)) fun t95_1 =>
  CallR Tryz.prog 51 [t92] w.drew fun t99_1 w =>
  wpB (ldv Tryz.prog 84 t95_1 w) fun t96_1 =>
  wpB (pureRun Tryz.prog (Instr.indexAt 84 t96_1 x88)) fun t100_1 =>
  effu Tryz.prog (Instr.storeAt 102 t100_1 t99_1) w fun w =>
  P31_5 x3 x6 x51 x52 x86 x87 x88 w Q))
  (wpB (bp Tryz.prog .add 3 x52 (.int .i64 1)) fun t102 =>
  P31_2 x3 x51 t102 w Q)
def L31_5 (x3 x6 x51 x52 x86 x87 x88 : Value) (w : World) (Q : Value → World → Prop) : Prop :=
  wpB (bp Tryz.prog .add 3 x88 (.int .i64 1)) fun t101 =>
  P31_4 x3 x6 x51 x52 x86 x87 t101 w Q
theorem F31_ok {a0 : Value} {w : World} {Q : Value → World → Prop} (h : F31 a0 w Q) : CallR Tryz.prog 31 [a0] w Q :=
  af mixed ad Tryz.func31 (c := C31) rfl H31 (Nat.le_of_ble_eq_true rfl) (by kernel_rfl) h
theorem L31_0_ok {x0 x3 x26 x27 : Value} {w : World} {Q : Value → World → Prop} (h : L31_0 x0 x3 x26 x27 w Q) : P31_0 x0 x3 x26 x27 w Q :=
  aB mixed ad Tryz.func31 H31 (by kernel_rfl) h
theorem L31_1_ok {x0 x3 x26 x27 : Value} {w : World} {Q : Value → World → Prop} (h : L31_1 x0 x3 x26 x27 w Q) : P31_1 x0 x3 x26 x27 w Q :=
  ax mixed ad Tryz.func31 H31 (by kernel_rfl) h
theorem L31_2_ok {x3 x51 x52 : Value} {w : World} {Q : Value → World → Prop} (h : L31_2 x3 x51 x52 w Q) : P31_2 x3 x51 x52 w Q :=
  aB mixed ad Tryz.func31 H31 (by kernel_rfl) h
theorem L31_3_ok {x3 x6 x51 x52 : Value} {w : World} {Q : Value → World → Prop} (h : L31_3 x3 x6 x51 x52 w Q) : P31_3 x3 x6 x51 x52 w Q :=
  ax mixed ad Tryz.func31 H31 (by kernel_rfl) h
theorem L31_4_ok {x3 x6 x51 x52 x86 x87 x88 : Value} {w : World} {Q : Value → World → Prop} (h : L31_4 x3 x6 x51 x52 x86 x87 x88 w Q) : P31_4 x3 x6 x51 x52 x86 x87 x88 w Q :=
  aB mixed ad Tryz.func31 H31 (by kernel_rfl) h
theorem L31_5_ok {x3 x6 x51 x52 x86 x87 x88 : Value} {w : World} {Q : Value → World → Prop} (h : L31_5 x3 x6 x51 x52 x86 x87 x88 w Q) : P31_5 x3 x6 x51 x52 x86 x87 x88 w Q :=
  ax mixed ad Tryz.func31 H31 (by kernel_rfl) h

noncomputable def C32 : Code := (Tryz.f32.body).getD .skip
noncomputable def H32 : Hints := ⟨[], [(9, [])], []⟩
noncomputable def T32_0 : List It := [.jn (nav [1, 1, 0, 1, 1, 2, 1, 1] C32), .jn (nav [1, 1, 1] C32)]
def P32_0 (w : World) (Q : Value → World → Prop) : Prop := Part Tryz.prog 32 T32_0 [] [] w Q
def F32 (a0 a1 a2 a3 a4 : Value) (w : World) (Q : Value → World → Prop) : Prop :=
  effv Tryz.prog (Instr.box 36 a2) w fun t7 w =>
  effv Tryz.prog (Instr.box 38 a3) w fun t8 w =>
  effv Tryz.prog (Instr.box 40 a4) w fun t9 w =>
  wpB (ldv Tryz.prog 36 t7 w) fun t15 =>
  CallR Tryz.prog 39 [a0, a1, t15] w fun t16 w =>
  wpB (pureRun Tryz.prog (Op.unary .not t16)) fun t17 =>
  cnd t17
  (Q (.bool false) w)
  (wpB (ldv Tryz.prog 36 t7 w) fun t21 =>
  wpB (ldv Tryz.prog 38 t8 w) fun t22 =>
  CallR Tryz.prog 30 [a0, a1, t21, t22] w fun t23 w =>
  wpB (pureRun Tryz.prog (Instr.extract t23 0)) fun t24 =>
  wpB (pureRun Tryz.prog (Instr.extract t23 1)) fun t25 =>
  effv Tryz.prog (Instr.alloc 40 true (.tuple #[])) w fun t11 w =>
  effu Tryz.prog (Instr.storeAt 40 t11 t24) w fun w =>
  cnd t25
  (wpB (ldv Tryz.prog 40 t9 w) fun t27 =>
  wpB (ldv Tryz.prog 40 t11 w) fun t28 =>
  wpB (be Tryz.prog .neq 40 (.tmp 27) (.tmp 28) t27 t28) fun t29 =>
  cnd t29
  (Q (.bool false) w)
  (wpB (pureRun Tryz.prog (Instr.fieldAt 40 t9 0)) fun t30 =>
  wpB (ldv Tryz.prog 27 t30 w) fun t31 =>
  wpB (be Tryz.prog .eql 27 (.tmp 31) (.const (.int .i64 0)) t31 (.int .i64 0)) fun t32 =>
  cnd t32
  (wpB (ldv Tryz.prog 36 t7 w) fun t35 =>
  wpB (ldv Tryz.prog 38 t8 w) fun t36 =>
  CallR Tryz.prog 52 [a0, a1, t35, t36] w fun t37 w =>
  P32_0 w Q)
  (P32_0 w Q)))
  (wpB (pureRun Tryz.prog (Instr.fieldAt 36 t7 0)) fun t38 =>
  wpB (ldv Tryz.prog 3 t38 w) fun t39 =>
  wpB (be Tryz.prog .eql 3 (.tmp 39) (.const (.int .i64 1)) t39 (.int .i64 1)) fun t40 =>
  cnd t40
  (wpB (pureRun Tryz.prog (Instr.fieldAt 36 t7 3)) fun t42 =>
  wpB (ldv Tryz.prog 3 t42 w) fun t43 =>
  wpB (ldv Tryz.prog 40 t9 w) fun t44 =>
  CallR Tryz.prog 53 [a0, t43, t44] w fun t45 w =>
  Q t45 w)
  (wpB (pureRun Tryz.prog (Instr.fieldAt 36 t7 3)) fun t47 =>
  wpB (ldv Tryz.prog 3 t47 w) fun t48 =>
  wpB (ldv Tryz.prog 38 t8 w) fun t49 =>
  wpB (ldv Tryz.prog 40 t9 w) fun t50 =>
  CallR Tryz.prog 54 [a0, t48, t49, t50] w fun t51 w =>
  Q t51 w)))
def L32_0 (w : World) (Q : Value → World → Prop) : Prop :=
  Q (.bool true) w
theorem F32_ok {a0 a1 a2 a3 a4 : Value} {w : World} {Q : Value → World → Prop} (h : F32 a0 a1 a2 a3 a4 w Q) : CallR Tryz.prog 32 [a0, a1, a2, a3, a4] w Q :=
  af mixed ad Tryz.func32 (c := C32) rfl H32 (Nat.le_of_ble_eq_true rfl) (by kernel_rfl) h
theorem L32_0_ok {w : World} {Q : Value → World → Prop} (h : L32_0  w Q) : P32_0  w Q :=
  ax mixed ad Tryz.func32 H32 (by kernel_rfl) h

noncomputable def C33 : Code := (Tryz.f33.body).getD .skip
noncomputable def H33 : Hints := ⟨[], [], []⟩
def F33 (a0 : Value) (w : World) (Q : Value → World → Prop) : Prop :=
  effv Tryz.prog (Instr.box 42 a0) w fun t1 w =>
  effv Tryz.prog (Instr.alloc 67 true (.tuple #[])) w fun t2 w =>
  wpB (pureRun Tryz.prog (Instr.fieldAt 42 t1 3)) fun t3 =>
  wpB (ldv Tryz.prog 3 t3 w) fun t4 =>
  wpB (pureRun Tryz.prog (Instr.fieldAt 42 t1 4)) fun t5 =>
  wpB (ldv Tryz.prog 3 t5 w) fun t6 =>
  wpB (pureRun Tryz.prog (Instr.fieldAt 42 t1 5)) fun t7 =>
  wpB (ldv Tryz.prog 3 t7 w) fun t8 =>
  wpB (pureRun Tryz.prog (Instr.fieldAt 42 t1 6)) fun t9 =>
  wpB (ldv Tryz.prog 3 t9 w) fun t10 =>
  wpB (pureRun Tryz.prog (Instr.build 67 #[(0, t4), (1, t6), (2, t8), (3, t10)])) fun t11 =>
  effu Tryz.prog (Instr.storeAt 67 t2 t11) w fun w =>
  wpB (ldv Tryz.prog 67 t2 w) fun r2 => Q r2 w
theorem F33_ok {a0 : Value} {w : World} {Q : Value → World → Prop} (h : F33 a0 w Q) : CallR Tryz.prog 33 [a0] w Q :=
  af mixed ad Tryz.func33 (c := C33) rfl H33 (Nat.le_of_ble_eq_true rfl) (by kernel_rfl) h

noncomputable def C34 : Code := (Tryz.f34.body).getD .skip
noncomputable def H34 : Hints := ⟨[(4, [0, 1, 2, 8])], [(5, [0, 1, 2, 8]), (15, [0, 1, 2, 8, 9, 10, 11])], [(11, (.leaf [0, 1, 2, 3, 4, 5, 6, 7, 8, 9, 10, 11, 12, 13]))]⟩
noncomputable def T34_0 : List It := [.lp (nav [1, 1, 0, 1, 4, 5] C34), .blk 0, .jn (nav [1, 1, 1] C34)]
noncomputable def T34_1 : List It := [.jn (nav [1, 1, 0, 1, 4, 5, 1, 1] C34), .lp (nav [1, 1, 0, 1, 4, 5] C34), .blk 0, .jn (nav [1, 1, 1] C34)]
noncomputable def T34_2 : List It := [.jn (nav [1, 1, 0, 1, 4, 5, 1, 0, 4, 1, 1, 1, 1, 1] C34), .blk 1, .jn (nav [1, 1, 0, 1, 4, 5, 1, 1] C34), .lp (nav [1, 1, 0, 1, 4, 5] C34), .blk 0, .jn (nav [1, 1, 1] C34)]
def P34_0 (x0 x1 x2 x8 : Value) (w : World) (Q : Value → World → Prop) : Prop := Part Tryz.prog 34 T34_0 [0, 1, 2, 8] [x0, x1, x2, x8] w Q
def P34_1 (x0 x1 x2 x8 : Value) (w : World) (Q : Value → World → Prop) : Prop := Part Tryz.prog 34 T34_1 [0, 1, 2, 8] [x0, x1, x2, x8] w Q
def P34_2 (x0 x1 x2 x8 x9 x10 x11 : Value) (w : World) (Q : Value → World → Prop) : Prop := Part Tryz.prog 34 T34_2 [0, 1, 2, 8, 9, 10, 11] [x0, x1, x2, x8, x9, x10, x11] w Q
def F34 (a0 a1 a2 : Value) (w : World) (Q : Value → World → Prop) : Prop :=
  CallR Tryz.prog 55 [a0, a2] w fun t19 w =>
  cnd t19
  (Q (.tuple #[a2, (.bool true)]) w)
  (P34_0 a0 a1 a2 (.int .i64 0) w Q)
def L34_0 (x0 x1 x2 x8 : Value) (w : World) (Q : Value → World → Prop) : Prop :=
  wpB (nilv x0) fun t23 =>
  wpB (pureRun Tryz.prog (Instr.fieldAt 71 t23 0)) fun t24 =>
  wpB (ldv Tryz.prog 24 t24 w) fun t25 =>
  wpB (pureRun Tryz.prog (Builtin.len_ #[24] 3 #[t25])) fun t26 =>
  wpB (bp Tryz.prog .lss 3 x8 t26) fun t27 =>
  cnd t27
  (CallR Tryz.prog 56 [x0, x2, x8] w fun t33 w =>
  wpB (pureRun Tryz.prog (Op.unary .not t33)) fun t34 =>
  cnd t34
  (P34_1 x0 x1 x2 x8 w Q)
  (wpB (nilv x0) fun t36 =>
  wpB (pureRun Tryz.prog (Instr.fieldAt 71 t36 0)) fun t37 =>
  wpB (ldv Tryz.prog 24 t37 w) fun t38 =>
  wpB (pureRun Tryz.prog (Instr.indexAt 24 t38 x8)) fun t40 =>
  wpB (ldv Tryz.prog 42 t40 w) fun t41 =>
  effv Tryz.prog (Instr.alloc 42 true (.tuple #[])) w fun t9 w =>
  effu Tryz.prog (Instr.storeAt 42 t9 t41) w fun w =>
  wpB (nilv x0) fun t43 =>
  wpB (pureRun Tryz.prog (Instr.fieldAt 71 t43 0)) fun t44 =>
  wpB (ldv Tryz.prog 24 t44 w) fun t45 =>
  CallR Tryz.prog 57 [t45, x8] w fun t47 w =>
  effv Tryz.prog (Instr.alloc 38 true (.tuple #[])) w fun t10 w =>
  effu Tryz.prog (Instr.storeAt 38 t10 t47) w fun w =>
  wpB (pureRun Tryz.prog (Instr.fieldAt 42 t9 7)) fun t48 =>
  wpB (ldv Tryz.prog 40 t48 w) fun t49 =>
  effv Tryz.prog (Instr.alloc 40 true (.tuple #[])) w fun t11 w =>
  effu Tryz.prog (Instr.storeAt 40 t11 t49) w fun w =>
  wpB (pureRun Tryz.prog (Instr.fieldAt 42 t9 6)) fun t50 =>
  wpB (ldv Tryz.prog 3 t50 w) fun t51 =>
  wpB (bp Tryz.prog .lss 3 t51 (.int .i64 0)) fun t52 =>
  wpB (gd t52 true (pureRun Tryz.prog (Instr.fieldAt 42 t9 4))) fun t54 =>
  wpB (gd t52 true (ldv Tryz.prog 3 t54 w)) fun t55 =>
  wpB (gd t52 true (bp Tryz.prog .lss 3 t55 (.int .i64 0))) fun t56 =>
  wpB (pickv t52 (some t56) (some (.bool false))) fun t57 =>
  cnd t57
  (wpB (pureRun Tryz.prog (Instr.fieldAt 42 t9 2)) fun t58 =>
  wpB (ldv Tryz.prog 36 t58 w.drew) fun t59 =>
  CallR Tryz.prog 58 [t59] w.drew fun t60 w =>
  wpB (pureRun Tryz.prog (Op.unary .not t60)) fun t61 =>
  wpB (gd t61 false (pureRun Tryz.prog (Instr.fieldAt 42 t9 0))) fun t63 =>
  wpB (gd t61 false (ldv Tryz.prog 3 t63 w)) fun t64 =>
  wpB (gd t61 false (nilv (gv t61 false x1))) fun t66 =>
  wpB (gd t61 false (pureRun Tryz.prog (Instr.fieldAt 112 t66 0))) fun t67 =>
  wpB (gd t61 false (pureRun Tryz.prog (Instr.fieldAt 23 t67 0))) fun t68 =>
  wpB (gd t61 false (ldv Tryz.prog 3 t68 w)) fun t69 =>
  wpB (gd t61 false (bp Tryz.prog .geq 3 t64 t69)) fun t70 =>
  wpB (pickv t61 (some (.bool true)) (some t70)) fun t71 =>
  cnd t71
  (P34_1 x0 x1 x2 x8 w Q)
  (wpB (pureRun Tryz.prog (Instr.fieldAt 42 t9 0)) fun t74 =>
  wpB (ldv Tryz.prog 3 t74 w) fun t75 =>
  wpB (pureRun Tryz.prog (Instr.fieldAt 42 t9 2)) fun t76 =>
  wpB (ldv Tryz.prog 36 t76 w) fun t77 =>
  wpB (ldv Tryz.prog 38 t10 w) fun t78 =>
  CallR Tryz.prog 59 [x1, t75, t77, t78] w fun t79 w =>
  wpB (pureRun Tryz.prog (Instr.extract t79 0)) fun t80 =>
  wpB (pureRun Tryz.prog (Instr.extract t79 1)) fun t81 =>
  effv Tryz.prog (Instr.alloc 40 true (.tuple #[])) w fun t12 w =>
  effu Tryz.prog (Instr.storeAt 40 t12 t80) w fun w =>
  wpB (pureRun Tryz.prog (Op.unary .not t81)) fun t83 =>
  cnd t83
  (P34_1 x0 x1 x2 x8 w Q)
  (wpB (ldv Tryz.prog 40 t12 w) fun t84 =>
  effu Tryz.prog (Instr.storeAt 40 t11 t84) w fun w =>
  P34_2 x0 x1 x2 x8 t9 t10 t11 w Q)))
  (P34_2 x0 x1 x2 x8 t9 t10 t11 w Q)))
  (Q (.tuple #[(.slice none 0 0), (.bool false)]) w)
def L34_1 (x0 x1 x2 x8 : Value) (w : World) (Q : Value → World → Prop) : Prop :=
  wpB (bp Tryz.prog .add 3 x8 (.int .i64 1)) fun t29 =>
  P34_0 x0 x1 x2 t29 w Q
def L34_2 (x0 x1 x2 x8 x9 x10 x11 : Value) (w : World) (Q : Value → World → Prop) : Prop :=
  wpB (nilv x0) fun t86 =>
  wpB (pureRun Tryz.prog (Instr.fieldAt 71 t86 1)) fun t87 =>
  wpB (ldv Tryz.prog 3 t87 w) fun t88 =>
  wpB (be Tryz.prog .eql 3 (.tmp 88) (.const (.int .i64 0)) t88 (.int .i64 0)) fun t89 =>
  cnd t89
  (wpB (nilv x0) fun t91 =>
  wpB (pureRun Tryz.prog (Instr.fieldAt 71 t91 2)) fun t92 =>
  effu Tryz.prog (Instr.storeAt 4 t92 (.bool true)) w fun w =>
  Q (.tuple #[(.slice none 0 0), (.bool false)]) w)
  (wpB (nilv x0) fun t94 =>
  wpB (pureRun Tryz.prog (Instr.fieldAt 71 t94 1)) fun t95 =>
  wpB (ldv Tryz.prog 3 t95 w) fun t96 =>
  wpB (bp Tryz.prog .sub 3 t96 (.int .i64 1)) fun t97 =>
  wpB (nilv x0) fun t98 =>
  wpB (pureRun Tryz.prog (Instr.fieldAt 71 t98 1)) fun t99 =>
  effu Tryz.prog (Instr.storeAt 3 t99 t97) w fun w =>
  CallR Tryz.prog 60 [x1] w fun t101 w =>
  wpB (pureRun Tryz.prog (Instr.fieldAt 42 x9 0)) fun t103 =>
  wpB (ldv Tryz.prog 3 t103 w) fun t104 =>
  wpB (pureRun Tryz.prog (Instr.fieldAt 42 x9 2)) fun t105 =>
  wpB (ldv Tryz.prog 36 t105 w) fun t106 =>
  wpB (ldv Tryz.prog 38 x10 w) fun t107 =>
  wpB (ldv Tryz.prog 40 x11 w) fun t108 =>
  CallR Tryz.prog 61 [t101, t104, t106, t107, t108] w fun t109 w =>
  wpB (pureRun Tryz.prog (Op.unary .not t109)) fun t110 =>
  cnd t110
  (P34_1 x0 x1 x2 x8 w Q)
  (effv Tryz.prog (Builtin.append_ #[26, 26] 26 #[(.slice none 0 0), x2]) w fun t115 w =>
  effv Tryz.prog (Instr.buildSlice 26 1 #[(0, x8)]) w fun t117 w =>
  effv Tryz.prog (Builtin.append_ #[26, 26] 26 #[t115, t117]) w fun t118 w =>
  CallR Tryz.prog 34 [x0, t101, t118] w fun t119 w =>
  wpB (pureRun Tryz.prog (Instr.extract t119 0)) fun t120 =>
  wpB (pureRun Tryz.prog (Instr.extract t119 1)) fun t121 =>
  wpB (gd t121 false (nilv (gv t121 false x0))) fun t125 =>
  wpB (gd t121 false (pureRun Tryz.prog (Instr.fieldAt 71 t125 2))) fun t126 =>
  wpB (gd t121 false (ldv Tryz.prog 4 t126 w)) fun t127 =>
  wpB (pickv t121 (some (.bool true)) (some t127)) fun t128 =>
  cnd t128
  (Q (.tuple #[t120, t121]) w)
  (P34_1 x0 x1 x2 x8 w Q)))
theorem F34_ok {a0 a1 a2 : Value} {w : World} {Q : Value → World → Prop} (h : F34 a0 a1 a2 w Q) : CallR Tryz.prog 34 [a0, a1, a2] w Q :=
  af mixed ad Tryz.func34 (c := C34) rfl H34 (Nat.le_of_ble_eq_true rfl) (by kernel_rfl) h
theorem L34_0_ok {x0 x1 x2 x8 : Value} {w : World} {Q : Value → World → Prop} (h : L34_0 x0 x1 x2 x8 w Q) : P34_0 x0 x1 x2 x8 w Q :=
  aB mixed ad Tryz.func34 H34 (by kernel_rfl) h
theorem L34_1_ok {x0 x1 x2 x8 : Value} {w : World} {Q : Value → World → Prop} (h : L34_1 x0 x1 x2 x8 w Q) : P34_1 x0 x1 x2 x8 w Q :=
  ax mixed ad Tryz.func34 H34 (by kernel_rfl) h
theorem L34_2_ok {x0 x1 x2 x8 x9 x10 x11 : Value} {w : World} {Q : Value → World → Prop} (h : L34_2 x0 x1 x2 x8 x9 x10 x11 w Q) : P34_2 x0 x1 x2 x8 x9 x10 x11 w Q :=
  ax mixed ad Tryz.func34 H34 (by kernel_rfl) h

noncomputable def C35 : Code := (Tryz.f35.body).getD .skip
noncomputable def H35 : Hints := ⟨[], [], [(1, (.ask 4 7 (.ask 4 10 (.ask 4 13 (.ask 7 10 (.ask 7 13 (.ask 10 13 (.leaf [1, 2, 5, 8, 11, 0, 3, 6, 9, 12, 4, 7, 10, 13, 14, 15, 16]) (.leaf [1, 2, 5, 8, 11, 0, 3, 6, 9, 12, 4, 7, 13, 10, 14, 15, 16])) (.leaf [1, 2, 5, 8, 11, 0, 3, 6, 9, 12, 4, 13, 7, 10, 14, 15, 16])) (.ask 10 13 (.ask 7 13 (.leaf [1, 2, 5, 8, 11, 0, 3, 6, 9, 12, 4, 10, 7, 13, 14, 15, 16]) (.leaf [1, 2, 5, 8, 11, 0, 3, 6, 9, 12, 4, 10, 13, 7, 14, 15, 16])) (.leaf [1, 2, 5, 8, 11, 0, 3, 6, 9, 12, 4, 13, 10, 7, 14, 15, 16]))) (.ask 7 10 (.leaf [1, 2, 5, 8, 11, 0, 3, 6, 9, 12, 13, 4, 7, 10, 14, 15, 16]) (.leaf [1, 2, 5, 8, 11, 0, 3, 6, 9, 12, 13, 4, 10, 7, 14, 15, 16]))) (.ask 10 13 (.ask 4 13 (.ask 7 13 (.leaf [1, 2, 5, 8, 11, 0, 3, 6, 9, 12, 10, 4, 7, 13, 14, 15, 16]) (.leaf [1, 2, 5, 8, 11, 0, 3, 6, 9, 12, 10, 4, 13, 7, 14, 15, 16])) (.leaf [1, 2, 5, 8, 11, 0, 3, 6, 9, 12, 10, 13, 4, 7, 14, 15, 16])) (.leaf [1, 2, 5, 8, 11, 0, 3, 6, 9, 12, 13, 10, 4, 7, 14, 15, 16]))) (.ask 7 10 (.ask 7 13 (.ask 4 10 (.ask 4 13 (.ask 10 13 (.leaf [1, 2, 5, 8, 11, 0, 3, 6, 9, 12, 7, 4, 10, 13, 14, 15, 16]) (.leaf [1, 2, 5, 8, 11, 0, 3, 6, 9, 12, 7, 4, 13, 10, 14, 15, 16])) (.leaf [1, 2, 5, 8, 11, 0, 3, 6, 9, 12, 7, 13, 4, 10, 14, 15, 16])) (.ask 10 13 (.ask 4 13 (.leaf [1, 2, 5, 8, 11, 0, 3, 6, 9, 12, 7, 10, 4, 13, 14, 15, 16]) (.leaf [1, 2, 5, 8, 11, 0, 3, 6, 9, 12, 7, 10, 13, 4, 14, 15, 16])) (.leaf [1, 2, 5, 8, 11, 0, 3, 6, 9, 12, 7, 13, 10, 4, 14, 15, 16]))) (.ask 4 10 (.leaf [1, 2, 5, 8, 11, 0, 3, 6, 9, 12, 13, 7, 4, 10, 14, 15, 16]) (.leaf [1, 2, 5, 8, 11, 0, 3, 6, 9, 12, 13, 7, 10, 4, 14, 15, 16]))) (.ask 10 13 (.ask 7 13 (.ask 4 13 (.leaf [1, 2, 5, 8, 11, 0, 3, 6, 9, 12, 10, 7, 4, 13, 14, 15, 16]) (.leaf [1, 2, 5, 8, 11, 0, 3, 6, 9, 12, 10, 7, 13, 4, 14, 15, 16])) (.leaf [1, 2, 5, 8, 11, 0, 3, 6, 9, 12, 10, 13, 7, 4, 14, 15, 16])) (.leaf [1, 2, 5, 8, 11, 0, 3, 6, 9, 12, 13, 10, 7, 4, 14, 15, 16])))))]⟩
def F35 (a0 a1 : Value) (w : World) (Q : Value → World → Prop) : Prop :=
  effv Tryz.prog (Instr.box 23 a0) w fun t2 w =>
  ((((((wpB (pureRun Tryz.prog (Instr.fieldAt 23 t2 3)) fun t7 =>
  wpB (pureRun Tryz.prog (Instr.fieldAt 23 t2 3)) fun t10 =>
  wpB (pureRun Tryz.prog (Instr.fieldAt 23 t2 0)) fun t13 =>
  wpB (pureRun Tryz.prog (Instr.fieldAt 23 t2 0)) fun t16 =>
  wpB (ldv Tryz.prog 23 t2 w.drew) fun t5 =>
  wpB (ldv Tryz.prog 3 t7 w.drew) fun t8 =>
  wpB (ldv Tryz.prog 3 t10 w.drew) fun t11 =>
  wpB (ldv Tryz.prog 3 t13 w.drew) fun t14 =>
  wpB (ldv Tryz.prog 3 t16 w.drew) fun t17 =>
  effv Tryz.prog (Instr.makeSlice 26 t8 t8) w.drew fun t9 w =>
  effv Tryz.prog (Instr.makeSlice 26 t11 t11) w fun t12 w =>
  effv Tryz.prog (Instr.makeSlice 26 t14 t14) w fun t15 w =>
  effv Tryz.prog (Instr.makeSlice 110 t17 t17) w fun t18 w =>
  wpB (pureRun Tryz.prog (Instr.build 112 #[(0, t5), (1, a1), (2, t9), (3, t12), (5, t15), (6, t18)])) fun t19 =>
  effv Tryz.prog (Instr.box 112 t19) w fun t20 w =>
  Q t20 w) ∧
  (wpB (pureRun Tryz.prog (Instr.fieldAt 23 t2 3)) fun t7_1 =>
  wpB (pureRun Tryz.prog (Instr.fieldAt 23 t2 3)) fun t10_1 =>
  wpB (pureRun Tryz.prog (Instr.fieldAt 23 t2 0)) fun t13_1 =>
  wpB (pureRun Tryz.prog (Instr.fieldAt 23 t2 0)) fun t16_1 =>
  wpB (ldv Tryz.prog 23 t2 w.drew) fun t5_1 =>
  wpB (ldv Tryz.prog 3 t7_1 w.drew) fun t8_1 =>
  wpB (ldv Tryz.prog 3 t10_1 w.drew) fun t11_1 =>
  wpB (ldv Tryz.prog 3 t13_1 w.drew) fun t14_1 =>
  wpB (ldv Tryz.prog 3 t16_1 w.drew) fun t17_1 =>
  effv Tryz.prog (Instr.makeSlice 26 t8_1 t8_1) w.drew fun t9_1 w =>
  effv Tryz.prog (Instr.makeSlice 26 t11_1 t11_1) w fun t12_1 w =>
  effv Tryz.prog (Instr.makeSlice 110 t17_1 t17_1) w fun t18_1 w =>
  effv Tryz.prog (Instr.makeSlice 26 t14_1 t14_1) w fun t15_1 w =>
  wpB (pureRun Tryz.prog (Instr.build 112 #[(0, t5_1), (1, a1), (2, t9_1), (3, t12_1), (5, t15_1), (6, t18_1)])) fun t19_1 =>
  effv Tryz.prog (Instr.box 112 t19_1) w fun t20_1 w =>
  Q t20_1 w)) ∧
  (wpB (pureRun Tryz.prog (Instr.fieldAt 23 t2 3)) fun t7_2 =>
  wpB (pureRun Tryz.prog (Instr.fieldAt 23 t2 3)) fun t10_2 =>
  wpB (pureRun Tryz.prog (Instr.fieldAt 23 t2 0)) fun t13_2 =>
  wpB (pureRun Tryz.prog (Instr.fieldAt 23 t2 0)) fun t16_2 =>
  wpB (ldv Tryz.prog 23 t2 w.drew) fun t5_2 =>
  wpB (ldv Tryz.prog 3 t7_2 w.drew) fun t8_2 =>
  wpB (ldv Tryz.prog 3 t10_2 w.drew) fun t11_2 =>
  wpB (ldv Tryz.prog 3 t13_2 w.drew) fun t14_2 =>
  wpB (ldv Tryz.prog 3 t16_2 w.drew) fun t17_2 =>
  effv Tryz.prog (Instr.makeSlice 26 t8_2 t8_2) w.drew fun t9_2 w =>
  effv Tryz.prog (Instr.makeSlice 110 t17_2 t17_2) w fun t18_2 w =>
  effv Tryz.prog (Instr.makeSlice 26 t11_2 t11_2) w fun t12_2 w =>
  effv Tryz.prog (Instr.makeSlice 26 t14_2 t14_2) w fun t15_2 w =>
  wpB (pureRun Tryz.prog (Instr.build 112 #[(0, t5_2), (1, a1), (2, t9_2), (3, t12_2), (5, t15_2), (6, t18_2)])) fun t19_2 =>
  effv Tryz.prog (Instr.box 112 t19_2) w fun t20_2 w =>
  Q t20_2 w)) ∧
  (((wpB (pureRun Tryz.prog (Instr.fieldAt 23 t2 3)) fun t7_3 =>
  wpB (pureRun Tryz.prog (Instr.fieldAt 23 t2 3)) fun t10_3 =>
  wpB (pureRun Tryz.prog (Instr.fieldAt 23 t2 0)) fun t13_3 =>
  wpB (pureRun Tryz.prog (Instr.fieldAt 23 t2 0)) fun t16_3 =>
  wpB (ldv Tryz.prog 23 t2 w.drew) fun t5_3 =>
  wpB (ldv Tryz.prog 3 t7_3 w.drew) fun t8_3 =>
  wpB (ldv Tryz.prog 3 t10_3 w.drew) fun t11_3 =>
  wpB (ldv Tryz.prog 3 t13_3 w.drew) fun t14_3 =>
  wpB (ldv Tryz.prog 3 t16_3 w.drew) fun t17_3 =>
  effv Tryz.prog (Instr.makeSlice 26 t8_3 t8_3) w.drew fun t9_3 w =>
  effv Tryz.prog (Instr.makeSlice 26 t14_3 t14_3) w fun t15_3 w =>
  effv Tryz.prog (Instr.makeSlice 26 t11_3 t11_3) w fun t12_3 w =>
  effv Tryz.prog (Instr.makeSlice 110 t17_3 t17_3) w fun t18_3 w =>
  wpB (pureRun Tryz.prog (Instr.build 112 #[(0, t5_3), (1, a1), (2, t9_3), (3, t12_3), (5, t15_3), (6, t18_3)])) fun t19_3 =>
  effv Tryz.prog (Instr.box 112 t19_3) w fun t20_3 w =>
  Q t20_3 w) ∧
  (wpB (pureRun Tryz.prog (Instr.fieldAt 23 t2 3)) fun t7_4 =>
  wpB (pureRun Tryz.prog (Instr.fieldAt 23 t2 3)) fun t10_4 =>
  wpB (pureRun Tryz.prog (Instr.fieldAt 23 t2 0)) fun t13_4 =>
  wpB (pureRun Tryz.prog (Instr.fieldAt 23 t2 0)) fun t16_4 =>
  wpB (ldv Tryz.prog 23 t2 w.drew) fun t5_4 =>
  wpB (ldv Tryz.prog 3 t7_4 w.drew) fun t8_4 =>
  wpB (ldv Tryz.prog 3 t10_4 w.drew) fun t11_4 =>
  wpB (ldv Tryz.prog 3 t13_4 w.drew) fun t14_4 =>
  wpB (ldv Tryz.prog 3 t16_4 w.drew) fun t17_4 =>
  effv Tryz.prog (Instr.makeSlice 26 t8_4 t8_4) w.drew fun t9_4 w =>
  effv Tryz.prog (Instr.makeSlice 26 t14_4 t14_4) w fun t15_4 w =>
  effv Tryz.prog (Instr.makeSlice 110 t17_4 t17_4) w fun t18_4 w =>
  effv Tryz.prog (Instr.makeSlice 26 t11_4 t11_4) w fun t12_4 w =>
  wpB (pureRun Tryz.prog (Instr.build 112 #[(0, t5_4), (1, a1), (2, t9_4), (3, t12_4), (5, t15_4), (6, t18_4)])) fun t19_4 =>
  effv Tryz.prog (Instr.box 112 t19_4) w fun t20_4 w =>
  Q t20_4 w)) ∧
  (wpB (pureRun Tryz.prog (Instr.fieldAt 23 t2 3)) fun t7_5 =>
  wpB (pureRun Tryz.prog (Instr.fieldAt 23 t2 3)) fun t10_5 =>
  wpB (pureRun Tryz.prog (Instr.fieldAt 23 t2 0)) fun t13_5 =>
  wpB (pureRun Tryz.prog (Instr.fieldAt 23 t2 0)) fun t16_5 =>
  wpB (ldv Tryz.prog 23 t2 w.drew) fun t5_5 =>
  wpB (ldv Tryz.prog 3 t7_5 w.drew) fun t8_5 =>
  wpB (ldv Tryz.prog 3 t10_5 w.drew) fun t11_5 =>
  wpB (ldv Tryz.prog 3 t13_5 w.drew) fun t14_5 =>
  wpB (ldv Tryz.prog 3 t16_5 w.drew) fun t17_5 =>
  effv Tryz.prog (Instr.makeSlice 26 t8_5 t8_5) w.drew fun t9_5 w =>
  effv Tryz.prog (Instr.makeSlice 110 t17_5 t17_5) w fun t18_5 w =>
  effv Tryz.prog (Instr.makeSlice 26 t14_5 t14_5) w fun t15_5 w =>
  effv Tryz.prog (Instr.makeSlice 26 t11_5 t11_5) w fun t12_5 w =>
  wpB (pureRun Tryz.prog (Instr.build 112 #[(0, t5_5), (1, a1), (2, t9_5), (3, t12_5), (5, t15_5), (6, t18_5)])) fun t19_5 =>
  effv Tryz.prog (Instr.box 112 t19_5) w fun t20_5 w =>
  Q t20_5 w))) ∧
  ((wpB (pureRun Tryz.prog (Instr.fieldAt 23 t2 3)) fun t7_6 =>
  wpB (pureRun Tryz.prog (Instr.fieldAt 23 t2 3)) fun t10_6 =>
  wpB (pureRun Tryz.prog (Instr.fieldAt 23 t2 0)) fun t13_6 =>
  wpB (pureRun Tryz.prog (Instr.fieldAt 23 t2 0)) fun t16_6 =>
  wpB (ldv Tryz.prog 23 t2 w.drew) fun t5_6 =>
  wpB (ldv Tryz.prog 3 t7_6 w.drew) fun t8_6 =>
  wpB (ldv Tryz.prog 3 t10_6 w.drew) fun t11_6 =>
  wpB (ldv Tryz.prog 3 t13_6 w.drew) fun t14_6 =>
  wpB (ldv Tryz.prog 3 t16_6 w.drew) fun t17_6 =>
  effv Tryz.prog (Instr.makeSlice 110 t17_6 t17_6) w.drew fun t18_6 w =>
  effv Tryz.prog (Instr.makeSlice 26 t8_6 t8_6) w fun t9_6 w =>
  effv Tryz.prog (Instr.makeSlice 26 t11_6 t11_6) w fun t12_6 w =>
  effv Tryz.prog (Instr.makeSlice 26 t14_6 t14_6) w fun t15_6 w =>
  wpB (pureRun Tryz.prog (Instr.build 112 #[(0, t5_6), (1, a1), (2, t9_6), (3, t12_6), (5, t15_6), (6, t18_6)])) fun t19_6 =>
  effv Tryz.prog (Instr.box 112 t19_6) w fun t20_6 w =>
  Q t20_6 w) ∧
  (wpB (pureRun Tryz.prog (Instr.fieldAt 23 t2 3)) fun t7_7 =>
  wpB (pureRun Tryz.prog (Instr.fieldAt 23 t2 3)) fun t10_7 =>
  wpB (pureRun Tryz.prog (Instr.fieldAt 23 t2 0)) fun t13_7 =>
  wpB (pureRun Tryz.prog (Instr.fieldAt 23 t2 0)) fun t16_7 =>
  wpB (ldv Tryz.prog 23 t2 w.drew) fun t5_7 =>
  wpB (ldv Tryz.prog 3 t7_7 w.drew) fun t8_7 =>
  wpB (ldv Tryz.prog 3 t10_7 w.drew) fun t11_7 =>
  wpB (ldv Tryz.prog 3 t13_7 w.drew) fun t14_7 =>
  wpB (ldv Tryz.prog 3 t16_7 w.drew) fun t17_7 =>
  effv Tryz.prog (Instr.makeSlice 110 t17_7 t17_7) w.drew fun t18_7 w =>
  effv Tryz.prog (Instr.makeSlice 26 t8_7 t8_7) w fun t9_7 w =>
  effv Tryz.prog (Instr.makeSlice 26 t14_7 t14_7) w fun t15_7 w =>
  effv Tryz.prog (Instr.makeSlice 26 t11_7 t11_7) w fun t12_7 w =>
  wpB (pureRun Tryz.prog (Instr.build 112 #[(0, t5_7), (1, a1), (2, t9_7), (3, t12_7), (5, t15_7), (6, t18_7)])) fun t19_7 =>
  effv Tryz.prog (Instr.box 112 t19_7) w fun t20_7 w =>
  Q t20_7 w))) ∧
  ((((wpB (pureRun Tryz.prog (Instr.fieldAt 23 t2 3)) fun t7_8 =>
  wpB (pureRun Tryz.prog (Instr.fieldAt 23 t2 3)) fun t10_8 =>
  wpB (pureRun Tryz.prog (Instr.fieldAt 23 t2 0)) fun t13_8 =>
  wpB (pureRun Tryz.prog (Instr.fieldAt 23 t2 0)) fun t16_8 =>
  wpB (ldv Tryz.prog 23 t2 w.drew) fun t5_8 =>
  wpB (ldv Tryz.prog 3 t7_8 w.drew) fun t8_8 =>
  wpB (ldv Tryz.prog 3 t10_8 w.drew) fun t11_8 =>
  wpB (ldv Tryz.prog 3 t13_8 w.drew) fun t14_8 =>
  wpB (ldv Tryz.prog 3 t16_8 w.drew) fun t17_8 =>
  effv Tryz.prog (Instr.makeSlice 26 t14_8 t14_8) w.drew fun t15_8 w =>
  effv Tryz.prog (Instr.makeSlice 26 t8_8 t8_8) w fun t9_8 w =>
  effv Tryz.prog (Instr.makeSlice 26 t11_8 t11_8) w fun t12_8 w =>
  effv Tryz.prog (Instr.makeSlice 110 t17_8 t17_8) w fun t18_8 w =>
  wpB (pureRun Tryz.prog (Instr.build 112 #[(0, t5_8), (1, a1), (2, t9_8), (3, t12_8), (5, t15_8), (6, t18_8)])) fun t19_8 =>
  effv Tryz.prog (Instr.box 112 t19_8) w fun t20_8 w =>
  Q t20_8 w) ∧
  (wpB (pureRun Tryz.prog (Instr.fieldAt 23 t2 3)) fun t7_9 =>
  wpB (pureRun Tryz.prog (Instr.fieldAt 23 t2 3)) fun t10_9 =>
  wpB (pureRun Tryz.prog (Instr.fieldAt 23 t2 0)) fun t13_9 =>
  wpB (pureRun Tryz.prog (Instr.fieldAt 23 t2 0)) fun t16_9 =>
  wpB (ldv Tryz.prog 23 t2 w.drew) fun t5_9 =>
  wpB (ldv Tryz.prog 3 t7_9 w.drew) fun t8_9 =>
  wpB (ldv Tryz.prog 3 t10_9 w.drew) fun t11_9 =>
  wpB (ldv Tryz.prog 3 t13_9 w.drew) fun t14_9 =>
  wpB (ldv Tryz.prog 3 t16_9 w.drew) fun t17_9 =>
  effv Tryz.prog (Instr.makeSlice 26 t14_9 t14_9) w.drew fun t15_9 w =>
  effv Tryz.prog (Instr.makeSlice 26 t8_9 t8_9) w fun t9_9 w =>
  effv Tryz.prog (Instr.makeSlice 110 t17_9 t17_9) w fun t18_9 w =>
  effv Tryz.prog (Instr.makeSlice 26 t11_9 t11_9) w fun t12_9 w =>
  wpB (pureRun Tryz.prog (Instr.build 112 #[(0, t5_9), (1, a1), (2, t9_9), (3, t12_9), (5, t15_9), (6, t18_9)])) fun t19_9 =>
  effv Tryz.prog (Instr.box 112 t19_9) w fun t20_9 w =>
  Q t20_9 w)) ∧
  (wpB (pureRun Tryz.prog (Instr.fieldAt 23 t2 3)) fun t7_10 =>
  wpB (pureRun Tryz.prog (Instr.fieldAt 23 t2 3)) fun t10_10 =>
  wpB (pureRun Tryz.prog (Instr.fieldAt 23 t2 0)) fun t13_10 =>
  wpB (pureRun Tryz.prog (Instr.fieldAt 23 t2 0)) fun t16_10 =>
  wpB (ldv Tryz.prog 23 t2 w.drew) fun t5_10 =>
  wpB (ldv Tryz.prog 3 t7_10 w.drew) fun t8_10 =>
  wpB (ldv Tryz.prog 3 t10_10 w.drew) fun t11_10 =>
  wpB (ldv Tryz.prog 3 t13_10 w.drew) fun t14_10 =>
  wpB (ldv Tryz.prog 3 t16_10 w.drew) fun t17_10 =>
  effv Tryz.prog (Instr.makeSlice 26 t14_10 t14_10) w.drew fun t15_10 w =>
  effv Tryz.prog (Instr.makeSlice 110 t17_10 t17_10) w fun t18_10 w =>
  effv Tryz.prog (Instr.makeSlice 26 t8_10 t8_10) w fun t9_10 w =>
  effv Tryz.prog (Instr.makeSlice 26 t11_10 t11_10) w fun t12_10 w =>
  wpB (pureRun Tryz.prog (Instr.build 112 #[(0, t5_10), (1, a1), (2, t9_10), (3, t12_10), (5, t15_10), (6, t18_10)])) fun t19_10 =>
  effv Tryz.prog (Instr.box 112 t19_10) w fun t20_10 w =>
  Q t20_10 w)) ∧
  (wpB (pureRun Tryz.prog (Instr.fieldAt 23 t2 3)) fun t7_11 =>
  wpB (pureRun Tryz.prog (Instr.fieldAt 23 t2 3)) fun t10_11 =>
  wpB (pureRun Tryz.prog (Instr.fieldAt 23 t2 0)) fun t13_11 =>
  wpB (pureRun Tryz.prog (Instr.fieldAt 23 t2 0)) fun t16_11 =>
  wpB (ldv Tryz.prog 23 t2 w.drew) fun t5_11 =>
  wpB (ldv Tryz.prog 3 t7_11 w.drew) fun t8_11 =>
  wpB (ldv Tryz.prog 3 t10_11 w.drew) fun t11_11 =>
  wpB (ldv Tryz.prog 3 t13_11 w.drew) fun t14_11 =>
  wpB (ldv Tryz.prog 3 t16_11 w.drew) fun t17_11 =>
  effv Tryz.prog (Instr.makeSlice 110 t17_11 t17_11) w.drew fun t18_11 w =>
  effv Tryz.prog (Instr.makeSlice 26 t14_11 t14_11) w fun t15_11 w =>
  effv Tryz.prog (Instr.makeSlice 26 t8_11 t8_11) w fun t9_11 w =>
  effv Tryz.prog (Instr.makeSlice 26 t11_11 t11_11) w fun t12_11 w =>
  wpB (pureRun Tryz.prog (Instr.build 112 #[(0, t5_11), (1, a1), (2, t9_11), (3, t12_11), (5, t15_11), (6, t18_11)])) fun t19_11 =>
  effv Tryz.prog (Instr.box 112 t19_11) w fun t20_11 w =>
  Q t20_11 w))) ∧
  ((((((wpB (pureRun Tryz.prog (Instr.fieldAt 23 t2 3)) fun t7_12 =>
  wpB (pureRun Tryz.prog (Instr.fieldAt 23 t2 3)) fun t10_12 =>
  wpB (pureRun Tryz.prog (Instr.fieldAt 23 t2 0)) fun t13_12 =>
  wpB (pureRun Tryz.prog (Instr.fieldAt 23 t2 0)) fun t16_12 =>
  wpB (ldv Tryz.prog 23 t2 w.drew) fun t5_12 =>
  wpB (ldv Tryz.prog 3 t7_12 w.drew) fun t8_12 =>
  wpB (ldv Tryz.prog 3 t10_12 w.drew) fun t11_12 =>
  wpB (ldv Tryz.prog 3 t13_12 w.drew) fun t14_12 =>
  wpB (ldv Tryz.prog 3 t16_12 w.drew) fun t17_12 =>
  effv Tryz.prog (Instr.makeSlice 26 t11_12 t11_12) w.drew fun t12_12 w =>
  effv Tryz.prog (Instr.makeSlice 26 t8_12 t8_12) w fun t9_12 w =>
  effv Tryz.prog (Instr.makeSlice 26 t14_12 t14_12) w fun t15_12 w =>
  effv Tryz.prog (Instr.makeSlice 110 t17_12 t17_12) w fun t18_12 w =>
  wpB (pureRun Tryz.prog (Instr.build 112 #[(0, t5_12), (1, a1), (2, t9_12), (3, t12_12), (5, t15_12), (6, t18_12)])) fun t19_12 =>
  effv Tryz.prog (Instr.box 112 t19_12) w fun t20_12 w =>
  Q t20_12 w) ∧
  (wpB (pureRun Tryz.prog (Instr.fieldAt 23 t2 3)) fun t7_13 =>
  wpB (pureRun Tryz.prog (Instr.fieldAt 23 t2 3)) fun t10_13 =>
  wpB (pureRun Tryz.prog (Instr.fieldAt 23 t2 0)) fun t13_13 =>
  wpB (pureRun Tryz.prog (Instr.fieldAt 23 t2 0)) fun t16_13 =>
  wpB (ldv Tryz.prog 23 t2 w.drew) fun t5_13 =>
  wpB (ldv Tryz.prog 3 t7_13 w.drew) fun t8_13 =>
  wpB (ldv Tryz.prog 3 t10_13 w.drew) fun t11_13 =>
  wpB (ldv Tryz.prog 3 t13_13 w.drew) fun t14_13 =>
  wpB (ldv Tryz.prog 3 t16_13 w.drew) fun t17_13 =>
  effv Tryz.prog (Instr.makeSlice 26 t11_13 t11_13) w.drew fun t12_13 w =>
  effv Tryz.prog (Instr.makeSlice 26 t8_13 t8_13) w fun t9_13 w =>
  effv Tryz.prog (Instr.makeSlice 110 t17_13 t17_13) w fun t18_13 w =>
  effv Tryz.prog (Instr.makeSlice 26 t14_13 t14_13) w fun t15_13 w =>
  wpB (pureRun Tryz.prog (Instr.build 112 #[(0, t5_13), (1, a1), (2, t9_13), (3, t12_13), (5, t15_13), (6, t18_13)])) fun t19_13 =>
  effv Tryz.prog (Instr.box 112 t19_13) w fun t20_13 w =>
  Q t20_13 w)) ∧
  (wpB (pureRun Tryz.prog (Instr.fieldAt 23 t2 3)) fun t7_14 =>
  wpB (pureRun Tryz.prog (Instr.fieldAt 23 t2 3)) fun t10_14 =>
  wpB (pureRun Tryz.prog (Instr.fieldAt 23 t2 0)) fun t13_14 =>
  wpB (pureRun Tryz.prog (Instr.fieldAt 23 t2 0)) fun t16_14 =>
  wpB (ldv Tryz.prog 23 t2 w.drew) fun t5_14 =>
  wpB (ldv Tryz.prog 3 t7_14 w.drew) fun t8_14 =>
  wpB (ldv Tryz.prog 3 t10_14 w.drew) fun t11_14 =>
  wpB (ldv Tryz.prog 3 t13_14 w.drew) fun t14_14 =>
  wpB (ldv Tryz.prog 3 t16_14 w.drew) fun t17_14 =>
  effv Tryz.prog (Instr.makeSlice 26 t11_14 t11_14) w.drew fun t12_14 w =>
  effv Tryz.prog (Instr.makeSlice 110 t17_14 t17_14) w fun t18_14 w =>
  effv Tryz.prog (Instr.makeSlice 26 t8_14 t8_14) w fun t9_14 w =>
  effv Tryz.prog (Instr.makeSlice 26 t14_14 t14_14) w fun t15_14 w =>
  wpB (pureRun Tryz.prog (Instr.build 112 #[(0, t5_14), (1, a1), (2, t9_14), (3, t12_14), (5, t15_14), (6, t18_14)])) fun t19_14 =>
  effv Tryz.prog (Instr.box 112 t19_14) w fun t20_14 w =>
  Q t20_14 w)) ∧
  (((wpB (pureRun Tryz.prog (Instr.fieldAt 23 t2 3)) fun t7_15 =>
  wpB (pureRun Tryz.prog (Instr.fieldAt 23 t2 3)) fun t10_15 =>
  wpB (pureRun Tryz.prog (Instr.fieldAt 23 t2 0)) fun t13_15 =>
  wpB (pureRun Tryz.prog (Instr.fieldAt 23 t2 0)) fun t16_15 =>
  wpB (ldv Tryz.prog 23 t2 w.drew) fun t5_15 =>
  wpB (ldv Tryz.prog 3 t7_15 w.drew) fun t8_15 =>
  wpB (ldv Tryz.prog 3 t10_15 w.drew) fun t11_15 =>
  wpB (ldv Tryz.prog 3 t13_15 w.drew) fun t14_15 =>
  wpB (ldv Tryz.prog 3 t16_15 w.drew) fun t17_15 =>
  effv Tryz.prog (Instr.makeSlice 26 t11_15 t11_15) w.drew fun t12_15 w =>
  effv Tryz.prog (Instr.makeSlice 26 t14_15 t14_15) w fun t15_15 w =>
  effv Tryz.prog (Instr.makeSlice 26 t8_15 t8_15) w fun t9_15 w =>
  effv Tryz.prog (Instr.makeSlice 110 t17_15 t17_15) w fun t18_15 w =>
  wpB (pureRun Tryz.prog (Instr.build 112 #[(0, t5_15), (1, a1), (2, t9_15), (3, t12_15), (5, t15_15), (6, t18_15)])) fun t19_15 =>
  effv Tryz.prog (Instr.box 112 t19_15) w fun t20_15 w =>
  Q t20_15 w) ∧
  (wpB (pureRun Tryz.prog (Instr.fieldAt 23 t2 3)) fun t7_16 =>
  wpB (pureRun Tryz.prog (Instr.fieldAt 23 t2 3)) fun t10_16 =>
  wpB (pureRun Tryz.prog (Instr.fieldAt 23 t2 0)) fun t13_16 =>
  wpB (pureRun Tryz.prog (Instr.fieldAt 23 t2 0)) fun t16_16 =>
  wpB (ldv Tryz.prog 23 t2 w.drew) fun t5_16 =>
  wpB (ldv Tryz.prog 3 t7_16 w.drew) fun t8_16 =>
  wpB (ldv Tryz.prog 3 t10_16 w.drew) fun t11_16 =>
  wpB (ldv Tryz.prog 3 t13_16 w.drew) fun t14_16 =>
  wpB (ldv Tryz.prog 3 t16_16 w.drew) fun t17_16 =>
  effv Tryz.prog (Instr.makeSlice 26 t11_16 t11_16) w.drew fun t12_16 w =>
  effv Tryz.prog (Instr.makeSlice 26 t14_16 t14_16) w fun t15_16 w =>
  effv Tryz.prog (Instr.makeSlice 110 t17_16 t17_16) w fun t18_16 w =>
  effv Tryz.prog (Instr.makeSlice 26 t8_16 t8_16) w fun t9_16 w =>
  wpB (pureRun Tryz.prog (Instr.build 112 #[(0, t5_16), (1, a1), (2, t9_16), (3, t12_16), (5, t15_16), (6, t18_16)])) fun t19_16 =>
  effv Tryz.prog (Instr.box 112 t19_16) w fun t20_16 w =>
  Q t20_16 w)) ∧
  (wpB (pureRun Tryz.prog (Instr.fieldAt 23 t2 3)) fun t7_17 =>
  wpB (pureRun Tryz.prog (Instr.fieldAt 23 t2 3)) fun t10_17 =>
  wpB (pureRun Tryz.prog (Instr.fieldAt 23 t2 0)) fun t13_17 =>
  wpB (pureRun Tryz.prog (Instr.fieldAt 23 t2 0)) fun t16_17 =>
  wpB (ldv Tryz.prog 23 t2 w.drew) fun t5_17 =>
  wpB (ldv Tryz.prog 3 t7_17 w.drew) fun t8_17 =>
  wpB (ldv Tryz.prog 3 t10_17 w.drew) fun t11_17 =>
  wpB (ldv Tryz.prog 3 t13_17 w.drew) fun t14_17 =>
  wpB (ldv Tryz.prog 3 t16_17 w.drew) fun t17_17 =>
  effv Tryz.prog (Instr.makeSlice 26 t11_17 t11_17) w.drew fun t12_17 w =>
  effv Tryz.prog (Instr.makeSlice 110 t17_17 t17_17) w fun t18_17 w =>
  effv Tryz.prog (Instr.makeSlice 26 t14_17 t14_17) w fun t15_17 w =>
  effv Tryz.prog (Instr.makeSlice 26 t8_17 t8_17) w fun t9_17 w =>
  wpB (pureRun Tryz.prog (Instr.build 112 #[(0, t5_17), (1, a1), (2, t9_17), (3, t12_17), (5, t15_17), (6, t18_17)])) fun t19_17 =>
  effv Tryz.prog (Instr.box 112 t19_17) w fun t20_17 w =>
  Q t20_17 w))) ∧
  ((wpB (pureRun Tryz.prog (Instr.fieldAt 23 t2 3)) fun t7_18 =>
  wpB (pureRun Tryz.prog (Instr.fieldAt 23 t2 3)) fun t10_18 =>
  wpB (pureRun Tryz.prog (Instr.fieldAt 23 t2 0)) fun t13_18 =>
  wpB (pureRun Tryz.prog (Instr.fieldAt 23 t2 0)) fun t16_18 =>
  wpB (ldv Tryz.prog 23 t2 w.drew) fun t5_18 =>
  wpB (ldv Tryz.prog 3 t7_18 w.drew) fun t8_18 =>
  wpB (ldv Tryz.prog 3 t10_18 w.drew) fun t11_18 =>
  wpB (ldv Tryz.prog 3 t13_18 w.drew) fun t14_18 =>
  wpB (ldv Tryz.prog 3 t16_18 w.drew) fun t17_18 =>
  effv Tryz.prog (Instr.makeSlice 110 t17_18 t17_18) w.drew fun t18_18 w =>
  effv Tryz.prog (Instr.makeSlice 26 t11_18 t11_18) w fun t12_18 w =>
  effv Tryz.prog (Instr.makeSlice 26 t8_18 t8_18) w fun t9_18 w =>
  effv Tryz.prog (Instr.makeSlice 26 t14_18 t14_18) w fun t15_18 w =>
  wpB (pureRun Tryz.prog (Instr.build 112 #[(0, t5_18), (1, a1), (2, t9_18), (3, t12_18), (5, t15_18), (6, t18_18)])) fun t19_18 =>
  effv Tryz.prog (Instr.box 112 t19_18) w fun t20_18 w =>
  Q t20_18 w) ∧
  (wpB (pureRun Tryz.prog (Instr.fieldAt 23 t2 3)) fun t7_19 =>
  wpB (pureRun Tryz.prog (Instr.fieldAt 23 t2 3)) fun t10_19 =>
  wpB (pureRun Tryz.prog (Instr.fieldAt 23 t2 0)) fun t13_19 =>
  wpB (pureRun Tryz.prog (Instr.fieldAt 23 t2 0)) fun t16_19 =>
  wpB (ldv Tryz.prog 23 t2 w.drew) fun t5_19 =>
  wpB (ldv Tryz.prog 3 t7_19 w.drew) fun t8_19 =>
  wpB (ldv Tryz.prog 3 t10_19 w.drew) fun t11_19 =>
  wpB (ldv Tryz.prog 3 t13_19 w.drew) fun t14_19 =>
  wpB (ldv Tryz.prog 3 t16_19 w.drew) fun t17_19 =>
  effv Tryz.prog (Instr.makeSlice 110 t17_19 t17_19) w.drew fun t18_19 w =>
  effv Tryz.prog (Instr.makeSlice 26 t11_19 t11_19) w fun t12_19 w =>
  effv Tryz.prog (Instr.makeSlice 26 t14_19 t14_19) w fun t15_19 w =>
  effv Tryz.prog (Instr.makeSlice 26 t8_19 t8_19) w fun t9_19 w =>
  wpB (pureRun Tryz.prog (Instr.build 112 #[(0, t5_19), (1, a1), (2, t9_19), (3, t12_19), (5, t15_19), (6, t18_19)])) fun t19_19 =>
  effv Tryz.prog (Instr.box 112 t19_19) w fun t20_19 w =>
  Q t20_19 w))) ∧
  ((((wpB (pureRun Tryz.prog (Instr.fieldAt 23 t2 3)) fun t7_20 =>
  wpB (pureRun Tryz.prog (Instr.fieldAt 23 t2 3)) fun t10_20 =>
  wpB (pureRun Tryz.prog (Instr.fieldAt 23 t2 0)) fun t13_20 =>
  wpB (pureRun Tryz.prog (Instr.fieldAt 23 t2 0)) fun t16_20 =>
  wpB (ldv Tryz.prog 23 t2 w.drew) fun t5_20 =>
  wpB (ldv Tryz.prog 3 t7_20 w.drew) fun t8_20 =>
  wpB (ldv Tryz.prog 3 t10_20 w.drew) fun t11_20 =>
  wpB (ldv Tryz.prog 3 t13_20 w.drew) fun t14_20 =>
  wpB (ldv Tryz.prog 3 t16_20 w.drew) fun t17_20 =>
  effv Tryz.prog (Instr.makeSlice 26 t14_20 t14_20) w.drew fun t15_20 w =>
  effv Tryz.prog (Instr.makeSlice 26 t11_20 t11_20) w fun t12_20 w =>
  effv Tryz.prog (Instr.makeSlice 26 t8_20 t8_20) w fun t9_20 w =>
  effv Tryz.prog (Instr.makeSlice 110 t17_20 t17_20) w fun t18_20 w =>
  wpB (pureRun Tryz.prog (Instr.build 112 #[(0, t5_20), (1, a1), (2, t9_20), (3, t12_20), (5, t15_20), (6, t18_20)])) fun t19_20 =>
  effv Tryz.prog (Instr.box 112 t19_20) w fun t20_20 w =>
  Q t20_20 w) ∧
  (wpB (pureRun Tryz.prog (Instr.fieldAt 23 t2 3)) fun t7_21 =>
  wpB (pureRun Tryz.prog (Instr.fieldAt 23 t2 3)) fun t10_21 =>
  wpB (pureRun Tryz.prog (Instr.fieldAt 23 t2 0)) fun t13_21 =>
  wpB (pureRun Tryz.prog (Instr.fieldAt 23 t2 0)) fun t16_21 =>
  wpB (ldv Tryz.prog 23 t2 w.drew) fun t5_21 =>
  wpB (ldv Tryz.prog 3 t7_21 w.drew) fun t8_21 =>
  wpB (ldv Tryz.prog 3 t10_21 w.drew) fun t11_21 =>
  wpB (ldv Tryz.prog 3 t13_21 w.drew) fun t14_21 =>
  wpB (ldv Tryz.prog 3 t16_21 w.drew) fun t17_21 =>
  effv Tryz.prog (Instr.makeSlice 26 t14_21 t14_21) w.drew fun t15_21 w =>
  effv Tryz.prog (Instr.makeSlice 26 t11_21 t11_21) w fun t12_21 w =>
  effv Tryz.prog (Instr.makeSlice 110 t17_21 t17_21) w fun t18_21 w =>
  effv Tryz.prog (Instr.makeSlice 26 t8_21 t8_21) w fun t9_21 w =>
  wpB (pureRun Tryz.prog (Instr.build 112 #[(0, t5_21), (1, a1), (2, t9_21), (3, t12_21), (5, t15_21), (6, t18_21)])) fun t19_21 =>
  effv Tryz.prog (Instr.box 112 t19_21) w fun t20_21 w =>
  Q t20_21 w)) ∧
  (wpB (pureRun Tryz.prog (Instr.fieldAt 23 t2 3)) fun t7_22 =>
  wpB (pureRun Tryz.prog (Instr.fieldAt 23 t2 3)) fun t10_22 =>
  wpB (pureRun Tryz.prog (Instr.fieldAt 23 t2 0)) fun t13_22 =>
  wpB (pureRun Tryz.prog (Instr.fieldAt 23 t2 0)) fun t16_22 =>
  wpB (ldv Tryz.prog 23 t2 w.drew) fun t5_22 =>
  wpB (ldv Tryz.prog 3 t7_22 w.drew) fun t8_22 =>
  wpB (ldv Tryz.prog 3 t10_22 w.drew) fun t11_22 =>
  wpB (ldv Tryz.prog 3 t13_22 w.drew) fun t14_22 =>
  wpB (ldv Tryz.prog 3 t16_22 w.drew) fun t17_22 =>
  effv Tryz.prog (Instr.makeSlice 26 t14_22 t14_22) w.drew fun t15_22 w =>
  effv Tryz.prog (Instr.makeSlice 110 t17_22 t17_22) w fun t18_22 w =>
  effv Tryz.prog (Instr.makeSlice 26 t11_22 t11_22) w fun t12_22 w =>
  effv Tryz.prog (Instr.makeSlice 26 t8_22 t8_22) w fun t9_22 w =>
  wpB (pureRun Tryz.prog (Instr.build 112 #[(0, t5_22), (1, a1), (2, t9_22), (3, t12_22), (5, t15_22), (6, t18_22)])) fun t19_22 =>
  effv Tryz.prog (Instr.box 112 t19_22) w fun t20_22 w =>
  Q t20_22 w)) ∧
  (wpB (pureRun Tryz.prog (Instr.fieldAt 23 t2 3)) fun t7_23 =>
  wpB (pureRun Tryz.prog (Instr.fieldAt 23 t2 3)) fun t10_23 =>
  wpB (pureRun Tryz.prog (Instr.fieldAt 23 t2 0)) fun t13_23 =>
  wpB (pureRun Tryz.prog (Instr.fieldAt 23 t2 0)) fun t16_23 =>
  wpB (ldv Tryz.prog 23 t2 w.drew) fun t5_23 =>
  wpB (ldv Tryz.prog 3 t7_23 w.drew) fun t8_23 =>
  wpB (ldv Tryz.prog 3 t10_23 w.drew) fun t11_23 =>
  wpB (ldv Tryz.prog 3 t13_23 w.drew) fun t14_23 =>
  wpB (ldv Tryz.prog 3 t16_23 w.drew) fun t17_23 =>
  effv Tryz.prog (Instr.makeSlice 110 t17_23 t17_23) w.drew fun t18_23 w =>
  effv Tryz.prog (Instr.makeSlice 26 t14_23 t14_23) w fun t15_23 w =>
  effv Tryz.prog (Instr.makeSlice 26 t11_23 t11_23) w fun t12_23 w =>
  effv Tryz.prog (Instr.makeSlice 26 t8_23 t8_23) w fun t9_23 w =>
  wpB (pureRun Tryz.prog (Instr.build 112 #[(0, t5_23), (1, a1), (2, t9_23), (3, t12_23), (5, t15_23), (6, t18_23)])) fun t19_23 =>
  effv Tryz.prog (Instr.box 112 t19_23) w fun t20_23 w =>
  Q t20_23 w)))
theorem F35_ok {a0 a1 : Value} {w : World} {Q : Value → World → Prop} (h : F35 a0 a1 w Q) : CallR Tryz.prog 35 [a0, a1] w Q :=
  af mixed ad Tryz.func35 (c := C35) rfl H35 (Nat.le_of_ble_eq_true rfl) (by kernel_rfl) h

noncomputable def C36 : Code := (Tryz.f36.body).getD .skip
noncomputable def H36 : Hints := ⟨[], [], []⟩
def F36 (a0 a1 : Value) (w : World) (Q : Value → World → Prop) : Prop :=
  CallR Tryz.prog 62 [a0, a1] w fun t7 w =>
  wpB (bp Tryz.prog .geq 3 t7 (.int .i64 0)) fun t8 =>
  Q t8 w
theorem F36_ok {a0 a1 : Value} {w : World} {Q : Value → World → Prop} (h : F36 a0 a1 w Q) : CallR Tryz.prog 36 [a0, a1] w Q :=
  af mixed ad Tryz.func36 (c := C36) rfl H36 (Nat.le_of_ble_eq_true rfl) (by kernel_rfl) h

noncomputable def C37 : Code := (Tryz.f37.body).getD .skip
noncomputable def H37 : Hints := ⟨[], [], []⟩
def F37 (a0 : Value) (w : World) (Q : Value → World → Prop) : Prop :=
  CallR Tryz.prog 63 [a0] w fun t4 w =>
  wpB (pureRun Tryz.prog (Instr.field 116 t4 1)) fun t5 =>
  Q t5 w
theorem F37_ok {a0 : Value} {w : World} {Q : Value → World → Prop} (h : F37 a0 w Q) : CallR Tryz.prog 37 [a0] w Q :=
  af mixed ad Tryz.func37 (c := C37) rfl H37 (Nat.le_of_ble_eq_true rfl) (by kernel_rfl) h

noncomputable def C38 : Code := (Tryz.f38.body).getD .skip
noncomputable def H38 : Hints := ⟨[], [], []⟩
def F38 (a0 a1 : Value) (w : World) (Q : Value → World → Prop) : Prop :=
  wpB (nilv a0) fun t6 =>
  wpB (pureRun Tryz.prog (Instr.fieldAt 46 t6 2)) fun t7 =>
  wpB (ldv Tryz.prog 26 t7 w) fun t8 =>
  CallR Tryz.prog 36 [t8, a1] w fun t10 w =>
  Q t10 w
theorem F38_ok {a0 a1 : Value} {w : World} {Q : Value → World → Prop} (h : F38 a0 a1 w Q) : CallR Tryz.prog 38 [a0, a1] w Q :=
  af mixed ad Tryz.func38 (c := C38) rfl H38 (Nat.le_of_ble_eq_true rfl) (by kernel_rfl) h

noncomputable def C39 : Code := (Tryz.f39.body).getD .skip
noncomputable def H39 : Hints := ⟨[], [], []⟩
def F39 (a0 a1 a2 : Value) (w : World) (Q : Value → World → Prop) : Prop :=
  effv Tryz.prog (Instr.box 36 a2) w fun t5 w =>
  wpB (bp Tryz.prog .geq 3 a1 (.int .i64 0)) fun t8 =>
  wpB (gd t8 true (nilv (gv t8 true a0))) fun t12 =>
  wpB (gd t8 true (pureRun Tryz.prog (Instr.fieldAt 61 t12 4))) fun t13 =>
  wpB (gd t8 true (ldv Tryz.prog 59 t13 w)) fun t14 =>
  wpB (gd t8 true (pureRun Tryz.prog (Builtin.len_ #[59] 3 #[t14]))) fun t15 =>
  wpB (gd t8 true (bp Tryz.prog .lss 3 (gv t8 true a1) t15)) fun t16 =>
  wpB (pickv t8 (some t16) (some (.bool false))) fun t17 =>
  wpB (gd t17 true (ldv Tryz.prog 36 t5 w)) fun t19 =>
  gE t17 true (CallR Tryz.prog 64 [t19] w) (fun t20 w =>
  wpB (pickv t17 (some t20) (some (.bool false))) fun t21 =>
  Q t21 w) w
theorem F39_ok {a0 a1 a2 : Value} {w : World} {Q : Value → World → Prop} (h : F39 a0 a1 a2 w Q) : CallR Tryz.prog 39 [a0, a1, a2] w Q :=
  af mixed ad Tryz.func39 (c := C39) rfl H39 (Nat.le_of_ble_eq_true rfl) (by kernel_rfl) h

noncomputable def C40 : Code := (Tryz.f40.body).getD .skip
noncomputable def H40 : Hints := ⟨[], [(5, [0, 6, 7, 10, 11]), (9, [0, 6, 7, 10, 12, 13]), (31, [6, 7, 12, 13, 45, 94]), (37, [13, 108]), (38, [])], [(4, (.ask 3 7 (.ask 8 7 (.leaf [0, 1, 2, 4, 3, 5, 6, 8, 7, 9, 10]) (.leaf [0, 1, 2, 3, 4, 5, 6, 7, 8, 9, 10])) (.ask 8 7 (.leaf [0, 1, 2, 4, 6, 8, 7, 3, 5, 9, 10]) (.leaf [0, 1, 2, 4, 6, 7, 3, 5, 8, 9, 10])))), (5, (.leaf [0, 1, 2, 3, 4, 5, 6])), (11, (.leaf [0, 1, 2, 3, 4, 5, 6, 7, 8, 9, 10, 11, 12]))]⟩
noncomputable def T40_0 : List It := [.jn (nav [1, 1, 1] C40)]
noncomputable def T40_1 : List It := [.jn (nav [1, 1, 1, 1, 1, 1] C40)]
noncomputable def T40_2 : List It := [.jn (nav [1, 1, 1, 1, 1, 1, 1] C40)]
noncomputable def T40_3 : List It := [.jn (nav [1, 1, 1, 1, 1, 1, 0, 1, 4, 1, 3, 1, 3, 1, 3, 1, 3, 1] C40), .blk 0, .jn (nav [1, 1, 1, 1, 1, 1, 1] C40)]
noncomputable def T40_4 : List It := [.jn (nav [1, 1, 1, 1, 1, 1, 0, 1, 4, 1, 3, 1, 3, 1, 3, 1, 3, 1, 3, 1] C40), .blk 0, .jn (nav [1, 1, 1, 1, 1, 1, 1] C40)]
def P40_0 (x0 x6 x7 x10 x11 : Value) (w : World) (Q : Value → World → Prop) : Prop := Part Tryz.prog 40 T40_0 [0, 6, 7, 10, 11] [x0, x6, x7, x10, x11] w Q
def P40_1 (x0 x6 x7 x10 x12 x13 : Value) (w : World) (Q : Value → World → Prop) : Prop := Part Tryz.prog 40 T40_1 [0, 6, 7, 10, 12, 13] [x0, x6, x7, x10, x12, x13] w Q
def P40_2 (w : World) (Q : Value → World → Prop) : Prop := Part Tryz.prog 40 T40_2 [] [] w Q
def P40_3 (x6 x7 x12 x13 x45 x94 : Value) (w : World) (Q : Value → World → Prop) : Prop := Part Tryz.prog 40 T40_3 [6, 7, 12, 13, 45, 94] [x6, x7, x12, x13, x45, x94] w Q
def P40_4 (x13 x108 : Value) (w : World) (Q : Value → World → Prop) : Prop := Part Tryz.prog 40 T40_4 [13, 108] [x13, x108] w Q
def F40 (a0 a1 a2 a3 : Value) (w : World) (Q : Value → World → Prop) : Prop :=
  effv Tryz.prog (Instr.box 36 a2) w fun t6 w =>
  effv Tryz.prog (Instr.box 38 a3) w fun t7 w =>
  wpB (pureRun Tryz.prog (Instr.fieldAt 36 t6 0)) fun t14 =>
  wpB (ldv Tryz.prog 3 t14 w) fun t15 =>
  CallR Tryz.prog 37 [t15] w fun t16 w =>
  wpB (be Tryz.prog .neq 3 (.tmp 17) (.const (.int .i64 0)) t16 (.int .i64 0)) fun t18 =>
  wpB (gd t18 true (ldv Tryz.prog 38 t7 w)) fun t21 =>
  gE t18 true (CallR Tryz.prog 65 [(gv t18 true a0), t21, (gv t18 true t16)] w) (fun t23 w =>
  wpB (gd t18 true (pureRun Tryz.prog (Op.unary .not t23))) fun t24 =>
  wpB (pickv t18 (some t24) (some (.bool false))) fun t25 =>
  cnd t25
  (Q (.int .i64 2) w)
  (((wpB (nilv a0) fun t27 =>
  wpB (pureRun Tryz.prog (Instr.fieldAt 61 t27 4)) fun t28 =>
  wpB (ldv Tryz.prog 59 t28 w.drew) fun t29 =>
  wpB (pureRun Tryz.prog (Instr.indexAt 59 t29 a1)) fun t31 =>
  wpB (ldv Tryz.prog 38 t7 w.drew) fun t32 =>
  effv Tryz.prog (Instr.alloc 83 true (.tuple #[])) w.drew fun t11 w =>
  CallR Tryz.prog 43 [t32] w fun t33 w =>
  effu Tryz.prog (Instr.storeAt 83 t11 t33) w fun w =>
  P40_0 a0 t6 t7 t31 t11 w Q) ∧
  (wpB (nilv a0) fun t27_1 =>
  wpB (pureRun Tryz.prog (Instr.fieldAt 61 t27_1 4)) fun t28_1 =>
  wpB (ldv Tryz.prog 59 t28_1 w.drew) fun t29_1 =>
  wpB (pureRun Tryz.prog (Instr.indexAt 59 t29_1 a1)) fun t31_1 =>
  wpB (ldv Tryz.prog 38 t7 w.drew) fun t32_1 =>
  CallR Tryz.prog 43 [t32_1] w.drew fun t33_1 w =>
  effv Tryz.prog (Instr.alloc 83 true (.tuple #[])) w fun t11_1 w =>
  effu Tryz.prog (Instr.storeAt 83 t11_1 t33_1) w fun w =>
  P40_0 a0 t6 t7 t31_1 t11_1 w Q)) ∧
  ((wpB (nilv a0) fun t27_2 =>
  wpB (pureRun Tryz.prog (Instr.fieldAt 61 t27_2 4)) fun t28_2 =>
  wpB (ldv Tryz.prog 38 t7 w.drew) fun t32_2 =>
  effv Tryz.prog (Instr.alloc 83 true (.tuple #[])) w.drew fun t11_2 w =>
  CallR Tryz.prog 43 [t32_2] w fun t33_2 w =>
  wpB (ldv Tryz.prog 59 t28_2 w) fun t29_2 =>
  wpB (pureRun Tryz.prog (Instr.indexAt 59 t29_2 a1)) fun t31_2 =>
  effu Tryz.prog (Instr.storeAt 83 t11_2 t33_2) w fun w =>
  P40_0 a0 t6 t7 t31_2 t11_2 w Q) ∧
  (wpB (nilv a0) fun t27_3 =>
  wpB (pureRun Tryz.prog (Instr.fieldAt 61 t27_3 4)) fun t28_3 =>
  wpB (ldv Tryz.prog 38 t7 w.drew) fun t32_3 =>
  CallR Tryz.prog 43 [t32_3] w.drew fun t33_3 w =>
  wpB (ldv Tryz.prog 59 t28_3 w) fun t29_3 =>
  wpB (pureRun Tryz.prog (Instr.indexAt 59 t29_3 a1)) fun t31_3 =>
  effv Tryz.prog (Instr.alloc 83 true (.tuple #[])) w fun t11_3 w =>
  effu Tryz.prog (Instr.storeAt 83 t11_3 t33_3) w fun w =>
  P40_0 a0 t6 t7 t31_3 t11_3 w Q)))) w
def L40_0 (x0 x6 x7 x10 x11 : Value) (w : World) (Q : Value → World → Prop) : Prop :=
  wpB (nilv x10) fun t35 =>
  wpB (pureRun Tryz.prog (Instr.fieldAt 96 t35 1)) fun t36 =>
  wpB (ldv Tryz.prog 94 t36 w.drew) fun t37 =>
  wpB (ldv Tryz.prog 83 x11 w.drew) fun t38 =>
  CallR Tryz.prog 66 [t37, t38] w.drew fun t39 w =>
  wpB (ldv Tryz.prog 83 x11 w) fun t41 =>
  CallR Tryz.prog 67 [x0, t41] w fun t42 w =>
  wpB (pureRun Tryz.prog (Op.unary .not t42)) fun t43 =>
  cnd t43
  (P40_1 x0 x6 x7 x10 t39 (.int .i64 3) w Q)
  (P40_1 x0 x6 x7 x10 t39 (.int .i64 0) w Q)
def L40_1 (x0 x6 x7 x10 x12 x13 : Value) (w : World) (Q : Value → World → Prop) : Prop :=
  wpB (pureRun Tryz.prog (Instr.fieldAt 36 x6 0)) fun t44 =>
  wpB (ldv Tryz.prog 3 t44 w) fun t45 =>
  wpB (be Tryz.prog .eql 3 (.tmp 45) (.const (.int .i64 2)) t45 (.int .i64 2)) fun t47 =>
  cnd t47
  (wpB (pureRun Tryz.prog (Instr.fieldAt 36 x6 3)) fun t48 =>
  wpB (ldv Tryz.prog 3 t48 w.drew) fun t49 =>
  wpB (bp Tryz.prog .lss 3 t49 (.int .i64 1)) fun t50 =>
  wpB (gd t50 false (pureRun Tryz.prog (Instr.fieldAt 36 x6 3))) fun t52 =>
  wpB (gd t50 false (ldv Tryz.prog 3 t52 w.drew)) fun t53 =>
  wpB (gd t50 false (nilv (gv t50 false x0))) fun t55 =>
  wpB (gd t50 false (pureRun Tryz.prog (Instr.fieldAt 61 t55 0))) fun t56 =>
  wpB (gd t50 false (pureRun Tryz.prog (Instr.fieldAt 23 t56 2))) fun t57 =>
  wpB (gd t50 false (ldv Tryz.prog 3 t57 w.drew)) fun t58 =>
  wpB (gd t50 false (bp Tryz.prog .gtr 3 t53 t58)) fun t59 =>
  wpB (pickv t50 (some (.bool true)) (some t59)) fun t60 =>
  cnd t60
  (Q (.int .i64 5) w.drew)
  (Q x13 w.drew))
  (wpB (be Tryz.prog .eql 3 (.tmp 45) (.const (.int .i64 3)) t45 (.int .i64 3)) fun t63 =>
  cnd t63
  (wpB (nilv x10) fun t65 =>
  wpB (pureRun Tryz.prog (Instr.fieldAt 96 t65 0)) fun t66 =>
  wpB (ldv Tryz.prog 3 t66 w) fun t67 =>
  wpB (be Tryz.prog .eql 3 (.tmp 67) (.const (.int .i64 15)) t67 (.int .i64 15)) fun t68 =>
  cnd t68
  (Q (.int .i64 8) w)
  (P40_2 w Q))
  (wpB (be Tryz.prog .eql 3 (.tmp 45) (.const (.int .i64 4)) t45 (.int .i64 4)) fun t70 =>
  cnd t70
  (wpB (nilv x10) fun t72 =>
  wpB (pureRun Tryz.prog (Instr.fieldAt 96 t72 0)) fun t73 =>
  wpB (ldv Tryz.prog 3 t73 w) fun t74 =>
  wpB (be Tryz.prog .eql 3 (.tmp 74) (.const (.int .i64 0)) t74 (.int .i64 0)) fun t75 =>
  cnd t75
  (Q (.int .i64 4) w)
  (P40_2 w Q))
  (wpB (be Tryz.prog .eql 3 (.tmp 45) (.const (.int .i64 5)) t45 (.int .i64 5)) fun t77 =>
  cnd t77
  (wpB (nilv x10) fun t81 =>
  wpB (pureRun Tryz.prog (Instr.fieldAt 96 t81 0)) fun t82 =>
  wpB (ldv Tryz.prog 3 t82 w) fun t83 =>
  wpB (be Tryz.prog .eql 3 (.tmp 83) (.const (.int .i64 0)) t83 (.int .i64 0)) fun t84 =>
  cnd t84
  (Q (.int .i64 4) w)
  (cnd x12
  (P40_2 w Q)
  (wpB (nilv x10) fun t89 =>
  wpB (pureRun Tryz.prog (Instr.fieldAt 96 t89 1)) fun t90 =>
  wpB (ldv Tryz.prog 94 t90 w) fun t91 =>
  wpB (pureRun Tryz.prog (Builtin.len_ #[94] 3 #[t91])) fun t92 =>
  wpB (be Tryz.prog .eql 3 (.tmp 92) (.const (.int .i64 8)) t92 (.int .i64 8)) fun t93 =>
  cnd t93
  (Q (.int .i64 8) w)
  (Q x13 w))))
  (wpB (be Tryz.prog .eql 3 (.tmp 45) (.const (.int .i64 6)) t45 (.int .i64 6)) fun t95 =>
  cnd t95
  (P40_3 x6 x7 x12 x13 t45 t95 w Q)
  (wpB (be Tryz.prog .eql 3 (.tmp 45) (.const (.int .i64 7)) t45 (.int .i64 7)) fun t96 =>
  cnd t96
  (P40_3 x6 x7 x12 x13 t45 t96 w Q)
  (wpB (be Tryz.prog .eql 3 (.tmp 45) (.const (.int .i64 8)) t45 (.int .i64 8)) fun t97 =>
  cnd t97
  (P40_3 x6 x7 x12 x13 t45 t97 w Q)
  (wpB (be Tryz.prog .eql 3 (.tmp 45) (.const (.int .i64 9)) t45 (.int .i64 9)) fun t98 =>
  P40_3 x6 x7 x12 x13 t45 t98 w Q)))))))
def L40_2 (w : World) (Q : Value → World → Prop) : Prop :=
  Q (.int .i64 0) w
def L40_3 (x6 x7 x12 x13 x45 x94 : Value) (w : World) (Q : Value → World → Prop) : Prop :=
  cnd x94
  (wpB (pureRun Tryz.prog (Op.unary .not x12)) fun t101 =>
  cnd t101
  (Q (.int .i64 4) w)
  (wpB (pureRun Tryz.prog (Instr.fieldAt 36 x6 3)) fun t103 =>
  wpB (ldv Tryz.prog 3 t103 w) fun t104 =>
  wpB (pureRun Tryz.prog (Instr.fieldAt 38 x7 4)) fun t105 =>
  wpB (ldv Tryz.prog 3 t105 w) fun t106 =>
  wpB (bp Tryz.prog .geq 3 t104 t106) fun t107 =>
  cnd t107
  (Q (.int .i64 5) w)
  (P40_2 w Q)))
  (wpB (be Tryz.prog .eql 3 (.tmp 45) (.const (.int .i64 10)) x45 (.int .i64 10)) fun t109 =>
  cnd t109
  (P40_4 x13 t109 w Q)
  (wpB (be Tryz.prog .eql 3 (.tmp 45) (.const (.int .i64 12)) x45 (.int .i64 12)) fun t110 =>
  P40_4 x13 t110 w Q))
def L40_4 (x13 x108 : Value) (w : World) (Q : Value → World → Prop) : Prop :=
  cnd x108
  (Q x13 w)
  (P40_2 w Q)
theorem F40_ok {a0 a1 a2 a3 : Value} {w : World} {Q : Value → World → Prop} (h : F40 a0 a1 a2 a3 w Q) : CallR Tryz.prog 40 [a0, a1, a2, a3] w Q :=
  af mixed ad Tryz.func40 (c := C40) rfl H40 (Nat.le_of_ble_eq_true rfl) (by kernel_rfl) h
theorem L40_0_ok {x0 x6 x7 x10 x11 : Value} {w : World} {Q : Value → World → Prop} (h : L40_0 x0 x6 x7 x10 x11 w Q) : P40_0 x0 x6 x7 x10 x11 w Q :=
  ax mixed ad Tryz.func40 H40 (by kernel_rfl) h
theorem L40_1_ok {x0 x6 x7 x10 x12 x13 : Value} {w : World} {Q : Value → World → Prop} (h : L40_1 x0 x6 x7 x10 x12 x13 w Q) : P40_1 x0 x6 x7 x10 x12 x13 w Q :=
  ax mixed ad Tryz.func40 H40 (by kernel_rfl) h
theorem L40_2_ok {w : World} {Q : Value → World → Prop} (h : L40_2  w Q) : P40_2  w Q :=
  ax mixed ad Tryz.func40 H40 (by kernel_rfl) h
theorem L40_3_ok {x6 x7 x12 x13 x45 x94 : Value} {w : World} {Q : Value → World → Prop} (h : L40_3 x6 x7 x12 x13 x45 x94 w Q) : P40_3 x6 x7 x12 x13 x45 x94 w Q :=
  ax mixed ad Tryz.func40 H40 (by kernel_rfl) h
theorem L40_4_ok {x13 x108 : Value} {w : World} {Q : Value → World → Prop} (h : L40_4 x13 x108 w Q) : P40_4 x13 x108 w Q :=
  ax mixed ad Tryz.func40 H40 (by kernel_rfl) h

noncomputable def C41 : Code := (Tryz.f41.body).getD .skip
noncomputable def H41 : Hints := ⟨[], [], [(2, (.ask 3 10 (.ask 14 10 (.leaf [0, 1, 2, 4, 5, 6, 8, 13, 15, 3, 7, 9, 14, 16, 10, 11, 12, 17, 18]) (.leaf [0, 1, 2, 3, 4, 5, 6, 7, 8, 9, 10, 11, 12, 13, 14, 15, 16, 17, 18])) (.ask 14 10 (.leaf [0, 1, 2, 4, 5, 6, 8, 13, 15, 7, 9, 14, 16, 10, 3, 11, 12, 17, 18]) (.leaf [0, 1, 2, 4, 5, 6, 8, 13, 15, 7, 9, 10, 3, 11, 12, 14, 16, 17, 18]))))]⟩
def F41 (a0 a1 a2 : Value) (w : World) (Q : Value → World → Prop) : Prop :=
  effv Tryz.prog (Instr.box 38 a1) w fun t4 w =>
  wpB (ldv Tryz.prog 38 t4 w) fun t9 =>
  CallR Tryz.prog 43 [t9] w fun t10 w =>
  CallR Tryz.prog 42 [a0, t10] w fun t11 w =>
  ((wpB (nilv t11) fun t13 =>
  wpB (pureRun Tryz.prog (Instr.fieldAt 86 t13 4)) fun t14 =>
  wpB (nilv t11) fun t17 =>
  wpB (pureRun Tryz.prog (Instr.fieldAt 86 t17 3)) fun t18 =>
  wpB (pureRun Tryz.prog (Instr.fieldAt 38 t4 2)) fun t20 =>
  wpB (pureRun Tryz.prog (Instr.fieldAt 38 t4 3)) fun t25 =>
  wpB (ldv Tryz.prog 84 t14 w.drew) fun t15 =>
  wpB (ldv Tryz.prog 26 t18 w.drew) fun t19 =>
  wpB (ldv Tryz.prog 3 t20 w.drew) fun t21 =>
  wpB (ldv Tryz.prog 3 t25 w.drew) fun t26 =>
  wpB (bp Tryz.prog .add 3 t26 a2) fun t28 =>
  CallR Tryz.prog 62 [t19, t21] w.drew fun t22 w =>
  wpB (pureRun Tryz.prog (Instr.indexAt 84 t15 t22)) fun t23 =>
  wpB (ldv Tryz.prog 102 t23 w) fun t24 =>
  wpB (pureRun Tryz.prog (Instr.indexAt 102 t24 t28)) fun t29 =>
  Q t29 w) ∧
  (wpB (nilv t11) fun t13_1 =>
  wpB (pureRun Tryz.prog (Instr.fieldAt 86 t13_1 4)) fun t14_1 =>
  wpB (ldv Tryz.prog 84 t14_1 w.drew) fun t15_1 =>
  wpB (nilv t11) fun t17_1 =>
  wpB (pureRun Tryz.prog (Instr.fieldAt 86 t17_1 3)) fun t18_1 =>
  wpB (ldv Tryz.prog 26 t18_1 w.drew) fun t19_1 =>
  wpB (pureRun Tryz.prog (Instr.fieldAt 38 t4 2)) fun t20_1 =>
  wpB (ldv Tryz.prog 3 t20_1 w.drew) fun t21_1 =>
  CallR Tryz.prog 62 [t19_1, t21_1] w.drew fun t22_1 w =>
  wpB (pureRun Tryz.prog (Instr.indexAt 84 t15_1 t22_1)) fun t23_1 =>
  wpB (ldv Tryz.prog 102 t23_1 w) fun t24_1 =>
  wpB (pureRun Tryz.prog (Instr.fieldAt 38 t4 3)) fun t25_1 =>
  wpB (ldv Tryz.prog 3 t25_1 w) fun t26_1 =>
  wpB (bp Tryz.prog .add 3 t26_1 a2) fun t28_1 =>
  wpB (pureRun Tryz.prog (Instr.indexAt 102 t24_1 t28_1)) fun t29_1 =>
  Q t29_1 w)) ∧
  ((wpB (nilv t11) fun t13_2 =>
  wpB (pureRun Tryz.prog (Instr.fieldAt 86 t13_2 4)) fun t14_2 =>
  wpB (nilv t11) fun t17_2 =>
  wpB (pureRun Tryz.prog (Instr.fieldAt 86 t17_2 3)) fun t18_2 =>
  wpB (pureRun Tryz.prog (Instr.fieldAt 38 t4 2)) fun t20_2 =>
  wpB (pureRun Tryz.prog (Instr.fieldAt 38 t4 3)) fun t25_2 =>
  wpB (ldv Tryz.prog 26 t18_2 w.drew) fun t19_2 =>
  wpB (ldv Tryz.prog 3 t20_2 w.drew) fun t21_2 =>
  wpB (ldv Tryz.prog 3 t25_2 w.drew) fun t26_2 =>
  wpB (bp Tryz.prog .add 3 t26_2 a2) fun t28_2 =>
  CallR Tryz.prog 62 [t19_2, t21_2] w.drew fun t22_2 w =>
  wpB (ldv Tryz.prog 84 t14_2 w) fun t15_2 =>
  wpB (pureRun Tryz.prog (Instr.indexAt 84 t15_2 t22_2)) fun t23_2 =>
  wpB (ldv Tryz.prog 102 t23_2 w) fun t24_2 =>
  wpB (pureRun Tryz.prog (Instr.indexAt 102 t24_2 t28_2)) fun t29_2 =>
  Q t29_2 w) ∧
  (wpB (nilv t11) fun t13_3 =>
  wpB (pureRun Tryz.prog (Instr.fieldAt 86 t13_3 4)) fun t14_3 =>
  wpB (nilv t11) fun t17_3 =>
  wpB (pureRun Tryz.prog (Instr.fieldAt 86 t17_3 3)) fun t18_3 =>
  wpB (pureRun Tryz.prog (Instr.fieldAt 38 t4 2)) fun t20_3 =>
  wpB (pureRun Tryz.prog (Instr.fieldAt 38 t4 3)) fun t25_3 =>
  wpB (ldv Tryz.prog 26 t18_3 w.drew) fun t19_3 =>
  wpB (ldv Tryz.prog 3 t20_3 w.drew) fun t21_3 =>
  CallR Tryz.prog 62 [t19_3, t21_3] w.drew fun t22_3 w =>
  wpB (ldv Tryz.prog 84 t14_3 w) fun t15_3 =>
  wpB (pureRun Tryz.prog (Instr.indexAt 84 t15_3 t22_3)) fun t23_3 =>
  wpB (ldv Tryz.prog 102 t23_3 w) fun t24_3 =>
  wpB (ldv Tryz.prog 3 t25_3 w) fun t26_3 =>
  wpB (bp Tryz.prog .add 3 t26_3 a2) fun t28_3 =>
  wpB (pureRun Tryz.prog (Instr.indexAt 102 t24_3 t28_3)) fun t29_3 =>
  Q t29_3 w))
theorem F41_ok {a0 a1 a2 : Value} {w : World} {Q : Value → World → Prop} (h : F41 a0 a1 a2 w Q) : CallR Tryz.prog 41 [a0, a1, a2] w Q :=
  af mixed ad Tryz.func41 (c := C41) rfl H41 (Nat.le_of_ble_eq_true rfl) (by kernel_rfl) h

noncomputable def C42 : Code := (Tryz.f42.body).getD .skip
noncomputable def H42 : Hints := ⟨[(2, [0, 3, 10, 11])], [], [(4, (.leaf [0, 1, 2, 3, 4, 5, 6, 7, 8, 9]))]⟩
noncomputable def T42_0 : List It := [.lp (nav [1, 0, 1, 4, 5] C42), .blk 0, .jn (nav [1, 1] C42)]
def P42_0 (x0 x3 x10 x11 : Value) (w : World) (Q : Value → World → Prop) : Prop := Part Tryz.prog 42 T42_0 [0, 3, 10, 11] [x0, x3, x10, x11] w Q
def F42 (a0 a1 : Value) (w : World) (Q : Value → World → Prop) : Prop :=
  effv Tryz.prog (Instr.box 83 a1) w fun t3 w =>
  wpB (nilv a0) fun t7 =>
  wpB (pureRun Tryz.prog (Instr.fieldAt 61 t7 3)) fun t8 =>
  wpB (ldv Tryz.prog 58 t8 w) fun t9 =>
  wpB (pureRun Tryz.prog (Builtin.len_ #[58] 3 #[t9])) fun t10 =>
  P42_0 a0 t3 t10 (.int .i64 0) w Q
def L42_0 (x0 x3 x10 x11 : Value) (w : World) (Q : Value → World → Prop) : Prop :=
  wpB (bp Tryz.prog .lss 3 x11 x10) fun t12 =>
  cnd t12
  (wpB (nilv x0) fun t15 =>
  wpB (pureRun Tryz.prog (Instr.fieldAt 61 t15 3)) fun t16 =>
  wpB (ldv Tryz.prog 58 t16 w.drew) fun t17 =>
  wpB (pureRun Tryz.prog (Instr.indexAt 58 t17 x11)) fun t19 =>
  wpB (pureRun Tryz.prog (Instr.fieldAt 86 t19 0)) fun t20 =>
  wpB (ldv Tryz.prog 83 t20 w.drew) fun t21 =>
  wpB (ldv Tryz.prog 83 x3 w.drew) fun t22 =>
  wpB (be Tryz.prog .eql 83 (.tmp 21) (.tmp 22) t21 t22) fun t23 =>
  cnd t23
  (wpB (nilv x0) fun t25 =>
  wpB (pureRun Tryz.prog (Instr.fieldAt 61 t25 3)) fun t26 =>
  wpB (ldv Tryz.prog 58 t26 w.drew) fun t27 =>
  wpB (pureRun Tryz.prog (Instr.indexAt 58 t27 x11)) fun t29 =>
  Q t29 w.drew)
  (wpB (bp Tryz.prog .add 3 x11 (.int .i64 1)) fun t30 =>
  P42_0 x0 x3 x10 t30 w.drew Q))
  (Q (.pointer none) w)
theorem F42_ok {a0 a1 : Value} {w : World} {Q : Value → World → Prop} (h : F42 a0 a1 w Q) : CallR Tryz.prog 42 [a0, a1] w Q :=
  af mixed ad Tryz.func42 (c := C42) rfl H42 (Nat.le_of_ble_eq_true rfl) (by kernel_rfl) h
theorem L42_0_ok {x0 x3 x10 x11 : Value} {w : World} {Q : Value → World → Prop} (h : L42_0 x0 x3 x10 x11 w Q) : P42_0 x0 x3 x10 x11 w Q :=
  aB mixed ad Tryz.func42 H42 (by kernel_rfl) h

noncomputable def C43 : Code := (Tryz.f43.body).getD .skip
noncomputable def H43 : Hints := ⟨[], [], []⟩
def F43 (a0 : Value) (w : World) (Q : Value → World → Prop) : Prop :=
  effv Tryz.prog (Instr.box 38 a0) w fun t1 w =>
  effv Tryz.prog (Instr.alloc 83 true (.tuple #[])) w fun t2 w =>
  wpB (pureRun Tryz.prog (Instr.fieldAt 38 t1 0)) fun t3 =>
  wpB (ldv Tryz.prog 3 t3 w) fun t4 =>
  wpB (pureRun Tryz.prog (Instr.fieldAt 38 t1 1)) fun t5 =>
  wpB (ldv Tryz.prog 3 t5 w) fun t6 =>
  wpB (pureRun Tryz.prog (Instr.build 83 #[(0, t4), (1, t6)])) fun t7 =>
  effu Tryz.prog (Instr.storeAt 83 t2 t7) w fun w =>
  wpB (ldv Tryz.prog 83 t2 w) fun r2 => Q r2 w
theorem F43_ok {a0 : Value} {w : World} {Q : Value → World → Prop} (h : F43 a0 w Q) : CallR Tryz.prog 43 [a0] w Q :=
  af mixed ad Tryz.func43 (c := C43) rfl H43 (Nat.le_of_ble_eq_true rfl) (by kernel_rfl) h

noncomputable def C44 : Code := (Tryz.f44.body).getD .skip
noncomputable def H44 : Hints := ⟨[], [], []⟩
def F44 (a0 : Value) (w : World) (Q : Value → World → Prop) : Prop :=
  wpB (be Tryz.prog .eql 57 (.tmp 3) (.const (.slice none 0 0)) a0 (.slice none 0 0)) fun t4 =>
  cnd t4
  (Q (.slice none 0 0) w)
  (effv Tryz.prog (Instr.buildSlice 57 0 #[]) w fun t5 w =>
  effv Tryz.prog (Builtin.append_ #[57, 57] 57 #[t5, a0]) w fun t7 w =>
  Q t7 w)
theorem F44_ok {a0 : Value} {w : World} {Q : Value → World → Prop} (h : F44 a0 w Q) : CallR Tryz.prog 44 [a0] w Q :=
  af mixed ad Tryz.func44 (c := C44) rfl H44 (Nat.le_of_ble_eq_true rfl) (by kernel_rfl) h

noncomputable def C45 : Code := (Tryz.f45.body).getD .skip
noncomputable def H45 : Hints := ⟨[], [], []⟩
def F45 (a0 : Value) (w : World) (Q : Value → World → Prop) : Prop :=
  wpB (be Tryz.prog .eql 59 (.tmp 3) (.const (.slice none 0 0)) a0 (.slice none 0 0)) fun t4 =>
  cnd t4
  (Q (.slice none 0 0) w)
  (effv Tryz.prog (Instr.buildSlice 59 0 #[]) w fun t5 w =>
  effv Tryz.prog (Builtin.append_ #[59, 59] 59 #[t5, a0]) w fun t7 w =>
  Q t7 w)
theorem F45_ok {a0 : Value} {w : World} {Q : Value → World → Prop} (h : F45 a0 w Q) : CallR Tryz.prog 45 [a0] w Q :=
  af mixed ad Tryz.func45 (c := C45) rfl H45 (Nat.le_of_ble_eq_true rfl) (by kernel_rfl) h

noncomputable def C46 : Code := (Tryz.f46.body).getD .skip
noncomputable def H46 : Hints := ⟨[], [], []⟩
def F46 (a0 : Value) (w : World) (Q : Value → World → Prop) : Prop :=
  wpB (be Tryz.prog .eql 94 (.tmp 3) (.const (.slice none 0 0)) a0 (.slice none 0 0)) fun t4 =>
  cnd t4
  (Q (.slice none 0 0) w)
  (effv Tryz.prog (Instr.buildSlice 94 0 #[]) w fun t5 w =>
  effv Tryz.prog (Builtin.append_ #[94, 94] 94 #[t5, a0]) w fun t7 w =>
  Q t7 w)
theorem F46_ok {a0 : Value} {w : World} {Q : Value → World → Prop} (h : F46 a0 w Q) : CallR Tryz.prog 46 [a0] w Q :=
  af mixed ad Tryz.func46 (c := C46) rfl H46 (Nat.le_of_ble_eq_true rfl) (by kernel_rfl) h

noncomputable def C47 : Code := (Tryz.f47.body).getD .skip
noncomputable def H47 : Hints := ⟨[], [], []⟩
def F47 (a0 : Value) (w : World) (Q : Value → World → Prop) : Prop :=
  wpB (be Tryz.prog .eql 58 (.tmp 3) (.const (.slice none 0 0)) a0 (.slice none 0 0)) fun t4 =>
  cnd t4
  (Q (.slice none 0 0) w)
  (effv Tryz.prog (Instr.buildSlice 58 0 #[]) w fun t5 w =>
  effv Tryz.prog (Builtin.append_ #[58, 58] 58 #[t5, a0]) w fun t7 w =>
  Q t7 w)
theorem F47_ok {a0 : Value} {w : World} {Q : Value → World → Prop} (h : F47 a0 w Q) : CallR Tryz.prog 47 [a0] w Q :=
  af mixed ad Tryz.func47 (c := C47) rfl H47 (Nat.le_of_ble_eq_true rfl) (by kernel_rfl) h

noncomputable def C48 : Code := (Tryz.f48.body).getD .skip
noncomputable def H48 : Hints := ⟨[], [], []⟩
def F48 (a0 : Value) (w : World) (Q : Value → World → Prop) : Prop :=
  wpB (be Tryz.prog .eql 26 (.tmp 3) (.const (.slice none 0 0)) a0 (.slice none 0 0)) fun t4 =>
  cnd t4
  (Q (.slice none 0 0) w)
  (effv Tryz.prog (Instr.buildSlice 26 0 #[]) w fun t5 w =>
  effv Tryz.prog (Builtin.append_ #[26, 26] 26 #[t5, a0]) w fun t7 w =>
  Q t7 w)
theorem F48_ok {a0 : Value} {w : World} {Q : Value → World → Prop} (h : F48 a0 w Q) : CallR Tryz.prog 48 [a0] w Q :=
  af mixed ad Tryz.func48 (c := C48) rfl H48 (Nat.le_of_ble_eq_true rfl) (by kernel_rfl) h

noncomputable def C49 : Code := (Tryz.f49.body).getD .skip
noncomputable def H49 : Hints := ⟨[], [], []⟩
def F49 (a0 : Value) (w : World) (Q : Value → World → Prop) : Prop :=
  wpB (be Tryz.prog .eql 44 (.tmp 3) (.const (.slice none 0 0)) a0 (.slice none 0 0)) fun t4 =>
  cnd t4
  (Q (.slice none 0 0) w)
  (effv Tryz.prog (Instr.buildSlice 44 0 #[]) w fun t5 w =>
  effv Tryz.prog (Builtin.append_ #[44, 44] 44 #[t5, a0]) w fun t7 w =>
  Q t7 w)
theorem F49_ok {a0 : Value} {w : World} {Q : Value → World → Prop} (h : F49 a0 w Q) : CallR Tryz.prog 49 [a0] w Q :=
  af mixed ad Tryz.func49 (c := C49) rfl H49 (Nat.le_of_ble_eq_true rfl) (by kernel_rfl) h

noncomputable def C50 : Code := (Tryz.f50.body).getD .skip
noncomputable def H50 : Hints := ⟨[], [], []⟩
def F50 (a0 : Value) (w : World) (Q : Value → World → Prop) : Prop :=
  wpB (be Tryz.prog .eql 84 (.tmp 3) (.const (.slice none 0 0)) a0 (.slice none 0 0)) fun t4 =>
  cnd t4
  (Q (.slice none 0 0) w)
  (effv Tryz.prog (Instr.buildSlice 84 0 #[]) w fun t5 w =>
  effv Tryz.prog (Builtin.append_ #[84, 84] 84 #[t5, a0]) w fun t7 w =>
  Q t7 w)
theorem F50_ok {a0 : Value} {w : World} {Q : Value → World → Prop} (h : F50 a0 w Q) : CallR Tryz.prog 50 [a0] w Q :=
  af mixed ad Tryz.func50 (c := C50) rfl H50 (Nat.le_of_ble_eq_true rfl) (by kernel_rfl) h

noncomputable def C51 : Code := (Tryz.f51.body).getD .skip
noncomputable def H51 : Hints := ⟨[], [], []⟩
def F51 (a0 : Value) (w : World) (Q : Value → World → Prop) : Prop :=
  wpB (be Tryz.prog .eql 102 (.tmp 3) (.const (.slice none 0 0)) a0 (.slice none 0 0)) fun t4 =>
  cnd t4
  (Q (.slice none 0 0) w)
  (effv Tryz.prog (Instr.buildSlice 102 0 #[]) w fun t5 w =>
  effv Tryz.prog (Builtin.append_ #[102, 102] 102 #[t5, a0]) w fun t7 w =>
  Q t7 w)
theorem F51_ok {a0 : Value} {w : World} {Q : Value → World → Prop} (h : F51 a0 w Q) : CallR Tryz.prog 51 [a0] w Q :=
  af mixed ad Tryz.func51 (c := C51) rfl H51 (Nat.le_of_ble_eq_true rfl) (by kernel_rfl) h

noncomputable def C52 : Code := (Tryz.f52.body).getD .skip
noncomputable def H52 : Hints := ⟨[], [(2, [0, 6, 7, 8, 9])], [(1, (.ask 3 7 (.ask 8 7 (.leaf [0, 1, 2, 4, 3, 5, 6, 8, 7, 9, 10]) (.leaf [0, 1, 2, 3, 4, 5, 6, 7, 8, 9, 10])) (.ask 8 7 (.leaf [0, 1, 2, 4, 6, 8, 7, 3, 5, 9, 10]) (.leaf [0, 1, 2, 4, 6, 7, 3, 5, 8, 9, 10])))), (10, (.leaf [0, 1, 2, 3, 4, 5, 6])), (11, (.leaf [0, 1, 2, 3, 4, 5, 6, 7, 8, 9, 10])), (13, (.ask 6 4 (.leaf [0, 2, 5, 1, 3, 6, 4, 7, 8]) (.leaf [0, 1, 2, 3, 4, 5, 6, 7, 8]))), (15, (.ask 8 4 (.leaf [0, 2, 7, 1, 3, 8, 4, 5, 6, 9, 10, 11]) (.leaf [0, 1, 2, 3, 4, 5, 6, 7, 8, 9, 10, 11]))), (18, (.leaf [0, 1, 2, 3, 4, 5])), (21, (.leaf [0, 1, 2, 3, 4, 5, 6, 7, 8])), (23, (.leaf [0, 1, 2, 3, 4, 5, 6, 7, 8]))]⟩
noncomputable def T52_0 : List It := [.jn (nav [1, 1] C52)]
def P52_0 (x0 x6 x7 x8 x9 : Value) (w : World) (Q : Value → World → Prop) : Prop := Part Tryz.prog 52 T52_0 [0, 6, 7, 8, 9] [x0, x6, x7, x8, x9] w Q
def F52 (a0 a1 a2 a3 : Value) (w : World) (Q : Value → World → Prop) : Prop :=
  effv Tryz.prog (Instr.box 36 a2) w fun t6 w =>
  effv Tryz.prog (Instr.box 38 a3) w fun t7 w =>
  ((wpB (nilv a0) fun t12 =>
  wpB (pureRun Tryz.prog (Instr.fieldAt 61 t12 4)) fun t13 =>
  wpB (ldv Tryz.prog 59 t13 w.drew) fun t14 =>
  wpB (pureRun Tryz.prog (Instr.indexAt 59 t14 a1)) fun t16 =>
  wpB (ldv Tryz.prog 38 t7 w.drew) fun t17 =>
  effv Tryz.prog (Instr.alloc 83 true (.tuple #[])) w.drew fun t9 w =>
  CallR Tryz.prog 43 [t17] w fun t18 w =>
  effu Tryz.prog (Instr.storeAt 83 t9 t18) w fun w =>
  P52_0 a0 t6 t7 t16 t9 w Q) ∧
  (wpB (nilv a0) fun t12_1 =>
  wpB (pureRun Tryz.prog (Instr.fieldAt 61 t12_1 4)) fun t13_1 =>
  wpB (ldv Tryz.prog 59 t13_1 w.drew) fun t14_1 =>
  wpB (pureRun Tryz.prog (Instr.indexAt 59 t14_1 a1)) fun t16_1 =>
  wpB (ldv Tryz.prog 38 t7 w.drew) fun t17_1 =>
  CallR Tryz.prog 43 [t17_1] w.drew fun t18_1 w =>
  effv Tryz.prog (Instr.alloc 83 true (.tuple #[])) w fun t9_1 w =>
  effu Tryz.prog (Instr.storeAt 83 t9_1 t18_1) w fun w =>
  P52_0 a0 t6 t7 t16_1 t9_1 w Q)) ∧
  ((wpB (nilv a0) fun t12_2 =>
  wpB (pureRun Tryz.prog (Instr.fieldAt 61 t12_2 4)) fun t13_2 =>
  wpB (ldv Tryz.prog 38 t7 w.drew) fun t17_2 =>
  effv Tryz.prog (Instr.alloc 83 true (.tuple #[])) w.drew fun t9_2 w =>
  CallR Tryz.prog 43 [t17_2] w fun t18_2 w =>
  wpB (ldv Tryz.prog 59 t13_2 w) fun t14_2 =>
  wpB (pureRun Tryz.prog (Instr.indexAt 59 t14_2 a1)) fun t16_2 =>
  effu Tryz.prog (Instr.storeAt 83 t9_2 t18_2) w fun w =>
  P52_0 a0 t6 t7 t16_2 t9_2 w Q) ∧
  (wpB (nilv a0) fun t12_3 =>
  wpB (pureRun Tryz.prog (Instr.fieldAt 61 t12_3 4)) fun t13_3 =>
  wpB (ldv Tryz.prog 38 t7 w.drew) fun t17_3 =>
  CallR Tryz.prog 43 [t17_3] w.drew fun t18_3 w =>
  wpB (ldv Tryz.prog 59 t13_3 w) fun t14_3 =>
  wpB (pureRun Tryz.prog (Instr.indexAt 59 t14_3 a1)) fun t16_3 =>
  effv Tryz.prog (Instr.alloc 83 true (.tuple #[])) w fun t9_3 w =>
  effu Tryz.prog (Instr.storeAt 83 t9_3 t18_3) w fun w =>
  P52_0 a0 t6 t7 t16_3 t9_3 w Q))
end Go.Proofs.YteapggpkgfiacaaGreat

