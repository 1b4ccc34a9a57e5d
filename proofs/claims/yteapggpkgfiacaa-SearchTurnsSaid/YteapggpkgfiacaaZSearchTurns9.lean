/- Parts of the proof of SearchTurns, one behind the other. Conditions: none. -/
import Derived.Test.YteapggpkgfiacaaChecked
import Derived.Eval
import Derived.Laws.Tables
import Derived.Test.YteapggpkgfiacaaZSearchTurns8
namespace Go.Proofs.Yteapggpkgfiacaa
open Go Ev
set_option linter.unusedVariables false
set_option maxRecDepth 100000
variable {w : World} {K : Value → World → Prop} {L : World → Prop}
@[simp] theorem fa_25_0 {b o : Nat} : pureRun Try.prog (Instr.fieldAt 25 (.pointer (some ⟨b, o, none⟩)) 0) = some (.pointer (some ⟨b, o + 0, none⟩)) := pr_fieldAt (g := false) (z := 1) (by kernel_rfl) (by decide)
@[simp] theorem fa_25_1 {b o : Nat} : pureRun Try.prog (Instr.fieldAt 25 (.pointer (some ⟨b, o, none⟩)) 1) = some (.pointer (some ⟨b, o + 1, none⟩)) := pr_fieldAt (g := false) (z := 1) (by kernel_rfl) (by decide)
@[simp] theorem fa_25_2 {b o : Nat} : pureRun Try.prog (Instr.fieldAt 25 (.pointer (some ⟨b, o, none⟩)) 2) = some (.pointer (some ⟨b, o + 2, none⟩)) := pr_fieldAt (g := false) (z := 1) (by kernel_rfl) (by decide)
@[simp] theorem fa_25_3 {b o : Nat} : pureRun Try.prog (Instr.fieldAt 25 (.pointer (some ⟨b, o, none⟩)) 3) = some (.pointer (some ⟨b, o + 3, none⟩)) := pr_fieldAt (g := false) (z := 1) (by kernel_rfl) (by decide)
@[simp] theorem fa_25_4 {b o : Nat} : pureRun Try.prog (Instr.fieldAt 25 (.pointer (some ⟨b, o, none⟩)) 4) = some (.pointer (some ⟨b, o + 4, none⟩)) := pr_fieldAt (g := false) (z := 1) (by kernel_rfl) (by decide)
@[simp] theorem fa_25_5 {b o : Nat} : pureRun Try.prog (Instr.fieldAt 25 (.pointer (some ⟨b, o, none⟩)) 5) = some (.pointer (some ⟨b, o + 5, none⟩)) := pr_fieldAt (g := false) (z := 1) (by kernel_rfl) (by decide)
@[simp] theorem fa_27_0 {b o : Nat} : pureRun Try.prog (Instr.fieldAt 27 (.pointer (some ⟨b, o, none⟩)) 0) = some (.pointer (some ⟨b, o + 0, none⟩)) := pr_fieldAt (g := false) (z := 1) (by kernel_rfl) (by decide)
@[simp] theorem fa_27_1 {b o : Nat} : pureRun Try.prog (Instr.fieldAt 27 (.pointer (some ⟨b, o, none⟩)) 1) = some (.pointer (some ⟨b, o + 1, none⟩)) := pr_fieldAt (g := false) (z := 1) (by kernel_rfl) (by decide)
@[simp] theorem fa_27_2 {b o : Nat} : pureRun Try.prog (Instr.fieldAt 27 (.pointer (some ⟨b, o, none⟩)) 2) = some (.pointer (some ⟨b, o + 2, none⟩)) := pr_fieldAt (g := false) (z := 1) (by kernel_rfl) (by decide)
@[simp] theorem fa_27_3 {b o : Nat} : pureRun Try.prog (Instr.fieldAt 27 (.pointer (some ⟨b, o, none⟩)) 3) = some (.pointer (some ⟨b, o + 3, none⟩)) := pr_fieldAt (g := false) (z := 1) (by kernel_rfl) (by decide)
@[simp] theorem fa_27_4 {b o : Nat} : pureRun Try.prog (Instr.fieldAt 27 (.pointer (some ⟨b, o, none⟩)) 4) = some (.pointer (some ⟨b, o + 4, none⟩)) := pr_fieldAt (g := false) (z := 1) (by kernel_rfl) (by decide)
@[simp] theorem fa_29_0 {b o : Nat} : pureRun Try.prog (Instr.fieldAt 29 (.pointer (some ⟨b, o, none⟩)) 0) = some (.pointer (some ⟨b, o + 0, none⟩)) := pr_fieldAt (g := false) (z := 1) (by kernel_rfl) (by decide)
@[simp] theorem fa_29_1 {b o : Nat} : pureRun Try.prog (Instr.fieldAt 29 (.pointer (some ⟨b, o, none⟩)) 1) = some (.pointer (some ⟨b, o + 1, none⟩)) := pr_fieldAt (g := false) (z := 1) (by kernel_rfl) (by decide)
@[simp] theorem fa_29_2 {b o : Nat} : pureRun Try.prog (Instr.fieldAt 29 (.pointer (some ⟨b, o, none⟩)) 2) = some (.pointer (some ⟨b, o + 2, none⟩)) := pr_fieldAt (g := false) (z := 1) (by kernel_rfl) (by decide)
@[simp] theorem fa_29_3 {b o : Nat} : pureRun Try.prog (Instr.fieldAt 29 (.pointer (some ⟨b, o, none⟩)) 3) = some (.pointer (some ⟨b, o + 3, none⟩)) := pr_fieldAt (g := false) (z := 1) (by kernel_rfl) (by decide)
@[simp] theorem fa_29_4 {b o : Nat} : pureRun Try.prog (Instr.fieldAt 29 (.pointer (some ⟨b, o, none⟩)) 4) = some (.pointer (some ⟨b, o + 4, none⟩)) := pr_fieldAt (g := false) (z := 1) (by kernel_rfl) (by decide)
@[simp] theorem fa_29_5 {b o : Nat} : pureRun Try.prog (Instr.fieldAt 29 (.pointer (some ⟨b, o, none⟩)) 5) = some (.pointer (some ⟨b, o + 5, none⟩)) := pr_fieldAt (g := false) (z := 1) (by kernel_rfl) (by decide)
@[simp] theorem fa_32_0 {b o : Nat} : pureRun Try.prog (Instr.fieldAt 32 (.pointer (some ⟨b, o, none⟩)) 0) = some (.pointer (some ⟨b, o + 0, none⟩)) := pr_fieldAt (g := false) (z := 1) (by kernel_rfl) (by decide)
@[simp] theorem fa_32_1 {b o : Nat} : pureRun Try.prog (Instr.fieldAt 32 (.pointer (some ⟨b, o, none⟩)) 1) = some (.pointer (some ⟨b, o + 1, none⟩)) := pr_fieldAt (g := true) (z := 5) (by kernel_rfl) (by decide)
@[simp] theorem fa_32_2 {b o : Nat} : pureRun Try.prog (Instr.fieldAt 32 (.pointer (some ⟨b, o, none⟩)) 2) = some (.pointer (some ⟨b, o + 6, none⟩)) := pr_fieldAt (g := false) (z := 1) (by kernel_rfl) (by decide)
@[simp] theorem fa_32_3 {b o : Nat} : pureRun Try.prog (Instr.fieldAt 32 (.pointer (some ⟨b, o, none⟩)) 3) = some (.pointer (some ⟨b, o + 7, none⟩)) := pr_fieldAt (g := false) (z := 1) (by kernel_rfl) (by decide)
@[simp] theorem fa_34_0 {b o : Nat} : pureRun Try.prog (Instr.fieldAt 34 (.pointer (some ⟨b, o, none⟩)) 0) = some (.pointer (some ⟨b, o + 0, none⟩)) := pr_fieldAt (g := false) (z := 1) (by kernel_rfl) (by decide)
@[simp] theorem fa_34_1 {b o : Nat} : pureRun Try.prog (Instr.fieldAt 34 (.pointer (some ⟨b, o, none⟩)) 1) = some (.pointer (some ⟨b, o + 1, none⟩)) := pr_fieldAt (g := false) (z := 1) (by kernel_rfl) (by decide)
@[simp] theorem fa_34_2 {b o : Nat} : pureRun Try.prog (Instr.fieldAt 34 (.pointer (some ⟨b, o, none⟩)) 2) = some (.pointer (some ⟨b, o + 2, none⟩)) := pr_fieldAt (g := true) (z := 6) (by kernel_rfl) (by decide)
@[simp] theorem fa_34_3 {b o : Nat} : pureRun Try.prog (Instr.fieldAt 34 (.pointer (some ⟨b, o, none⟩)) 3) = some (.pointer (some ⟨b, o + 8, none⟩)) := pr_fieldAt (g := false) (z := 1) (by kernel_rfl) (by decide)
@[simp] theorem fa_34_4 {b o : Nat} : pureRun Try.prog (Instr.fieldAt 34 (.pointer (some ⟨b, o, none⟩)) 4) = some (.pointer (some ⟨b, o + 9, none⟩)) := pr_fieldAt (g := false) (z := 1) (by kernel_rfl) (by decide)
@[simp] theorem fa_34_5 {b o : Nat} : pureRun Try.prog (Instr.fieldAt 34 (.pointer (some ⟨b, o, none⟩)) 5) = some (.pointer (some ⟨b, o + 10, none⟩)) := pr_fieldAt (g := false) (z := 1) (by kernel_rfl) (by decide)
@[simp] theorem fa_34_6 {b o : Nat} : pureRun Try.prog (Instr.fieldAt 34 (.pointer (some ⟨b, o, none⟩)) 6) = some (.pointer (some ⟨b, o + 11, none⟩)) := pr_fieldAt (g := false) (z := 1) (by kernel_rfl) (by decide)
@[simp] theorem fa_34_7 {b o : Nat} : pureRun Try.prog (Instr.fieldAt 34 (.pointer (some ⟨b, o, none⟩)) 7) = some (.pointer (some ⟨b, o + 12, none⟩)) := pr_fieldAt (g := true) (z := 8) (by kernel_rfl) (by decide)
@[simp] theorem fa_50_0 {b o : Nat} : pureRun Try.prog (Instr.fieldAt 50 (.pointer (some ⟨b, o, none⟩)) 0) = some (.pointer (some ⟨b, o + 0, none⟩)) := pr_fieldAt (g := false) (z := 1) (by kernel_rfl) (by decide)
@[simp] theorem fa_50_1 {b o : Nat} : pureRun Try.prog (Instr.fieldAt 50 (.pointer (some ⟨b, o, none⟩)) 1) = some (.pointer (some ⟨b, o + 1, none⟩)) := pr_fieldAt (g := false) (z := 1) (by kernel_rfl) (by decide)
@[simp] theorem fa_50_2 {b o : Nat} : pureRun Try.prog (Instr.fieldAt 50 (.pointer (some ⟨b, o, none⟩)) 2) = some (.pointer (some ⟨b, o + 2, none⟩)) := pr_fieldAt (g := false) (z := 1) (by kernel_rfl) (by decide)
@[simp] theorem fa_50_3 {b o : Nat} : pureRun Try.prog (Instr.fieldAt 50 (.pointer (some ⟨b, o, none⟩)) 3) = some (.pointer (some ⟨b, o + 3, none⟩)) := pr_fieldAt (g := false) (z := 1) (by kernel_rfl) (by decide)
@[simp] theorem fa_50_4 {b o : Nat} : pureRun Try.prog (Instr.fieldAt 50 (.pointer (some ⟨b, o, none⟩)) 4) = some (.pointer (some ⟨b, o + 4, none⟩)) := pr_fieldAt (g := false) (z := 1) (by kernel_rfl) (by decide)
@[simp] theorem fa_50_5 {b o : Nat} : pureRun Try.prog (Instr.fieldAt 50 (.pointer (some ⟨b, o, none⟩)) 5) = some (.pointer (some ⟨b, o + 5, none⟩)) := pr_fieldAt (g := false) (z := 1) (by kernel_rfl) (by decide)
@[simp] theorem fa_59_0 {b o : Nat} : pureRun Try.prog (Instr.fieldAt 59 (.pointer (some ⟨b, o, none⟩)) 0) = some (.pointer (some ⟨b, o + 0, none⟩)) := pr_fieldAt (g := false) (z := 1) (by kernel_rfl) (by decide)
@[simp] theorem fa_59_1 {b o : Nat} : pureRun Try.prog (Instr.fieldAt 59 (.pointer (some ⟨b, o, none⟩)) 1) = some (.pointer (some ⟨b, o + 1, none⟩)) := pr_fieldAt (g := false) (z := 1) (by kernel_rfl) (by decide)
@[simp] theorem fa_59_2 {b o : Nat} : pureRun Try.prog (Instr.fieldAt 59 (.pointer (some ⟨b, o, none⟩)) 2) = some (.pointer (some ⟨b, o + 2, none⟩)) := pr_fieldAt (g := false) (z := 1) (by kernel_rfl) (by decide)
@[simp] theorem fa_67_0 {b o : Nat} : pureRun Try.prog (Instr.fieldAt 67 (.pointer (some ⟨b, o, none⟩)) 0) = some (.pointer (some ⟨b, o + 0, none⟩)) := pr_fieldAt (g := false) (z := 1) (by kernel_rfl) (by decide)
@[simp] theorem fa_67_1 {b o : Nat} : pureRun Try.prog (Instr.fieldAt 67 (.pointer (some ⟨b, o, none⟩)) 1) = some (.pointer (some ⟨b, o + 1, none⟩)) := pr_fieldAt (g := false) (z := 1) (by kernel_rfl) (by decide)
@[simp] theorem fa_67_2 {b o : Nat} : pureRun Try.prog (Instr.fieldAt 67 (.pointer (some ⟨b, o, none⟩)) 2) = some (.pointer (some ⟨b, o + 2, none⟩)) := pr_fieldAt (g := false) (z := 1) (by kernel_rfl) (by decide)
@[simp] theorem fa_72_0 {b o : Nat} : pureRun Try.prog (Instr.fieldAt 72 (.pointer (some ⟨b, o, none⟩)) 0) = some (.pointer (some ⟨b, o + 0, none⟩)) := pr_fieldAt (g := true) (z := 6) (by kernel_rfl) (by decide)
@[simp] theorem fa_72_1 {b o : Nat} : pureRun Try.prog (Instr.fieldAt 72 (.pointer (some ⟨b, o, none⟩)) 1) = some (.pointer (some ⟨b, o + 6, none⟩)) := pr_fieldAt (g := false) (z := 1) (by kernel_rfl) (by decide)
@[simp] theorem fa_72_2 {b o : Nat} : pureRun Try.prog (Instr.fieldAt 72 (.pointer (some ⟨b, o, none⟩)) 2) = some (.pointer (some ⟨b, o + 7, none⟩)) := pr_fieldAt (g := false) (z := 1) (by kernel_rfl) (by decide)
@[simp] theorem fa_72_3 {b o : Nat} : pureRun Try.prog (Instr.fieldAt 72 (.pointer (some ⟨b, o, none⟩)) 3) = some (.pointer (some ⟨b, o + 8, none⟩)) := pr_fieldAt (g := false) (z := 1) (by kernel_rfl) (by decide)
@[simp] theorem fa_72_4 {b o : Nat} : pureRun Try.prog (Instr.fieldAt 72 (.pointer (some ⟨b, o, none⟩)) 4) = some (.pointer (some ⟨b, o + 9, none⟩)) := pr_fieldAt (g := false) (z := 1) (by kernel_rfl) (by decide)
@[simp] theorem fa_80_0 {b o : Nat} : pureRun Try.prog (Instr.fieldAt 80 (.pointer (some ⟨b, o, none⟩)) 0) = some (.pointer (some ⟨b, o + 0, none⟩)) := pr_fieldAt (g := false) (z := 1) (by kernel_rfl) (by decide)
@[simp] theorem fa_80_1 {b o : Nat} : pureRun Try.prog (Instr.fieldAt 80 (.pointer (some ⟨b, o, none⟩)) 1) = some (.pointer (some ⟨b, o + 1, none⟩)) := pr_fieldAt (g := false) (z := 1) (by kernel_rfl) (by decide)
@[simp] theorem fa_95_0 {b o : Nat} : pureRun Try.prog (Instr.fieldAt 95 (.pointer (some ⟨b, o, none⟩)) 0) = some (.pointer (some ⟨b, o + 0, none⟩)) := pr_fieldAt (g := false) (z := 1) (by kernel_rfl) (by decide)
@[simp] theorem fa_95_1 {b o : Nat} : pureRun Try.prog (Instr.fieldAt 95 (.pointer (some ⟨b, o, none⟩)) 1) = some (.pointer (some ⟨b, o + 1, none⟩)) := pr_fieldAt (g := false) (z := 1) (by kernel_rfl) (by decide)
@[simp] theorem fa_98_0 {b o : Nat} : pureRun Try.prog (Instr.fieldAt 98 (.pointer (some ⟨b, o, none⟩)) 0) = some (.pointer (some ⟨b, o + 0, none⟩)) := pr_fieldAt (g := true) (z := 2) (by kernel_rfl) (by decide)
@[simp] theorem fa_98_1 {b o : Nat} : pureRun Try.prog (Instr.fieldAt 98 (.pointer (some ⟨b, o, none⟩)) 1) = some (.pointer (some ⟨b, o + 2, none⟩)) := pr_fieldAt (g := false) (z := 1) (by kernel_rfl) (by decide)
@[simp] theorem fa_98_2 {b o : Nat} : pureRun Try.prog (Instr.fieldAt 98 (.pointer (some ⟨b, o, none⟩)) 2) = some (.pointer (some ⟨b, o + 3, none⟩)) := pr_fieldAt (g := false) (z := 1) (by kernel_rfl) (by decide)
@[simp] theorem fa_98_3 {b o : Nat} : pureRun Try.prog (Instr.fieldAt 98 (.pointer (some ⟨b, o, none⟩)) 3) = some (.pointer (some ⟨b, o + 4, none⟩)) := pr_fieldAt (g := false) (z := 1) (by kernel_rfl) (by decide)
@[simp] theorem fa_98_4 {b o : Nat} : pureRun Try.prog (Instr.fieldAt 98 (.pointer (some ⟨b, o, none⟩)) 4) = some (.pointer (some ⟨b, o + 5, none⟩)) := pr_fieldAt (g := false) (z := 1) (by kernel_rfl) (by decide)
@[simp] theorem fa_98_5 {b o : Nat} : pureRun Try.prog (Instr.fieldAt 98 (.pointer (some ⟨b, o, none⟩)) 5) = some (.pointer (some ⟨b, o + 6, none⟩)) := pr_fieldAt (g := false) (z := 1) (by kernel_rfl) (by decide)
@[simp] theorem fa_106_0 {b o : Nat} : pureRun Try.prog (Instr.fieldAt 106 (.pointer (some ⟨b, o, none⟩)) 0) = some (.pointer (some ⟨b, o + 0, none⟩)) := pr_fieldAt (g := false) (z := 1) (by kernel_rfl) (by decide)
@[simp] theorem fa_106_1 {b o : Nat} : pureRun Try.prog (Instr.fieldAt 106 (.pointer (some ⟨b, o, none⟩)) 1) = some (.pointer (some ⟨b, o + 1, none⟩)) := pr_fieldAt (g := false) (z := 1) (by kernel_rfl) (by decide)
@[simp] theorem fa_116_0 {b o : Nat} : pureRun Try.prog (Instr.fieldAt 116 (.pointer (some ⟨b, o, none⟩)) 0) = some (.pointer (some ⟨b, o + 0, none⟩)) := pr_fieldAt (g := false) (z := 1) (by kernel_rfl) (by decide)
@[simp] theorem fa_116_1 {b o : Nat} : pureRun Try.prog (Instr.fieldAt 116 (.pointer (some ⟨b, o, none⟩)) 1) = some (.pointer (some ⟨b, o + 1, none⟩)) := pr_fieldAt (g := false) (z := 1) (by kernel_rfl) (by decide)
@[simp] theorem fa_116_2 {b o : Nat} : pureRun Try.prog (Instr.fieldAt 116 (.pointer (some ⟨b, o, none⟩)) 2) = some (.pointer (some ⟨b, o + 2, none⟩)) := pr_fieldAt (g := false) (z := 1) (by kernel_rfl) (by decide)
@[simp] theorem fa_116_3 {b o : Nat} : pureRun Try.prog (Instr.fieldAt 116 (.pointer (some ⟨b, o, none⟩)) 3) = some (.pointer (some ⟨b, o + 3, none⟩)) := pr_fieldAt (g := false) (z := 1) (by kernel_rfl) (by decide)
@[simp] theorem fa_116_4 {b o : Nat} : pureRun Try.prog (Instr.fieldAt 116 (.pointer (some ⟨b, o, none⟩)) 4) = some (.pointer (some ⟨b, o + 4, none⟩)) := pr_fieldAt (g := false) (z := 1) (by kernel_rfl) (by decide)
@[simp] theorem fa_126_0 {b o : Nat} : pureRun Try.prog (Instr.fieldAt 126 (.pointer (some ⟨b, o, none⟩)) 0) = some (.pointer (some ⟨b, o + 0, none⟩)) := pr_fieldAt (g := true) (z := 6) (by kernel_rfl) (by decide)
@[simp] theorem fa_126_1 {b o : Nat} : pureRun Try.prog (Instr.fieldAt 126 (.pointer (some ⟨b, o, none⟩)) 1) = some (.pointer (some ⟨b, o + 6, none⟩)) := pr_fieldAt (g := false) (z := 1) (by kernel_rfl) (by decide)
@[simp] theorem fa_126_2 {b o : Nat} : pureRun Try.prog (Instr.fieldAt 126 (.pointer (some ⟨b, o, none⟩)) 2) = some (.pointer (some ⟨b, o + 7, none⟩)) := pr_fieldAt (g := false) (z := 1) (by kernel_rfl) (by decide)
@[simp] theorem fa_126_3 {b o : Nat} : pureRun Try.prog (Instr.fieldAt 126 (.pointer (some ⟨b, o, none⟩)) 3) = some (.pointer (some ⟨b, o + 8, none⟩)) := pr_fieldAt (g := false) (z := 1) (by kernel_rfl) (by decide)
@[simp] theorem fa_126_4 {b o : Nat} : pureRun Try.prog (Instr.fieldAt 126 (.pointer (some ⟨b, o, none⟩)) 4) = some (.pointer (some ⟨b, o + 9, none⟩)) := pr_fieldAt (g := false) (z := 1) (by kernel_rfl) (by decide)
@[simp] theorem fa_126_5 {b o : Nat} : pureRun Try.prog (Instr.fieldAt 126 (.pointer (some ⟨b, o, none⟩)) 5) = some (.pointer (some ⟨b, o + 10, none⟩)) := pr_fieldAt (g := false) (z := 1) (by kernel_rfl) (by decide)
@[simp] theorem fa_126_6 {b o : Nat} : pureRun Try.prog (Instr.fieldAt 126 (.pointer (some ⟨b, o, none⟩)) 6) = some (.pointer (some ⟨b, o + 11, none⟩)) := pr_fieldAt (g := false) (z := 1) (by kernel_rfl) (by decide)
@[simp] theorem fa_138_0 {b o : Nat} : pureRun Try.prog (Instr.fieldAt 138 (.pointer (some ⟨b, o, none⟩)) 0) = some (.pointer (some ⟨b, o + 0, none⟩)) := pr_fieldAt (g := false) (z := 1) (by kernel_rfl) (by decide)
@[simp] theorem fa_138_1 {b o : Nat} : pureRun Try.prog (Instr.fieldAt 138 (.pointer (some ⟨b, o, none⟩)) 1) = some (.pointer (some ⟨b, o + 1, none⟩)) := pr_fieldAt (g := false) (z := 1) (by kernel_rfl) (by decide)
@[simp] theorem fa_138_2 {b o : Nat} : pureRun Try.prog (Instr.fieldAt 138 (.pointer (some ⟨b, o, none⟩)) 2) = some (.pointer (some ⟨b, o + 2, none⟩)) := pr_fieldAt (g := false) (z := 1) (by kernel_rfl) (by decide)
@[simp] theorem fa_138_3 {b o : Nat} : pureRun Try.prog (Instr.fieldAt 138 (.pointer (some ⟨b, o, none⟩)) 3) = some (.pointer (some ⟨b, o + 3, none⟩)) := pr_fieldAt (g := false) (z := 1) (by kernel_rfl) (by decide)
@[simp] theorem fa_138_4 {b o : Nat} : pureRun Try.prog (Instr.fieldAt 138 (.pointer (some ⟨b, o, none⟩)) 4) = some (.pointer (some ⟨b, o + 4, none⟩)) := pr_fieldAt (g := false) (z := 1) (by kernel_rfl) (by decide)
@[simp] theorem fa_138_5 {b o : Nat} : pureRun Try.prog (Instr.fieldAt 138 (.pointer (some ⟨b, o, none⟩)) 5) = some (.pointer (some ⟨b, o + 5, none⟩)) := pr_fieldAt (g := false) (z := 1) (by kernel_rfl) (by decide)
@[simp] theorem fa_138_6 {b o : Nat} : pureRun Try.prog (Instr.fieldAt 138 (.pointer (some ⟨b, o, none⟩)) 6) = some (.pointer (some ⟨b, o + 6, none⟩)) := pr_fieldAt (g := false) (z := 1) (by kernel_rfl) (by decide)
@[simp] theorem fa_138_7 {b o : Nat} : pureRun Try.prog (Instr.fieldAt 138 (.pointer (some ⟨b, o, none⟩)) 7) = some (.pointer (some ⟨b, o + 7, none⟩)) := pr_fieldAt (g := false) (z := 1) (by kernel_rfl) (by decide)
@[simp] theorem fi_116_1 {x0 x1 x2 x3 x4 : Value} : pureRun Try.prog (Instr.field 116 (.agg #[x0, x1, x2, x3, x4]) 1) = some x1 := pr_field1 (off := 1) (z := 1) (by kernel_rfl) rfl
theorem sz_3 : (Try.prog.info? 3).map (·.size) = some 1 := by kernel_rfl
theorem ag_3 : (Try.prog.underlying 3).map isAggD = some false := by kernel_rfl
@[simp] theorem ld_3 {b o : Nat} : ldv Try.prog 3 (.pointer (some ⟨b, o, none⟩)) w = ldC (hp w b) o := ldv_blk ag_3
theorem sz_4 : (Try.prog.info? 4).map (·.size) = some 1 := by kernel_rfl
theorem ag_4 : (Try.prog.underlying 4).map isAggD = some false := by kernel_rfl
@[simp] theorem ld_4 {b o : Nat} : ldv Try.prog 4 (.pointer (some ⟨b, o, none⟩)) w = ldC (hp w b) o := ldv_blk ag_4
theorem ag_9 : (Try.prog.underlying 9).map isAggD = some false := by kernel_rfl
@[simp] theorem ld_9 {b o : Nat} : ldv Try.prog 9 (.pointer (some ⟨b, o, none⟩)) w = ldC (hp w b) o := ldv_blk ag_9
theorem sz_22 : (Try.prog.info? 22).map (·.size) = some 1 := by kernel_rfl
theorem ag_22 : (Try.prog.underlying 22).map isAggD = some false := by kernel_rfl
@[simp] theorem ld_22 {b o : Nat} : ldv Try.prog 22 (.pointer (some ⟨b, o, none⟩)) w = ldC (hp w b) o := ldv_blk ag_22
theorem sz_25 : (Try.prog.info? 25).map (·.size) = some 6 := by kernel_rfl
theorem ag_25 : (Try.prog.underlying 25).map isAggD = some true := by kernel_rfl
theorem sz_27 : (Try.prog.info? 27).map (·.size) = some 5 := by kernel_rfl
theorem ag_27 : (Try.prog.underlying 27).map isAggD = some true := by kernel_rfl
theorem ld_27 {b o : Nat} : ldv Try.prog 27 (.pointer (some ⟨b, o, none⟩)) w = (ldL (hp w b) o 5).map fun l => .agg l.toArray := ldv_L ag_27 sz_27
theorem sz_29 : (Try.prog.info? 29).map (·.size) = some 6 := by kernel_rfl
theorem ag_29 : (Try.prog.underlying 29).map isAggD = some true := by kernel_rfl
theorem ld_29 {b o : Nat} : ldv Try.prog 29 (.pointer (some ⟨b, o, none⟩)) w = (ldL (hp w b) o 6).map fun l => .agg l.toArray := ldv_L ag_29 sz_29
theorem ag_30 : (Try.prog.underlying 30).map isAggD = some false := by kernel_rfl
@[simp] theorem ld_30 {b o : Nat} : ldv Try.prog 30 (.pointer (some ⟨b, o, none⟩)) w = ldC (hp w b) o := ldv_blk ag_30
theorem sz_32 : (Try.prog.info? 32).map (·.size) = some 8 := by kernel_rfl
theorem ag_32 : (Try.prog.underlying 32).map isAggD = some true := by kernel_rfl
theorem ld_32 {b o : Nat} : ldv Try.prog 32 (.pointer (some ⟨b, o, none⟩)) w = (ldL (hp w b) o 8).map fun l => .agg l.toArray := ldv_L ag_32 sz_32
theorem sz_34 : (Try.prog.info? 34).map (·.size) = some 20 := by kernel_rfl
theorem ag_34 : (Try.prog.underlying 34).map isAggD = some true := by kernel_rfl
theorem ld_34 {b o : Nat} : ldv Try.prog 34 (.pointer (some ⟨b, o, none⟩)) w = (ldL (hp w b) o 20).map fun l => .agg l.toArray := ldv_L ag_34 sz_34
theorem ag_35 : (Try.prog.underlying 35).map isAggD = some false := by kernel_rfl
@[simp] theorem ld_35 {b o : Nat} : ldv Try.prog 35 (.pointer (some ⟨b, o, none⟩)) w = ldC (hp w b) o := ldv_blk ag_35
theorem sz_36 : (Try.prog.info? 36).map (·.size) = some 1 := by kernel_rfl
theorem ag_36 : (Try.prog.underlying 36).map isAggD = some false := by kernel_rfl
@[simp] theorem ld_36 {b o : Nat} : ldv Try.prog 36 (.pointer (some ⟨b, o, none⟩)) w = ldC (hp w b) o := ldv_blk ag_36
theorem sz_48 : (Try.prog.info? 48).map (·.size) = some 1 := by kernel_rfl
theorem ag_48 : (Try.prog.underlying 48).map isAggD = some false := by kernel_rfl
@[simp] theorem ld_48 {b o : Nat} : ldv Try.prog 48 (.pointer (some ⟨b, o, none⟩)) w = ldC (hp w b) o := ldv_blk ag_48
theorem sz_68 : (Try.prog.info? 68).map (·.size) = some 1 := by kernel_rfl
theorem ag_68 : (Try.prog.underlying 68).map isAggD = some false := by kernel_rfl
@[simp] theorem ld_68 {b o : Nat} : ldv Try.prog 68 (.pointer (some ⟨b, o, none⟩)) w = ldC (hp w b) o := ldv_blk ag_68
theorem sz_69 : (Try.prog.info? 69).map (·.size) = some 1 := by kernel_rfl
theorem ag_69 : (Try.prog.underlying 69).map isAggD = some false := by kernel_rfl
@[simp] theorem ld_69 {b o : Nat} : ldv Try.prog 69 (.pointer (some ⟨b, o, none⟩)) w = ldC (hp w b) o := ldv_blk ag_69
theorem sz_70 : (Try.prog.info? 70).map (·.size) = some 1 := by kernel_rfl
theorem ag_70 : (Try.prog.underlying 70).map isAggD = some false := by kernel_rfl
@[simp] theorem ld_70 {b o : Nat} : ldv Try.prog 70 (.pointer (some ⟨b, o, none⟩)) w = ldC (hp w b) o := ldv_blk ag_70
theorem sz_72 : (Try.prog.info? 72).map (·.size) = some 10 := by kernel_rfl
theorem ag_72 : (Try.prog.underlying 72).map isAggD = some true := by kernel_rfl
theorem sz_80 : (Try.prog.info? 80).map (·.size) = some 2 := by kernel_rfl
theorem ag_80 : (Try.prog.underlying 80).map isAggD = some true := by kernel_rfl
theorem ld_80 {b o : Nat} : ldv Try.prog 80 (.pointer (some ⟨b, o, none⟩)) w = (ldL (hp w b) o 2).map fun l => .agg l.toArray := ldv_L ag_80 sz_80
theorem sz_95 : (Try.prog.info? 95).map (·.size) = some 2 := by kernel_rfl
theorem ag_95 : (Try.prog.underlying 95).map isAggD = some true := by kernel_rfl
theorem ld_95 {b o : Nat} : ldv Try.prog 95 (.pointer (some ⟨b, o, none⟩)) w = (ldL (hp w b) o 2).map fun l => .agg l.toArray := ldv_L ag_95 sz_95
theorem sz_96 : (Try.prog.info? 96).map (·.size) = some 1 := by kernel_rfl
theorem ag_96 : (Try.prog.underlying 96).map isAggD = some false := by kernel_rfl
@[simp] theorem ld_96 {b o : Nat} : ldv Try.prog 96 (.pointer (some ⟨b, o, none⟩)) w = ldC (hp w b) o := ldv_blk ag_96
theorem sz_98 : (Try.prog.info? 98).map (·.size) = some 7 := by kernel_rfl
theorem ag_98 : (Try.prog.underlying 98).map isAggD = some true := by kernel_rfl
theorem ld_98 {b o : Nat} : ldv Try.prog 98 (.pointer (some ⟨b, o, none⟩)) w = (ldL (hp w b) o 7).map fun l => .agg l.toArray := ldv_L ag_98 sz_98
theorem sz_104 : (Try.prog.info? 104).map (·.size) = some 1 := by kernel_rfl
theorem ag_104 : (Try.prog.underlying 104).map isAggD = some false := by kernel_rfl
@[simp] theorem ld_104 {b o : Nat} : ldv Try.prog 104 (.pointer (some ⟨b, o, none⟩)) w = ldC (hp w b) o := ldv_blk ag_104
theorem sz_112 : (Try.prog.info? 112).map (·.size) = some 1 := by kernel_rfl
theorem ag_112 : (Try.prog.underlying 112).map isAggD = some false := by kernel_rfl
@[simp] theorem ld_112 {b o : Nat} : ldv Try.prog 112 (.pointer (some ⟨b, o, none⟩)) w = ldC (hp w b) o := ldv_blk ag_112
theorem sz_116 : (Try.prog.info? 116).map (·.size) = some 5 := by kernel_rfl
theorem ag_116 : (Try.prog.underlying 116).map isAggD = some true := by kernel_rfl
theorem ld_116 {b o : Nat} : ldv Try.prog 116 (.pointer (some ⟨b, o, none⟩)) w = (ldL (hp w b) o 5).map fun l => .agg l.toArray := ldv_L ag_116 sz_116
theorem ag_123 : (Try.prog.underlying 123).map isAggD = some false := by kernel_rfl
@[simp] theorem ld_123 {b o : Nat} : ldv Try.prog 123 (.pointer (some ⟨b, o, none⟩)) w = ldC (hp w b) o := ldv_blk ag_123
theorem ag_124 : (Try.prog.underlying 124).map isAggD = some false := by kernel_rfl
@[simp] theorem ld_124 {b o : Nat} : ldv Try.prog 124 (.pointer (some ⟨b, o, none⟩)) w = ldC (hp w b) o := ldv_blk ag_124
theorem ag_139 : (Try.prog.underlying 139).map isAggD = some false := by kernel_rfl
@[simp] theorem ld_139 {b o : Nat} : ldv Try.prog 139 (.pointer (some ⟨b, o, none⟩)) w = ldC (hp w b) o := ldv_blk ag_139
theorem st_3 {b o : Nat} {v : Value} (hv : v.cells = #[v]) (h1 : v.oneCell' = true) (h : okC (hp w b) (o + 1) = true) : effu Try.prog (Instr.storeAt 3 (.pointer (some ⟨b, o, none⟩)) v) w L = L (put w b ((getC (hp w b)).setIfInBounds o v) (getE (hp w b))) := effu_store1 sz_3 hv h1 h
theorem st_4 {b o : Nat} {v : Value} (hv : v.cells = #[v]) (h1 : v.oneCell' = true) (h : okC (hp w b) (o + 1) = true) : effu Try.prog (Instr.storeAt 4 (.pointer (some ⟨b, o, none⟩)) v) w L = L (put w b ((getC (hp w b)).setIfInBounds o v) (getE (hp w b))) := effu_store1 sz_4 hv h1 h
theorem st_22 {b o : Nat} {v : Value} (hv : v.cells = #[v]) (h1 : v.oneCell' = true) (h : okC (hp w b) (o + 1) = true) : effu Try.prog (Instr.storeAt 22 (.pointer (some ⟨b, o, none⟩)) v) w L = L (put w b ((getC (hp w b)).setIfInBounds o v) (getE (hp w b))) := effu_store1 sz_22 hv h1 h
theorem st_25 {b : Nat} {c : Array Value} (hc : c.size = 6) (h1 : c.toList.all (·.oneCell') = true) (h : okC (hp w b) 6 = true) (hs : (getC (hp w b)).size = 6) : effu Try.prog (Instr.storeAt 25 (.pointer (some ⟨b, 0, none⟩)) (.agg c)) w L = L (put w b c (getE (hp w b))) := effu_storeW sz_25 hc h1 (by decide) h hs
theorem st_27 {b : Nat} {c : Array Value} (hc : c.size = 5) (h1 : c.toList.all (·.oneCell') = true) (h : okC (hp w b) 5 = true) (hs : (getC (hp w b)).size = 5) : effu Try.prog (Instr.storeAt 27 (.pointer (some ⟨b, 0, none⟩)) (.agg c)) w L = L (put w b c (getE (hp w b))) := effu_storeW sz_27 hc h1 (by decide) h hs
theorem st_29 {b : Nat} {c : Array Value} (hc : c.size = 6) (h1 : c.toList.all (·.oneCell') = true) (h : okC (hp w b) 6 = true) (hs : (getC (hp w b)).size = 6) : effu Try.prog (Instr.storeAt 29 (.pointer (some ⟨b, 0, none⟩)) (.agg c)) w L = L (put w b c (getE (hp w b))) := effu_storeW sz_29 hc h1 (by decide) h hs
theorem st_32 {b : Nat} {c : Array Value} (hc : c.size = 8) (h1 : c.toList.all (·.oneCell') = true) (h : okC (hp w b) 8 = true) (hs : (getC (hp w b)).size = 8) : effu Try.prog (Instr.storeAt 32 (.pointer (some ⟨b, 0, none⟩)) (.agg c)) w L = L (put w b c (getE (hp w b))) := effu_storeW sz_32 hc h1 (by decide) h hs
theorem st_34 {b : Nat} {c : Array Value} (hc : c.size = 20) (h1 : c.toList.all (·.oneCell') = true) (h : okC (hp w b) 20 = true) (hs : (getC (hp w b)).size = 20) : effu Try.prog (Instr.storeAt 34 (.pointer (some ⟨b, 0, none⟩)) (.agg c)) w L = L (put w b c (getE (hp w b))) := effu_storeW sz_34 hc h1 (by decide) h hs
theorem st_36 {b o : Nat} {v : Value} (hv : v.cells = #[v]) (h1 : v.oneCell' = true) (h : okC (hp w b) (o + 1) = true) : effu Try.prog (Instr.storeAt 36 (.pointer (some ⟨b, o, none⟩)) v) w L = L (put w b ((getC (hp w b)).setIfInBounds o v) (getE (hp w b))) := effu_store1 sz_36 hv h1 h
theorem st_48 {b o : Nat} {v : Value} (hv : v.cells = #[v]) (h1 : v.oneCell' = true) (h : okC (hp w b) (o + 1) = true) : effu Try.prog (Instr.storeAt 48 (.pointer (some ⟨b, o, none⟩)) v) w L = L (put w b ((getC (hp w b)).setIfInBounds o v) (getE (hp w b))) := effu_store1 sz_48 hv h1 h
theorem st_68 {b o : Nat} {v : Value} (hv : v.cells = #[v]) (h1 : v.oneCell' = true) (h : okC (hp w b) (o + 1) = true) : effu Try.prog (Instr.storeAt 68 (.pointer (some ⟨b, o, none⟩)) v) w L = L (put w b ((getC (hp w b)).setIfInBounds o v) (getE (hp w b))) := effu_store1 sz_68 hv h1 h
theorem st_69 {b o : Nat} {v : Value} (hv : v.cells = #[v]) (h1 : v.oneCell' = true) (h : okC (hp w b) (o + 1) = true) : effu Try.prog (Instr.storeAt 69 (.pointer (some ⟨b, o, none⟩)) v) w L = L (put w b ((getC (hp w b)).setIfInBounds o v) (getE (hp w b))) := effu_store1 sz_69 hv h1 h
theorem st_70 {b o : Nat} {v : Value} (hv : v.cells = #[v]) (h1 : v.oneCell' = true) (h : okC (hp w b) (o + 1) = true) : effu Try.prog (Instr.storeAt 70 (.pointer (some ⟨b, o, none⟩)) v) w L = L (put w b ((getC (hp w b)).setIfInBounds o v) (getE (hp w b))) := effu_store1 sz_70 hv h1 h
theorem st_72 {b : Nat} {c : Array Value} (hc : c.size = 10) (h1 : c.toList.all (·.oneCell') = true) (h : okC (hp w b) 10 = true) (hs : (getC (hp w b)).size = 10) : effu Try.prog (Instr.storeAt 72 (.pointer (some ⟨b, 0, none⟩)) (.agg c)) w L = L (put w b c (getE (hp w b))) := effu_storeW sz_72 hc h1 (by decide) h hs
theorem st_80 {b : Nat} {c : Array Value} (hc : c.size = 2) (h1 : c.toList.all (·.oneCell') = true) (h : okC (hp w b) 2 = true) (hs : (getC (hp w b)).size = 2) : effu Try.prog (Instr.storeAt 80 (.pointer (some ⟨b, 0, none⟩)) (.agg c)) w L = L (put w b c (getE (hp w b))) := effu_storeW sz_80 hc h1 (by decide) h hs
theorem st_95 {b : Nat} {c : Array Value} (hc : c.size = 2) (h1 : c.toList.all (·.oneCell') = true) (h : okC (hp w b) 2 = true) (hs : (getC (hp w b)).size = 2) : effu Try.prog (Instr.storeAt 95 (.pointer (some ⟨b, 0, none⟩)) (.agg c)) w L = L (put w b c (getE (hp w b))) := effu_storeW sz_95 hc h1 (by decide) h hs
theorem st_96 {b o : Nat} {v : Value} (hv : v.cells = #[v]) (h1 : v.oneCell' = true) (h : okC (hp w b) (o + 1) = true) : effu Try.prog (Instr.storeAt 96 (.pointer (some ⟨b, o, none⟩)) v) w L = L (put w b ((getC (hp w b)).setIfInBounds o v) (getE (hp w b))) := effu_store1 sz_96 hv h1 h
theorem st_98 {b : Nat} {c : Array Value} (hc : c.size = 7) (h1 : c.toList.all (·.oneCell') = true) (h : okC (hp w b) 7 = true) (hs : (getC (hp w b)).size = 7) : effu Try.prog (Instr.storeAt 98 (.pointer (some ⟨b, 0, none⟩)) (.agg c)) w L = L (put w b c (getE (hp w b))) := effu_storeW sz_98 hc h1 (by decide) h hs
theorem st_104 {b o : Nat} {v : Value} (hv : v.cells = #[v]) (h1 : v.oneCell' = true) (h : okC (hp w b) (o + 1) = true) : effu Try.prog (Instr.storeAt 104 (.pointer (some ⟨b, o, none⟩)) v) w L = L (put w b ((getC (hp w b)).setIfInBounds o v) (getE (hp w b))) := effu_store1 sz_104 hv h1 h
theorem st_112 {b o : Nat} {v : Value} (hv : v.cells = #[v]) (h1 : v.oneCell' = true) (h : okC (hp w b) (o + 1) = true) : effu Try.prog (Instr.storeAt 112 (.pointer (some ⟨b, o, none⟩)) v) w L = L (put w b ((getC (hp w b)).setIfInBounds o v) (getE (hp w b))) := effu_store1 sz_112 hv h1 h
theorem st_116 {b : Nat} {c : Array Value} (hc : c.size = 5) (h1 : c.toList.all (·.oneCell') = true) (h : okC (hp w b) 5 = true) (hs : (getC (hp w b)).size = 5) : effu Try.prog (Instr.storeAt 116 (.pointer (some ⟨b, 0, none⟩)) (.agg c)) w L = L (put w b c (getE (hp w b))) := effu_storeW sz_116 hc h1 (by decide) h hs
@[simp] theorem al_25 {x : Value} : effv Try.prog (Instr.alloc 25 true x) w K = K (.pointer (some ⟨w.heap.size, 0, none⟩)) (w.alloc (.cells #[.int .i64 0, .int .i64 0, .int .i64 0, .int .i64 0, .int .i64 0, .int .i64 0] 25)) := effv_alloc (z := (.agg #[.int .i64 0, .int .i64 0, .int .i64 0, .int .i64 0, .int .i64 0, .int .i64 0])) (by kernel_rfl)
@[simp] theorem al_27 {x : Value} : effv Try.prog (Instr.alloc 27 true x) w K = K (.pointer (some ⟨w.heap.size, 0, none⟩)) (w.alloc (.cells #[.int .i64 0, .int .i64 0, .int .i64 0, .int .i64 0, .int .i64 0] 27)) := effv_alloc (z := (.agg #[.int .i64 0, .int .i64 0, .int .i64 0, .int .i64 0, .int .i64 0])) (by kernel_rfl)
@[simp] theorem al_29 {x : Value} : effv Try.prog (Instr.alloc 29 true x) w K = K (.pointer (some ⟨w.heap.size, 0, none⟩)) (w.alloc (.cells #[.int .i64 0, .int .i64 0, .int .i64 0, .int .i64 0, .int .u64 0, .int .u64 0] 29)) := effv_alloc (z := (.agg #[.int .i64 0, .int .i64 0, .int .i64 0, .int .i64 0, .int .u64 0, .int .u64 0])) (by kernel_rfl)
@[simp] theorem al_32 {x : Value} : effv Try.prog (Instr.alloc 32 true x) w K = K (.pointer (some ⟨w.heap.size, 0, none⟩)) (w.alloc (.cells #[.int .i64 0, .int .i64 0, .int .i64 0, .int .i64 0, .int .i64 0, .int .i64 0, .int .i64 0, .int .u64 0] 32)) := effv_alloc (z := (.agg #[.int .i64 0, .int .i64 0, .int .i64 0, .int .i64 0, .int .i64 0, .int .i64 0, .int .i64 0, .int .u64 0])) (by kernel_rfl)
@[simp] theorem al_34 {x : Value} : effv Try.prog (Instr.alloc 34 true x) w K = K (.pointer (some ⟨w.heap.size, 0, none⟩)) (w.alloc (.cells #[.int .i64 0, .int .i64 0, .int .i64 0, .int .i64 0, .int .i64 0, .int .i64 0, .int .u64 0, .int .u64 0, .int .i64 0, .int .i64 0, .int .i64 0, .int .i64 0, .int .i64 0, .int .i64 0, .int .i64 0, .int .i64 0, .int .i64 0, .int .i64 0, .int .i64 0, .int .u64 0] 34)) := effv_alloc (z := (.agg #[.int .i64 0, .int .i64 0, .int .i64 0, .int .i64 0, .int .i64 0, .int .i64 0, .int .u64 0, .int .u64 0, .int .i64 0, .int .i64 0, .int .i64 0, .int .i64 0, .int .i64 0, .int .i64 0, .int .i64 0, .int .i64 0, .int .i64 0, .int .i64 0, .int .i64 0, .int .u64 0])) (by kernel_rfl)
@[simp] theorem al_59 {x : Value} : effv Try.prog (Instr.alloc 59 true x) w K = K (.pointer (some ⟨w.heap.size, 0, none⟩)) (w.alloc (.cells #[.int .i64 0, .int .i64 0, .bool false] 59)) := effv_alloc (z := (.agg #[.int .i64 0, .int .i64 0, .bool false])) (by kernel_rfl)
@[simp] theorem al_72 {x : Value} : effv Try.prog (Instr.alloc 72 true x) w K = K (.pointer (some ⟨w.heap.size, 0, none⟩)) (w.alloc (.cells #[.int .i64 0, .int .i64 0, .int .i64 0, .int .i64 0, .int .i64 0, .int .i64 0, .bool false, .slice none 0 0, .slice none 0 0, .slice none 0 0] 72)) := effv_alloc (z := (.agg #[.int .i64 0, .int .i64 0, .int .i64 0, .int .i64 0, .int .i64 0, .int .i64 0, .bool false, .slice none 0 0, .slice none 0 0, .slice none 0 0])) (by kernel_rfl)
@[simp] theorem al_80 {x : Value} : effv Try.prog (Instr.alloc 80 true x) w K = K (.pointer (some ⟨w.heap.size, 0, none⟩)) (w.alloc (.cells #[.int .i64 0, .int .i64 0] 80)) := effv_alloc (z := (.agg #[.int .i64 0, .int .i64 0])) (by kernel_rfl)
@[simp] theorem al_85 {x : Value} : effv Try.prog (Instr.alloc 85 true x) w K = K (.pointer (some ⟨w.heap.size, 0, none⟩)) (w.alloc (.cells #[.int .i64 0, .int .i64 0, .int .i64 0, .int .i64 0] 85)) := effv_alloc (z := (.agg #[.int .i64 0, .int .i64 0, .int .i64 0, .int .i64 0])) (by kernel_rfl)
@[simp] theorem al_95 {x : Value} : effv Try.prog (Instr.alloc 95 true x) w K = K (.pointer (some ⟨w.heap.size, 0, none⟩)) (w.alloc (.cells #[.int .i64 0, .int .i64 0] 95)) := effv_alloc (z := (.agg #[.int .i64 0, .int .i64 0])) (by kernel_rfl)
@[simp] theorem al_98 {x : Value} : effv Try.prog (Instr.alloc 98 true x) w K = K (.pointer (some ⟨w.heap.size, 0, none⟩)) (w.alloc (.cells #[.int .i64 0, .int .i64 0, .int .i64 0, .int .i64 0, .slice none 0 0, .slice none 0 0, .slice none 0 0] 98)) := effv_alloc (z := (.agg #[.int .i64 0, .int .i64 0, .int .i64 0, .int .i64 0, .slice none 0 0, .slice none 0 0, .slice none 0 0])) (by kernel_rfl)
@[simp] theorem al_116 {x : Value} : effv Try.prog (Instr.alloc 116 true x) w K = K (.pointer (some ⟨w.heap.size, 0, none⟩)) (w.alloc (.cells #[.string { data := #[] }, .int .i64 0, .bool false, .bool false, .bool false] 116)) := effv_alloc (z := (.agg #[.string { data := #[] }, .int .i64 0, .bool false, .bool false, .bool false])) (by kernel_rfl)
@[simp] theorem al_138 {x : Value} : effv Try.prog (Instr.alloc 138 true x) w K = K (.pointer (some ⟨w.heap.size, 0, none⟩)) (w.alloc (.cells #[.int .i64 0, .int .i64 0, .int .i64 0, .int .i64 0, .bool false, .slice none 0 0, .slice none 0 0, .slice none 0 0] 138)) := effv_alloc (z := (.agg #[.int .i64 0, .int .i64 0, .int .i64 0, .int .i64 0, .bool false, .slice none 0 0, .slice none 0 0, .slice none 0 0])) (by kernel_rfl)
@[simp] theorem bd_25_0_1_2_3_4_5 {x0 : Int} {x1 : Int} {x2 : Int} {x3 : Int} {x4 : Int} {x5 : Int} : pureRun Try.prog (Instr.build 25 #[(0, (.int .i64 x0)), (1, (.int .i64 x1)), (2, (.int .i64 x2)), (3, (.int .i64 x3)), (4, (.int .i64 x4)), (5, (.int .i64 x5))]) = some (.agg #[(.int .i64 x0), (.int .i64 x1), (.int .i64 x2), (.int .i64 x3), (.int .i64 x4), (.int .i64 x5)]) := pureRun_of fun w => run_build w 25 _ _ (by kernel_rfl)
@[simp] theorem bd_25_0_1_2_3_5 {x0 : Int} {x1 : Int} {x2 : Int} {x3 : Int} {x5 : Int} : pureRun Try.prog (Instr.build 25 #[(0, (.int .i64 x0)), (1, (.int .i64 x1)), (2, (.int .i64 x2)), (3, (.int .i64 x3)), (5, (.int .i64 x5))]) = some (.agg #[(.int .i64 x0), (.int .i64 x1), (.int .i64 x2), (.int .i64 x3), (.int .i64 0), (.int .i64 x5)]) := pureRun_of fun w => run_build w 25 _ _ (by kernel_rfl)
@[simp] theorem bd_27_  : pureRun Try.prog (Instr.build 27 #[]) = some (.agg #[(.int .i64 0), (.int .i64 0), (.int .i64 0), (.int .i64 0), (.int .i64 0)]) := pureRun_of fun w => run_build w 27 _ _ (by kernel_rfl)
@[simp] theorem bd_27_0_1 {x0 : Int} {x1 : Int} : pureRun Try.prog (Instr.build 27 #[(0, (.int .i64 x0)), (1, (.int .i64 x1))]) = some (.agg #[(.int .i64 x0), (.int .i64 x1), (.int .i64 0), (.int .i64 0), (.int .i64 0)]) := pureRun_of fun w => run_build w 27 _ _ (by kernel_rfl)
@[simp] theorem bd_27_0_1_2_4 {x0 : Int} {x1 : Int} {x2 : Int} {x4 : Int} : pureRun Try.prog (Instr.build 27 #[(0, (.int .i64 x0)), (1, (.int .i64 x1)), (2, (.int .i64 x2)), (4, (.int .i64 x4))]) = some (.agg #[(.int .i64 x0), (.int .i64 x1), (.int .i64 x2), (.int .i64 0), (.int .i64 x4)]) := pureRun_of fun w => run_build w 27 _ _ (by kernel_rfl)
@[simp] theorem bd_27_1 {x1 : Int} : pureRun Try.prog (Instr.build 27 #[(1, (.int .i64 x1))]) = some (.agg #[(.int .i64 0), (.int .i64 x1), (.int .i64 0), (.int .i64 0), (.int .i64 0)]) := pureRun_of fun w => run_build w 27 _ _ (by kernel_rfl)
@[simp] theorem bd_27_1_4 {x1 : Int} {x4 : Int} : pureRun Try.prog (Instr.build 27 #[(1, (.int .i64 x1)), (4, (.int .i64 x4))]) = some (.agg #[(.int .i64 0), (.int .i64 x1), (.int .i64 0), (.int .i64 0), (.int .i64 x4)]) := pureRun_of fun w => run_build w 27 _ _ (by kernel_rfl)
@[simp] theorem bd_29_0 {x0 : Int} : pureRun Try.prog (Instr.build 29 #[(0, (.int .i64 x0))]) = some (.agg #[(.int .i64 x0), (.int .i64 0), (.int .i64 0), (.int .i64 0), (.int .u64 0), (.int .u64 0)]) := pureRun_of fun w => run_build w 29 _ _ (by kernel_rfl)
@[simp] theorem bd_29_0_2 {x0 : Int} {x2 : Int} : pureRun Try.prog (Instr.build 29 #[(0, (.int .i64 x0)), (2, (.int .i64 x2))]) = some (.agg #[(.int .i64 x0), (.int .i64 0), (.int .i64 x2), (.int .i64 0), (.int .u64 0), (.int .u64 0)]) := pureRun_of fun w => run_build w 29 _ _ (by kernel_rfl)
@[simp] theorem bd_29_0_2_4 {x0 : Int} {x2 : Int} {x4 : Int} : pureRun Try.prog (Instr.build 29 #[(0, (.int .i64 x0)), (2, (.int .i64 x2)), (4, (.int .u64 x4))]) = some (.agg #[(.int .i64 x0), (.int .i64 0), (.int .i64 x2), (.int .i64 0), (.int .u64 x4), (.int .u64 0)]) := pureRun_of fun w => run_build w 29 _ _ (by kernel_rfl)
@[simp] theorem bd_29_0_3 {x0 : Int} {x3 : Int} : pureRun Try.prog (Instr.build 29 #[(0, (.int .i64 x0)), (3, (.int .i64 x3))]) = some (.agg #[(.int .i64 x0), (.int .i64 0), (.int .i64 0), (.int .i64 x3), (.int .u64 0), (.int .u64 0)]) := pureRun_of fun w => run_build w 29 _ _ (by kernel_rfl)
@[simp] theorem bd_32_  : pureRun Try.prog (Instr.build 32 #[]) = some (.agg #[(.int .i64 0), (.int .i64 0), (.int .i64 0), (.int .i64 0), (.int .i64 0), (.int .i64 0), (.int .i64 0), (.int .u64 0)]) := pureRun_of fun w => run_build w 32 _ _ (by kernel_rfl)
@[simp] theorem bd_32_0 {x0 : Int} : pureRun Try.prog (Instr.build 32 #[(0, (.int .i64 x0))]) = some (.agg #[(.int .i64 x0), (.int .i64 0), (.int .i64 0), (.int .i64 0), (.int .i64 0), (.int .i64 0), (.int .i64 0), (.int .u64 0)]) := pureRun_of fun w => run_build w 32 _ _ (by kernel_rfl)
@[simp] theorem bd_32_1 {x1_0 x1_1 x1_2 x1_3 x1_4 : Value} : pureRun Try.prog (Instr.build 32 #[(1, (.agg #[x1_0, x1_1, x1_2, x1_3, x1_4]))]) = some (.agg #[(.int .i64 0), x1_0, x1_1, x1_2, x1_3, x1_4, (.int .i64 0), (.int .u64 0)]) := pureRun_of fun w => run_build w 32 _ _ (by kernel_rfl)
@[simp] theorem bd_32_2 {x2 : Int} : pureRun Try.prog (Instr.build 32 #[(2, (.int .i64 x2))]) = some (.agg #[(.int .i64 0), (.int .i64 0), (.int .i64 0), (.int .i64 0), (.int .i64 0), (.int .i64 0), (.int .i64 x2), (.int .u64 0)]) := pureRun_of fun w => run_build w 32 _ _ (by kernel_rfl)
@[simp] theorem bd_32_3 {x3 : Int} : pureRun Try.prog (Instr.build 32 #[(3, (.int .u64 x3))]) = some (.agg #[(.int .i64 0), (.int .i64 0), (.int .i64 0), (.int .i64 0), (.int .i64 0), (.int .i64 0), (.int .i64 0), (.int .u64 x3)]) := pureRun_of fun w => run_build w 32 _ _ (by kernel_rfl)
@[simp] theorem bd_34_0_1_2_3_4_5_6 {x0 : Int} {x1 : Int} {x2_0 x2_1 x2_2 x2_3 x2_4 x2_5 : Value} {x3 : Int} {x4 : Int} {x5 : Int} {x6 : Int} : pureRun Try.prog (Instr.build 34 #[(0, (.int .i64 x0)), (1, (.int .i64 x1)), (2, (.agg #[x2_0, x2_1, x2_2, x2_3, x2_4, x2_5])), (3, (.int .i64 x3)), (4, (.int .i64 x4)), (5, (.int .i64 x5)), (6, (.int .i64 x6))]) = some (.agg #[(.int .i64 x0), (.int .i64 x1), x2_0, x2_1, x2_2, x2_3, x2_4, x2_5, (.int .i64 x3), (.int .i64 x4), (.int .i64 x5), (.int .i64 x6), (.int .i64 0), (.int .i64 0), (.int .i64 0), (.int .i64 0), (.int .i64 0), (.int .i64 0), (.int .i64 0), (.int .u64 0)]) := pureRun_of fun w => run_build w 34 _ _ (by kernel_rfl)
@[simp] theorem bd_34_1_2_3_4_5_6_7 {x1 : Int} {x2_0 x2_1 x2_2 x2_3 x2_4 x2_5 : Value} {x3 : Int} {x4 : Int} {x5 : Int} {x6 : Int} {x7_0 x7_1 x7_2 x7_3 x7_4 x7_5 x7_6 x7_7 : Value} : pureRun Try.prog (Instr.build 34 #[(1, (.int .i64 x1)), (2, (.agg #[x2_0, x2_1, x2_2, x2_3, x2_4, x2_5])), (3, (.int .i64 x3)), (4, (.int .i64 x4)), (5, (.int .i64 x5)), (6, (.int .i64 x6)), (7, (.agg #[x7_0, x7_1, x7_2, x7_3, x7_4, x7_5, x7_6, x7_7]))]) = some (.agg #[(.int .i64 0), (.int .i64 x1), x2_0, x2_1, x2_2, x2_3, x2_4, x2_5, (.int .i64 x3), (.int .i64 x4), (.int .i64 x5), (.int .i64 x6), x7_0, x7_1, x7_2, x7_3, x7_4, x7_5, x7_6, x7_7]) := pureRun_of fun w => run_build w 34 _ _ (by kernel_rfl)
@[simp] theorem bd_34_2_3_4_5_6_7 {x2_0 x2_1 x2_2 x2_3 x2_4 x2_5 : Value} {x3 : Int} {x4 : Int} {x5 : Int} {x6 : Int} {x7_0 x7_1 x7_2 x7_3 x7_4 x7_5 x7_6 x7_7 : Value} : pureRun Try.prog (Instr.build 34 #[(2, (.agg #[x2_0, x2_1, x2_2, x2_3, x2_4, x2_5])), (3, (.int .i64 x3)), (4, (.int .i64 x4)), (5, (.int .i64 x5)), (6, (.int .i64 x6)), (7, (.agg #[x7_0, x7_1, x7_2, x7_3, x7_4, x7_5, x7_6, x7_7]))]) = some (.agg #[(.int .i64 0), (.int .i64 0), x2_0, x2_1, x2_2, x2_3, x2_4, x2_5, (.int .i64 x3), (.int .i64 x4), (.int .i64 x5), (.int .i64 x6), x7_0, x7_1, x7_2, x7_3, x7_4, x7_5, x7_6, x7_7]) := pureRun_of fun w => run_build w 34 _ _ (by kernel_rfl)
@[simp] theorem bd_34_2_4_5_6 {x2_0 x2_1 x2_2 x2_3 x2_4 x2_5 : Value} {x4 : Int} {x5 : Int} {x6 : Int} : pureRun Try.prog (Instr.build 34 #[(2, (.agg #[x2_0, x2_1, x2_2, x2_3, x2_4, x2_5])), (4, (.int .i64 x4)), (5, (.int .i64 x5)), (6, (.int .i64 x6))]) = some (.agg #[(.int .i64 0), (.int .i64 0), x2_0, x2_1, x2_2, x2_3, x2_4, x2_5, (.int .i64 0), (.int .i64 x4), (.int .i64 x5), (.int .i64 x6), (.int .i64 0), (.int .i64 0), (.int .i64 0), (.int .i64 0), (.int .i64 0), (.int .i64 0), (.int .i64 0), (.int .u64 0)]) := pureRun_of fun w => run_build w 34 _ _ (by kernel_rfl)
@[simp] theorem bd_50_0_4 {x0 : Option Addr} {y0 z0 : Nat} {x4 : Int} : pureRun Try.prog (Instr.build 50 #[(0, (.slice x0 y0 z0)), (4, (.int .i64 x4))]) = some (.agg #[(.slice x0 y0 z0), (.slice none 0 0), (.slice none 0 0), (.int .i64 0), (.int .i64 x4), (.bool false)]) := pureRun_of fun w => run_build w 50 _ _ (by kernel_rfl)
@[simp] theorem bd_59_0_1 {x0 : Int} {x1 : Int} : pureRun Try.prog (Instr.build 59 #[(0, (.int .i64 x0)), (1, (.int .i64 x1))]) = some (.agg #[(.int .i64 x0), (.int .i64 x1), (.bool false)]) := pureRun_of fun w => run_build w 59 _ _ (by kernel_rfl)
@[simp] theorem bd_59_0_1_2 {x0 : Int} {x1 : Int} {x2 : Bool} : pureRun Try.prog (Instr.build 59 #[(0, (.int .i64 x0)), (1, (.int .i64 x1)), (2, (.bool x2))]) = some (.agg #[(.int .i64 x0), (.int .i64 x1), (.bool x2)]) := pureRun_of fun w => run_build w 59 _ _ (by kernel_rfl)
@[simp] theorem bd_67_0_1_2 {x0 : Int} {x1 : Int} {x2 : Bool} : pureRun Try.prog (Instr.build 67 #[(0, (.int .i64 x0)), (1, (.int .i64 x1)), (2, (.bool x2))]) = some (.agg #[(.int .i64 x0), (.int .i64 x1), (.bool x2)]) := pureRun_of fun w => run_build w 67 _ _ (by kernel_rfl)
@[simp] theorem bd_72_0_2_4 {x0_0 x0_1 x0_2 x0_3 x0_4 x0_5 : Value} {x2 : Option Addr} {y2 z2 : Nat} {x4 : Option Addr} {y4 z4 : Nat} : pureRun Try.prog (Instr.build 72 #[(0, (.agg #[x0_0, x0_1, x0_2, x0_3, x0_4, x0_5])), (2, (.slice x2 y2 z2)), (4, (.slice x4 y4 z4))]) = some (.agg #[x0_0, x0_1, x0_2, x0_3, x0_4, x0_5, (.bool false), (.slice x2 y2 z2), (.slice none 0 0), (.slice x4 y4 z4)]) := pureRun_of fun w => run_build w 72 _ _ (by kernel_rfl)
@[simp] theorem bd_80_0_1 {x0 : Int} {x1 : Int} : pureRun Try.prog (Instr.build 80 #[(0, (.int .i64 x0)), (1, (.int .i64 x1))]) = some (.agg #[(.int .i64 x0), (.int .i64 x1)]) := pureRun_of fun w => run_build w 80 _ _ (by kernel_rfl)
@[simp] theorem bd_85_0_1_2_3 {x0 : Int} {x1 : Int} {x2 : Int} {x3 : Int} : pureRun Try.prog (Instr.build 85 #[(0, (.int .i64 x0)), (1, (.int .i64 x1)), (2, (.int .i64 x2)), (3, (.int .i64 x3))]) = some (.agg #[(.int .i64 x0), (.int .i64 x1), (.int .i64 x2), (.int .i64 x3)]) := pureRun_of fun w => run_build w 85 _ _ (by kernel_rfl)
@[simp] theorem bd_95_0_1 {x0 : Int} {x1 : Int} : pureRun Try.prog (Instr.build 95 #[(0, (.int .i64 x0)), (1, (.int .i64 x1))]) = some (.agg #[(.int .i64 x0), (.int .i64 x1)]) := pureRun_of fun w => run_build w 95 _ _ (by kernel_rfl)
@[simp] theorem bd_98_0_1 {x0_0 x0_1 : Value} {x1 : Int} : pureRun Try.prog (Instr.build 98 #[(0, (.agg #[x0_0, x0_1])), (1, (.int .i64 x1))]) = some (.agg #[x0_0, x0_1, (.int .i64 x1), (.int .i64 0), (.slice none 0 0), (.slice none 0 0), (.slice none 0 0)]) := pureRun_of fun w => run_build w 98 _ _ (by kernel_rfl)
@[simp] theorem bd_116_  : pureRun Try.prog (Instr.build 116 #[]) = some (.agg #[(.string { data := #[] }), (.int .i64 0), (.bool false), (.bool false), (.bool false)]) := pureRun_of fun w => run_build w 116 _ _ (by kernel_rfl)
@[simp] theorem bd_116_0 {x0 : ByteArray} : pureRun Try.prog (Instr.build 116 #[(0, (.string x0))]) = some (.agg #[(.string x0), (.int .i64 0), (.bool false), (.bool false), (.bool false)]) := pureRun_of fun w => run_build w 116 _ _ (by kernel_rfl)
@[simp] theorem bd_116_0_1 {x0 : ByteArray} {x1 : Int} : pureRun Try.prog (Instr.build 116 #[(0, (.string x0)), (1, (.int .i64 x1))]) = some (.agg #[(.string x0), (.int .i64 x1), (.bool false), (.bool false), (.bool false)]) := pureRun_of fun w => run_build w 116 _ _ (by kernel_rfl)
@[simp] theorem bd_116_0_1_2 {x0 : ByteArray} {x1 : Int} {x2 : Bool} : pureRun Try.prog (Instr.build 116 #[(0, (.string x0)), (1, (.int .i64 x1)), (2, (.bool x2))]) = some (.agg #[(.string x0), (.int .i64 x1), (.bool x2), (.bool false), (.bool false)]) := pureRun_of fun w => run_build w 116 _ _ (by kernel_rfl)
@[simp] theorem bd_116_0_1_2_3 {x0 : ByteArray} {x1 : Int} {x2 : Bool} {x3 : Bool} : pureRun Try.prog (Instr.build 116 #[(0, (.string x0)), (1, (.int .i64 x1)), (2, (.bool x2)), (3, (.bool x3))]) = some (.agg #[(.string x0), (.int .i64 x1), (.bool x2), (.bool x3), (.bool false)]) := pureRun_of fun w => run_build w 116 _ _ (by kernel_rfl)
@[simp] theorem bd_116_0_1_2_3_4 {x0 : ByteArray} {x1 : Int} {x2 : Bool} {x3 : Bool} {x4 : Bool} : pureRun Try.prog (Instr.build 116 #[(0, (.string x0)), (1, (.int .i64 x1)), (2, (.bool x2)), (3, (.bool x3)), (4, (.bool x4))]) = some (.agg #[(.string x0), (.int .i64 x1), (.bool x2), (.bool x3), (.bool x4)]) := pureRun_of fun w => run_build w 116 _ _ (by kernel_rfl)
@[simp] theorem bd_116_0_2 {x0 : ByteArray} {x2 : Bool} : pureRun Try.prog (Instr.build 116 #[(0, (.string x0)), (2, (.bool x2))]) = some (.agg #[(.string x0), (.int .i64 0), (.bool x2), (.bool false), (.bool false)]) := pureRun_of fun w => run_build w 116 _ _ (by kernel_rfl)
@[simp] theorem bd_126_0_1_2_3_5_6 {x0_0 x0_1 x0_2 x0_3 x0_4 x0_5 : Value} {x1 : Bool} {x2 : Option Addr} {y2 z2 : Nat} {x3 : Option Addr} {y3 z3 : Nat} {x5 : Option Addr} {y5 z5 : Nat} {x6 : Option Addr} {y6 z6 : Nat} : pureRun Try.prog (Instr.build 126 #[(0, (.agg #[x0_0, x0_1, x0_2, x0_3, x0_4, x0_5])), (1, (.bool x1)), (2, (.slice x2 y2 z2)), (3, (.slice x3 y3 z3)), (5, (.slice x5 y5 z5)), (6, (.slice x6 y6 z6))]) = some (.agg #[x0_0, x0_1, x0_2, x0_3, x0_4, x0_5, (.bool x1), (.slice x2 y2 z2), (.slice x3 y3 z3), (.slice none 0 0), (.slice x5 y5 z5), (.slice x6 y6 z6)]) := pureRun_of fun w => run_build w 126 _ _ (by kernel_rfl)
@[simp] theorem bd_138_0_1_2_4 {x0 : Int} {x1 : Int} {x2 : Int} {x4 : Bool} : pureRun Try.prog (Instr.build 138 #[(0, (.int .i64 x0)), (1, (.int .i64 x1)), (2, (.int .i64 x2)), (4, (.bool x4))]) = some (.agg #[(.int .i64 x0), (.int .i64 x1), (.int .i64 x2), (.int .i64 0), (.bool x4), (.slice none 0 0), (.slice none 0 0), (.slice none 0 0)]) := pureRun_of fun w => run_build w 138 _ _ (by kernel_rfl)
@[simp] theorem bd_142_0_1 {x0 : Int} {x1 : Int} : pureRun Try.prog (Instr.build 142 #[(0, (.int .i64 x0)), (1, (.int .i64 x1))]) = some (.agg #[(.int .i64 x0), (.int .i64 x1)]) := pureRun_of fun w => run_build w 142 _ _ (by kernel_rfl)
theorem inf_34 : ∃ i, Try.prog.info? 34 = some i ∧ i.zero = some (.agg #[.int .i64 0, .int .i64 0, .int .i64 0, .int .i64 0, .int .i64 0, .int .i64 0, .int .u64 0, .int .u64 0, .int .i64 0, .int .i64 0, .int .i64 0, .int .i64 0, .int .i64 0, .int .i64 0, .int .i64 0, .int .i64 0, .int .i64 0, .int .i64 0, .int .i64 0, .int .u64 0]) ∧ i.size = 20 ∧ i.bytes = 160 := ⟨Try.t34, by kernel_rfl, rfl, rfl, rfl⟩
theorem inf_3 : ∃ i, Try.prog.info? 3 = some i ∧ i.zero = some (.int .i64 0) ∧ i.size = 1 ∧ i.bytes = 8 := ⟨Try.t3, by kernel_rfl, rfl, rfl, rfl⟩
theorem inf_27 : ∃ i, Try.prog.info? 27 = some i ∧ i.zero = some (.agg #[.int .i64 0, .int .i64 0, .int .i64 0, .int .i64 0, .int .i64 0]) ∧ i.size = 5 ∧ i.bytes = 40 := ⟨Try.t27, by kernel_rfl, rfl, rfl, rfl⟩
theorem inf_59 : ∃ i, Try.prog.info? 59 = some i ∧ i.zero = some (.agg #[.int .i64 0, .int .i64 0, .bool false]) ∧ i.size = 3 ∧ i.bytes = 24 := ⟨Try.t59, by kernel_rfl, rfl, rfl, rfl⟩
theorem inf_67 : ∃ i, Try.prog.info? 67 = some i ∧ i.zero = some (.agg #[.int .i64 0, .int .i64 0, .bool false]) ∧ i.size = 3 ∧ i.bytes = 24 := ⟨Try.t67, by kernel_rfl, rfl, rfl, rfl⟩
theorem inf_80 : ∃ i, Try.prog.info? 80 = some i ∧ i.zero = some (.agg #[.int .i64 0, .int .i64 0]) ∧ i.size = 2 ∧ i.bytes = 16 := ⟨Try.t80, by kernel_rfl, rfl, rfl, rfl⟩
theorem inf_98 : ∃ i, Try.prog.info? 98 = some i ∧ i.zero = some (.agg #[.int .i64 0, .int .i64 0, .int .i64 0, .int .i64 0, .slice none 0 0, .slice none 0 0, .slice none 0 0]) ∧ i.size = 7 ∧ i.bytes = 104 := ⟨Try.t98, by kernel_rfl, rfl, rfl, rfl⟩
theorem inf_106 : ∃ i, Try.prog.info? 106 = some i ∧ i.zero = some (.agg #[.int .i64 0, .slice none 0 0]) ∧ i.size = 2 ∧ i.bytes = 32 := ⟨Try.t106, by kernel_rfl, rfl, rfl, rfl⟩
theorem inf_112 : ∃ i, Try.prog.info? 112 = some i ∧ i.zero = some (.slice none 0 0) ∧ i.size = 1 ∧ i.bytes = 24 := ⟨Try.t112, by kernel_rfl, rfl, rfl, rfl⟩
theorem inf_95 : ∃ i, Try.prog.info? 95 = some i ∧ i.zero = some (.agg #[.int .i64 0, .int .i64 0]) ∧ i.size = 2 ∧ i.bytes = 16 := ⟨Try.t95, by kernel_rfl, rfl, rfl, rfl⟩
theorem inf_22 : ∃ i, Try.prog.info? 22 = some i ∧ i.zero = some (.int .u64 0) ∧ i.size = 1 ∧ i.bytes = 8 := ⟨Try.t22, by kernel_rfl, rfl, rfl, rfl⟩
theorem inf_138 : ∃ i, Try.prog.info? 138 = some i ∧ i.zero = some (.agg #[.int .i64 0, .int .i64 0, .int .i64 0, .int .i64 0, .bool false, .slice none 0 0, .slice none 0 0, .slice none 0 0]) ∧ i.size = 8 ∧ i.bytes = 112 := ⟨Try.t138, by kernel_rfl, rfl, rfl, rfl⟩
theorem inf_142 : ∃ i, Try.prog.info? 142 = some i ∧ i.zero = some (.agg #[.int .i64 0, .int .i64 0]) ∧ i.size = 2 ∧ i.bytes = 16 := ⟨Try.t142, by kernel_rfl, rfl, rfl, rfl⟩
@[simp] theorem bs_35_1 {x0_0 x0_1 x0_2 x0_3 x0_4 x0_5 x0_6 x0_7 x0_8 x0_9 x0_10 x0_11 x0_12 x0_13 x0_14 x0_15 x0_16 x0_17 x0_18 x0_19 : Value} : effv Try.prog (Instr.buildSlice 35 1 #[(0, (.agg #[x0_0, x0_1, x0_2, x0_3, x0_4, x0_5, x0_6, x0_7, x0_8, x0_9, x0_10, x0_11, x0_12, x0_13, x0_14, x0_15, x0_16, x0_17, x0_18, x0_19]))]) w K = K (.slice (some ⟨w.heap.size, 0, none⟩) 1 1) (w.alloc (.cells #[x0_0, x0_1, x0_2, x0_3, x0_4, x0_5, x0_6, x0_7, x0_8, x0_9, x0_10, x0_11, x0_12, x0_13, x0_14, x0_15, x0_16, x0_17, x0_18, x0_19] 34)) := by
  obtain ⟨i, hi, hz, hs, hb⟩ := inf_34
  exact effv_buildSlice (z := 20) Try.underlying35 hi hz hs (by decide) (by decide) (by kernel_rfl)
@[simp] theorem bs_35_2 {x0_0 x0_1 x0_2 x0_3 x0_4 x0_5 x0_6 x0_7 x0_8 x0_9 x0_10 x0_11 x0_12 x0_13 x0_14 x0_15 x0_16 x0_17 x0_18 x0_19 : Value} {x1_0 x1_1 x1_2 x1_3 x1_4 x1_5 x1_6 x1_7 x1_8 x1_9 x1_10 x1_11 x1_12 x1_13 x1_14 x1_15 x1_16 x1_17 x1_18 x1_19 : Value} : effv Try.prog (Instr.buildSlice 35 2 #[(0, (.agg #[x0_0, x0_1, x0_2, x0_3, x0_4, x0_5, x0_6, x0_7, x0_8, x0_9, x0_10, x0_11, x0_12, x0_13, x0_14, x0_15, x0_16, x0_17, x0_18, x0_19])), (1, (.agg #[x1_0, x1_1, x1_2, x1_3, x1_4, x1_5, x1_6, x1_7, x1_8, x1_9, x1_10, x1_11, x1_12, x1_13, x1_14, x1_15, x1_16, x1_17, x1_18, x1_19]))]) w K = K (.slice (some ⟨w.heap.size, 0, none⟩) 2 2) (w.alloc (.cells #[x0_0, x0_1, x0_2, x0_3, x0_4, x0_5, x0_6, x0_7, x0_8, x0_9, x0_10, x0_11, x0_12, x0_13, x0_14, x0_15, x0_16, x0_17, x0_18, x0_19, x1_0, x1_1, x1_2, x1_3, x1_4, x1_5, x1_6, x1_7, x1_8, x1_9, x1_10, x1_11, x1_12, x1_13, x1_14, x1_15, x1_16, x1_17, x1_18, x1_19] 34)) := by
  obtain ⟨i, hi, hz, hs, hb⟩ := inf_34
  exact effv_buildSlice (z := 20) Try.underlying35 hi hz hs (by decide) (by decide) (by kernel_rfl)
theorem ps_36 {x0 : Int} {x : Value} {base n : Nat} {xs : List Value} (h1 : ∀ u ∈ ([(.int .i64 x0)] : List Value), u.oneCell' = true) (hown : w.ownsRow base 3 1 x n xs) (hn : n + 1 ≤ 1048577) (hbase : base ≤ w.heap.size) (hk : ∀ x' w', w'.ownsRow base 3 1 x' (n + 1) (xs ++ [(.int .i64 x0)]) → w.grownBy w' x.ownBlock → NewB w x x' → K x' w') :
    effv Try.prog (Instr.buildSlice 36 1 #[(0, (.int .i64 x0))]) w fun y w1 => effv Try.prog (Builtin.append_ #[36, 36] 36 #[x, y]) w1 K := by
  obtain ⟨i, hi, hz, hs, hb⟩ := inf_3
  exact eff_pushN (cs := [(.int .i64 x0)]) Try.underlying36 hi hz hs rfl (by decide) (by decide) (by kernel_rfl) rfl h1 hown (by unfold maxLen; omega) (by rw [hb]; omega) hbase hk
@[simp] theorem bs_36_1 {x0 : Int} : effv Try.prog (Instr.buildSlice 36 1 #[(0, (.int .i64 x0))]) w K = K (.slice (some ⟨w.heap.size, 0, none⟩) 1 1) (w.alloc (.cells #[(.int .i64 x0)] 3)) := by
  obtain ⟨i, hi, hz, hs, hb⟩ := inf_3
  exact effv_buildSlice (z := 1) Try.underlying36 hi hz hs (by decide) (by decide) (by kernel_rfl)
@[simp] theorem bs_36_4 {x0 : Int} {x1 : Int} {x2 : Int} {x3 : Int} : effv Try.prog (Instr.buildSlice 36 4 #[(0, (.int .i64 x0)), (1, (.int .i64 x1)), (2, (.int .i64 x2)), (3, (.int .i64 x3))]) w K = K (.slice (some ⟨w.heap.size, 0, none⟩) 4 4) (w.alloc (.cells #[(.int .i64 x0), (.int .i64 x1), (.int .i64 x2), (.int .i64 x3)] 3)) := by
  obtain ⟨i, hi, hz, hs, hb⟩ := inf_3
  exact effv_buildSlice (z := 1) Try.underlying36 hi hz hs (by decide) (by decide) (by kernel_rfl)
theorem ps_48 {x0_0 x0_1 x0_2 x0_3 x0_4 : Value} {x : Value} {base n : Nat} {xs : List Value} (h1 : ∀ u ∈ ([x0_0, x0_1, x0_2, x0_3, x0_4] : List Value), u.oneCell' = true) (hown : w.ownsRow base 27 5 x n xs) (hn : n + 1 ≤ 1048577) (hbase : base ≤ w.heap.size) (hk : ∀ x' w', w'.ownsRow base 27 5 x' (n + 1) (xs ++ [x0_0, x0_1, x0_2, x0_3, x0_4]) → w.grownBy w' x.ownBlock → NewB w x x' → K x' w') :
    effv Try.prog (Instr.buildSlice 48 1 #[(0, (.agg #[x0_0, x0_1, x0_2, x0_3, x0_4]))]) w fun y w1 => effv Try.prog (Builtin.append_ #[48, 48] 48 #[x, y]) w1 K := by
  obtain ⟨i, hi, hz, hs, hb⟩ := inf_27
  exact eff_pushN (cs := [x0_0, x0_1, x0_2, x0_3, x0_4]) Try.underlying48 hi hz hs rfl (by decide) (by decide) (by kernel_rfl) rfl h1 hown (by unfold maxLen; omega) (by rw [hb]; omega) hbase hk
@[simp] theorem bs_48_1 {x0_0 x0_1 x0_2 x0_3 x0_4 : Value} : effv Try.prog (Instr.buildSlice 48 1 #[(0, (.agg #[x0_0, x0_1, x0_2, x0_3, x0_4]))]) w K = K (.slice (some ⟨w.heap.size, 0, none⟩) 1 1) (w.alloc (.cells #[x0_0, x0_1, x0_2, x0_3, x0_4] 27)) := by
  obtain ⟨i, hi, hz, hs, hb⟩ := inf_27
  exact effv_buildSlice (z := 5) Try.underlying48 hi hz hs (by decide) (by decide) (by kernel_rfl)
@[simp] theorem bs_56_1 {x0_0 x0_1 x0_2 : Value} : effv Try.prog (Instr.buildSlice 56 1 #[(0, (.agg #[x0_0, x0_1, x0_2]))]) w K = K (.slice (some ⟨w.heap.size, 0, none⟩) 1 1) (w.alloc (.cells #[x0_0, x0_1, x0_2] 59)) := by
  obtain ⟨i, hi, hz, hs, hb⟩ := inf_59
  exact effv_buildSlice (z := 3) Try.underlying56 hi hz hs (by decide) (by decide) (by kernel_rfl)
@[simp] theorem bs_65_1 {x0_0 x0_1 x0_2 : Value} : effv Try.prog (Instr.buildSlice 65 1 #[(0, (.agg #[x0_0, x0_1, x0_2]))]) w K = K (.slice (some ⟨w.heap.size, 0, none⟩) 1 1) (w.alloc (.cells #[x0_0, x0_1, x0_2] 67)) := by
  obtain ⟨i, hi, hz, hs, hb⟩ := inf_67
  exact effv_buildSlice (z := 3) Try.underlying65 hi hz hs (by decide) (by decide) (by kernel_rfl)
theorem ps_69 {x0_0 x0_1 x0_2 x0_3 x0_4 x0_5 x0_6 : Value} {x : Value} {base n : Nat} {xs : List Value} (h1 : ∀ u ∈ ([x0_0, x0_1, x0_2, x0_3, x0_4, x0_5, x0_6] : List Value), u.oneCell' = true) (hown : w.ownsRow base 98 7 x n xs) (hn : n + 1 ≤ 1048577) (hbase : base ≤ w.heap.size) (hk : ∀ x' w', w'.ownsRow base 98 7 x' (n + 1) (xs ++ [x0_0, x0_1, x0_2, x0_3, x0_4, x0_5, x0_6]) → w.grownBy w' x.ownBlock → NewB w x x' → K x' w') :
    effv Try.prog (Instr.buildSlice 69 1 #[(0, (.agg #[x0_0, x0_1, x0_2, x0_3, x0_4, x0_5, x0_6]))]) w fun y w1 => effv Try.prog (Builtin.append_ #[69, 69] 69 #[x, y]) w1 K := by
  obtain ⟨i, hi, hz, hs, hb⟩ := inf_98
  exact eff_pushN (cs := [x0_0, x0_1, x0_2, x0_3, x0_4, x0_5, x0_6]) Try.underlying69 hi hz hs rfl (by decide) (by decide) (by kernel_rfl) rfl h1 hown (by unfold maxLen; omega) (by rw [hb]; omega) hbase hk
@[simp] theorem bs_69_1 {x0_0 x0_1 x0_2 x0_3 x0_4 x0_5 x0_6 : Value} : effv Try.prog (Instr.buildSlice 69 1 #[(0, (.agg #[x0_0, x0_1, x0_2, x0_3, x0_4, x0_5, x0_6]))]) w K = K (.slice (some ⟨w.heap.size, 0, none⟩) 1 1) (w.alloc (.cells #[x0_0, x0_1, x0_2, x0_3, x0_4, x0_5, x0_6] 98)) := by
  obtain ⟨i, hi, hz, hs, hb⟩ := inf_98
  exact effv_buildSlice (z := 7) Try.underlying69 hi hz hs (by decide) (by decide) (by kernel_rfl)
theorem ps_96 {x0 : Option Addr} {y0 z0 : Nat} {x : Value} {base n : Nat} {xs : List Value} (h1 : ∀ u ∈ ([(.slice x0 y0 z0)] : List Value), u.oneCell' = true) (hown : w.ownsRow base 112 1 x n xs) (hn : n + 1 ≤ 1048577) (hbase : base ≤ w.heap.size) (hk : ∀ x' w', w'.ownsRow base 112 1 x' (n + 1) (xs ++ [(.slice x0 y0 z0)]) → w.grownBy w' x.ownBlock → NewB w x x' → K x' w') :
    effv Try.prog (Instr.buildSlice 96 1 #[(0, (.slice x0 y0 z0))]) w fun y w1 => effv Try.prog (Builtin.append_ #[96, 96] 96 #[x, y]) w1 K := by
  obtain ⟨i, hi, hz, hs, hb⟩ := inf_112
  exact eff_pushN (cs := [(.slice x0 y0 z0)]) Try.underlying96 hi hz hs rfl (by decide) (by decide) (by kernel_rfl) rfl h1 hown (by unfold maxLen; omega) (by rw [hb]; omega) hbase hk
@[simp] theorem bs_96_1 {x0 : Option Addr} {y0 z0 : Nat} : effv Try.prog (Instr.buildSlice 96 1 #[(0, (.slice x0 y0 z0))]) w K = K (.slice (some ⟨w.heap.size, 0, none⟩) 1 1) (w.alloc (.cells #[(.slice x0 y0 z0)] 112)) := by
  obtain ⟨i, hi, hz, hs, hb⟩ := inf_112
  exact effv_buildSlice (z := 1) Try.underlying96 hi hz hs (by decide) (by decide) (by kernel_rfl)
theorem ps_104 {x0_0 x0_1 : Value} {x : Value} {base n : Nat} {xs : List Value} (h1 : ∀ u ∈ ([x0_0, x0_1] : List Value), u.oneCell' = true) (hown : w.ownsRow base 95 2 x n xs) (hn : n + 1 ≤ 1048577) (hbase : base ≤ w.heap.size) (hk : ∀ x' w', w'.ownsRow base 95 2 x' (n + 1) (xs ++ [x0_0, x0_1]) → w.grownBy w' x.ownBlock → NewB w x x' → K x' w') :
    effv Try.prog (Instr.buildSlice 104 1 #[(0, (.agg #[x0_0, x0_1]))]) w fun y w1 => effv Try.prog (Builtin.append_ #[104, 104] 104 #[x, y]) w1 K := by
  obtain ⟨i, hi, hz, hs, hb⟩ := inf_95
  exact eff_pushN (cs := [x0_0, x0_1]) Try.underlying104 hi hz hs rfl (by decide) (by decide) (by kernel_rfl) rfl h1 hown (by unfold maxLen; omega) (by rw [hb]; omega) hbase hk
@[simp] theorem bs_104_1 {x0_0 x0_1 : Value} : effv Try.prog (Instr.buildSlice 104 1 #[(0, (.agg #[x0_0, x0_1]))]) w K = K (.slice (some ⟨w.heap.size, 0, none⟩) 1 1) (w.alloc (.cells #[x0_0, x0_1] 95)) := by
  obtain ⟨i, hi, hz, hs, hb⟩ := inf_95
  exact effv_buildSlice (z := 2) Try.underlying104 hi hz hs (by decide) (by decide) (by kernel_rfl)
@[simp] theorem bs_124_1 {x0_0 x0_1 x0_2 x0_3 x0_4 x0_5 x0_6 x0_7 : Value} : effv Try.prog (Instr.buildSlice 124 1 #[(0, (.agg #[x0_0, x0_1, x0_2, x0_3, x0_4, x0_5, x0_6, x0_7]))]) w K = K (.slice (some ⟨w.heap.size, 0, none⟩) 1 1) (w.alloc (.cells #[x0_0, x0_1, x0_2, x0_3, x0_4, x0_5, x0_6, x0_7] 138)) := by
  obtain ⟨i, hi, hz, hs, hb⟩ := inf_138
  exact effv_buildSlice (z := 8) Try.underlying124 hi hz hs (by decide) (by decide) (by kernel_rfl)
theorem inf_116 : ∃ i, Try.prog.info? 116 = some i ∧ i.zero = some (.agg #[.string { data := #[] }, .int .i64 0, .bool false, .bool false, .bool false]) ∧ i.size = 5 ∧ i.bytes = 32 := ⟨Try.t116, by kernel_rfl, rfl, rfl, rfl⟩
@[simp] theorem bs_134_13 {x0_0 x0_1 x0_2 x0_3 x0_4 : Value} {x1_0 x1_1 x1_2 x1_3 x1_4 : Value} {x2_0 x2_1 x2_2 x2_3 x2_4 : Value} {x3_0 x3_1 x3_2 x3_3 x3_4 : Value} {x4_0 x4_1 x4_2 x4_3 x4_4 : Value} {x5_0 x5_1 x5_2 x5_3 x5_4 : Value} {x6_0 x6_1 x6_2 x6_3 x6_4 : Value} {x7_0 x7_1 x7_2 x7_3 x7_4 : Value} {x8_0 x8_1 x8_2 x8_3 x8_4 : Value} {x9_0 x9_1 x9_2 x9_3 x9_4 : Value} {x10_0 x10_1 x10_2 x10_3 x10_4 : Value} {x11_0 x11_1 x11_2 x11_3 x11_4 : Value} {x12_0 x12_1 x12_2 x12_3 x12_4 : Value} : effv Try.prog (Instr.buildSlice 134 13 #[(0, (.agg #[x0_0, x0_1, x0_2, x0_3, x0_4])), (1, (.agg #[x1_0, x1_1, x1_2, x1_3, x1_4])), (2, (.agg #[x2_0, x2_1, x2_2, x2_3, x2_4])), (3, (.agg #[x3_0, x3_1, x3_2, x3_3, x3_4])), (4, (.agg #[x4_0, x4_1, x4_2, x4_3, x4_4])), (5, (.agg #[x5_0, x5_1, x5_2, x5_3, x5_4])), (6, (.agg #[x6_0, x6_1, x6_2, x6_3, x6_4])), (7, (.agg #[x7_0, x7_1, x7_2, x7_3, x7_4])), (8, (.agg #[x8_0, x8_1, x8_2, x8_3, x8_4])), (9, (.agg #[x9_0, x9_1, x9_2, x9_3, x9_4])), (10, (.agg #[x10_0, x10_1, x10_2, x10_3, x10_4])), (11, (.agg #[x11_0, x11_1, x11_2, x11_3, x11_4])), (12, (.agg #[x12_0, x12_1, x12_2, x12_3, x12_4]))]) w K = K (.slice (some ⟨w.heap.size, 0, none⟩) 13 13) (w.alloc (.cells #[x0_0, x0_1, x0_2, x0_3, x0_4, x1_0, x1_1, x1_2, x1_3, x1_4, x2_0, x2_1, x2_2, x2_3, x2_4, x3_0, x3_1, x3_2, x3_3, x3_4, x4_0, x4_1, x4_2, x4_3, x4_4, x5_0, x5_1, x5_2, x5_3, x5_4, x6_0, x6_1, x6_2, x6_3, x6_4, x7_0, x7_1, x7_2, x7_3, x7_4, x8_0, x8_1, x8_2, x8_3, x8_4, x9_0, x9_1, x9_2, x9_3, x9_4, x10_0, x10_1, x10_2, x10_3, x10_4, x11_0, x11_1, x11_2, x11_3, x11_4, x12_0, x12_1, x12_2, x12_3, x12_4] 116)) := by
  obtain ⟨i, hi, hz, hs, hb⟩ := inf_116
  exact effv_buildSlice (z := 5) Try.underlying134 hi hz hs (by decide) (by decide) (by kernel_rfl)
@[simp] theorem bs_139_1 {x0_0 x0_1 : Value} : effv Try.prog (Instr.buildSlice 139 1 #[(0, (.agg #[x0_0, x0_1]))]) w K = K (.slice (some ⟨w.heap.size, 0, none⟩) 1 1) (w.alloc (.cells #[x0_0, x0_1] 142)) := by
  obtain ⟨i, hi, hz, hs, hb⟩ := inf_142
  exact effv_buildSlice (z := 2) Try.underlying139 hi hz hs (by decide) (by decide) (by kernel_rfl)
@[simp] theorem len_35 {A : Option Addr} {n c : Nat} : pureRun Try.prog (Builtin.len_ #[35] 3 #[.slice A n c]) = some (.int .i64 n) := pr_len Try.underlying35
@[simp] theorem len_36 {A : Option Addr} {n c : Nat} : pureRun Try.prog (Builtin.len_ #[36] 3 #[.slice A n c]) = some (.int .i64 n) := pr_len Try.underlying36
@[simp] theorem len_48 {A : Option Addr} {n c : Nat} : pureRun Try.prog (Builtin.len_ #[48] 3 #[.slice A n c]) = some (.int .i64 n) := pr_len Try.underlying48
@[simp] theorem len_56 {A : Option Addr} {n c : Nat} : pureRun Try.prog (Builtin.len_ #[56] 3 #[.slice A n c]) = some (.int .i64 n) := pr_len Try.underlying56
@[simp] theorem len_65 {A : Option Addr} {n c : Nat} : pureRun Try.prog (Builtin.len_ #[65] 3 #[.slice A n c]) = some (.int .i64 n) := pr_len Try.underlying65
@[simp] theorem len_68 {A : Option Addr} {n c : Nat} : pureRun Try.prog (Builtin.len_ #[68] 3 #[.slice A n c]) = some (.int .i64 n) := pr_len Try.underlying68
@[simp] theorem len_69 {A : Option Addr} {n c : Nat} : pureRun Try.prog (Builtin.len_ #[69] 3 #[.slice A n c]) = some (.int .i64 n) := pr_len Try.underlying69
@[simp] theorem len_70 {A : Option Addr} {n c : Nat} : pureRun Try.prog (Builtin.len_ #[70] 3 #[.slice A n c]) = some (.int .i64 n) := pr_len Try.underlying70
@[simp] theorem len_96 {A : Option Addr} {n c : Nat} : pureRun Try.prog (Builtin.len_ #[96] 3 #[.slice A n c]) = some (.int .i64 n) := pr_len Try.underlying96
@[simp] theorem len_104 {A : Option Addr} {n c : Nat} : pureRun Try.prog (Builtin.len_ #[104] 3 #[.slice A n c]) = some (.int .i64 n) := pr_len Try.underlying104
@[simp] theorem len_124 {A : Option Addr} {n c : Nat} : pureRun Try.prog (Builtin.len_ #[124] 3 #[.slice A n c]) = some (.int .i64 n) := pr_len Try.underlying124
@[simp] theorem len_134 {A : Option Addr} {n c : Nat} : pureRun Try.prog (Builtin.len_ #[134] 3 #[.slice A n c]) = some (.int .i64 n) := pr_len Try.underlying134
@[simp] theorem len_139 {A : Option Addr} {n c : Nat} : pureRun Try.prog (Builtin.len_ #[139] 3 #[.slice A n c]) = some (.int .i64 n) := pr_len Try.underlying139
@[simp] theorem cv_3_144 {a : Int} : pureRun Try.prog (convert 3 144 (.int .i64 a)) = some (.int .u64 ((IntKind.u64).wrap a)) := pr_conv Try.underlying3 Try.underlying144
@[simp] theorem cv_144_3 {a : Int} : pureRun Try.prog (convert 144 3 (.int .u64 a)) = some (.int .i64 ((IntKind.i64).wrap a)) := pr_conv Try.underlying144 Try.underlying3
theorem ia_68 {b p n c : Nat} {j : IntKind} {i : Int} (h0 : 0 ≤ i) (h1 : i < n) : pureRun Try.prog (Instr.indexAt 68 (.slice (some ⟨b, p, none⟩) n c) (.int j i)) = some (.pointer (some ⟨b, p + i.toNat * 2, none⟩)) := by rw [← addr_add]; exact pr_index (z := 2) Try.underlying68 (by kernel_rfl) h0 h1
theorem ia_69 {b p n c : Nat} {j : IntKind} {i : Int} (h0 : 0 ≤ i) (h1 : i < n) : pureRun Try.prog (Instr.indexAt 69 (.slice (some ⟨b, p, none⟩) n c) (.int j i)) = some (.pointer (some ⟨b, p + i.toNat * 7, none⟩)) := by rw [← addr_add]; exact pr_index (z := 7) Try.underlying69 (by kernel_rfl) h0 h1
theorem ia_70 {b p n c : Nat} {j : IntKind} {i : Int} (h0 : 0 ≤ i) (h1 : i < n) : pureRun Try.prog (Instr.indexAt 70 (.slice (some ⟨b, p, none⟩) n c) (.int j i)) = some (.pointer (some ⟨b, p + i.toNat * 2, none⟩)) := by rw [← addr_add]; exact pr_index (z := 2) Try.underlying70 (by kernel_rfl) h0 h1
theorem ia_96 {b p n c : Nat} {j : IntKind} {i : Int} (h0 : 0 ≤ i) (h1 : i < n) : pureRun Try.prog (Instr.indexAt 96 (.slice (some ⟨b, p, none⟩) n c) (.int j i)) = some (.pointer (some ⟨b, p + i.toNat * 1, none⟩)) := by rw [← addr_add]; exact pr_index (z := 1) Try.underlying96 (by kernel_rfl) h0 h1
theorem ia_112 {b p n c : Nat} {j : IntKind} {i : Int} (h0 : 0 ≤ i) (h1 : i < n) : pureRun Try.prog (Instr.indexAt 112 (.slice (some ⟨b, p, none⟩) n c) (.int j i)) = some (.pointer (some ⟨b, p + i.toNat * 1, none⟩)) := by rw [← addr_add]; exact pr_index (z := 1) Try.underlying112 (by kernel_rfl) h0 h1
theorem ia_134 {b p n c : Nat} {j : IntKind} {i : Int} (h0 : 0 ≤ i) (h1 : i < n) : pureRun Try.prog (Instr.indexAt 134 (.slice (some ⟨b, p, none⟩) n c) (.int j i)) = some (.pointer (some ⟨b, p + i.toNat * 5, none⟩)) := by rw [← addr_add]; exact pr_index (z := 5) Try.underlying134 (by kernel_rfl) h0 h1
theorem ei_27 {d : Nat} {x0 y0 : Int} {x1 y1 : Int} {x2 y2 : Int} {x3 y3 : Int} {x4 y4 : Int} : (Op.equalIn (d + 2) 27 (.agg #[(.int .i64 x0), (.int .i64 x1), (.int .i64 x2), (.int .i64 x3), (.int .i64 x4)]) (.agg #[(.int .i64 y0), (.int .i64 y1), (.int .i64 y2), (.int .i64 y3), (.int .i64 y4)])).run Try.prog w = .ok ((x0 == y0) && ((x1 == y1) && ((x2 == y2) && ((x3 == y3) && ((x4 == y4) && (true)))))) w :=
  eqIn_struct (d := d + 1) (fs := [(true, 3, 0), (true, 3, 1), (true, 3, 2), (true, 3, 3), (true, 3, 4)]) (by kernel_rfl) (by kernel_rfl) (by kernel_rfl) (eqF_cons (part_sc (by kernel_rfl) rfl) (part_sc (by kernel_rfl) rfl) (eqIn_int Try.underlying3) (eqF_cons (part_sc (by kernel_rfl) rfl) (part_sc (by kernel_rfl) rfl) (eqIn_int Try.underlying3) (eqF_cons (part_sc (by kernel_rfl) rfl) (part_sc (by kernel_rfl) rfl) (eqIn_int Try.underlying3) (eqF_cons (part_sc (by kernel_rfl) rfl) (part_sc (by kernel_rfl) rfl) (eqIn_int Try.underlying3) (eqF_cons (part_sc (by kernel_rfl) rfl) (part_sc (by kernel_rfl) rfl) (eqIn_int Try.underlying3) eqF_nil)))))
@[simp] theorem be_eql_27 {x y : Operand} {x0 y0 : Int} {x1 y1 : Int} {x2 y2 : Int} {x3 y3 : Int} {x4 y4 : Int} : be Try.prog .eql 27 x y (.agg #[(.int .i64 x0), (.int .i64 x1), (.int .i64 x2), (.int .i64 x3), (.int .i64 x4)]) (.agg #[(.int .i64 y0), (.int .i64 y1), (.int .i64 y2), (.int .i64 y3), (.int .i64 y4)]) = some (.bool (((x0 == y0) && ((x1 == y1) && ((x2 == y2) && ((x3 == y3) && ((x4 == y4) && (true)))))))) := be_eqls (by kernel_rfl) fun w => ei_27 (d := 9998)
@[simp] theorem be_neq_27 {x y : Operand} {x0 y0 : Int} {x1 y1 : Int} {x2 y2 : Int} {x3 y3 : Int} {x4 y4 : Int} : be Try.prog .neq 27 x y (.agg #[(.int .i64 x0), (.int .i64 x1), (.int .i64 x2), (.int .i64 x3), (.int .i64 x4)]) (.agg #[(.int .i64 y0), (.int .i64 y1), (.int .i64 y2), (.int .i64 y3), (.int .i64 y4)]) = some (.bool (!((x0 == y0) && ((x1 == y1) && ((x2 == y2) && ((x3 == y3) && ((x4 == y4) && (true)))))))) := be_neqs (by kernel_rfl) fun w => ei_27 (d := 9998)
theorem ei_32 {d : Nat} {x0 y0 : Int} {x1 y1 : Int} {x2 y2 : Int} {x3 y3 : Int} {x4 y4 : Int} {x5 y5 : Int} {x6 y6 : Int} {x7 y7 : Int} : (Op.equalIn (d + 3) 32 (.agg #[(.int .i64 x0), (.int .i64 x1), (.int .i64 x2), (.int .i64 x3), (.int .i64 x4), (.int .i64 x5), (.int .i64 x6), (.int .u64 x7)]) (.agg #[(.int .i64 y0), (.int .i64 y1), (.int .i64 y2), (.int .i64 y3), (.int .i64 y4), (.int .i64 y5), (.int .i64 y6), (.int .u64 y7)])).run Try.prog w = .ok ((x0 == y0) && (((x1 == y1) && ((x2 == y2) && ((x3 == y3) && ((x4 == y4) && ((x5 == y5) && (true)))))) && ((x6 == y6) && ((x7 == y7) && (true))))) w :=
  eqIn_struct (d := d + 2) (fs := [(true, 30, 0), (true, 27, 1), (true, 3, 6), (true, 22, 7)]) (by kernel_rfl) (by kernel_rfl) (by kernel_rfl) (eqF_cons (part_sc (by kernel_rfl) rfl) (part_sc (by kernel_rfl) rfl) (eqIn_int Try.underlying30) (eqF_cons (part_ag (n := 5) (by kernel_rfl) (by kernel_rfl)) (part_ag (n := 5) (by kernel_rfl) (by kernel_rfl)) (ei_27 (d := d + 0)) (eqF_cons (part_sc (by kernel_rfl) rfl) (part_sc (by kernel_rfl) rfl) (eqIn_int Try.underlying3) (eqF_cons (part_sc (by kernel_rfl) rfl) (part_sc (by kernel_rfl) rfl) (eqIn_int Try.underlying22) eqF_nil))))
@[simp] theorem be_eql_32 {x y : Operand} {x0 y0 : Int} {x1 y1 : Int} {x2 y2 : Int} {x3 y3 : Int} {x4 y4 : Int} {x5 y5 : Int} {x6 y6 : Int} {x7 y7 : Int} : be Try.prog .eql 32 x y (.agg #[(.int .i64 x0), (.int .i64 x1), (.int .i64 x2), (.int .i64 x3), (.int .i64 x4), (.int .i64 x5), (.int .i64 x6), (.int .u64 x7)]) (.agg #[(.int .i64 y0), (.int .i64 y1), (.int .i64 y2), (.int .i64 y3), (.int .i64 y4), (.int .i64 y5), (.int .i64 y6), (.int .u64 y7)]) = some (.bool (((x0 == y0) && (((x1 == y1) && ((x2 == y2) && ((x3 == y3) && ((x4 == y4) && ((x5 == y5) && (true)))))) && ((x6 == y6) && ((x7 == y7) && (true))))))) := be_eqls (by kernel_rfl) fun w => ei_32 (d := 9997)
@[simp] theorem be_neq_32 {x y : Operand} {x0 y0 : Int} {x1 y1 : Int} {x2 y2 : Int} {x3 y3 : Int} {x4 y4 : Int} {x5 y5 : Int} {x6 y6 : Int} {x7 y7 : Int} : be Try.prog .neq 32 x y (.agg #[(.int .i64 x0), (.int .i64 x1), (.int .i64 x2), (.int .i64 x3), (.int .i64 x4), (.int .i64 x5), (.int .i64 x6), (.int .u64 x7)]) (.agg #[(.int .i64 y0), (.int .i64 y1), (.int .i64 y2), (.int .i64 y3), (.int .i64 y4), (.int .i64 y5), (.int .i64 y6), (.int .u64 y7)]) = some (.bool (!((x0 == y0) && (((x1 == y1) && ((x2 == y2) && ((x3 == y3) && ((x4 == y4) && ((x5 == y5) && (true)))))) && ((x6 == y6) && ((x7 == y7) && (true))))))) := be_neqs (by kernel_rfl) fun w => ei_32 (d := 9997)
theorem ei_80 {d : Nat} {x0 y0 : Int} {x1 y1 : Int} : (Op.equalIn (d + 2) 80 (.agg #[(.int .i64 x0), (.int .i64 x1)]) (.agg #[(.int .i64 y0), (.int .i64 y1)])).run Try.prog w = .ok ((x0 == y0) && ((x1 == y1) && (true))) w :=
  eqIn_struct (d := d + 1) (fs := [(true, 3, 0), (true, 3, 1)]) (by kernel_rfl) (by kernel_rfl) (by kernel_rfl) (eqF_cons (part_sc (by kernel_rfl) rfl) (part_sc (by kernel_rfl) rfl) (eqIn_int Try.underlying3) (eqF_cons (part_sc (by kernel_rfl) rfl) (part_sc (by kernel_rfl) rfl) (eqIn_int Try.underlying3) eqF_nil))
@[simp] theorem be_eql_80 {x y : Operand} {x0 y0 : Int} {x1 y1 : Int} : be Try.prog .eql 80 x y (.agg #[(.int .i64 x0), (.int .i64 x1)]) (.agg #[(.int .i64 y0), (.int .i64 y1)]) = some (.bool (((x0 == y0) && ((x1 == y1) && (true))))) := be_eqls (by kernel_rfl) fun w => ei_80 (d := 9998)
@[simp] theorem be_neq_80 {x y : Operand} {x0 y0 : Int} {x1 y1 : Int} : be Try.prog .neq 80 x y (.agg #[(.int .i64 x0), (.int .i64 x1)]) (.agg #[(.int .i64 y0), (.int .i64 y1)]) = some (.bool (!((x0 == y0) && ((x1 == y1) && (true))))) := be_neqs (by kernel_rfl) fun w => ei_80 (d := 9998)
theorem ei_95 {d : Nat} {x0 y0 : Int} {x1 y1 : Int} : (Op.equalIn (d + 2) 95 (.agg #[(.int .i64 x0), (.int .i64 x1)]) (.agg #[(.int .i64 y0), (.int .i64 y1)])).run Try.prog w = .ok ((x0 == y0) && ((x1 == y1) && (true))) w :=
  eqIn_struct (d := d + 1) (fs := [(true, 3, 0), (true, 3, 1)]) (by kernel_rfl) (by kernel_rfl) (by kernel_rfl) (eqF_cons (part_sc (by kernel_rfl) rfl) (part_sc (by kernel_rfl) rfl) (eqIn_int Try.underlying3) (eqF_cons (part_sc (by kernel_rfl) rfl) (part_sc (by kernel_rfl) rfl) (eqIn_int Try.underlying3) eqF_nil))
@[simp] theorem be_eql_95 {x y : Operand} {x0 y0 : Int} {x1 y1 : Int} : be Try.prog .eql 95 x y (.agg #[(.int .i64 x0), (.int .i64 x1)]) (.agg #[(.int .i64 y0), (.int .i64 y1)]) = some (.bool (((x0 == y0) && ((x1 == y1) && (true))))) := be_eqls (by kernel_rfl) fun w => ei_95 (d := 9998)
@[simp] theorem be_neq_95 {x y : Operand} {x0 y0 : Int} {x1 y1 : Int} : be Try.prog .neq 95 x y (.agg #[(.int .i64 x0), (.int .i64 x1)]) (.agg #[(.int .i64 y0), (.int .i64 y1)]) = some (.bool (!((x0 == y0) && ((x1 == y1) && (true))))) := be_neqs (by kernel_rfl) fun w => ei_95 (d := 9998)
theorem ei_142 {d : Nat} {x0 y0 : Int} {x1 y1 : Int} : (Op.equalIn (d + 2) 142 (.agg #[(.int .i64 x0), (.int .i64 x1)]) (.agg #[(.int .i64 y0), (.int .i64 y1)])).run Try.prog w = .ok ((x0 == y0) && ((x1 == y1) && (true))) w :=
  eqIn_struct (d := d + 1) (fs := [(true, 3, 0), (true, 3, 1)]) (by kernel_rfl) (by kernel_rfl) (by kernel_rfl) (eqF_cons (part_sc (by kernel_rfl) rfl) (part_sc (by kernel_rfl) rfl) (eqIn_int Try.underlying3) (eqF_cons (part_sc (by kernel_rfl) rfl) (part_sc (by kernel_rfl) rfl) (eqIn_int Try.underlying3) eqF_nil))
@[simp] theorem be_eql_142 {x y : Operand} {x0 y0 : Int} {x1 y1 : Int} : be Try.prog .eql 142 x y (.agg #[(.int .i64 x0), (.int .i64 x1)]) (.agg #[(.int .i64 y0), (.int .i64 y1)]) = some (.bool (((x0 == y0) && ((x1 == y1) && (true))))) := be_eqls (by kernel_rfl) fun w => ei_142 (d := 9998)
@[simp] theorem be_neq_142 {x y : Operand} {x0 y0 : Int} {x1 y1 : Int} : be Try.prog .neq 142 x y (.agg #[(.int .i64 x0), (.int .i64 x1)]) (.agg #[(.int .i64 y0), (.int .i64 y1)]) = some (.bool (!((x0 == y0) && ((x1 == y1) && (true))))) := be_neqs (by kernel_rfl) fun w => ei_142 (d := 9998)
end Go.Proofs.Yteapggpkgfiacaa

namespace Go.Proofs.Yteapggpkgfiacaa
open Go Ev
set_option linter.unusedVariables false
set_option maxRecDepth 100000
theorem mixed : Try.prog.follows .mixedOrders = true := Checked.mixed Try.checked
theorem entOk : EntOk Try.prog (entR 3 116) := entOk_of (by kernel_rfl)
noncomputable def C3 : Code := (Try.f3.body).getD .skip
noncomputable def H3 : Hints := ⟨[(10, [0, 1, 2, 3, 9, 10, 13, 14, 15])], [(19, [0, 1, 2, 3, 9, 10, 13, 16]), (30, [0, 3, 9, 10, 13]), (33, [9, 21, 22, 23, 24])], [(31, (.ext [1, 2, 0, 3, 4, 5, 6, 7, 8, 9])), (32, (.ask 0 3 (.leaf [0, 1, 2, 3, 4, 5, 6, 7, 8, 9]) (.leaf [1, 2, 3, 0, 4, 5, 6, 7, 8, 9])))]⟩
noncomputable def T3_0 : List It := [.lp (nav [1, 1, 1, 1, 1, 1, 1, 1, 0, 1, 4, 5] C3), .blk 0, .jn (nav [1, 1, 1, 1, 1, 1, 1, 1, 1] C3)]
noncomputable def T3_1 : List It := [.jn (nav [1, 1, 1, 1, 1, 1, 1, 1, 1, 1, 1, 1, 1] C3)]
noncomputable def T3_2 : List It := [.jn (nav [1, 1, 1, 1, 1, 1, 1, 1, 1, 1, 1, 1, 1, 1, 1, 1, 1, 1, 1] C3)]
noncomputable def T3_3 : List It := [.jn (nav [1, 1, 1, 1, 1, 1, 1, 1, 1, 1, 1, 1, 1, 1, 1, 1, 1, 1, 1, 1, 1, 1] C3)]
/-- rundale/rundalelaw26.SearchTurns, from a loop's head on -/
def P3_0 (x0 x1 x2 x3 x9 x10 x13 x14 x15 : Value) (w : World) (Q : Value → World → Prop) : Prop := Part Try.prog 3 T3_0 [0, 1, 2, 3, 9, 10, 13, 14, 15] [x0, x1, x2, x3, x9, x10, x13, x14, x15] w Q
/-- rundale/rundalelaw26.SearchTurns, from a join on -/
def P3_1 (x0 x1 x2 x3 x9 x10 x13 x16 : Value) (w : World) (Q : Value → World → Prop) : Prop := Part Try.prog 3 T3_1 [0, 1, 2, 3, 9, 10, 13, 16] [x0, x1, x2, x3, x9, x10, x13, x16] w Q
/-- rundale/rundalelaw26.SearchTurns, from a join on -/
def P3_2 (x0 x3 x9 x10 x13 : Value) (w : World) (Q : Value → World → Prop) : Prop := Part Try.prog 3 T3_2 [0, 3, 9, 10, 13] [x0, x3, x9, x10, x13] w Q
/-- rundale/rundalelaw26.SearchTurns, from a join on -/
def P3_3 (x9 x21 x22 x23 x24 : Value) (w : World) (Q : Value → World → Prop) : Prop := Part Try.prog 3 T3_3 [9, 21, 22, 23, 24] [x9, x21, x22, x23, x24] w Q
def F3 (a0 a1 a2 a3 : Value) (w : World) (Q : Value → World → Prop) : Prop :=
  CallR Try.prog 5 [] w fun t25 w =>
  wpB (pureRun Try.prog (Op.unary .not t25)) fun t27 =>
  cnd t27
  (Q (.bool false) w)
  (wpB (pureRun Try.prog (Instr.build 25 #[(0, (.int .i64 3)), (1, (.int .i64 1)), (2, (.int .i64 8)), (3, (.int .i64 1)), (5, (.int .i64 1))])) fun t28 =>
  effv Try.prog (Instr.alloc 25 true (.tuple #[])) w fun t10 w =>
  effu Try.prog (Instr.storeAt 25 t10 t28) w fun w =>
  wpB (pureRun Try.prog (Instr.build 27 #[(1, (.int .i64 1))])) fun t29 =>
  effv Try.prog (Instr.alloc 27 true (.tuple #[])) w fun t11 w =>
  effu Try.prog (Instr.storeAt 27 t11 t29) w fun w =>
  wpB (pureRun Try.prog (Instr.build 27 #[(1, (.int .i64 1)), (4, (.int .i64 2))])) fun t30 =>
  effv Try.prog (Instr.alloc 27 true (.tuple #[])) w fun t12 w =>
  effu Try.prog (Instr.storeAt 27 t12 t30) w fun w =>
  wpB (pureRun Try.prog (Instr.build 29 #[(0, (.int .i64 1))])) fun t31 =>
  wpB (ldv Try.prog 27 t11 w) fun t32 =>
  wpB (pureRun Try.prog (Instr.build 32 #[(1, t32)])) fun t33 =>
  wpB (pureRun Try.prog (Instr.build 34 #[(2, t31), (3, (.int .i64 0)), (4, (.int .i64 1)), (5, (.int .i64 (-1))), (6, (.int .i64 2)), (7, t33)])) fun t34 =>
  wpB (pureRun Try.prog (Instr.build 29 #[(0, (.int .i64 2)), (3, (.int .i64 2))])) fun t35 =>
  wpB (ldv Try.prog 27 t12 w) fun t36 =>
  wpB (pureRun Try.prog (Instr.build 32 #[(1, t36)])) fun t37 =>
  wpB (pureRun Try.prog (Instr.build 34 #[(1, (.int .i64 1)), (2, t35), (3, (.int .i64 3)), (4, (.int .i64 4)), (5, (.int .i64 (-1))), (6, (.int .i64 5)), (7, t37)])) fun t38 =>
  effv Try.prog (Instr.buildSlice 35 2 #[(0, t34), (1, t38)]) w fun t39 w =>
  P3_0 a0 a1 a2 a3 t25 t10 t39 (.int .i64 6) (.int .i64 0) w Q)
def L3_0 (x0 x1 x2 x3 x9 x10 x13 x14 x15 : Value) (w : World) (Q : Value → World → Prop) : Prop :=
  wpB (bp Try.prog .lss 3 x15 (.int .i64 3)) fun t41 =>
  cnd t41
  (wpB (pureRun Try.prog (Instr.build 29 #[(0, (.int .i64 3))])) fun t46 =>
  wpB (pureRun Try.prog (Instr.build 34 #[(0, x15), (1, (.int .i64 2)), (2, t46), (3, x14), (4, x14), (5, (.int .i64 (-1))), (6, x14)])) fun t50 =>
  wpB (pureRun Try.prog (Instr.build 29 #[(0, (.int .i64 5))])) fun t52 =>
  wpB (bp Try.prog .add 3 x14 (.int .i64 1)) fun t54 =>
  wpB (bp Try.prog .add 3 x14 (.int .i64 1)) fun t56 =>
  wpB (bp Try.prog .add 3 x14 (.int .i64 1)) fun t58 =>
  wpB (pureRun Try.prog (Instr.build 34 #[(0, x15), (1, (.int .i64 3)), (2, t52), (3, t54), (4, t56), (5, (.int .i64 (-1))), (6, t58)])) fun t59 =>
  effv Try.prog (Instr.buildSlice 35 2 #[(0, t50), (1, t59)]) w fun t60 w =>
  effv Try.prog (Builtin.append_ #[35, 35] 35 #[x13, t60]) w fun t61 w =>
  wpB (bp Try.prog .add 3 x14 (.int .i64 2)) fun t63 =>
  wpB (bp Try.prog .add 3 x15 (.int .i64 1)) fun t43 =>
  P3_0 x0 x1 x2 x3 x9 x10 t61 t63 t43 w Q)
  (wpB (pureRun Try.prog (Instr.build 29 #[(0, (.int .i64 7)), (2, (.int .i64 1)), (4, x0)])) fun t66 =>
  wpB (pureRun Try.prog (Instr.build 34 #[(0, (.int .i64 0)), (1, (.int .i64 4)), (2, t66), (3, (.int .i64 20)), (4, (.int .i64 22)), (5, (.int .i64 (-1))), (6, (.int .i64 24))])) fun t67 =>
  wpB (pureRun Try.prog (Instr.build 29 #[(0, (.int .i64 7)), (2, (.int .i64 1)), (4, x1)])) fun t69 =>
  wpB (pureRun Try.prog (Instr.build 34 #[(0, (.int .i64 1)), (1, (.int .i64 4)), (2, t69), (3, (.int .i64 21)), (4, (.int .i64 23)), (5, (.int .i64 (-1))), (6, (.int .i64 25))])) fun t70 =>
  effv Try.prog (Instr.buildSlice 35 2 #[(0, t67), (1, t70)]) w fun t71 w =>
  effv Try.prog (Builtin.append_ #[35, 35] 35 #[x13, t71]) w fun t72 w =>
  wpB (pureRun Try.prog (Instr.build 29 #[(0, (.int .i64 6)), (2, (.int .i64 1))])) fun t73 =>
  wpB (pureRun Try.prog (Instr.build 34 #[(0, (.int .i64 2)), (1, (.int .i64 4)), (2, t73), (3, (.int .i64 26)), (4, (.int .i64 26)), (5, (.int .i64 (-1))), (6, (.int .i64 26))])) fun t74 =>
  effv Try.prog (Instr.alloc 34 true (.tuple #[])) w fun t16 w =>
  effu Try.prog (Instr.storeAt 34 t16 t74) w fun w =>
  wpB (pureRun Try.prog (Instr.fieldAt 34 t16 7)) fun t76 =>
  wpB (pureRun Try.prog (Instr.fieldAt 32 t76 3)) fun t77 =>
  effu Try.prog (Instr.storeAt 22 t77 x0) w fun w =>
  cnd x2
  (wpB (pureRun Try.prog (Instr.fieldAt 34 t16 7)) fun t80 =>
  wpB (pureRun Try.prog (Instr.fieldAt 32 t80 3)) fun t81 =>
  effu Try.prog (Instr.storeAt 22 t81 x1) w fun w =>
  P3_1 x0 x1 x2 x3 x9 x10 t72 t16 w Q)
  (P3_1 x0 x1 x2 x3 x9 x10 t72 t16 w Q))
def L3_1 (x0 x1 x2 x3 x9 x10 x13 x16 : Value) (w : World) (Q : Value → World → Prop) : Prop :=
  wpB (ldv Try.prog 34 x16 w) fun t83 =>
  effv Try.prog (Instr.buildSlice 35 1 #[(0, t83)]) w fun t84 w =>
  effv Try.prog (Builtin.append_ #[35, 35] 35 #[x13, t84]) w fun t85 w =>
  wpB (ldv Try.prog 25 x10 w) fun t87 =>
  CallR Try.prog 6 [t87, t85, (.int .i64 1000)] w fun t89 w =>
  wpB (pureRun Try.prog (Instr.extract t89 0)) fun t90 =>
  wpB (pureRun Try.prog (Instr.extract t89 1)) fun t91 =>
  wpB (be Try.prog .neq 30 (.tmp 92) (.const (.int .i64 0)) t91 (.int .i64 0)) fun t93 =>
  wpB (gd t93 false (pureRun Try.prog (Builtin.len_ #[36] 3 #[(gv t93 false t90)]))) fun t96 =>
  wpB (gd t93 false (be Try.prog .neq 3 (.tmp 96) (.const (.int .i64 11)) t96 (.int .i64 11))) fun t97 =>
  wpB (pickv t93 (some (.bool true)) (some t97)) fun t98 =>
  wpB (gd t98 false (pureRun Try.prog (Instr.indexAt 36 (gv t98 false t90) (.int .i64 10)))) fun t101 =>
  wpB (gd t98 false (ldv Try.prog 3 t101 w)) fun t102 =>
  wpB (gd t98 false (be Try.prog .neq 3 (.tmp 102) (.const (.int .i64 10)) t102 (.int .i64 10))) fun t103 =>
  wpB (pickv t98 (some (.bool true)) (some t103)) fun t104 =>
  cnd t104
  (Q (.bool false) w)
  (wpB (be Try.prog .neq 22 (.tmp 105) (.tmp 106) x0 x1) fun t107 =>
  wpB (gd t107 true (pureRun Try.prog (Instr.indexAt 36 (gv t107 true t90) (.int .i64 9)))) fun t110 =>
  wpB (gd t107 true (ldv Try.prog 3 t110 w)) fun t111 =>
  wpB (gd t107 true (be Try.prog .eql 3 (.tmp 111) (.const (.int .i64 9)) t111 (.int .i64 9))) fun t112 =>
  wpB (gd t107 true (be Try.prog .neq 4 (.tmp 112) (.tmp 113) t112 (gv t107 true x2))) fun t114 =>
  wpB (pickv t107 (some t114) (some (.bool false))) fun t115 =>
  cnd t115
  (Q (.bool false) w)
  (wpB (bp Try.prog .xor 22 x0 x1) fun t119 =>
  wpB (bp Try.prog .xor 22 t119 (.int .u64 1)) fun t120 =>
  wpB (pureRun Try.prog (Instr.indexAt 35 t85 (.int .i64 10))) fun t121 =>
  wpB (pureRun Try.prog (Instr.fieldAt 34 t121 7)) fun t122 =>
  wpB (pureRun Try.prog (Instr.fieldAt 32 t122 3)) fun t123 =>
  effu Try.prog (Instr.storeAt 22 t123 t120) w fun w =>
  wpB (bp Try.prog .xor 22 x0 x1) fun t126 =>
  wpB (bp Try.prog .xor 22 t126 (.int .u64 1)) fun t127 =>
  wpB (be Try.prog .neq 22 (.tmp 127) (.tmp 128) t127 x0) fun t129 =>
  wpB (gd t129 true (bp Try.prog .xor 22 (gv t129 true x0) (gv t129 true x1))) fun t133 =>
  wpB (gd t129 true (bp Try.prog .xor 22 t133 (.int .u64 1))) fun t134 =>
  wpB (gd t129 true (be Try.prog .neq 22 (.tmp 134) (.tmp 135) t134 (gv t129 true x1))) fun t136 =>
  wpB (pickv t129 (some t136) (some (.bool false))) fun t137 =>
  cnd t137
  (wpB (ldv Try.prog 25 x10 w) fun t139 =>
  CallR Try.prog 6 [t139, t85, (.int .i64 1000)] w fun t141 w =>
  wpB (pureRun Try.prog (Instr.extract t141 0)) fun t142 =>
  wpB (pureRun Try.prog (Instr.extract t141 1)) fun t143 =>
  wpB (pureRun Try.prog (Builtin.len_ #[36] 3 #[t142])) fun t145 =>
  wpB (be Try.prog .neq 3 (.tmp 145) (.const (.int .i64 0)) t145 (.int .i64 0)) fun t146 =>
  wpB (gd t146 false (be Try.prog .neq 30 (.tmp 148) (.const (.int .i64 10)) (gv t146 false t143) (.int .i64 10))) fun t149 =>
  wpB (pickv t146 (some (.bool true)) (some t149)) fun t150 =>
  cnd t150
  (Q (.bool false) w)
  (P3_2 x0 x3 x9 x10 t85 w Q))
  (P3_2 x0 x3 x9 x10 t85 w Q)))
def L3_2 (x0 x3 x9 x10 x13 : Value) (w : World) (Q : Value → World → Prop) : Prop :=
  wpB (pureRun Try.prog (Instr.indexAt 35 x13 (.int .i64 10))) fun t153 =>
  wpB (pureRun Try.prog (Instr.fieldAt 34 t153 7)) fun t154 =>
  wpB (pureRun Try.prog (Instr.fieldAt 32 t154 3)) fun t155 =>
  effu Try.prog (Instr.storeAt 22 t155 x0) w fun w =>
  wpB (ldv Try.prog 25 x10 w.drew) fun t157 =>
  CallX Try.prog 7 [x3, (.int .i64 10)] w.drew fun t160 w =>
  CallX Try.prog 6 [t157, x13, t160] w fun t161 w =>
  wpB (pureRun Try.prog (Instr.extract t161 0)) fun t162 =>
  wpB (pureRun Try.prog (Instr.extract t161 1)) fun t163 =>
  (wpB (ldv Try.prog 25 x10 w.drew) fun t165 =>
  effv Try.prog (Builtin.append_ #[35, 35] 35 #[x13, x13]) w.drew fun t168 w =>
  CallR Try.prog 6 [t165, t168, (.int .i64 1000)] w fun t169 w =>
  wpB (pureRun Try.prog (Instr.extract t169 0)) fun t170 =>
  wpB (pureRun Try.prog (Instr.extract t169 1)) fun t171 =>
  P3_3 x9 t162 t163 t170 t171 w Q) ∧
  (effv Try.prog (Builtin.append_ #[35, 35] 35 #[x13, x13]) w.drew fun t168_1 w =>
  wpB (ldv Try.prog 25 x10 w) fun t165_1 =>
  CallR Try.prog 6 [t165_1, t168_1, (.int .i64 1000)] w fun t169_1 w =>
  wpB (pureRun Try.prog (Instr.extract t169_1 0)) fun t170_1 =>
  wpB (pureRun Try.prog (Instr.extract t169_1 1)) fun t171_1 =>
  P3_3 x9 t162 t163 t170_1 t171_1 w Q)
def L3_3 (x9 x21 x22 x23 x24 : Value) (w : World) (Q : Value → World → Prop) : Prop :=
  wpB (gd x9 true (pureRun Try.prog (Builtin.len_ #[36] 3 #[(gv x9 true x21)]))) fun t175 =>
  wpB (gd x9 true (be Try.prog .eql 3 (.tmp 175) (.const (.int .i64 0)) t175 (.int .i64 0))) fun t176 =>
  wpB (pickv x9 (some t176) (some (.bool false))) fun t177 =>
  wpB (gd t177 true (be Try.prog .eql 30 (.tmp 179) (.const (.int .i64 11)) (gv t177 true x22) (.int .i64 11))) fun t180 =>
  wpB (pickv t177 (some t180) (some (.bool false))) fun t181 =>
  wpB (gd t181 true (pureRun Try.prog (Builtin.len_ #[36] 3 #[(gv t181 true x23)]))) fun t184 =>
  wpB (gd t181 true (be Try.prog .eql 3 (.tmp 184) (.const (.int .i64 0)) t184 (.int .i64 0))) fun t185 =>
  wpB (pickv t181 (some t185) (some (.bool false))) fun t186 =>
  wpB (gd t186 true (be Try.prog .eql 30 (.tmp 188) (.const (.int .i64 1)) (gv t186 true x24) (.int .i64 1))) fun t189 =>
  wpB (pickv t186 (some t189) (some (.bool false))) fun t190 =>
  Q t190 w
theorem F3_ok {a0 a1 a2 a3 : Value} {w : World} {Q : Value → World → Prop} (h : F3 a0 a1 a2 a3 w Q) : CallR Try.prog 3 [a0, a1, a2, a3] w Q :=
  call_ofE mixed entOk Try.func3 (c := C3) rfl H3 (Nat.le_of_ble_eq_true rfl) (by kernel_rfl) h
theorem L3_0_ok {x0 x1 x2 x3 x9 x10 x13 x14 x15 : Value} {w : World} {Q : Value → World → Prop} (h : L3_0 x0 x1 x2 x3 x9 x10 x13 x14 x15 w Q) : P3_0 x0 x1 x2 x3 x9 x10 x13 x14 x15 w Q :=
  part_lpE mixed entOk Try.func3 H3 (by kernel_rfl) h
theorem L3_1_ok {x0 x1 x2 x3 x9 x10 x13 x16 : Value} {w : World} {Q : Value → World → Prop} (h : L3_1 x0 x1 x2 x3 x9 x10 x13 x16 w Q) : P3_1 x0 x1 x2 x3 x9 x10 x13 x16 w Q :=
  part_jnE mixed entOk Try.func3 H3 (by kernel_rfl) h
theorem L3_2_ok {x0 x3 x9 x10 x13 : Value} {w : World} {Q : Value → World → Prop} (h : L3_2 x0 x3 x9 x10 x13 w Q) : P3_2 x0 x3 x9 x10 x13 w Q :=
  part_jnE mixed entOk Try.func3 H3 (by kernel_rfl) h
theorem L3_3_ok {x9 x21 x22 x23 x24 : Value} {w : World} {Q : Value → World → Prop} (h : L3_3 x9 x21 x22 x23 x24 w Q) : P3_3 x9 x21 x22 x23 x24 w Q :=
  part_jnE mixed entOk Try.func3 H3 (by kernel_rfl) h

noncomputable def C4 : Code := (Try.f4.body).getD .skip
noncomputable def C5 : Code := (Try.f5.body).getD .skip
noncomputable def H5 : Hints := ⟨[], [], []⟩
def F5 (w : World) (Q : Value → World → Prop) : Prop :=
  wpB (pureRun Try.prog (Instr.build 25 #[(0, (.int .i64 1)), (1, (.int .i64 1)), (2, (.int .i64 8)), (3, (.int .i64 1)), (5, (.int .i64 1))])) fun t6 =>
  effv Try.prog (Instr.alloc 25 true (.tuple #[])) w fun t1 w =>
  effu Try.prog (Instr.storeAt 25 t1 t6) w fun w =>
  wpB (ldv Try.prog 25 t1 w) fun t8 =>
  CallR Try.prog 6 [t8, (.slice none 0 0), (.int .i64 5)] w fun t9 w =>
  wpB (pureRun Try.prog (Instr.extract t9 0)) fun t10 =>
  wpB (pureRun Try.prog (Instr.extract t9 1)) fun t11 =>
  wpB (ldv Try.prog 25 t1 w) fun t13 =>
  wpB (pureRun Try.prog (Instr.build 29 #[(0, (.int .i64 3))])) fun t14 =>
  wpB (pureRun Try.prog (Instr.build 34 #[(2, t14), (4, (.int .i64 1)), (5, (.int .i64 (-1))), (6, (.int .i64 1))])) fun t15 =>
  effv Try.prog (Instr.buildSlice 35 1 #[(0, t15)]) w fun t16 w =>
  CallR Try.prog 6 [t13, t16, (.int .i64 5)] w fun t17 w =>
  wpB (pureRun Try.prog (Instr.extract t17 0)) fun t18 =>
  wpB (pureRun Try.prog (Instr.extract t17 1)) fun t19 =>
  wpB (pureRun Try.prog (Builtin.len_ #[36] 3 #[t10])) fun t21 =>
  wpB (be Try.prog .eql 3 (.tmp 21) (.const (.int .i64 0)) t21 (.int .i64 0)) fun t22 =>
  wpB (gd t22 true (be Try.prog .eql 30 (.tmp 24) (.const (.int .i64 0)) (gv t22 true t11) (.int .i64 0))) fun t25 =>
  wpB (pickv t22 (some t25) (some (.bool false))) fun t26 =>
  wpB (gd t26 true (pureRun Try.prog (Builtin.len_ #[36] 3 #[(gv t26 true t18)]))) fun t29 =>
  wpB (gd t26 true (be Try.prog .eql 3 (.tmp 29) (.const (.int .i64 1)) t29 (.int .i64 1))) fun t30 =>
  wpB (pickv t26 (some t30) (some (.bool false))) fun t31 =>
  wpB (gd t31 true (pureRun Try.prog (Instr.indexAt 36 (gv t31 true t18) (.int .i64 0)))) fun t34 =>
  wpB (gd t31 true (ldv Try.prog 3 t34 w)) fun t35 =>
  wpB (gd t31 true (be Try.prog .eql 3 (.tmp 35) (.const (.int .i64 0)) t35 (.int .i64 0))) fun t36 =>
  wpB (pickv t31 (some t36) (some (.bool false))) fun t37 =>
  wpB (gd t37 true (be Try.prog .eql 30 (.tmp 39) (.const (.int .i64 0)) (gv t37 true t19) (.int .i64 0))) fun t40 =>
  wpB (pickv t37 (some t40) (some (.bool false))) fun t41 =>
  Q t41 w
theorem F5_ok {w : World} {Q : Value → World → Prop} (h : F5  w Q) : CallR Try.prog 5 [] w Q :=
  call_ofE mixed entOk Try.func5 (c := C5) rfl H5 (Nat.le_of_ble_eq_true rfl) (by kernel_rfl) h

noncomputable def C6 : Code := (Try.f6.body).getD .skip
noncomputable def H6 : Hints := ⟨[(5, [1, 3, 8, 31, 32])], [], [(7, (.ext [0, 1, 2, 3, 5, 6, 4, 7, 8, 9, 10, 11, 12]))]⟩
noncomputable def T6_0 : List It := [.lp (nav [1, 1, 1, 0, 1, 4, 5] C6), .blk 0, .jn (nav [1, 1, 1, 1] C6)]
/-- rundale/search.Find, from a loop's head on -/
def P6_0 (x1 x3 x8 x31 x32 : Value) (w : World) (Q : Value → World → Prop) : Prop := Part Try.prog 6 T6_0 [1, 3, 8, 31, 32] [x1, x3, x8, x31, x32] w Q
def F6 (a0 a1 a2 : Value) (w : World) (Q : Value → World → Prop) : Prop :=
  effv Try.prog (Instr.box 25 a0) w fun t3 w =>
  wpB (ldv Try.prog 25 t3 w) fun t12 =>
  CallR Try.prog 14 [t12] w fun t13 w =>
  wpB (pureRun Try.prog (Op.unary .not t13)) fun t14 =>
  gE t14 false (CallR Try.prog 15 [(gv t14 false a1)] w) (fun t17 w =>
  wpB (gd t14 false (pureRun Try.prog (Op.unary .not t17))) fun t18 =>
  wpB (pickv t14 (some (.bool true)) (some t18)) fun t19 =>
  wpB (gd t19 false (pureRun Try.prog (Builtin.len_ #[35] 3 #[(gv t19 false a1)]))) fun t22 =>
  wpB (gd t19 false (bp Try.prog .gtr 3 t22 (.int .i64 12))) fun t23 =>
  wpB (pickv t19 (some (.bool true)) (some t23)) fun t24 =>
  cnd t24
  (Q (.tuple #[(.slice none 0 0), (.int .i64 1)]) w)
  (wpB (pureRun Try.prog (Builtin.max_ #[3, 3] 3 #[a2, (.int .i64 0)])) fun t27 =>
  wpB (pureRun Try.prog (Instr.build 50 #[(0, a1), (4, t27)])) fun t28 =>
  effv Try.prog (Instr.box 50 t28) w fun t29 w =>
  wpB (pureRun Try.prog (Builtin.len_ #[35] 3 #[a1])) fun t31 =>
  P6_0 a1 t3 t29 t31 (.int .i64 0) w Q)) w
def L6_0 (x1 x3 x8 x31 x32 : Value) (w : World) (Q : Value → World → Prop) : Prop :=
  wpB (bp Try.prog .lss 3 x32 x31) fun t33 =>
  cnd t33
  (wpB (nilv x8) fun t37 =>
  wpB (pureRun Try.prog (Instr.fieldAt 50 t37 1)) fun t38 =>
  wpB (ldv Try.prog 48 t38 w.drew) fun t39 =>
  CallX Try.prog 16 [x1, x32] w.drew fun t42 w =>
  effv Try.prog (Instr.buildSlice 48 1 #[(0, t42)]) w fun t43 w =>
  effv Try.prog (Builtin.append_ #[48, 48] 48 #[t39, t43]) w fun t44 w =>
  wpB (nilv x8) fun t45 =>
  wpB (pureRun Try.prog (Instr.fieldAt 50 t45 1)) fun t46 =>
  effu Try.prog (Instr.storeAt 48 t46 t44) w fun w =>
  wpB (bp Try.prog .add 3 x32 (.int .i64 1)) fun t47 =>
  P6_0 x1 x3 x8 x31 t47 w Q)
  (wpB (ldv Try.prog 25 x3 w) fun t49 =>
  CallR Try.prog 17 [t49] w fun t50 w =>
  wpB (pureRun Try.prog (Instr.extract t50 0)) fun t51 =>
  wpB (pureRun Try.prog (Instr.extract t50 1)) fun t52 =>
  CallR Try.prog 18 [x8, t51] w fun t56 w =>
  cnd t56
  (wpB (nilv x8) fun t58 =>
  wpB (pureRun Try.prog (Instr.fieldAt 50 t58 2)) fun t59 =>
  wpB (ldv Try.prog 36 t59 w) fun t60 =>
  Q (.tuple #[t60, (.int .i64 0)]) w)
  (wpB (nilv x8) fun t63 =>
  wpB (pureRun Try.prog (Instr.fieldAt 50 t63 5)) fun t64 =>
  wpB (ldv Try.prog 4 t64 w) fun t65 =>
  cnd t65
  (Q (.tuple #[(.slice none 0 0), (.int .i64 11)]) w)
  (Q (.tuple #[(.slice none 0 0), (.int .i64 10)]) w)))
theorem F6_ok {a0 a1 a2 : Value} {w : World} {Q : Value → World → Prop} (h : F6 a0 a1 a2 w Q) : CallR Try.prog 6 [a0, a1, a2] w Q :=
  call_ofE mixed entOk Try.func6 (c := C6) rfl H6 (Nat.le_of_ble_eq_true rfl) (by kernel_rfl) h
theorem L6_0_ok {x1 x3 x8 x31 x32 : Value} {w : World} {Q : Value → World → Prop} (h : L6_0 x1 x3 x8 x31 x32 w Q) : P6_0 x1 x3 x8 x31 x32 w Q :=
  part_lpE mixed entOk Try.func6 H6 (by kernel_rfl) h

noncomputable def C7 : Code := (Try.f7.body).getD .skip
noncomputable def H7 : Hints := ⟨[], [(4, [5])], []⟩
noncomputable def T7_0 : List It := [.jn (nav [1, 1, 1] C7)]
/-- rundale/rundalemake.Number, from a join on -/
def P7_0 (x5 : Value) (w : World) (Q : Value → World → Prop) : Prop := Part Try.prog 7 T7_0 [5] [x5] w Q
def F7 (a0 a1 : Value) (w : World) (Q : Value → World → Prop) : Prop :=
  wpB (bp Try.prog .rem 3 a0 a1) fun t8 =>
  wpB (bp Try.prog .lss 3 t8 (.int .i64 0)) fun t10 =>
  cnd t10
  (wpB (bp Try.prog .add 3 t8 a1) fun t13 =>
  P7_0 t13 w Q)
  (P7_0 t8 w Q)
def L7_0 (x5 : Value) (w : World) (Q : Value → World → Prop) : Prop :=
  Q x5 w
theorem F7_ok {a0 a1 : Value} {w : World} {Q : Value → World → Prop} (h : F7 a0 a1 w Q) : CallR Try.prog 7 [a0, a1] w Q :=
  call_ofE mixed entOk Try.func7 (c := C7) rfl H7 (Nat.le_of_ble_eq_true rfl) (by kernel_rfl) h
theorem L7_0_ok {x5 : Value} {w : World} {Q : Value → World → Prop} (h : L7_0 x5 w Q) : P7_0 x5 w Q :=
  part_jnE mixed entOk Try.func7 H7 (by kernel_rfl) h

noncomputable def C9 : Code := (Try.f9.body).getD .skip
noncomputable def C14 : Code := (Try.f14.body).getD .skip
noncomputable def H14 : Hints := ⟨[], [], []⟩
def F14 (a0 : Value) (w : World) (Q : Value → World → Prop) : Prop :=
  effv Try.prog (Instr.box 25 a0) w fun t1 w =>
  wpB (pureRun Try.prog (Instr.fieldAt 25 t1 0)) fun t3 =>
  wpB (ldv Try.prog 3 t3 w) fun t4 =>
  CallR Try.prog 31 [t4, (.int .i64 1), (.int .i64 64)] w fun t5 w =>
  wpB (gd t5 true (pureRun Try.prog (Instr.fieldAt 25 t1 1))) fun t7 =>
  wpB (gd t5 true (ldv Try.prog 3 t7 w)) fun t8 =>
  gE t5 true (CallR Try.prog 31 [t8, (.int .i64 1), (.int .i64 4096)] w) (fun t9 w =>
  wpB (pickv t5 (some t9) (some (.bool false))) fun t10 =>
  wpB (gd t10 true (pureRun Try.prog (Instr.fieldAt 25 t1 2))) fun t12 =>
  wpB (gd t10 true (ldv Try.prog 3 t12 w)) fun t13 =>
  gE t10 true (CallR Try.prog 31 [t13, (.int .i64 8), (.int .i64 1024)] w) (fun t14 w =>
  wpB (pickv t10 (some t14) (some (.bool false))) fun t15 =>
  wpB (gd t15 true (pureRun Try.prog (Instr.fieldAt 25 t1 2))) fun t17 =>
  wpB (gd t15 true (ldv Try.prog 3 t17 w)) fun t18 =>
  wpB (gd t15 true (bp Try.prog .rem 3 t18 (.int .i64 8))) fun t19 =>
  wpB (gd t15 true (be Try.prog .eql 3 (.tmp 19) (.const (.int .i64 0)) t19 (.int .i64 0))) fun t20 =>
  wpB (pickv t15 (some t20) (some (.bool false))) fun t21 =>
  wpB (gd t21 true (pureRun Try.prog (Instr.fieldAt 25 t1 3))) fun t23 =>
  wpB (gd t21 true (ldv Try.prog 3 t23 w)) fun t24 =>
  gE t21 true (CallR Try.prog 31 [t24, (.int .i64 1), (.int .i64 4096)] w) (fun t25 w =>
  wpB (pickv t21 (some t25) (some (.bool false))) fun t26 =>
  wpB (gd t26 true (pureRun Try.prog (Instr.fieldAt 25 t1 4))) fun t28 =>
  wpB (gd t26 true (ldv Try.prog 3 t28 w)) fun t29 =>
  gE t26 true (CallR Try.prog 31 [t29, (.int .i64 0), (.int .i64 64)] w) (fun t30 w =>
  wpB (pickv t26 (some t30) (some (.bool false))) fun t31 =>
  wpB (gd t31 true (pureRun Try.prog (Instr.fieldAt 25 t1 5))) fun t33 =>
  wpB (gd t31 true (ldv Try.prog 3 t33 w)) fun t34 =>
  gE t31 true (CallR Try.prog 31 [t34, (.int .i64 1), (.int .i64 8)] w) (fun t35 w =>
  wpB (pickv t31 (some t35) (some (.bool false))) fun t36 =>
  Q t36 w) w) w) w) w) w
theorem F14_ok {a0 : Value} {w : World} {Q : Value → World → Prop} (h : F14 a0 w Q) : CallR Try.prog 14 [a0] w Q :=
  call_ofE mixed entOk Try.func14 (c := C14) rfl H14 (Nat.le_of_ble_eq_true rfl) (by kernel_rfl) h

noncomputable def C15 : Code := (Try.f15.body).getD .skip
noncomputable def H15 : Hints := ⟨[(2, [0, 6, 7, 8]), (7, [0, 4, 6, 7, 8, 31, 32])], [], [(4, (.leaf [0, 1, 2, 3, 4, 5, 6, 7, 8, 9, 10, 11, 12, 13, 14, 15, 16, 17])), (9, (.leaf [0, 1, 2, 3, 4, 5, 6, 7, 8, 9, 10, 11, 12, 13, 14, 15, 16, 17, 18, 19, 20, 21, 22, 23, 24, 25, 26, 27, 28, 29, 30, 31, 32, 33, 34]))]⟩
noncomputable def T15_0 : List It := [.lp (nav [1, 0, 1, 4, 5] C15), .blk 0, .jn (nav [1, 1] C15)]
noncomputable def T15_1 : List It := [.lp (nav [1, 0, 1, 4, 5, 1, 1, 0, 4, 1, 1, 1, 4, 5] C15), .blk 2, .blk 1, .jn (nav [1, 0, 1, 4, 5, 1, 1, 1] C15), .lp (nav [1, 0, 1, 4, 5] C15), .blk 0, .jn (nav [1, 1] C15)]
/-- rundale/record.May, from a loop's head on -/
def P15_0 (x0 x6 x7 x8 : Value) (w : World) (Q : Value → World → Prop) : Prop := Part Try.prog 15 T15_0 [0, 6, 7, 8] [x0, x6, x7, x8] w Q
/-- rundale/record.May, from a loop's head on -/
def P15_1 (x0 x4 x6 x7 x8 x31 x32 : Value) (w : World) (Q : Value → World → Prop) : Prop := Part Try.prog 15 T15_1 [0, 4, 6, 7, 8, 31, 32] [x0, x4, x6, x7, x8, x31, x32] w Q
def F15 (a0 : Value) (w : World) (Q : Value → World → Prop) : Prop :=
  wpB (pureRun Try.prog (Builtin.len_ #[35] 3 #[a0])) fun t7 =>
  P15_0 a0 a0 t7 (.int .i64 0) w Q
def L15_0 (x0 x6 x7 x8 : Value) (w : World) (Q : Value → World → Prop) : Prop :=
  wpB (bp Try.prog .lss 3 x8 x7) fun t9 =>
  cnd t9
  (wpB (pureRun Try.prog (Instr.indexAt 35 x6 x8)) fun t11 =>
  wpB (ldv Try.prog 34 t11 w) fun t12 =>
  effv Try.prog (Instr.alloc 34 true (.tuple #[])) w fun t4 w =>
  effu Try.prog (Instr.storeAt 34 t4 t12) w fun w =>
  wpB (ldv Try.prog 34 t4 w.drew) fun t13 =>
  CallR Try.prog 32 [t13] w.drew fun t14 w =>
  wpB (pureRun Try.prog (Op.unary .not t14)) fun t15 =>
  wpB (gd t15 false (bp Try.prog .gtr 3 (gv t15 false x8) (.int .i64 0))) fun t18 =>
  wpB (gd (gv t15 false t18) true (pureRun Try.prog (Instr.fieldAt 34 t4 3))) fun t20 =>
  wpB (gd (gv t15 false t18) true (ldv Try.prog 3 t20 w)) fun t21 =>
  wpB (gd (gv t15 false t18) true (bp Try.prog .sub 3 (gv (gv t15 false t18) true x8) (.int .i64 1))) fun t24 =>
  wpB (gd (gv t15 false t18) true (pureRun Try.prog (Instr.indexAt 35 (gv (gv t15 false t18) true x0) t24))) fun t25 =>
  wpB (gd (gv t15 false t18) true (pureRun Try.prog (Instr.fieldAt 34 t25 3))) fun t26 =>
  wpB (gd (gv t15 false t18) true (ldv Try.prog 3 t26 w)) fun t27 =>
  wpB (gd (gv t15 false t18) true (bp Try.prog .leq 3 t21 t27)) fun t28 =>
  wpB (gd t15 false (pickv (gv t15 false t18) (some t28) (some (.bool false)))) fun t29 =>
  wpB (pickv t15 (some (.bool true)) (some t29)) fun t30 =>
  cnd t30
  (Q (.bool false) w)
  (P15_1 x0 t4 x6 x7 x8 x8 (.int .i64 0) w Q))
  (Q (.bool true) w)
def L15_1 (x0 x4 x6 x7 x8 x31 x32 : Value) (w : World) (Q : Value → World → Prop) : Prop :=
  wpB (bp Try.prog .lss 3 x32 x31) fun t33 =>
  cnd t33
  (wpB (pureRun Try.prog (Instr.indexAt 35 x0 x32)) fun t37 =>
  wpB (pureRun Try.prog (Instr.fieldAt 34 t37 0)) fun t38 =>
  wpB (ldv Try.prog 3 t38 w.drew) fun t39 =>
  wpB (pureRun Try.prog (Instr.fieldAt 34 x4 0)) fun t40 =>
  wpB (ldv Try.prog 3 t40 w.drew) fun t41 =>
  wpB (be Try.prog .eql 3 (.tmp 39) (.tmp 41) t39 t41) fun t42 =>
  wpB (gd t42 true (pureRun Try.prog (Instr.indexAt 35 (gv t42 true x0) (gv t42 true x32)))) fun t46 =>
  wpB (gd t42 true (ldv Try.prog 34 t46 w.drew)) fun t47 =>
  wpB (gd t42 true (ldv Try.prog 34 x4 w.drew)) fun t48 =>
  gE t42 true (CallR Try.prog 33 [t47, t48] w.drew) (fun t49 w =>
  wpB (gd t42 true (pureRun Try.prog (Op.unary .not t49))) fun t50 =>
  wpB (gd (gv t42 true t50) false (pureRun Try.prog (Instr.fieldAt 34 x4 1))) fun t52 =>
  wpB (gd (gv t42 true t50) false (ldv Try.prog 3 t52 w)) fun t53 =>
  wpB (gd (gv t42 true t50) false (pureRun Try.prog (Instr.indexAt 35 (gv (gv t42 true t50) false x0) (gv (gv t42 true t50) false x32)))) fun t56 =>
  wpB (gd (gv t42 true t50) false (pureRun Try.prog (Instr.fieldAt 34 t56 1))) fun t57 =>
  wpB (gd (gv t42 true t50) false (ldv Try.prog 3 t57 w)) fun t58 =>
  wpB (gd (gv t42 true t50) false (bp Try.prog .leq 3 t53 t58)) fun t59 =>
  wpB (gd t42 true (pickv (gv t42 true t50) (some (.bool true)) (some t59))) fun t60 =>
  wpB (pickv t42 (some t60) (some (.bool false))) fun t61 =>
  wpB (gd t61 false (pureRun Try.prog (Instr.indexAt 35 (gv t61 false x0) (gv t61 false x32)))) fun t65 =>
  wpB (gd t61 false (ldv Try.prog 34 t65 w)) fun t66 =>
  wpB (gd t61 false (ldv Try.prog 34 x4 w)) fun t67 =>
  gE t61 false (CallR Try.prog 34 [t66, t67] w) (fun t68 w =>
  wpB (pickv t61 (some (.bool true)) (some t68)) fun t69 =>
  cnd t69
  (Q (.bool false) w)
  (wpB (bp Try.prog .add 3 x32 (.int .i64 1)) fun t70 =>
  P15_1 x0 x4 x6 x7 x8 x31 t70 w Q)) w) w.drew)
  (wpB (bp Try.prog .add 3 x8 (.int .i64 1)) fun t71 =>
  P15_0 x0 x6 x7 t71 w Q)
theorem F15_ok {a0 : Value} {w : World} {Q : Value → World → Prop} (h : F15 a0 w Q) : CallR Try.prog 15 [a0] w Q :=
  call_ofE mixed entOk Try.func15 (c := C15) rfl H15 (Nat.le_of_ble_eq_true rfl) (by kernel_rfl) h
theorem L15_0_ok {x0 x6 x7 x8 : Value} {w : World} {Q : Value → World → Prop} (h : L15_0 x0 x6 x7 x8 w Q) : P15_0 x0 x6 x7 x8 w Q :=
  part_lpE mixed entOk Try.func15 H15 (by kernel_rfl) h
theorem L15_1_ok {x0 x4 x6 x7 x8 x31 x32 : Value} {w : World} {Q : Value → World → Prop} (h : L15_1 x0 x4 x6 x7 x8 x31 x32 w Q) : P15_1 x0 x4 x6 x7 x8 x31 x32 w Q :=
  part_lpE mixed entOk Try.func15 H15 (by kernel_rfl) h

noncomputable def C16 : Code := (Try.f16.body).getD .skip
noncomputable def H16 : Hints := ⟨[], [], []⟩
def F16 (a0 a1 : Value) (w : World) (Q : Value → World → Prop) : Prop :=
  effv Try.prog (Instr.alloc 27 true (.tuple #[])) w fun t4 w =>
  wpB (bp Try.prog .lss 3 a1 (.int .i64 0)) fun t6 =>
  wpB (gd t6 false (pureRun Try.prog (Builtin.len_ #[35] 3 #[(gv t6 false a0)]))) fun t10 =>
  wpB (gd t6 false (bp Try.prog .geq 3 (gv t6 false a1) t10)) fun t11 =>
  wpB (pickv t6 (some (.bool true)) (some t11)) fun t12 =>
  gE t12 false (CallR Try.prog 15 [(gv t12 false a0)] w) (fun t15 w =>
  wpB (gd t12 false (pureRun Try.prog (Op.unary .not t15))) fun t16 =>
  wpB (pickv t12 (some (.bool true)) (some t16)) fun t17 =>
  cnd t17
  (wpB (pureRun Try.prog (Instr.build 27 #[])) fun t18 =>
  effu Try.prog (Instr.storeAt 27 t4 t18) w fun w =>
  wpB (ldv Try.prog 27 t4 w) fun r4 => Q r4 w)
  (CallR Try.prog 21 [a0, a1] w fun t21 w =>
  effu Try.prog (Instr.storeAt 27 t4 t21) w fun w =>
  wpB (ldv Try.prog 27 t4 w) fun r4_1 => Q r4_1 w)) w
theorem F16_ok {a0 a1 : Value} {w : World} {Q : Value → World → Prop} (h : F16 a0 a1 w Q) : CallR Try.prog 16 [a0, a1] w Q :=
  call_ofE mixed entOk Try.func16 (c := C16) rfl H16 (Nat.le_of_ble_eq_true rfl) (by kernel_rfl) h

noncomputable def C17 : Code := (Try.f17.body).getD .skip
noncomputable def H17 : Hints := ⟨[], [(4, [4, 5])], []⟩
noncomputable def T17_0 : List It := [.jn (nav [1, 1, 1] C17)]
/-- rundale/model.Loose, from a join on -/
def P17_0 (x4 x5 : Value) (w : World) (Q : Value → World → Prop) : Prop := Part Try.prog 17 T17_0 [4, 5] [x4, x5] w Q
def F17 (a0 : Value) (w : World) (Q : Value → World → Prop) : Prop :=
  effv Try.prog (Instr.box 25 a0) w fun t1 w =>
  wpB (ldv Try.prog 25 t1 w) fun t7 =>
  CallR Try.prog 19 [t7] w fun t8 w =>
  wpB (pureRun Try.prog (Instr.extract t8 0)) fun t9 =>
  wpB (pureRun Try.prog (Instr.extract t8 1)) fun t10 =>
  wpB (be Try.prog .eql 30 (.tmp 11) (.const (.int .i64 0)) t10 (.int .i64 0)) fun t12 =>
  cnd t12
  (wpB (nilv t9) fun t14 =>
  wpB (pureRun Try.prog (Instr.fieldAt 72 t14 1)) fun t15 =>
  effu Try.prog (Instr.storeAt 4 t15 (.bool true)) w fun w =>
  P17_0 t9 t10 w Q)
  (P17_0 t9 t10 w Q)
def L17_0 (x4 x5 : Value) (w : World) (Q : Value → World → Prop) : Prop :=
  Q (.tuple #[x4, x5]) w
theorem F17_ok {a0 : Value} {w : World} {Q : Value → World → Prop} (h : F17 a0 w Q) : CallR Try.prog 17 [a0] w Q :=
  call_ofE mixed entOk Try.func17 (c := C17) rfl H17 (Nat.le_of_ble_eq_true rfl) (by kernel_rfl) h
theorem L17_0_ok {x4 x5 : Value} {w : World} {Q : Value → World → Prop} (h : L17_0 x4 x5 w Q) : P17_0 x4 x5 w Q :=
  part_jnE mixed entOk Try.func17 H17 (by kernel_rfl) h

noncomputable def C18 : Code := (Try.f18.body).getD .skip
noncomputable def H18 : Hints := ⟨[(4, [0, 1, 16, 17, 18])], [(10, [0, 1, 5, 6, 7, 8, 9, 16, 17, 18]), (12, [0, 1, 5, 6, 7, 16, 17, 18]), (24, [0, 1, 16, 17, 18])], [(9, (.ask 16 12 (.leaf [0, 1, 3, 5, 6, 7, 9, 2, 4, 8, 10, 11, 16, 12, 13, 14, 15, 17, 18]) (.leaf [0, 1, 2, 3, 4, 5, 6, 7, 8, 9, 10, 11, 12, 13, 14, 15, 16, 17, 18]))), (12, (.leaf [0, 1, 2, 3, 4, 5, 6, 7, 8])), (17, (.leaf [0, 1, 2, 3, 4, 5, 6, 7, 8, 9, 10, 11, 12, 13, 14])), (23, (.leaf [0, 1, 2, 3, 4, 5, 6, 7, 8, 9, 10, 11, 12, 13, 14]))]⟩
noncomputable def T18_0 : List It := [.lp (nav [1, 1, 0, 1, 4, 5] C18), .blk 0, .jn (nav [1, 1, 1] C18)]
noncomputable def T18_1 : List It := [.jn (nav [1, 1, 0, 1, 4, 5, 1, 1, 1] C18), .lp (nav [1, 1, 0, 1, 4, 5] C18), .blk 0, .jn (nav [1, 1, 1] C18)]
noncomputable def T18_2 : List It := [.jn (nav [1, 1, 0, 1, 4, 5, 1, 1, 0, 4, 1, 1, 1, 0, 1, 2, 1] C18), .jn (nav [1, 1, 0, 1, 4, 5, 1, 1, 0, 4, 1, 1, 1, 1] C18), .blk 1, .jn (nav [1, 1, 0, 1, 4, 5, 1, 1, 1] C18), .lp (nav [1, 1, 0, 1, 4, 5] C18), .blk 0, .jn (nav [1, 1, 1] C18)]
noncomputable def T18_3 : List It := [.jn (nav [1, 1, 0, 1, 4, 5, 1, 1, 0, 4, 1, 1, 1, 1] C18), .blk 1, .jn (nav [1, 1, 0, 1, 4, 5, 1, 1, 1] C18), .lp (nav [1, 1, 0, 1, 4, 5] C18), .blk 0, .jn (nav [1, 1, 1] C18)]
/-- (*rundale/search.seeker).find, from a loop's head on -/
def P18_0 (x0 x1 x16 x17 x18 : Value) (w : World) (Q : Value → World → Prop) : Prop := Part Try.prog 18 T18_0 [0, 1, 16, 17, 18] [x0, x1, x16, x17, x18] w Q
/-- (*rundale/search.seeker).find, from a join on -/
def P18_1 (x0 x1 x16 x17 x18 : Value) (w : World) (Q : Value → World → Prop) : Prop := Part Try.prog 18 T18_1 [0, 1, 16, 17, 18] [x0, x1, x16, x17, x18] w Q
/-- (*rundale/search.seeker).find, from a join on -/
def P18_2 (x0 x1 x5 x6 x7 x8 x9 x16 x17 x18 : Value) (w : World) (Q : Value → World → Prop) : Prop := Part Try.prog 18 T18_2 [0, 1, 5, 6, 7, 8, 9, 16, 17, 18] [x0, x1, x5, x6, x7, x8, x9, x16, x17, x18] w Q
/-- (*rundale/search.seeker).find, from a join on -/
def P18_3 (x0 x1 x5 x6 x7 x16 x17 x18 : Value) (w : World) (Q : Value → World → Prop) : Prop := Part Try.prog 18 T18_3 [0, 1, 5, 6, 7, 16, 17, 18] [x0, x1, x5, x6, x7, x16, x17, x18] w Q
def F18 (a0 a1 : Value) (w : World) (Q : Value → World → Prop) : Prop :=
  CallR Try.prog 35 [a0] w fun t12 w =>
  cnd t12
  (Q (.bool true) w)
  (wpB (nilv a0) fun t14 =>
  wpB (pureRun Try.prog (Instr.fieldAt 50 t14 0)) fun t15 =>
  wpB (ldv Try.prog 35 t15 w) fun t16 =>
  wpB (pureRun Try.prog (Builtin.len_ #[35] 3 #[t16])) fun t17 =>
  P18_0 a0 a1 t16 t17 (.int .i64 0) w Q)
def L18_0 (x0 x1 x16 x17 x18 : Value) (w : World) (Q : Value → World → Prop) : Prop :=
  wpB (bp Try.prog .lss 3 x18 x17) fun t19 =>
  cnd t19
  (wpB (pureRun Try.prog (Instr.indexAt 35 x16 x18)) fun t21 =>
  wpB (ldv Try.prog 34 t21 w) fun t22 =>
  effv Try.prog (Instr.alloc 34 true (.tuple #[])) w fun t6 w =>
  effu Try.prog (Instr.storeAt 34 t6 t22) w fun w =>
  CallR Try.prog 36 [x0, x18] w fun t25 w =>
  wpB (pureRun Try.prog (Op.unary .not t25)) fun t26 =>
  cnd t26
  (P18_1 x0 x1 x16 x17 x18 w Q)
  (wpB (pureRun Try.prog (Instr.fieldAt 34 t6 7)) fun t27 =>
  wpB (ldv Try.prog 32 t27 w) fun t28 =>
  effv Try.prog (Instr.alloc 32 true (.tuple #[])) w fun t7 w =>
  effu Try.prog (Instr.storeAt 32 t7 t28) w fun w =>
  wpB (pureRun Try.prog (Instr.fieldAt 34 t6 6)) fun t29 =>
  wpB (ldv Try.prog 3 t29 w) fun t30 =>
  wpB (bp Try.prog .lss 3 t30 (.int .i64 0)) fun t31 =>
  wpB (gd t31 true (pureRun Try.prog (Instr.fieldAt 34 t6 4))) fun t33 =>
  wpB (gd t31 true (ldv Try.prog 3 t33 w)) fun t34 =>
  wpB (gd t31 true (bp Try.prog .lss 3 t34 (.int .i64 0))) fun t35 =>
  wpB (pickv t31 (some t35) (some (.bool false))) fun t36 =>
  cnd t36
  ((wpB (pureRun Try.prog (Instr.fieldAt 34 t6 0)) fun t39 =>
  wpB (pureRun Try.prog (Instr.fieldAt 34 t6 2)) fun t41 =>
  wpB (nilv x0) fun t44 =>
  wpB (pureRun Try.prog (Instr.fieldAt 50 t44 1)) fun t45 =>
  wpB (ldv Try.prog 3 t39 w.drew) fun t40 =>
  wpB (ldv Try.prog 29 t41 w.drew) fun t42 =>
  wpB (ldv Try.prog 48 t45 w.drew) fun t46 =>
  wpB (pureRun Try.prog (Instr.indexAt 48 t46 x18)) fun t48 =>
  wpB (ldv Try.prog 27 t48 w.drew) fun t49 =>
  effv Try.prog (Instr.alloc 32 true (.tuple #[])) w.drew fun t8 w =>
  CallR Try.prog 37 [x1, t40, t42, t49] w fun t50 w =>
  wpB (pureRun Try.prog (Instr.extract t50 0)) fun t51 =>
  wpB (pureRun Try.prog (Instr.extract t50 1)) fun t52 =>
  effu Try.prog (Instr.storeAt 32 t8 t51) w fun w =>
  P18_2 x0 x1 x18 t6 t7 t8 t52 x16 x17 x18 w Q) ∧
  (wpB (pureRun Try.prog (Instr.fieldAt 34 t6 0)) fun t39_1 =>
  wpB (ldv Try.prog 3 t39_1 w.drew) fun t40_1 =>
  wpB (pureRun Try.prog (Instr.fieldAt 34 t6 2)) fun t41_1 =>
  wpB (ldv Try.prog 29 t41_1 w.drew) fun t42_1 =>
  wpB (nilv x0) fun t44_1 =>
  wpB (pureRun Try.prog (Instr.fieldAt 50 t44_1 1)) fun t45_1 =>
  wpB (ldv Try.prog 48 t45_1 w.drew) fun t46_1 =>
  wpB (pureRun Try.prog (Instr.indexAt 48 t46_1 x18)) fun t48_1 =>
  wpB (ldv Try.prog 27 t48_1 w.drew) fun t49_1 =>
  CallR Try.prog 37 [x1, t40_1, t42_1, t49_1] w.drew fun t50_1 w =>
  wpB (pureRun Try.prog (Instr.extract t50_1 0)) fun t51_1 =>
  wpB (pureRun Try.prog (Instr.extract t50_1 1)) fun t52_1 =>
  effv Try.prog (Instr.alloc 32 true (.tuple #[])) w fun t8_1 w =>
  effu Try.prog (Instr.storeAt 32 t8_1 t51_1) w fun w =>
  P18_2 x0 x1 x18 t6 t7 t8_1 t52_1 x16 x17 x18 w Q))
  (P18_3 x0 x1 x18 t6 t7 x16 x17 x18 w Q)))
  (Q (.bool false) w)
def L18_1 (x0 x1 x16 x17 x18 : Value) (w : World) (Q : Value → World → Prop) : Prop :=
  wpB (bp Try.prog .add 3 x18 (.int .i64 1)) fun t123 =>
  P18_0 x0 x1 x16 x17 t123 w Q
def L18_2 (x0 x1 x5 x6 x7 x8 x9 x16 x17 x18 : Value) (w : World) (Q : Value → World → Prop) : Prop :=
  wpB (pureRun Try.prog (Op.unary .not x9)) fun t54 =>
  cnd t54
  (P18_1 x0 x1 x16 x17 x18 w Q)
  (wpB (ldv Try.prog 32 x8 w) fun t55 =>
  effu Try.prog (Instr.storeAt 32 x7 t55) w fun w =>
  P18_3 x0 x1 x5 x6 x7 x16 x17 x18 w Q)
def L18_3 (x0 x1 x5 x6 x7 x16 x17 x18 : Value) (w : World) (Q : Value → World → Prop) : Prop :=
  wpB (nilv x0) fun t57 =>
  wpB (pureRun Try.prog (Instr.fieldAt 50 t57 3)) fun t58 =>
  wpB (ldv Try.prog 3 t58 w.drew) fun t59 =>
  wpB (nilv x0) fun t61 =>
  wpB (pureRun Try.prog (Instr.fieldAt 50 t61 4)) fun t62 =>
  wpB (ldv Try.prog 3 t62 w.drew) fun t63 =>
  wpB (bp Try.prog .geq 3 t59 t63) fun t64 =>
  cnd t64
  (wpB (nilv x0) fun t66 =>
  wpB (pureRun Try.prog (Instr.fieldAt 50 t66 5)) fun t67 =>
  effu Try.prog (Instr.storeAt 4 t67 (.bool true)) w.drew fun w =>
  Q (.bool false) w)
  (wpB (nilv x0) fun t69 =>
  wpB (pureRun Try.prog (Instr.fieldAt 50 t69 3)) fun t70 =>
  wpB (ldv Try.prog 3 t70 w.drew) fun t71 =>
  wpB (bp Try.prog .add 3 t71 (.int .i64 1)) fun t72 =>
  wpB (nilv x0) fun t73 =>
  wpB (pureRun Try.prog (Instr.fieldAt 50 t73 3)) fun t74 =>
  effu Try.prog (Instr.storeAt 3 t74 t72) w.drew fun w =>
  CallR Try.prog 38 [x1] w fun t76 w =>
  wpB (pureRun Try.prog (Instr.fieldAt 34 x6 0)) fun t78 =>
  wpB (ldv Try.prog 3 t78 w.drew) fun t79 =>
  wpB (pureRun Try.prog (Instr.fieldAt 34 x6 2)) fun t80 =>
  wpB (ldv Try.prog 29 t80 w.drew) fun t81 =>
  wpB (nilv x0) fun t83 =>
  wpB (pureRun Try.prog (Instr.fieldAt 50 t83 1)) fun t84 =>
  wpB (ldv Try.prog 48 t84 w.drew) fun t85 =>
  wpB (pureRun Try.prog (Instr.indexAt 48 t85 x5)) fun t87 =>
  wpB (ldv Try.prog 27 t87 w.drew) fun t88 =>
  wpB (ldv Try.prog 32 x7 w.drew) fun t89 =>
  CallR Try.prog 23 [t76, t79, t81, t88, t89] w.drew fun t90 w =>
  wpB (pureRun Try.prog (Op.unary .not t90)) fun t91 =>
  cnd t91
  (P18_1 x0 x1 x16 x17 x18 w Q)
  (wpB (nilv x0) fun t94 =>
  wpB (pureRun Try.prog (Instr.fieldAt 50 t94 2)) fun t95 =>
  wpB (ldv Try.prog 36 t95 w) fun t96 =>
  effv Try.prog (Instr.buildSlice 36 1 #[(0, x5)]) w fun t98 w =>
  effv Try.prog (Builtin.append_ #[36, 36] 36 #[t96, t98]) w fun t99 w =>
  wpB (nilv x0) fun t100 =>
  wpB (pureRun Try.prog (Instr.fieldAt 50 t100 2)) fun t101 =>
  effu Try.prog (Instr.storeAt 36 t101 t99) w fun w =>
  CallR Try.prog 18 [x0, t76] w fun t104 w =>
  cnd t104
  (Q (.bool true) w)
  (wpB (nilv x0) fun t106 =>
  wpB (pureRun Try.prog (Instr.fieldAt 50 t106 5)) fun t107 =>
  wpB (ldv Try.prog 4 t107 w) fun t108 =>
  cnd t108
  (Q (.bool false) w)
  (wpB (nilv x0) fun t111 =>
  wpB (pureRun Try.prog (Instr.fieldAt 50 t111 2)) fun t112 =>
  wpB (ldv Try.prog 36 t112 w.drew) fun t113 =>
  wpB (nilv x0) fun t115 =>
  wpB (pureRun Try.prog (Instr.fieldAt 50 t115 2)) fun t116 =>
  wpB (ldv Try.prog 36 t116 w.drew) fun t117 =>
  wpB (pureRun Try.prog (Builtin.len_ #[36] 3 #[t117])) fun t118 =>
  wpB (bp Try.prog .sub 3 t118 (.int .i64 1)) fun t119 =>
  wpB (pureRun Try.prog (Instr.sliceAt 36 t113 none (some t119) none)) fun t120 =>
  wpB (nilv x0) fun t121 =>
  wpB (pureRun Try.prog (Instr.fieldAt 50 t121 2)) fun t122 =>
  effu Try.prog (Instr.storeAt 36 t122 t120) w.drew fun w =>
  P18_1 x0 x1 x16 x17 x18 w Q))))
theorem F18_ok {a0 a1 : Value} {w : World} {Q : Value → World → Prop} (h : F18 a0 a1 w Q) : CallR Try.prog 18 [a0, a1] w Q :=
  call_ofE mixed entOk Try.func18 (c := C18) rfl H18 (Nat.le_of_ble_eq_true rfl) (by kernel_rfl) h
theorem L18_0_ok {x0 x1 x16 x17 x18 : Value} {w : World} {Q : Value → World → Prop} (h : L18_0 x0 x1 x16 x17 x18 w Q) : P18_0 x0 x1 x16 x17 x18 w Q :=
  part_lpE mixed entOk Try.func18 H18 (by kernel_rfl) h
theorem L18_1_ok {x0 x1 x16 x17 x18 : Value} {w : World} {Q : Value → World → Prop} (h : L18_1 x0 x1 x16 x17 x18 w Q) : P18_1 x0 x1 x16 x17 x18 w Q :=
  part_jnE mixed entOk Try.func18 H18 (by kernel_rfl) h
theorem L18_2_ok {x0 x1 x5 x6 x7 x8 x9 x16 x17 x18 : Value} {w : World} {Q : Value → World → Prop} (h : L18_2 x0 x1 x5 x6 x7 x8 x9 x16 x17 x18 w Q) : P18_2 x0 x1 x5 x6 x7 x8 x9 x16 x17 x18 w Q :=
  part_jnE mixed entOk Try.func18 H18 (by kernel_rfl) h
theorem L18_3_ok {x0 x1 x5 x6 x7 x16 x17 x18 : Value} {w : World} {Q : Value → World → Prop} (h : L18_3 x0 x1 x5 x6 x7 x16 x17 x18 w Q) : P18_3 x0 x1 x5 x6 x7 x16 x17 x18 w Q :=
  part_jnE mixed entOk Try.func18 H18 (by kernel_rfl) h

noncomputable def C19 : Code := (Try.f19.body).getD .skip
noncomputable def H19 : Hints := ⟨[], [], [(3, (.ask 3 6 (.leaf [1, 4, 0, 2, 5, 3, 6, 7, 8, 9, 10]) (.leaf [1, 4, 0, 2, 5, 6, 3, 7, 8, 9, 10])))]⟩
def F19 (a0 : Value) (w : World) (Q : Value → World → Prop) : Prop :=
  effv Try.prog (Instr.box 25 a0) w fun t1 w =>
  wpB (ldv Try.prog 25 t1 w) fun t4 =>
  CallR Try.prog 14 [t4] w fun t5 w =>
  wpB (pureRun Try.prog (Op.unary .not t5)) fun t6 =>
  cnd t6
  (Q (.tuple #[(.pointer none), (.int .i64 1)]) w)
  ((wpB (pureRun Try.prog (Instr.fieldAt 25 t1 3)) fun t8 =>
  wpB (pureRun Try.prog (Instr.fieldAt 25 t1 0)) fun t11 =>
  wpB (ldv Try.prog 25 t1 w.drew) fun t7 =>
  wpB (ldv Try.prog 3 t8 w.drew) fun t9 =>
  wpB (ldv Try.prog 3 t11 w.drew) fun t12 =>
  effv Try.prog (Instr.makeSlice 68 t9 t9) w.drew fun t10 w =>
  effv Try.prog (Instr.makeSlice 70 t12 t12) w fun t13 w =>
  wpB (pureRun Try.prog (Instr.build 72 #[(0, t7), (2, t10), (4, t13)])) fun t14 =>
  effv Try.prog (Instr.box 72 t14) w fun t15 w =>
  Q (.tuple #[t15, (.int .i64 0)]) w) ∧
  (wpB (pureRun Try.prog (Instr.fieldAt 25 t1 3)) fun t8_1 =>
  wpB (pureRun Try.prog (Instr.fieldAt 25 t1 0)) fun t11_1 =>
  wpB (ldv Try.prog 25 t1 w.drew) fun t7_1 =>
  wpB (ldv Try.prog 3 t8_1 w.drew) fun t9_1 =>
  wpB (ldv Try.prog 3 t11_1 w.drew) fun t12_1 =>
  effv Try.prog (Instr.makeSlice 70 t12_1 t12_1) w.drew fun t13_1 w =>
  effv Try.prog (Instr.makeSlice 68 t9_1 t9_1) w fun t10_1 w =>
  wpB (pureRun Try.prog (Instr.build 72 #[(0, t7_1), (2, t10_1), (4, t13_1)])) fun t14_1 =>
  effv Try.prog (Instr.box 72 t14_1) w fun t15_1 w =>
  Q (.tuple #[t15_1, (.int .i64 0)]) w))
theorem F19_ok {a0 : Value} {w : World} {Q : Value → World → Prop} (h : F19 a0 w Q) : CallR Try.prog 19 [a0] w Q :=
  call_ofE mixed entOk Try.func19 (c := C19) rfl H19 (Nat.le_of_ble_eq_true rfl) (by kernel_rfl) h

noncomputable def C21 : Code := (Try.f21.body).getD .skip
noncomputable def H21 : Hints := ⟨[(5, [0, 1, 4, 5, 18, 19, 20])], [], [(7, (.leaf [0, 1, 2, 3, 4, 5, 6, 7, 8, 9, 10, 11, 12, 13, 14, 15, 16, 17, 18, 19, 20, 21, 22, 23, 24, 25, 26, 27, 28, 29, 30, 31, 32, 33, 34, 35, 36, 37]))]⟩
noncomputable def T21_0 : List It := [.lp (nav [1, 1, 1, 0, 1, 4, 5] C21), .blk 0, .jn (nav [1, 1, 1, 1] C21)]
/-- rundale/order.handle, from a loop's head on -/
def P21_0 (x0 x1 x4 x5 x18 x19 x20 : Value) (w : World) (Q : Value → World → Prop) : Prop := Part Try.prog 21 T21_0 [0, 1, 4, 5, 18, 19, 20] [x0, x1, x4, x5, x18, x19, x20] w Q
def F21 (a0 a1 : Value) (w : World) (Q : Value → World → Prop) : Prop :=
  effv Try.prog (Instr.alloc 27 true (.tuple #[])) w fun t4 w =>
  wpB (pureRun Try.prog (Instr.indexAt 35 a0 a1)) fun t10 =>
  wpB (pureRun Try.prog (Instr.fieldAt 34 t10 2)) fun t11 =>
  wpB (ldv Try.prog 29 t11 w) fun t12 =>
  effv Try.prog (Instr.alloc 29 true (.tuple #[])) w fun t5 w =>
  effu Try.prog (Instr.storeAt 29 t5 t12) w fun w =>
  wpB (pureRun Try.prog (Instr.fieldAt 29 t5 0)) fun t13 =>
  wpB (ldv Try.prog 3 t13 w) fun t14 =>
  CallR Try.prog 42 [t14] w fun t15 w =>
  wpB (be Try.prog .eql 3 (.tmp 15) (.const (.int .i64 0)) t15 (.int .i64 0)) fun t16 =>
  cnd t16
  (wpB (pureRun Try.prog (Instr.build 27 #[])) fun t17 =>
  effu Try.prog (Instr.storeAt 27 t4 t17) w fun w =>
  wpB (ldv Try.prog 27 t4 w) fun r4 => Q r4 w)
  (wpB (pureRun Try.prog (Builtin.len_ #[35] 3 #[a0])) fun t19 =>
  P21_0 a0 a1 t4 t5 a0 t19 (.int .i64 0) w Q)
def L21_0 (x0 x1 x4 x5 x18 x19 x20 : Value) (w : World) (Q : Value → World → Prop) : Prop :=
  wpB (bp Try.prog .lss 3 x20 x19) fun t21 =>
  cnd t21
  (wpB (pureRun Try.prog (Instr.indexAt 35 x18 x20)) fun t22 =>
  wpB (ldv Try.prog 34 t22 w) fun t23 =>
  effv Try.prog (Instr.alloc 34 true (.tuple #[])) w fun t7 w =>
  effu Try.prog (Instr.storeAt 34 t7 t23) w fun w =>
  wpB (pureRun Try.prog (Instr.fieldAt 34 t7 0)) fun t24 =>
  wpB (ldv Try.prog 3 t24 w.drew) fun t25 =>
  wpB (pureRun Try.prog (Instr.fieldAt 29 x5 1)) fun t26 =>
  wpB (ldv Try.prog 3 t26 w.drew) fun t27 =>
  wpB (be Try.prog .eql 3 (.tmp 25) (.tmp 27) t25 t27) fun t28 =>
  wpB (gd t28 true (pureRun Try.prog (Instr.fieldAt 34 t7 1))) fun t30 =>
  wpB (gd t28 true (ldv Try.prog 3 t30 w.drew)) fun t31 =>
  wpB (gd t28 true (pureRun Try.prog (Instr.fieldAt 29 x5 2))) fun t32 =>
  wpB (gd t28 true (ldv Try.prog 3 t32 w.drew)) fun t33 =>
  wpB (gd t28 true (be Try.prog .eql 3 (.tmp 31) (.tmp 33) t31 t33)) fun t34 =>
  wpB (pickv t28 (some t34) (some (.bool false))) fun t35 =>
  wpB (gd t35 true (pureRun Try.prog (Instr.fieldAt 34 t7 2))) fun t37 =>
  wpB (gd t35 true (pureRun Try.prog (Instr.fieldAt 29 t37 0))) fun t38 =>
  wpB (gd t35 true (ldv Try.prog 3 t38 w.drew)) fun t39 =>
  wpB (gd t35 true (be Try.prog .eql 3 (.tmp 39) (.const (.int .i64 1)) t39 (.int .i64 1))) fun t40 =>
  wpB (gd (gv t35 true t40) false (pureRun Try.prog (Instr.fieldAt 34 t7 2))) fun t42 =>
  wpB (gd (gv t35 true t40) false (pureRun Try.prog (Instr.fieldAt 29 t42 0))) fun t43 =>
  wpB (gd (gv t35 true t40) false (ldv Try.prog 3 t43 w.drew)) fun t44 =>
  wpB (gd (gv t35 true t40) false (be Try.prog .eql 3 (.tmp 44) (.const (.int .i64 2)) t44 (.int .i64 2))) fun t45 =>
  wpB (gd t35 true (pickv (gv t35 true t40) (some (.bool true)) (some t45))) fun t46 =>
  wpB (pickv t35 (some t46) (some (.bool false))) fun t47 =>
  wpB (gd t47 true (pureRun Try.prog (Instr.fieldAt 34 t7 7))) fun t49 =>
  wpB (gd t47 true (pureRun Try.prog (Instr.fieldAt 32 t49 0))) fun t50 =>
  wpB (gd t47 true (ldv Try.prog 30 t50 w.drew)) fun t51 =>
  wpB (gd t47 true (be Try.prog .eql 30 (.tmp 51) (.const (.int .i64 0)) t51 (.int .i64 0))) fun t52 =>
  wpB (pickv t47 (some t52) (some (.bool false))) fun t53 =>
  wpB (gd t53 true (ldv Try.prog 34 t7 w.drew)) fun t55 =>
  wpB (gd t53 true (pureRun Try.prog (Instr.indexAt 35 (gv t53 true x0) (gv t53 true x1)))) fun t58 =>
  wpB (gd t53 true (ldv Try.prog 34 t58 w.drew)) fun t59 =>
  gE t53 true (CallR Try.prog 33 [t55, t59] w.drew) (fun t60 w =>
  wpB (pickv t53 (some t60) (some (.bool false))) fun t61 =>
  cnd t61
  (wpB (pureRun Try.prog (Instr.fieldAt 34 t7 7)) fun t62 =>
  wpB (pureRun Try.prog (Instr.fieldAt 32 t62 1)) fun t63 =>
  wpB (ldv Try.prog 27 t63 w) fun t64 =>
  effu Try.prog (Instr.storeAt 27 x4 t64) w fun w =>
  wpB (ldv Try.prog 27 x4 w) fun r4 => Q r4 w)
  (wpB (bp Try.prog .add 3 x20 (.int .i64 1)) fun t65 =>
  P21_0 x0 x1 x4 x5 x18 x19 t65 w Q)) w.drew)
  (wpB (pureRun Try.prog (Instr.build 27 #[])) fun t66 =>
  effu Try.prog (Instr.storeAt 27 x4 t66) w fun w =>
  wpB (ldv Try.prog 27 x4 w) fun r4_1 => Q r4_1 w)
theorem F21_ok {a0 a1 : Value} {w : World} {Q : Value → World → Prop} (h : F21 a0 a1 w Q) : CallR Try.prog 21 [a0, a1] w Q :=
  call_ofE mixed entOk Try.func21 (c := C21) rfl H21 (Nat.le_of_ble_eq_true rfl) (by kernel_rfl) h
theorem L21_0_ok {x0 x1 x4 x5 x18 x19 x20 : Value} {w : World} {Q : Value → World → Prop} (h : L21_0 x0 x1 x4 x5 x18 x19 x20 w Q) : P21_0 x0 x1 x4 x5 x18 x19 x20 w Q :=
  part_lpE mixed entOk Try.func21 H21 (by kernel_rfl) h

noncomputable def C23 : Code := (Try.f23.body).getD .skip
noncomputable def H23 : Hints := ⟨[], [(9, [])], []⟩
noncomputable def T23_0 : List It := [.jn (nav [1, 1, 0, 1, 1, 2, 1, 1] C23), .jn (nav [1, 1, 1] C23)]
/-- (*rundale/model.Model).Do, from a join on -/
def P23_0 (w : World) (Q : Value → World → Prop) : Prop := Part Try.prog 23 T23_0 [] [] w Q
def F23 (a0 a1 a2 a3 a4 : Value) (w : World) (Q : Value → World → Prop) : Prop :=
  effv Try.prog (Instr.box 29 a2) w fun t7 w =>
  effv Try.prog (Instr.box 27 a3) w fun t8 w =>
  effv Try.prog (Instr.box 32 a4) w fun t9 w =>
  wpB (ldv Try.prog 29 t7 w) fun t15 =>
  CallR Try.prog 44 [a0, a1, t15] w fun t16 w =>
  wpB (pureRun Try.prog (Op.unary .not t16)) fun t17 =>
  cnd t17
  (Q (.bool false) w)
  (wpB (ldv Try.prog 29 t7 w) fun t21 =>
  wpB (ldv Try.prog 27 t8 w) fun t22 =>
  CallR Try.prog 37 [a0, a1, t21, t22] w fun t23 w =>
  wpB (pureRun Try.prog (Instr.extract t23 0)) fun t24 =>
  wpB (pureRun Try.prog (Instr.extract t23 1)) fun t25 =>
  effv Try.prog (Instr.alloc 32 true (.tuple #[])) w fun t11 w =>
  effu Try.prog (Instr.storeAt 32 t11 t24) w fun w =>
  cnd t25
  (wpB (ldv Try.prog 32 t9 w) fun t27 =>
  wpB (ldv Try.prog 32 t11 w) fun t28 =>
  wpB (be Try.prog .neq 32 (.tmp 27) (.tmp 28) t27 t28) fun t29 =>
  cnd t29
  (Q (.bool false) w)
  (wpB (pureRun Try.prog (Instr.fieldAt 32 t9 0)) fun t30 =>
  wpB (ldv Try.prog 30 t30 w) fun t31 =>
  wpB (be Try.prog .eql 30 (.tmp 31) (.const (.int .i64 0)) t31 (.int .i64 0)) fun t32 =>
  cnd t32
  (wpB (ldv Try.prog 29 t7 w) fun t35 =>
  wpB (ldv Try.prog 27 t8 w) fun t36 =>
  CallR Try.prog 45 [a0, a1, t35, t36] w fun t37 w =>
  P23_0 w Q)
  (P23_0 w Q)))
  (wpB (pureRun Try.prog (Instr.fieldAt 29 t7 0)) fun t38 =>
  wpB (ldv Try.prog 3 t38 w) fun t39 =>
  wpB (be Try.prog .eql 3 (.tmp 39) (.const (.int .i64 1)) t39 (.int .i64 1)) fun t40 =>
  cnd t40
  (wpB (pureRun Try.prog (Instr.fieldAt 29 t7 3)) fun t42 =>
  wpB (ldv Try.prog 3 t42 w) fun t43 =>
  wpB (ldv Try.prog 32 t9 w) fun t44 =>
  CallR Try.prog 46 [a0, t43, t44] w fun t45 w =>
  Q t45 w)
  (wpB (pureRun Try.prog (Instr.fieldAt 29 t7 3)) fun t47 =>
  wpB (ldv Try.prog 3 t47 w) fun t48 =>
  wpB (ldv Try.prog 27 t8 w) fun t49 =>
  wpB (ldv Try.prog 32 t9 w) fun t50 =>
  CallR Try.prog 47 [a0, t48, t49, t50] w fun t51 w =>
  Q t51 w)))
def L23_0 (w : World) (Q : Value → World → Prop) : Prop :=
  Q (.bool true) w
theorem F23_ok {a0 a1 a2 a3 a4 : Value} {w : World} {Q : Value → World → Prop} (h : F23 a0 a1 a2 a3 a4 w Q) : CallR Try.prog 23 [a0, a1, a2, a3, a4] w Q :=
  call_ofE mixed entOk Try.func23 (c := C23) rfl H23 (Nat.le_of_ble_eq_true rfl) (by kernel_rfl) h
theorem L23_0_ok {w : World} {Q : Value → World → Prop} (h : L23_0  w Q) : P23_0  w Q :=
  part_jnE mixed entOk Try.func23 H23 (by kernel_rfl) h

noncomputable def C31 : Code := (Try.f31.body).getD .skip
noncomputable def H31 : Hints := ⟨[], [], []⟩
def F31 (a0 a1 a2 : Value) (w : World) (Q : Value → World → Prop) : Prop :=
  wpB (bp Try.prog .geq 3 a0 a1) fun t9 =>
  wpB (gd t9 true (bp Try.prog .leq 3 (gv t9 true a0) (gv t9 true a2))) fun t13 =>
  wpB (pickv t9 (some t13) (some (.bool false))) fun t14 =>
  Q t14 w
theorem F31_ok {a0 a1 a2 : Value} {w : World} {Q : Value → World → Prop} (h : F31 a0 a1 a2 w Q) : CallR Try.prog 31 [a0, a1, a2] w Q :=
  call_ofE mixed entOk Try.func31 (c := C31) rfl H31 (Nat.le_of_ble_eq_true rfl) (by kernel_rfl) h

noncomputable def C32 : Code := (Try.f32.body).getD .skip
noncomputable def H32 : Hints := ⟨[], [], []⟩
def F32 (a0 : Value) (w : World) (Q : Value → World → Prop) : Prop :=
  effv Try.prog (Instr.box 34 a0) w fun t1 w =>
  wpB (pureRun Try.prog (Instr.fieldAt 34 t1 0)) fun t3 =>
  wpB (ldv Try.prog 3 t3 w) fun t4 =>
  wpB (bp Try.prog .lss 3 t4 (.int .i64 0)) fun t5 =>
  wpB (gd t5 false (pureRun Try.prog (Instr.fieldAt 34 t1 0))) fun t7 =>
  wpB (gd t5 false (ldv Try.prog 3 t7 w)) fun t8 =>
  wpB (gd t5 false (bp Try.prog .geq 3 t8 (.int .i64 64))) fun t9 =>
  wpB (pickv t5 (some (.bool true)) (some t9)) fun t10 =>
  wpB (gd t10 false (pureRun Try.prog (Instr.fieldAt 34 t1 3))) fun t12 =>
  wpB (gd t10 false (ldv Try.prog 3 t12 w)) fun t13 =>
  wpB (gd t10 false (bp Try.prog .lss 3 t13 (.int .i64 0))) fun t14 =>
  wpB (pickv t10 (some (.bool true)) (some t14)) fun t15 =>
  wpB (gd t15 false (pureRun Try.prog (Instr.fieldAt 34 t1 4))) fun t17 =>
  wpB (gd t15 false (ldv Try.prog 3 t17 w)) fun t18 =>
  wpB (gd t15 false (be Try.prog .neq 3 (.tmp 18) (.const (.int .i64 (-1))) t18 (.int .i64 (-1)))) fun t19 =>
  wpB (gd (gv t15 false t19) true (pureRun Try.prog (Instr.fieldAt 34 t1 4))) fun t21 =>
  wpB (gd (gv t15 false t19) true (ldv Try.prog 3 t21 w)) fun t22 =>
  wpB (gd (gv t15 false t19) true (pureRun Try.prog (Instr.fieldAt 34 t1 3))) fun t23 =>
  wpB (gd (gv t15 false t19) true (ldv Try.prog 3 t23 w)) fun t24 =>
  wpB (gd (gv t15 false t19) true (bp Try.prog .lss 3 t22 t24)) fun t25 =>
  wpB (gd t15 false (pickv (gv t15 false t19) (some t25) (some (.bool false)))) fun t26 =>
  wpB (pickv t15 (some (.bool true)) (some t26)) fun t27 =>
  cnd t27
  (Q (.bool false) w)
  (wpB (pureRun Try.prog (Instr.fieldAt 34 t1 5)) fun t28 =>
  wpB (ldv Try.prog 3 t28 w) fun t29 =>
  wpB (be Try.prog .neq 3 (.tmp 29) (.const (.int .i64 (-1))) t29 (.int .i64 (-1))) fun t30 =>
  wpB (gd t30 true (pureRun Try.prog (Instr.fieldAt 34 t1 4))) fun t32 =>
  wpB (gd t30 true (ldv Try.prog 3 t32 w)) fun t33 =>
  wpB (gd t30 true (be Try.prog .eql 3 (.tmp 33) (.const (.int .i64 (-1))) t33 (.int .i64 (-1)))) fun t34 =>
  wpB (gd (gv t30 true t34) false (pureRun Try.prog (Instr.fieldAt 34 t1 5))) fun t36 =>
  wpB (gd (gv t30 true t34) false (ldv Try.prog 3 t36 w)) fun t37 =>
  wpB (gd (gv t30 true t34) false (pureRun Try.prog (Instr.fieldAt 34 t1 4))) fun t38 =>
  wpB (gd (gv t30 true t34) false (ldv Try.prog 3 t38 w)) fun t39 =>
  wpB (gd (gv t30 true t34) false (bp Try.prog .leq 3 t37 t39)) fun t40 =>
  wpB (gd t30 true (pickv (gv t30 true t34) (some (.bool true)) (some t40))) fun t41 =>
  wpB (pickv t30 (some t41) (some (.bool false))) fun t42 =>
  cnd t42
  (Q (.bool false) w)
  (wpB (pureRun Try.prog (Instr.fieldAt 34 t1 6)) fun t43 =>
  wpB (ldv Try.prog 3 t43 w) fun t44 =>
  wpB (be Try.prog .eql 3 (.tmp 44) (.const (.int .i64 (-1))) t44 (.int .i64 (-1))) fun t45 =>
  wpB (gd t45 false (pureRun Try.prog (Instr.fieldAt 34 t1 4))) fun t47 =>
  wpB (gd t45 false (ldv Try.prog 3 t47 w)) fun t48 =>
  wpB (gd t45 false (be Try.prog .neq 3 (.tmp 48) (.const (.int .i64 (-1))) t48 (.int .i64 (-1)))) fun t49 =>
  wpB (gd (gv t45 false t49) true (pureRun Try.prog (Instr.fieldAt 34 t1 6))) fun t51 =>
  wpB (gd (gv t45 false t49) true (ldv Try.prog 3 t51 w)) fun t52 =>
  wpB (gd (gv t45 false t49) true (pureRun Try.prog (Instr.fieldAt 34 t1 3))) fun t53 =>
  wpB (gd (gv t45 false t49) true (ldv Try.prog 3 t53 w)) fun t54 =>
  wpB (gd (gv t45 false t49) true (pureRun Try.prog (Instr.fieldAt 34 t1 4))) fun t55 =>
  wpB (gd (gv t45 false t49) true (ldv Try.prog 3 t55 w)) fun t56 =>
  wpB (gd (gv t45 false t49) true (pureRun Try.prog (Instr.fieldAt 34 t1 5))) fun t57 =>
  wpB (gd (gv t45 false t49) true (ldv Try.prog 3 t57 w)) fun t58 =>
  wpB (gd (gv t45 false t49) true (pureRun Try.prog (Builtin.max_ #[3, 3, 3] 3 #[t54, t56, t58]))) fun t59 =>
  wpB (gd (gv t45 false t49) true (bp Try.prog .geq 3 t52 t59)) fun t60 =>
  wpB (gd t45 false (pickv (gv t45 false t49) (some t60) (some (.bool false)))) fun t61 =>
  wpB (pickv t45 (some (.bool true)) (some t61)) fun t62 =>
  Q t62 w))
theorem F32_ok {a0 : Value} {w : World} {Q : Value → World → Prop} (h : F32 a0 w Q) : CallR Try.prog 32 [a0] w Q :=
  call_ofE mixed entOk Try.func32 (c := C32) rfl H32 (Nat.le_of_ble_eq_true rfl) (by kernel_rfl) h

noncomputable def C33 : Code := (Try.f33.body).getD .skip
noncomputable def H33 : Hints := ⟨[], [], []⟩
def F33 (a0 a1 : Value) (w : World) (Q : Value → World → Prop) : Prop :=
  effv Try.prog (Instr.box 34 a0) w fun t2 w =>
  effv Try.prog (Instr.box 34 a1) w fun t3 w =>
  wpB (pureRun Try.prog (Instr.fieldAt 34 t2 6)) fun t5 =>
  wpB (ldv Try.prog 3 t5 w) fun t6 =>
  wpB (bp Try.prog .geq 3 t6 (.int .i64 0)) fun t7 =>
  wpB (gd t7 true (pureRun Try.prog (Instr.fieldAt 34 t2 6))) fun t9 =>
  wpB (gd t7 true (ldv Try.prog 3 t9 w)) fun t10 =>
  wpB (gd t7 true (pureRun Try.prog (Instr.fieldAt 34 t3 3))) fun t11 =>
  wpB (gd t7 true (ldv Try.prog 3 t11 w)) fun t12 =>
  wpB (gd t7 true (bp Try.prog .lss 3 t10 t12)) fun t13 =>
  wpB (pickv t7 (some t13) (some (.bool false))) fun t14 =>
  Q t14 w
theorem F33_ok {a0 a1 : Value} {w : World} {Q : Value → World → Prop} (h : F33 a0 a1 w Q) : CallR Try.prog 33 [a0, a1] w Q :=
  call_ofE mixed entOk Try.func33 (c := C33) rfl H33 (Nat.le_of_ble_eq_true rfl) (by kernel_rfl) h

noncomputable def C34 : Code := (Try.f34.body).getD .skip
noncomputable def H34 : Hints := ⟨[(3, [5, 25, 26, 27])], [], []⟩
noncomputable def T34_0 : List It := [.lp (nav [1, 1, 0, 1, 4, 5] C34), .blk 0, .jn (nav [1, 1, 1] C34)]
/-- rundale/record.shared, from a loop's head on -/
def P34_0 (x5 x25 x26 x27 : Value) (w : World) (Q : Value → World → Prop) : Prop := Part Try.prog 34 T34_0 [5, 25, 26, 27] [x5, x25, x26, x27] w Q
def F34 (a0 a1 : Value) (w : World) (Q : Value → World → Prop) : Prop :=
  effv Try.prog (Instr.box 34 a0) w fun t2 w =>
  effv Try.prog (Instr.box 34 a1) w fun t3 w =>
  wpB (pureRun Try.prog (Instr.fieldAt 34 t2 3)) fun t8 =>
  wpB (ldv Try.prog 3 t8 w) fun t9 =>
  wpB (pureRun Try.prog (Instr.fieldAt 34 t2 4)) fun t10 =>
  wpB (ldv Try.prog 3 t10 w) fun t11 =>
  wpB (pureRun Try.prog (Instr.fieldAt 34 t2 5)) fun t12 =>
  wpB (ldv Try.prog 3 t12 w) fun t13 =>
  wpB (pureRun Try.prog (Instr.fieldAt 34 t2 6)) fun t14 =>
  wpB (ldv Try.prog 3 t14 w) fun t15 =>
  effv Try.prog (Instr.buildSlice 36 4 #[(0, t9), (1, t11), (2, t13), (3, t15)]) w fun t16 w =>
  wpB (pureRun Try.prog (Instr.fieldAt 34 t3 3)) fun t17 =>
  wpB (ldv Try.prog 3 t17 w) fun t18 =>
  wpB (pureRun Try.prog (Instr.fieldAt 34 t3 4)) fun t19 =>
  wpB (ldv Try.prog 3 t19 w) fun t20 =>
  wpB (pureRun Try.prog (Instr.fieldAt 34 t3 5)) fun t21 =>
  wpB (ldv Try.prog 3 t21 w) fun t22 =>
  wpB (pureRun Try.prog (Instr.fieldAt 34 t3 6)) fun t23 =>
  wpB (ldv Try.prog 3 t23 w) fun t24 =>
  effv Try.prog (Instr.buildSlice 36 4 #[(0, t18), (1, t20), (2, t22), (3, t24)]) w fun t25 w =>
  wpB (pureRun Try.prog (Builtin.len_ #[36] 3 #[t25])) fun t26 =>
  P34_0 t16 t25 t26 (.int .i64 0) w Q
def L34_0 (x5 x25 x26 x27 : Value) (w : World) (Q : Value → World → Prop) : Prop :=
  wpB (bp Try.prog .lss 3 x27 x26) fun t28 =>
  cnd t28
  (wpB (pureRun Try.prog (Instr.indexAt 36 x25 x27)) fun t29 =>
  wpB (ldv Try.prog 3 t29 w) fun t30 =>
  wpB (be Try.prog .neq 3 (.tmp 31) (.const (.int .i64 (-1))) t30 (.int .i64 (-1))) fun t32 =>
  gE t32 true (CallR Try.prog 54 [(gv t32 true x5), (gv t32 true t30)] w) (fun t36 w =>
  wpB (pickv t32 (some t36) (some (.bool false))) fun t37 =>
  cnd t37
  (Q (.bool true) w)
  (wpB (bp Try.prog .add 3 x27 (.int .i64 1)) fun t38 =>
  P34_0 x5 x25 x26 t38 w Q)) w)
  (Q (.bool false) w)
theorem F34_ok {a0 a1 : Value} {w : World} {Q : Value → World → Prop} (h : F34 a0 a1 w Q) : CallR Try.prog 34 [a0, a1] w Q :=
  call_ofE mixed entOk Try.func34 (c := C34) rfl H34 (Nat.le_of_ble_eq_true rfl) (by kernel_rfl) h
theorem L34_0_ok {x5 x25 x26 x27 : Value} {w : World} {Q : Value → World → Prop} (h : L34_0 x5 x25 x26 x27 w Q) : P34_0 x5 x25 x26 x27 w Q :=
  part_lpE mixed entOk Try.func34 H34 (by kernel_rfl) h

noncomputable def C35 : Code := (Try.f35.body).getD .skip
noncomputable def H35 : Hints := ⟨[(2, [0, 8, 9, 10])], [], []⟩
noncomputable def T35_0 : List It := [.lp (nav [1, 0, 1, 4, 5] C35), .blk 0, .jn (nav [1, 1] C35)]
/-- (*rundale/search.seeker).over, from a loop's head on -/
def P35_0 (x0 x8 x9 x10 : Value) (w : World) (Q : Value → World → Prop) : Prop := Part Try.prog 35 T35_0 [0, 8, 9, 10] [x0, x8, x9, x10] w Q
def F35 (a0 : Value) (w : World) (Q : Value → World → Prop) : Prop :=
  wpB (nilv a0) fun t6 =>
  wpB (pureRun Try.prog (Instr.fieldAt 50 t6 0)) fun t7 =>
  wpB (ldv Try.prog 35 t7 w) fun t8 =>
  wpB (pureRun Try.prog (Builtin.len_ #[35] 3 #[t8])) fun t9 =>
  P35_0 a0 t8 t9 (.int .i64 0) w Q
def L35_0 (x0 x8 x9 x10 : Value) (w : World) (Q : Value → World → Prop) : Prop :=
  wpB (bp Try.prog .lss 3 x10 x9) fun t11 =>
  cnd t11
  (wpB (pureRun Try.prog (Instr.indexAt 35 x8 x10)) fun t13 =>
  wpB (ldv Try.prog 34 t13 w) fun t14 =>
  effv Try.prog (Instr.alloc 34 true (.tuple #[])) w fun t4 w =>
  effu Try.prog (Instr.storeAt 34 t4 t14) w fun w =>
  wpB (pureRun Try.prog (Instr.fieldAt 34 t4 6)) fun t15 =>
  wpB (ldv Try.prog 3 t15 w) fun t16 =>
  wpB (bp Try.prog .geq 3 t16 (.int .i64 0)) fun t17 =>
  gE t17 true (CallR Try.prog 55 [(gv t17 true x0), (gv t17 true x10)] w) (fun t21 w =>
  wpB (gd t17 true (pureRun Try.prog (Op.unary .not t21))) fun t22 =>
  wpB (pickv t17 (some t22) (some (.bool false))) fun t23 =>
  cnd t23
  (Q (.bool false) w)
  (wpB (bp Try.prog .add 3 x10 (.int .i64 1)) fun t24 =>
  P35_0 x0 x8 x9 t24 w Q)) w)
  (Q (.bool true) w)
theorem F35_ok {a0 : Value} {w : World} {Q : Value → World → Prop} (h : F35 a0 w Q) : CallR Try.prog 35 [a0] w Q :=
  call_ofE mixed entOk Try.func35 (c := C35) rfl H35 (Nat.le_of_ble_eq_true rfl) (by kernel_rfl) h
theorem L35_0_ok {x0 x8 x9 x10 : Value} {w : World} {Q : Value → World → Prop} (h : L35_0 x0 x8 x9 x10 w Q) : P35_0 x0 x8 x9 x10 w Q :=
  part_lpE mixed entOk Try.func35 H35 (by kernel_rfl) h

noncomputable def C36 : Code := (Try.f36.body).getD .skip
noncomputable def H36 : Hints := ⟨[(2, [0, 1, 10, 11, 12])], [], [(4, (.leaf [0, 1, 2, 3, 4, 5, 6, 7, 8, 9, 10, 11, 12, 13, 14, 15, 16, 17, 18, 19]))]⟩
noncomputable def T36_0 : List It := [.lp (nav [1, 0, 1, 4, 5] C36), .blk 0, .jn (nav [1, 1] C36)]
/-- (*rundale/search.seeker).may, from a loop's head on -/
def P36_0 (x0 x1 x10 x11 x12 : Value) (w : World) (Q : Value → World → Prop) : Prop := Part Try.prog 36 T36_0 [0, 1, 10, 11, 12] [x0, x1, x10, x11, x12] w Q
def F36 (a0 a1 : Value) (w : World) (Q : Value → World → Prop) : Prop :=
  wpB (nilv a0) fun t8 =>
  wpB (pureRun Try.prog (Instr.fieldAt 50 t8 0)) fun t9 =>
  wpB (ldv Try.prog 35 t9 w) fun t10 =>
  wpB (pureRun Try.prog (Builtin.len_ #[35] 3 #[t10])) fun t11 =>
  P36_0 a0 a1 t10 t11 (.int .i64 0) w Q
def L36_0 (x0 x1 x10 x11 x12 : Value) (w : World) (Q : Value → World → Prop) : Prop :=
  wpB (bp Try.prog .lss 3 x12 x11) fun t13 =>
  cnd t13
  (wpB (pureRun Try.prog (Instr.indexAt 35 x10 x12)) fun t15 =>
  wpB (ldv Try.prog 34 t15 w) fun t16 =>
  effv Try.prog (Instr.alloc 34 true (.tuple #[])) w fun t6 w =>
  effu Try.prog (Instr.storeAt 34 t6 t16) w fun w =>
  wpB (pureRun Try.prog (Instr.fieldAt 34 t6 6)) fun t17 =>
  wpB (ldv Try.prog 3 t17 w.drew) fun t18 =>
  wpB (bp Try.prog .geq 3 t18 (.int .i64 0)) fun t19 =>
  gE t19 true (CallR Try.prog 55 [(gv t19 true x0), (gv t19 true x12)] w.drew) (fun t23 w =>
  wpB (gd t19 true (pureRun Try.prog (Op.unary .not t23))) fun t24 =>
  wpB (pickv t19 (some t24) (some (.bool false))) fun t25 =>
  wpB (gd t25 true (ldv Try.prog 34 t6 w)) fun t27 =>
  wpB (gd t25 true (nilv (gv t25 true x0))) fun t29 =>
  wpB (gd t25 true (pureRun Try.prog (Instr.fieldAt 50 t29 0))) fun t30 =>
  wpB (gd t25 true (ldv Try.prog 35 t30 w)) fun t31 =>
  wpB (gd t25 true (pureRun Try.prog (Instr.indexAt 35 t31 (gv t25 true x1)))) fun t33 =>
  wpB (gd t25 true (ldv Try.prog 34 t33 w)) fun t34 =>
  gE t25 true (CallR Try.prog 33 [t27, t34] w) (fun t35 w =>
  wpB (pickv t25 (some t35) (some (.bool false))) fun t36 =>
  cnd t36
  (Q (.bool false) w)
  (wpB (bp Try.prog .add 3 x12 (.int .i64 1)) fun t37 =>
  P36_0 x0 x1 x10 x11 t37 w Q)) w) w.drew)
  (CallR Try.prog 55 [x0, x1] w fun t40 w =>
  wpB (pureRun Try.prog (Op.unary .not t40)) fun t41 =>
  Q t41 w)
theorem F36_ok {a0 a1 : Value} {w : World} {Q : Value → World → Prop} (h : F36 a0 a1 w Q) : CallR Try.prog 36 [a0, a1] w Q :=
  call_ofE mixed entOk Try.func36 (c := C36) rfl H36 (Nat.le_of_ble_eq_true rfl) (by kernel_rfl) h
theorem L36_0_ok {x0 x1 x10 x11 x12 : Value} {w : World} {Q : Value → World → Prop} (h : L36_0 x0 x1 x10 x11 x12 w Q) : P36_0 x0 x1 x10 x11 x12 w Q :=
  part_lpE mixed entOk Try.func36 H36 (by kernel_rfl) h

noncomputable def C37 : Code := (Try.f37.body).getD .skip
noncomputable def H37 : Hints := ⟨[], [(9, [0, 6, 7, 8, 10, 28, 29]), (12, [0, 6, 7, 8, 10, 28, 33]), (15, [8, 10, 55]), (18, [8, 10])], [(14, (.ask 8 4 (.leaf [0, 2, 7, 1, 3, 8, 4, 5, 6, 9]) (.leaf [0, 1, 2, 3, 4, 5, 6, 7, 8, 9])))]⟩
noncomputable def T37_0 : List It := [.jn (nav [1, 1, 1, 1, 0, 1, 4, 1] C37), .blk 0, .jn (nav [1, 1, 1, 1, 1] C37)]
noncomputable def T37_1 : List It := [.jn (nav [1, 1, 1, 1, 0, 1, 4, 1, 3, 1] C37), .blk 0, .jn (nav [1, 1, 1, 1, 1] C37)]
noncomputable def T37_2 : List It := [.jn (nav [1, 1, 1, 1, 1] C37)]
noncomputable def T37_3 : List It := [.jn (nav [1, 1, 1, 1, 0, 1, 4, 1, 3, 1, 3, 1, 2, 1] C37), .blk 0, .jn (nav [1, 1, 1, 1, 1] C37)]
/-- (*rundale/model.Model).Must, from a join on -/
def P37_0 (x0 x6 x7 x8 x10 x28 x29 : Value) (w : World) (Q : Value → World → Prop) : Prop := Part Try.prog 37 T37_0 [0, 6, 7, 8, 10, 28, 29] [x0, x6, x7, x8, x10, x28, x29] w Q
/-- (*rundale/model.Model).Must, from a join on -/
def P37_1 (x0 x6 x7 x8 x10 x28 x33 : Value) (w : World) (Q : Value → World → Prop) : Prop := Part Try.prog 37 T37_1 [0, 6, 7, 8, 10, 28, 33] [x0, x6, x7, x8, x10, x28, x33] w Q
/-- (*rundale/model.Model).Must, from a join on -/
def P37_2 (x8 x10 : Value) (w : World) (Q : Value → World → Prop) : Prop := Part Try.prog 37 T37_2 [8, 10] [x8, x10] w Q
/-- (*rundale/model.Model).Must, from a join on -/
def P37_3 (x8 x10 x55 : Value) (w : World) (Q : Value → World → Prop) : Prop := Part Try.prog 37 T37_3 [8, 10, 55] [x8, x10, x55] w Q
def F37 (a0 a1 a2 a3 : Value) (w : World) (Q : Value → World → Prop) : Prop :=
  effv Try.prog (Instr.box 29 a2) w fun t6 w =>
  effv Try.prog (Instr.box 27 a3) w fun t7 w =>
  effv Try.prog (Instr.alloc 32 true (.tuple #[])) w fun t8 w =>
  wpB (ldv Try.prog 29 t6 w) fun t13 =>
  CallR Try.prog 44 [a0, a1, t13] w fun t14 w =>
  wpB (pureRun Try.prog (Op.unary .not t14)) fun t15 =>
  cnd t15
  (wpB (pureRun Try.prog (Instr.build 32 #[])) fun t16 =>
  effu Try.prog (Instr.storeAt 32 t8 t16) w fun w =>
  wpB (ldv Try.prog 32 t8 w) fun r8 => Q (.tuple #[r8, (.bool false)]) w)
  (wpB (ldv Try.prog 29 t6 w) fun t19 =>
  wpB (ldv Try.prog 27 t7 w) fun t20 =>
  CallR Try.prog 56 [a0, a1, t19, t20] w fun t21 w =>
  wpB (pureRun Try.prog (Instr.build 32 #[(0, t21)])) fun t22 =>
  effv Try.prog (Instr.alloc 32 true (.tuple #[])) w fun t10 w =>
  effu Try.prog (Instr.storeAt 32 t10 t22) w fun w =>
  wpB (pureRun Try.prog (Instr.fieldAt 32 t10 0)) fun t23 =>
  wpB (ldv Try.prog 30 t23 w) fun t24 =>
  wpB (be Try.prog .neq 30 (.tmp 24) (.const (.int .i64 0)) t24 (.int .i64 0)) fun t25 =>
  cnd t25
  (wpB (ldv Try.prog 32 t10 w) fun t26 =>
  effu Try.prog (Instr.storeAt 32 t8 t26) w fun w =>
  wpB (ldv Try.prog 32 t8 w) fun r8_1 => Q (.tuple #[r8_1, (.bool true)]) w)
  (wpB (pureRun Try.prog (Instr.fieldAt 29 t6 0)) fun t27 =>
  wpB (ldv Try.prog 3 t27 w) fun t28 =>
  wpB (be Try.prog .eql 3 (.tmp 28) (.const (.int .i64 1)) t28 (.int .i64 1)) fun t30 =>
  cnd t30
  (P37_0 a0 t6 t7 t8 t10 t28 t30 w Q)
  (wpB (be Try.prog .eql 3 (.tmp 28) (.const (.int .i64 2)) t28 (.int .i64 2)) fun t31 =>
  P37_0 a0 t6 t7 t8 t10 t28 t31 w Q)))
def L37_0 (x0 x6 x7 x8 x10 x28 x29 : Value) (w : World) (Q : Value → World → Prop) : Prop :=
  cnd x29
  (wpB (pureRun Try.prog (Instr.build 32 #[])) fun t32 =>
  effu Try.prog (Instr.storeAt 32 x8 t32) w fun w =>
  wpB (ldv Try.prog 32 x8 w) fun r8 => Q (.tuple #[r8, (.bool false)]) w)
  (wpB (be Try.prog .eql 3 (.tmp 28) (.const (.int .i64 6)) x28 (.int .i64 6)) fun t34 =>
  cnd t34
  (P37_1 x0 x6 x7 x8 x10 x28 t34 w Q)
  (wpB (be Try.prog .eql 3 (.tmp 28) (.const (.int .i64 8)) x28 (.int .i64 8)) fun t35 =>
  P37_1 x0 x6 x7 x8 x10 x28 t35 w Q))
def L37_1 (x0 x6 x7 x8 x10 x28 x33 : Value) (w : World) (Q : Value → World → Prop) : Prop :=
  cnd x33
  (wpB (ldv Try.prog 27 x7 w) fun t37 =>
  wpB (pureRun Try.prog (Instr.fieldAt 29 x6 3)) fun t38 =>
  wpB (ldv Try.prog 3 t38 w) fun t39 =>
  CallR Try.prog 57 [x0, t37, t39] w fun t40 w =>
  wpB (nilv t40) fun t41 =>
  wpB (ldv Try.prog 22 t41 w) fun t42 =>
  wpB (pureRun Try.prog (Instr.fieldAt 32 x10 3)) fun t43 =>
  effu Try.prog (Instr.storeAt 22 t43 t42) w fun w =>
  P37_2 x8 x10 w Q)
  (wpB (be Try.prog .eql 3 (.tmp 28) (.const (.int .i64 9)) x28 (.int .i64 9)) fun t45 =>
  cnd t45
  ((wpB (pureRun Try.prog (Instr.fieldAt 29 x6 3)) fun t48 =>
  wpB (pureRun Try.prog (Instr.fieldAt 29 x6 4)) fun t53 =>
  wpB (ldv Try.prog 27 x7 w.drew) fun t47 =>
  wpB (ldv Try.prog 3 t48 w.drew) fun t49 =>
  wpB (ldv Try.prog 22 t53 w.drew) fun t54 =>
  CallR Try.prog 57 [x0, t47, t49] w.drew fun t50 w =>
  wpB (nilv t50) fun t51 =>
  wpB (ldv Try.prog 22 t51 w) fun t52 =>
  wpB (be Try.prog .eql 22 (.tmp 52) (.tmp 54) t52 t54) fun t55 =>
  P37_3 x8 x10 t55 w Q) ∧
  (wpB (ldv Try.prog 27 x7 w.drew) fun t47_1 =>
  wpB (pureRun Try.prog (Instr.fieldAt 29 x6 3)) fun t48_1 =>
  wpB (ldv Try.prog 3 t48_1 w.drew) fun t49_1 =>
  CallR Try.prog 57 [x0, t47_1, t49_1] w.drew fun t50_1 w =>
  wpB (nilv t50_1) fun t51_1 =>
  wpB (ldv Try.prog 22 t51_1 w) fun t52_1 =>
  wpB (pureRun Try.prog (Instr.fieldAt 29 x6 4)) fun t53_1 =>
  wpB (ldv Try.prog 22 t53_1 w) fun t54_1 =>
  wpB (be Try.prog .eql 22 (.tmp 52) (.tmp 54) t52_1 t54_1) fun t55_1 =>
  P37_3 x8 x10 t55_1 w Q))
  (wpB (be Try.prog .eql 3 (.tmp 28) (.const (.int .i64 12)) x28 (.int .i64 12)) fun t58 =>
  cnd t58
  (wpB (ldv Try.prog 27 x7 w) fun t60 =>
  CallR Try.prog 59 [t60] w fun t61 w =>
  CallR Try.prog 58 [x0, t61] w fun t62 w =>
  wpB (nilv t62) fun t63 =>
  wpB (pureRun Try.prog (Instr.fieldAt 98 t63 2)) fun t64 =>
  wpB (ldv Try.prog 3 t64 w) fun t65 =>
  wpB (pureRun Try.prog (Instr.fieldAt 32 x10 2)) fun t66 =>
  effu Try.prog (Instr.storeAt 3 t66 t65) w fun w =>
  P37_2 x8 x10 w Q)
  (P37_2 x8 x10 w Q)))
def L37_2 (x8 x10 : Value) (w : World) (Q : Value → World → Prop) : Prop :=
  wpB (ldv Try.prog 32 x10 w) fun t67 =>
  effu Try.prog (Instr.storeAt 32 x8 t67) w fun w =>
  wpB (ldv Try.prog 32 x8 w) fun r8 => Q (.tuple #[r8, (.bool true)]) w
def L37_3 (x8 x10 x55 : Value) (w : World) (Q : Value → World → Prop) : Prop :=
  cnd x55
  (wpB (pureRun Try.prog (Instr.fieldAt 32 x10 2)) fun t56 =>
  effu Try.prog (Instr.storeAt 3 t56 (.int .i64 1)) w fun w =>
  P37_2 x8 x10 w Q)
  (P37_2 x8 x10 w Q)
theorem F37_ok {a0 a1 a2 a3 : Value} {w : World} {Q : Value → World → Prop} (h : F37 a0 a1 a2 a3 w Q) : CallR Try.prog 37 [a0, a1, a2, a3] w Q :=
  call_ofE mixed entOk Try.func37 (c := C37) rfl H37 (Nat.le_of_ble_eq_true rfl) (by kernel_rfl) h
theorem L37_0_ok {x0 x6 x7 x8 x10 x28 x29 : Value} {w : World} {Q : Value → World → Prop} (h : L37_0 x0 x6 x7 x8 x10 x28 x29 w Q) : P37_0 x0 x6 x7 x8 x10 x28 x29 w Q :=
  part_jnE mixed entOk Try.func37 H37 (by kernel_rfl) h
theorem L37_1_ok {x0 x6 x7 x8 x10 x28 x33 : Value} {w : World} {Q : Value → World → Prop} (h : L37_1 x0 x6 x7 x8 x10 x28 x33 w Q) : P37_1 x0 x6 x7 x8 x10 x28 x33 w Q :=
  part_jnE mixed entOk Try.func37 H37 (by kernel_rfl) h
theorem L37_2_ok {x8 x10 : Value} {w : World} {Q : Value → World → Prop} (h : L37_2 x8 x10 w Q) : P37_2 x8 x10 w Q :=
  part_jnE mixed entOk Try.func37 H37 (by kernel_rfl) h
theorem L37_3_ok {x8 x10 x55 : Value} {w : World} {Q : Value → World → Prop} (h : L37_3 x8 x10 x55 w Q) : P37_3 x8 x10 x55 w Q :=
  part_jnE mixed entOk Try.func37 H37 (by kernel_rfl) h

noncomputable def C38 : Code := (Try.f38.body).getD .skip
noncomputable def H38 : Hints := ⟨[(5, [0, 3, 26, 27]), (11, [3, 51, 52]), (16, [3, 6, 51, 52, 86, 87, 88])], [(8, [0, 3, 26, 27]), (15, [3, 6, 51, 52]), (19, [3, 6, 51, 52, 86, 87, 88])], [(7, (.ask 1 9 (.leaf [0, 1, 2, 3, 4, 5, 6, 7, 8, 9, 10, 11, 12]) (.leaf [0, 2, 3, 5, 4, 6, 7, 8, 9, 1, 10, 11, 12]))), (14, (.ask 11 7 (.ask 16 7 (.leaf [0, 1, 2, 3, 4, 5, 8, 9, 10, 13, 14, 15, 6, 11, 16, 7, 12, 17, 18, 19, 20, 21, 22, 23, 24, 25, 26]) (.ask 16 12 (.leaf [0, 1, 2, 3, 4, 5, 8, 9, 10, 13, 14, 15, 6, 11, 7, 16, 12, 17, 18, 19, 20, 21, 22, 23, 24, 25, 26]) (.leaf [0, 1, 2, 3, 4, 5, 8, 9, 10, 13, 14, 15, 6, 11, 7, 12, 16, 17, 18, 19, 20, 21, 22, 23, 24, 25, 26]))) (.ask 16 7 (.leaf [0, 1, 2, 3, 4, 5, 8, 9, 10, 13, 14, 15, 6, 16, 7, 11, 12, 17, 18, 19, 20, 21, 22, 23, 24, 25, 26]) (.ask 16 12 (.leaf [0, 1, 2, 3, 4, 5, 8, 9, 10, 13, 14, 15, 6, 7, 11, 16, 12, 17, 18, 19, 20, 21, 22, 23, 24, 25, 26]) (.leaf [0, 1, 2, 3, 4, 5, 6, 7, 8, 9, 10, 11, 12, 13, 14, 15, 16, 17, 18, 19, 20, 21, 22, 23, 24, 25, 26]))))), (18, (.ask 3 6 (.leaf [0, 1, 2, 3, 4, 5, 6, 7, 8]) (.leaf [0, 1, 2, 4, 5, 6, 3, 7, 8])))]⟩
noncomputable def T38_0 : List It := [.lp (nav [1, 1, 1, 1, 0, 1, 4, 5] C38), .blk 0, .jn (nav [1, 1, 1, 1, 1] C38)]
noncomputable def T38_1 : List It := [.jn (nav [1, 1, 1, 1, 0, 1, 4, 5, 1, 1, 1] C38), .lp (nav [1, 1, 1, 1, 0, 1, 4, 5] C38), .blk 0, .jn (nav [1, 1, 1, 1, 1] C38)]
noncomputable def T38_2 : List It := [.lp (nav [1, 1, 1, 1, 1, 1, 0, 1, 4, 5] C38), .blk 2, .jn (nav [1, 1, 1, 1, 1, 1, 1] C38)]
noncomputable def T38_3 : List It := [.jn (nav [1, 1, 1, 1, 1, 1, 0, 1, 4, 5, 1, 1, 0, 4, 1, 1, 1] C38), .blk 3, .jn (nav [1, 1, 1, 1, 1, 1, 0, 1, 4, 5, 1, 1, 1] C38), .lp (nav [1, 1, 1, 1, 1, 1, 0, 1, 4, 5] C38), .blk 2, .jn (nav [1, 1, 1, 1, 1, 1, 1] C38)]
noncomputable def T38_4 : List It := [.lp (nav [1, 1, 1, 1, 1, 1, 0, 1, 4, 5, 1, 1, 0, 4, 1, 1, 1, 1, 4, 5] C38), .blk 4, .blk 3, .jn (nav [1, 1, 1, 1, 1, 1, 0, 1, 4, 5, 1, 1, 1] C38), .lp (nav [1, 1, 1, 1, 1, 1, 0, 1, 4, 5] C38), .blk 2, .jn (nav [1, 1, 1, 1, 1, 1, 1] C38)]
noncomputable def T38_5 : List It := [.jn (nav [1, 1, 1, 1, 1, 1, 0, 1, 4, 5, 1, 1, 0, 4, 1, 1, 1, 1, 4, 5, 1, 1, 1] C38), .lp (nav [1, 1, 1, 1, 1, 1, 0, 1, 4, 5, 1, 1, 0, 4, 1, 1, 1, 1, 4, 5] C38), .blk 4, .blk 3, .jn (nav [1, 1, 1, 1, 1, 1, 0, 1, 4, 5, 1, 1, 1] C38), .lp (nav [1, 1, 1, 1, 1, 1, 0, 1, 4, 5] C38), .blk 2, .jn (nav [1, 1, 1, 1, 1, 1, 1] C38)]
/-- (*rundale/model.Model).Copy, from a loop's head on -/
def P38_0 (x0 x3 x26 x27 : Value) (w : World) (Q : Value → World → Prop) : Prop := Part Try.prog 38 T38_0 [0, 3, 26, 27] [x0, x3, x26, x27] w Q
/-- (*rundale/model.Model).Copy, from a join on -/
def P38_1 (x0 x3 x26 x27 : Value) (w : World) (Q : Value → World → Prop) : Prop := Part Try.prog 38 T38_1 [0, 3, 26, 27] [x0, x3, x26, x27] w Q
/-- (*rundale/model.Model).Copy, from a loop's head on -/
def P38_2 (x3 x51 x52 : Value) (w : World) (Q : Value → World → Prop) : Prop := Part Try.prog 38 T38_2 [3, 51, 52] [x3, x51, x52] w Q
/-- (*rundale/model.Model).Copy, from a join on -/
def P38_3 (x3 x6 x51 x52 : Value) (w : World) (Q : Value → World → Prop) : Prop := Part Try.prog 38 T38_3 [3, 6, 51, 52] [x3, x6, x51, x52] w Q
/-- (*rundale/model.Model).Copy, from a loop's head on -/
def P38_4 (x3 x6 x51 x52 x86 x87 x88 : Value) (w : World) (Q : Value → World → Prop) : Prop := Part Try.prog 38 T38_4 [3, 6, 51, 52, 86, 87, 88] [x3, x6, x51, x52, x86, x87, x88] w Q
/-- (*rundale/model.Model).Copy, from a join on -/
def P38_5 (x3 x6 x51 x52 x86 x87 x88 : Value) (w : World) (Q : Value → World → Prop) : Prop := Part Try.prog 38 T38_5 [3, 6, 51, 52, 86, 87, 88] [x3, x6, x51, x52, x86, x87, x88] w Q
def F38 (a0 : Value) (w : World) (Q : Value → World → Prop) : Prop :=
  wpB (nilv a0) fun t10 =>
  wpB (ldv Try.prog 72 t10 w) fun t11 =>
  effv Try.prog (Instr.alloc 72 true (.tuple #[])) w fun t3 w =>
  effu Try.prog (Instr.storeAt 72 t3 t11) w fun w =>
  wpB (nilv a0) fun t13 =>
  wpB (pureRun Try.prog (Instr.fieldAt 72 t13 2)) fun t14 =>
  wpB (ldv Try.prog 68 t14 w) fun t15 =>
  CallR Try.prog 60 [t15] w fun t16 w =>
  wpB (pureRun Try.prog (Instr.fieldAt 72 t3 2)) fun t17 =>
  effu Try.prog (Instr.storeAt 68 t17 t16) w fun w =>
  wpB (nilv a0) fun t19 =>
  wpB (pureRun Try.prog (Instr.fieldAt 72 t19 4)) fun t20 =>
  wpB (ldv Try.prog 70 t20 w) fun t21 =>
  CallR Try.prog 61 [t21] w fun t22 w =>
  wpB (pureRun Try.prog (Instr.fieldAt 72 t3 4)) fun t23 =>
  effu Try.prog (Instr.storeAt 70 t23 t22) w fun w =>
  wpB (pureRun Try.prog (Instr.fieldAt 72 t3 4)) fun t24 =>
  wpB (ldv Try.prog 70 t24 w) fun t25 =>
  wpB (pureRun Try.prog (Builtin.len_ #[70] 3 #[t25])) fun t26 =>
  P38_0 a0 t3 t26 (.int .i64 0) w Q
def L38_0 (x0 x3 x26 x27 : Value) (w : World) (Q : Value → World → Prop) : Prop :=
  wpB (bp Try.prog .lss 3 x27 x26) fun t28 =>
  cnd t28
  ((wpB (pureRun Try.prog (Instr.fieldAt 72 x3 4)) fun t30 =>
  wpB (ldv Try.prog 70 t30 w.drew) fun t31 =>
  wpB (pureRun Try.prog (Instr.fieldAt 72 x3 4)) fun t33 =>
  wpB (ldv Try.prog 70 t33 w.drew) fun t34 =>
  wpB (pureRun Try.prog (Instr.indexAt 70 t34 x27)) fun t36 =>
  wpB (pureRun Try.prog (Instr.fieldAt 106 t36 1)) fun t37 =>
  wpB (ldv Try.prog 104 t37 w.drew) fun t38 =>
  CallR Try.prog 62 [t38] w.drew fun t39 w =>
  wpB (pureRun Try.prog (Instr.indexAt 70 t31 x27)) fun t40 =>
  wpB (pureRun Try.prog (Instr.fieldAt 106 t40 1)) fun t41 =>
  effu Try.prog (Instr.storeAt 104 t41 t39) w fun w =>
  P38_1 x0 x3 x26 x27 w Q) ∧
  (wpB (pureRun Try.prog (Instr.fieldAt 72 x3 4)) fun t30_1 =>
  wpB (pureRun Try.prog (Instr.fieldAt 72 x3 4)) fun t33_1 =>
  wpB (ldv Try.prog 70 t33_1 w.drew) fun t34_1 =>
  wpB (pureRun Try.prog (Instr.indexAt 70 t34_1 x27)) fun t36_1 =>
  wpB (pureRun Try.prog (Instr.fieldAt 106 t36_1 1)) fun t37_1 =>
  wpB (ldv Try.prog 104 t37_1 w.drew) fun t38_1 =>
  CallR Try.prog 62 [t38_1] w.drew fun t39_1 w =>
  wpB (ldv Try.prog 70 t30_1 w) fun t31_1 =>
  wpB (pureRun Try.prog (Instr.indexAt 70 t31_1 x27)) fun t40_1 =>
  wpB (pureRun Try.prog (Instr.fieldAt 106 t40_1 1)) fun t41_1 =>
  effu Try.prog (Instr.storeAt 104 t41_1 t39_1) w fun w =>
  P38_1 x0 x3 x26 x27 w Q))
  (wpB (nilv x0) fun t44 =>
  wpB (pureRun Try.prog (Instr.fieldAt 72 t44 3)) fun t45 =>
  wpB (ldv Try.prog 69 t45 w) fun t46 =>
  CallR Try.prog 63 [t46] w fun t47 w =>
  wpB (pureRun Try.prog (Instr.fieldAt 72 x3 3)) fun t48 =>
  effu Try.prog (Instr.storeAt 69 t48 t47) w fun w =>
  wpB (pureRun Try.prog (Instr.fieldAt 72 x3 3)) fun t49 =>
  wpB (ldv Try.prog 69 t49 w) fun t50 =>
  wpB (pureRun Try.prog (Builtin.len_ #[69] 3 #[t50])) fun t51 =>
  P38_2 x3 t51 (.int .i64 0) w Q)
def L38_1 (x0 x3 x26 x27 : Value) (w : World) (Q : Value → World → Prop) : Prop :=
  wpB (bp Try.prog .add 3 x27 (.int .i64 1)) fun t42 =>
  P38_0 x0 x3 x26 t42 w Q
def L38_2 (x3 x51 x52 : Value) (w : World) (Q : Value → World → Prop) : Prop :=
  wpB (bp Try.prog .lss 3 x52 x51) fun t53 =>
  cnd t53
  (wpB (pureRun Try.prog (Instr.fieldAt 72 x3 3)) fun t55 =>
  wpB (ldv Try.prog 69 t55 w) fun t56 =>
  wpB (pureRun Try.prog (Instr.indexAt 69 t56 x52)) fun t58 =>
  ((wpB (nilv t58) fun t63 =>
  wpB (pureRun Try.prog (Instr.fieldAt 98 t63 3)) fun t64 =>
  wpB (nilv t58) fun t68 =>
  wpB (pureRun Try.prog (Instr.fieldAt 98 t68 5)) fun t69 =>
  wpB (nilv t58) fun t73 =>
  wpB (pureRun Try.prog (Instr.fieldAt 98 t73 4)) fun t74 =>
  wpB (ldv Try.prog 36 t64 w.drew) fun t65 =>
  wpB (ldv Try.prog 48 t69 w.drew) fun t70 =>
  wpB (ldv Try.prog 96 t74 w.drew) fun t75 =>
  CallR Try.prog 64 [t65] w.drew fun t66 w =>
  CallR Try.prog 65 [t70] w fun t71 w =>
  CallR Try.prog 66 [t75] w fun t76 w =>
  wpB (nilv t58) fun t77 =>
  wpB (pureRun Try.prog (Instr.fieldAt 98 t77 3)) fun t78 =>
  effu Try.prog (Instr.storeAt 36 t78 t66) w fun w =>
  wpB (nilv t58) fun t79 =>
  wpB (pureRun Try.prog (Instr.fieldAt 98 t79 5)) fun t80 =>
  effu Try.prog (Instr.storeAt 48 t80 t71) w fun w =>
  wpB (nilv t58) fun t81 =>
  wpB (pureRun Try.prog (Instr.fieldAt 98 t81 4)) fun t82 =>
  effu Try.prog (Instr.storeAt 96 t82 t76) w fun w =>
  P38_3 x3 t58 x51 x52 w Q) ∧
  ((wpB (nilv t58) fun t63_1 =>
  wpB (pureRun Try.prog (Instr.fieldAt 98 t63_1 3)) fun t64_1 =>
  wpB (nilv t58) fun t68_1 =>
  wpB (pureRun Try.prog (Instr.fieldAt 98 t68_1 5)) fun t69_1 =>
  wpB (nilv t58) fun t73_1 =>
  wpB (pureRun Try.prog (Instr.fieldAt 98 t73_1 4)) fun t74_1 =>
  wpB (ldv Try.prog 36 t64_1 w.drew) fun t65_1 =>
  wpB (ldv Try.prog 48 t69_1 w.drew) fun t70_1 =>
  CallR Try.prog 64 [t65_1] w.drew fun t66_1 w =>
  wpB (ldv Try.prog 96 t74_1 w) fun t75_1 =>
  CallR Try.prog 65 [t70_1] w fun t71_1 w =>
  CallR Try.prog 66 [t75_1] w fun t76_1 w =>
  wpB (nilv t58) fun t77_1 =>
  wpB (pureRun Try.prog (Instr.fieldAt 98 t77_1 3)) fun t78_1 =>
  effu Try.prog (Instr.storeAt 36 t78_1 t66_1) w fun w =>
  wpB (nilv t58) fun t79_1 =>
  wpB (pureRun Try.prog (Instr.fieldAt 98 t79_1 5)) fun t80_1 =>
  effu Try.prog (Instr.storeAt 48 t80_1 t71_1) w fun w =>
  wpB (nilv t58) fun t81_1 =>
  wpB (pureRun Try.prog (Instr.fieldAt 98 t81_1 4)) fun t82_1 =>
  effu Try.prog (Instr.storeAt 96 t82_1 t76_1) w fun w =>
  P38_3 x3 t58 x51 x52 w Q) ∧
  (wpB (nilv t58) fun t63_2 =>
  wpB (pureRun Try.prog (Instr.fieldAt 98 t63_2 3)) fun t64_2 =>
  wpB (nilv t58) fun t68_2 =>
  wpB (pureRun Try.prog (Instr.fieldAt 98 t68_2 5)) fun t69_2 =>
  wpB (nilv t58) fun t73_2 =>
  wpB (pureRun Try.prog (Instr.fieldAt 98 t73_2 4)) fun t74_2 =>
  wpB (ldv Try.prog 36 t64_2 w.drew) fun t65_2 =>
  wpB (ldv Try.prog 48 t69_2 w.drew) fun t70_2 =>
  CallR Try.prog 64 [t65_2] w.drew fun t66_2 w =>
  CallR Try.prog 65 [t70_2] w fun t71_2 w =>
  wpB (ldv Try.prog 96 t74_2 w) fun t75_2 =>
  CallR Try.prog 66 [t75_2] w fun t76_2 w =>
  wpB (nilv t58) fun t77_2 =>
  wpB (pureRun Try.prog (Instr.fieldAt 98 t77_2 3)) fun t78_2 =>
  effu Try.prog (Instr.storeAt 36 t78_2 t66_2) w fun w =>
  wpB (nilv t58) fun t79_2 =>
  wpB (pureRun Try.prog (Instr.fieldAt 98 t79_2 5)) fun t80_2 =>
  effu Try.prog (Instr.storeAt 48 t80_2 t71_2) w fun w =>
  wpB (nilv t58) fun t81_2 =>
  wpB (pureRun Try.prog (Instr.fieldAt 98 t81_2 4)) fun t82_2 =>
  effu Try.prog (Instr.storeAt 96 t82_2 t76_2) w fun w =>
  P38_3 x3 t58 x51 x52 w Q))) ∧
  ((wpB (nilv t58) fun t63_3 =>
  wpB (pureRun Try.prog (Instr.fieldAt 98 t63_3 3)) fun t64_3 =>
  wpB (nilv t58) fun t68_3 =>
  wpB (pureRun Try.prog (Instr.fieldAt 98 t68_3 5)) fun t69_3 =>
  wpB (nilv t58) fun t73_3 =>
  wpB (pureRun Try.prog (Instr.fieldAt 98 t73_3 4)) fun t74_3 =>
  wpB (ldv Try.prog 36 t64_3 w.drew) fun t65_3 =>
  wpB (ldv Try.prog 96 t74_3 w.drew) fun t75_3 =>
  CallR Try.prog 64 [t65_3] w.drew fun t66_3 w =>
  wpB (ldv Try.prog 48 t69_3 w) fun t70_3 =>
  CallR Try.prog 65 [t70_3] w fun t71_3 w =>
  CallR Try.prog 66 [t75_3] w fun t76_3 w =>
  wpB (nilv t58) fun t77_3 =>
  wpB (pureRun Try.prog (Instr.fieldAt 98 t77_3 3)) fun t78_3 =>
  effu Try.prog (Instr.storeAt 36 t78_3 t66_3) w fun w =>
  wpB (nilv t58) fun t79_3 =>
  wpB (pureRun Try.prog (Instr.fieldAt 98 t79_3 5)) fun t80_3 =>
  effu Try.prog (Instr.storeAt 48 t80_3 t71_3) w fun w =>
  wpB (nilv t58) fun t81_3 =>
  wpB (pureRun Try.prog (Instr.fieldAt 98 t81_3 4)) fun t82_3 =>
  effu Try.prog (Instr.storeAt 96 t82_3 t76_3) w fun w =>
  P38_3 x3 t58 x51 x52 w Q) ∧
  ((wpB (nilv t58) fun t63_4 =>
  wpB (pureRun Try.prog (Instr.fieldAt 98 t63_4 3)) fun t64_4 =>
  wpB (nilv t58) fun t68_4 =>
  wpB (pureRun Try.prog (Instr.fieldAt 98 t68_4 5)) fun t69_4 =>
  wpB (nilv t58) fun t73_4 =>
  wpB (pureRun Try.prog (Instr.fieldAt 98 t73_4 4)) fun t74_4 =>
  wpB (ldv Try.prog 36 t64_4 w.drew) fun t65_4 =>
  CallR Try.prog 64 [t65_4] w.drew fun t66_4 w =>
  wpB (ldv Try.prog 48 t69_4 w) fun t70_4 =>
  wpB (ldv Try.prog 96 t74_4 w) fun t75_4 =>
  CallR Try.prog 65 [t70_4] w fun t71_4 w =>
  CallR Try.prog 66 [t75_4] w fun t76_4 w =>
  wpB (nilv t58) fun t77_4 =>
  wpB (pureRun Try.prog (Instr.fieldAt 98 t77_4 3)) fun t78_4 =>
  effu Try.prog (Instr.storeAt 36 t78_4 t66_4) w fun w =>
  wpB (nilv t58) fun t79_4 =>
  wpB (pureRun Try.prog (Instr.fieldAt 98 t79_4 5)) fun t80_4 =>
  effu Try.prog (Instr.storeAt 48 t80_4 t71_4) w fun w =>
  wpB (nilv t58) fun t81_4 =>
  wpB (pureRun Try.prog (Instr.fieldAt 98 t81_4 4)) fun t82_4 =>
  effu Try.prog (Instr.storeAt 96 t82_4 t76_4) w fun w =>
  P38_3 x3 t58 x51 x52 w Q) ∧
  (wpB (nilv t58) fun t63_5 =>
  wpB (pureRun Try.prog (Instr.fieldAt 98 t63_5 3)) fun t64_5 =>
  wpB (ldv Try.prog 36 t64_5 w.drew) fun t65_5 =>
  CallR Try.prog 64 [t65_5] w.drew fun t66_5 w =>
  wpB (nilv t58) fun t68_5 =>
  wpB (pureRun Try.prog (Instr.fieldAt 98 t68_5 5)) fun t69_5 =>
  wpB (ldv Try.prog 48 t69_5 w) fun t70_5 =>
  CallR Try.prog 65 [t70_5] w fun t71_5 w =>
  wpB (nilv t58) fun t73_5 =>
  wpB (pureRun Try.prog (Instr.fieldAt 98 t73_5 4)) fun t74_5 =>
  wpB (ldv Try.prog 96 t74_5 w) fun t75_5 =>
  CallR Try.prog 66 [t75_5] w fun t76_5 w =>
  wpB (nilv t58) fun t77_5 =>
  wpB (pureRun Try.prog (Instr.fieldAt 98 t77_5 3)) fun t78_5 =>
  effu Try.prog (Instr.storeAt 36 t78_5 t66_5) w fun w =>
  wpB (nilv t58) fun t79_5 =>
  wpB (pureRun Try.prog (Instr.fieldAt 98 t79_5 5)) fun t80_5 =>
  effu Try.prog (Instr.storeAt 48 t80_5 t71_5) w fun w =>
  wpB (nilv t58) fun t81_5 =>
  wpB (pureRun Try.prog (Instr.fieldAt 98 t81_5 4)) fun t82_5 =>
  effu Try.prog (Instr.storeAt 96 t82_5 t76_5) w fun w =>
  P38_3 x3 t58 x51 x52 w Q))))
  (Q x3 w)
def L38_3 (x3 x6 x51 x52 : Value) (w : World) (Q : Value → World → Prop) : Prop :=
  wpB (nilv x6) fun t84 =>
  wpB (pureRun Try.prog (Instr.fieldAt 98 t84 4)) fun t85 =>
  wpB (ldv Try.prog 96 t85 w) fun t86 =>
  wpB (pureRun Try.prog (Builtin.len_ #[96] 3 #[t86])) fun t87 =>
  P38_4 x3 x6 x51 x52 t86 t87 (.int .i64 0) w Q
def L38_4 (x3 x6 x51 x52 x86 x87 x88 : Value) (w : World) (Q : Value → World → Prop) : Prop :=
  wpB (bp Try.prog .lss 3 x88 x87) fun t89 =>
  cnd t89
  (wpB (pureRun Try.prog (Instr.indexAt 96 x86 x88)) fun t91 =>
  wpB (ldv Try.prog 112 t91 w) fun t92 =>
  (wpB (nilv x6) fun t94 =>
  wpB (pureRun Try.prog (Instr.fieldAt 98 t94 4)) fun t95 =>
  wpB (ldv Try.prog 96 t95 w.drew) fun t96 =>
  CallR Try.prog 67 [t92] w.drew fun t99 w =>
  wpB (pureRun Try.prog (Instr.indexAt 96 t96 x88)) fun t100 =>
  effu Try.prog (Instr.storeAt 112 t100 t99) w fun w =>
  P38_5 x3 x6 x51 x52 x86 x87 x88 w Q) ∧
  (wpB (nilv x6) fun t94_1 =>
  wpB (pureRun Try.prog (Instr.fieldAt 98 t94_1 4)) fun t95_1 =>
  CallR Try.prog 67 [t92] w.drew fun t99_1 w =>
  wpB (ldv Try.prog 96 t95_1 w) fun t96_1 =>
  wpB (pureRun Try.prog (Instr.indexAt 96 t96_1 x88)) fun t100_1 =>
  effu Try.prog (Instr.storeAt 112 t100_1 t99_1) w fun w =>
  P38_5 x3 x6 x51 x52 x86 x87 x88 w Q))
  (wpB (bp Try.prog .add 3 x52 (.int .i64 1)) fun t102 =>
  P38_2 x3 x51 t102 w Q)
def L38_5 (x3 x6 x51 x52 x86 x87 x88 : Value) (w : World) (Q : Value → World → Prop) : Prop :=
  wpB (bp Try.prog .add 3 x88 (.int .i64 1)) fun t101 =>
  P38_4 x3 x6 x51 x52 x86 x87 t101 w Q
theorem F38_ok {a0 : Value} {w : World} {Q : Value → World → Prop} (h : F38 a0 w Q) : CallR Try.prog 38 [a0] w Q :=
  call_ofE mixed entOk Try.func38 (c := C38) rfl H38 (Nat.le_of_ble_eq_true rfl) (by kernel_rfl) h
theorem L38_0_ok {x0 x3 x26 x27 : Value} {w : World} {Q : Value → World → Prop} (h : L38_0 x0 x3 x26 x27 w Q) : P38_0 x0 x3 x26 x27 w Q :=
  part_lpE mixed entOk Try.func38 H38 (by kernel_rfl) h
theorem L38_1_ok {x0 x3 x26 x27 : Value} {w : World} {Q : Value → World → Prop} (h : L38_1 x0 x3 x26 x27 w Q) : P38_1 x0 x3 x26 x27 w Q :=
  part_jnE mixed entOk Try.func38 H38 (by kernel_rfl) h
theorem L38_2_ok {x3 x51 x52 : Value} {w : World} {Q : Value → World → Prop} (h : L38_2 x3 x51 x52 w Q) : P38_2 x3 x51 x52 w Q :=
  part_lpE mixed entOk Try.func38 H38 (by kernel_rfl) h
theorem L38_3_ok {x3 x6 x51 x52 : Value} {w : World} {Q : Value → World → Prop} (h : L38_3 x3 x6 x51 x52 w Q) : P38_3 x3 x6 x51 x52 w Q :=
  part_jnE mixed entOk Try.func38 H38 (by kernel_rfl) h
theorem L38_4_ok {x3 x6 x51 x52 x86 x87 x88 : Value} {w : World} {Q : Value → World → Prop} (h : L38_4 x3 x6 x51 x52 x86 x87 x88 w Q) : P38_4 x3 x6 x51 x52 x86 x87 x88 w Q :=
  part_lpE mixed entOk Try.func38 H38 (by kernel_rfl) h
theorem L38_5_ok {x3 x6 x51 x52 x86 x87 x88 : Value} {w : World} {Q : Value → World → Prop} (h : L38_5 x3 x6 x51 x52 x86 x87 x88 w Q) : P38_5 x3 x6 x51 x52 x86 x87 x88 w Q :=
  part_jnE mixed entOk Try.func38 H38 (by kernel_rfl) h

noncomputable def C42 : Code := (Try.f42.body).getD .skip
noncomputable def H42 : Hints := ⟨[], [], []⟩
def F42 (a0 : Value) (w : World) (Q : Value → World → Prop) : Prop :=
  CallR Try.prog 70 [a0] w fun t4 w =>
  wpB (pureRun Try.prog (Instr.field 116 t4 1)) fun t5 =>
  Q t5 w
theorem F42_ok {a0 : Value} {w : World} {Q : Value → World → Prop} (h : F42 a0 w Q) : CallR Try.prog 42 [a0] w Q :=
  call_ofE mixed entOk Try.func42 (c := C42) rfl H42 (Nat.le_of_ble_eq_true rfl) (by kernel_rfl) h

noncomputable def C43 : Code := (Try.f43.body).getD .skip
noncomputable def H43 : Hints := ⟨[], [], []⟩
def F43 (a0 a1 : Value) (w : World) (Q : Value → World → Prop) : Prop :=
  wpB (bp Try.prog .geq 3 a1 (.int .i64 0)) fun t6 =>
  wpB (gd t6 true (nilv (gv t6 true a0))) fun t10 =>
  wpB (gd t6 true (pureRun Try.prog (Instr.fieldAt 72 t10 2))) fun t11 =>
  wpB (gd t6 true (ldv Try.prog 68 t11 w)) fun t12 =>
  wpB (gd t6 true (pureRun Try.prog (Builtin.len_ #[68] 3 #[t12]))) fun t13 =>
  wpB (gd t6 true (bp Try.prog .lss 3 (gv t6 true a1) t13)) fun t14 =>
  wpB (pickv t6 (some t14) (some (.bool false))) fun t15 =>
  Q t15 w
theorem F43_ok {a0 a1 : Value} {w : World} {Q : Value → World → Prop} (h : F43 a0 a1 w Q) : CallR Try.prog 43 [a0, a1] w Q :=
  call_ofE mixed entOk Try.func43 (c := C43) rfl H43 (Nat.le_of_ble_eq_true rfl) (by kernel_rfl) h

noncomputable def C44 : Code := (Try.f44.body).getD .skip
noncomputable def H44 : Hints := ⟨[], [], []⟩
def F44 (a0 a1 a2 : Value) (w : World) (Q : Value → World → Prop) : Prop :=
  effv Try.prog (Instr.box 29 a2) w fun t5 w =>
  wpB (bp Try.prog .geq 3 a1 (.int .i64 0)) fun t8 =>
  wpB (gd t8 true (nilv (gv t8 true a0))) fun t12 =>
  wpB (gd t8 true (pureRun Try.prog (Instr.fieldAt 72 t12 4))) fun t13 =>
  wpB (gd t8 true (ldv Try.prog 70 t13 w)) fun t14 =>
  wpB (gd t8 true (pureRun Try.prog (Builtin.len_ #[70] 3 #[t14]))) fun t15 =>
  wpB (gd t8 true (bp Try.prog .lss 3 (gv t8 true a1) t15)) fun t16 =>
  wpB (pickv t8 (some t16) (some (.bool false))) fun t17 =>
  wpB (gd t17 true (ldv Try.prog 29 t5 w)) fun t19 =>
  gE t17 true (CallR Try.prog 71 [t19] w) (fun t20 w =>
  wpB (pickv t17 (some t20) (some (.bool false))) fun t21 =>
  Q t21 w) w
theorem F44_ok {a0 a1 a2 : Value} {w : World} {Q : Value → World → Prop} (h : F44 a0 a1 a2 w Q) : CallR Try.prog 44 [a0, a1, a2] w Q :=
  call_ofE mixed entOk Try.func44 (c := C44) rfl H44 (Nat.le_of_ble_eq_true rfl) (by kernel_rfl) h

noncomputable def C45 : Code := (Try.f45.body).getD .skip
noncomputable def H45 : Hints := ⟨[], [(2, [0, 6, 7, 8, 9])], [(1, (.ask 3 7 (.ask 8 7 (.leaf [0, 1, 2, 4, 3, 5, 6, 8, 7, 9, 10]) (.leaf [0, 1, 2, 3, 4, 5, 6, 7, 8, 9, 10])) (.ask 8 7 (.leaf [0, 1, 2, 4, 6, 8, 7, 3, 5, 9, 10]) (.leaf [0, 1, 2, 4, 6, 7, 3, 5, 8, 9, 10])))), (10, (.leaf [0, 1, 2, 3, 4, 5, 6])), (11, (.leaf [0, 1, 2, 3, 4, 5, 6, 7, 8, 9, 10])), (13, (.ask 6 4 (.leaf [0, 2, 5, 1, 3, 6, 4, 7, 8]) (.leaf [0, 1, 2, 3, 4, 5, 6, 7, 8]))), (15, (.ask 8 4 (.leaf [0, 2, 7, 1, 3, 8, 4, 5, 6, 9, 10, 11]) (.leaf [0, 1, 2, 3, 4, 5, 6, 7, 8, 9, 10, 11]))), (18, (.leaf [0, 1, 2, 3, 4, 5])), (21, (.leaf [0, 1, 2, 3, 4, 5, 6, 7, 8])), (23, (.leaf [0, 1, 2, 3, 4, 5, 6, 7, 8]))]⟩
noncomputable def T45_0 : List It := [.jn (nav [1, 1] C45)]
/-- (*rundale/model.Model).does, from a join on -/
def P45_0 (x0 x6 x7 x8 x9 : Value) (w : World) (Q : Value → World → Prop) : Prop := Part Try.prog 45 T45_0 [0, 6, 7, 8, 9] [x0, x6, x7, x8, x9] w Q
def F45 (a0 a1 a2 a3 : Value) (w : World) (Q : Value → World → Prop) : Prop :=
  effv Try.prog (Instr.box 29 a2) w fun t6 w =>
  effv Try.prog (Instr.box 27 a3) w fun t7 w =>
  ((wpB (nilv a0) fun t12 =>
  wpB (pureRun Try.prog (Instr.fieldAt 72 t12 4)) fun t13 =>
  wpB (ldv Try.prog 70 t13 w.drew) fun t14 =>
  wpB (pureRun Try.prog (Instr.indexAt 70 t14 a1)) fun t16 =>
  wpB (ldv Try.prog 27 t7 w.drew) fun t17 =>
  effv Try.prog (Instr.alloc 95 true (.tuple #[])) w.drew fun t9 w =>
  CallR Try.prog 59 [t17] w fun t18 w =>
  effu Try.prog (Instr.storeAt 95 t9 t18) w fun w =>
  P45_0 a0 t6 t7 t16 t9 w Q) ∧
  (wpB (nilv a0) fun t12_1 =>
  wpB (pureRun Try.prog (Instr.fieldAt 72 t12_1 4)) fun t13_1 =>
  wpB (ldv Try.prog 70 t13_1 w.drew) fun t14_1 =>
  wpB (pureRun Try.prog (Instr.indexAt 70 t14_1 a1)) fun t16_1 =>
  wpB (ldv Try.prog 27 t7 w.drew) fun t17_1 =>
  CallR Try.prog 59 [t17_1] w.drew fun t18_1 w =>
  effv Try.prog (Instr.alloc 95 true (.tuple #[])) w fun t9_1 w =>
  effu Try.prog (Instr.storeAt 95 t9_1 t18_1) w fun w =>
  P45_0 a0 t6 t7 t16_1 t9_1 w Q)) ∧
  ((wpB (nilv a0) fun t12_2 =>
  wpB (pureRun Try.prog (Instr.fieldAt 72 t12_2 4)) fun t13_2 =>
  wpB (ldv Try.prog 27 t7 w.drew) fun t17_2 =>
  effv Try.prog (Instr.alloc 95 true (.tuple #[])) w.drew fun t9_2 w =>
  CallR Try.prog 59 [t17_2] w fun t18_2 w =>
  wpB (ldv Try.prog 70 t13_2 w) fun t14_2 =>
  wpB (pureRun Try.prog (Instr.indexAt 70 t14_2 a1)) fun t16_2 =>
  effu Try.prog (Instr.storeAt 95 t9_2 t18_2) w fun w =>
  P45_0 a0 t6 t7 t16_2 t9_2 w Q) ∧
  (wpB (nilv a0) fun t12_3 =>
  wpB (pureRun Try.prog (Instr.fieldAt 72 t12_3 4)) fun t13_3 =>
  wpB (ldv Try.prog 27 t7 w.drew) fun t17_3 =>
  CallR Try.prog 59 [t17_3] w.drew fun t18_3 w =>
  wpB (ldv Try.prog 70 t13_3 w) fun t14_3 =>
  wpB (pureRun Try.prog (Instr.indexAt 70 t14_3 a1)) fun t16_3 =>
  effv Try.prog (Instr.alloc 95 true (.tuple #[])) w fun t9_3 w =>
  effu Try.prog (Instr.storeAt 95 t9_3 t18_3) w fun w =>
  P45_0 a0 t6 t7 t16_3 t9_3 w Q))
def L45_0 (x0 x6 x7 x8 x9 : Value) (w : World) (Q : Value → World → Prop) : Prop :=
  wpB (pureRun Try.prog (Instr.fieldAt 29 x6 0)) fun t19 =>
  wpB (ldv Try.prog 3 t19 w) fun t20 =>
  wpB (be Try.prog .eql 3 (.tmp 20) (.const (.int .i64 3)) t20 (.int .i64 3)) fun t22 =>
  cnd t22
  (wpB (nilv x8) fun t24 =>
  wpB (pureRun Try.prog (Instr.fieldAt 106 t24 0)) fun t25 =>
  wpB (ldv Try.prog 3 t25 w) fun t26 =>
  wpB (bp Try.prog .add 3 t26 (.int .i64 1)) fun t27 =>
  wpB (nilv x8) fun t28 =>
  wpB (pureRun Try.prog (Instr.fieldAt 106 t28 0)) fun t29 =>
  effu Try.prog (Instr.storeAt 3 t29 t27) w fun w =>
  Q (.tuple #[]) w)
  (wpB (be Try.prog .eql 3 (.tmp 20) (.const (.int .i64 4)) t20 (.int .i64 4)) fun t31 =>
  cnd t31
  (wpB (nilv x8) fun t33 =>
  wpB (pureRun Try.prog (Instr.fieldAt 106 t33 0)) fun t34 =>
  wpB (ldv Try.prog 3 t34 w) fun t35 =>
  wpB (bp Try.prog .sub 3 t35 (.int .i64 1)) fun t36 =>
  wpB (nilv x8) fun t37 =>
  wpB (pureRun Try.prog (Instr.fieldAt 106 t37 0)) fun t38 =>
  effu Try.prog (Instr.storeAt 3 t38 t36) w fun w =>
  wpB (nilv x8) fun t40 =>
  wpB (pureRun Try.prog (Instr.fieldAt 106 t40 0)) fun t41 =>
  wpB (ldv Try.prog 3 t41 w) fun t42 =>
  wpB (be Try.prog .eql 3 (.tmp 42) (.const (.int .i64 0)) t42 (.int .i64 0)) fun t43 =>
  cnd t43
  (wpB (nilv x8) fun t45 =>
  wpB (pureRun Try.prog (Instr.fieldAt 106 t45 1)) fun t46 =>
  effu Try.prog (Instr.storeAt 104 t46 (.slice none 0 0)) w fun w =>
  Q (.tuple #[]) w)
  (Q (.tuple #[]) w))
  (wpB (be Try.prog .eql 3 (.tmp 20) (.const (.int .i64 5)) t20 (.int .i64 5)) fun t48 =>
  cnd t48
  (wpB (nilv x8) fun t50 =>
  wpB (pureRun Try.prog (Instr.fieldAt 106 t50 1)) fun t51 =>
  wpB (ldv Try.prog 104 t51 w.drew) fun t52 =>
  wpB (ldv Try.prog 95 x9 w.drew) fun t53 =>
  CallR Try.prog 72 [t52, t53] w.drew fun t54 w =>
  wpB (pureRun Try.prog (Op.unary .not t54)) fun t55 =>
  cnd t55
  (wpB (nilv x8) fun t58 =>
  wpB (pureRun Try.prog (Instr.fieldAt 106 t58 1)) fun t59 =>
  wpB (ldv Try.prog 104 t59 w.drew) fun t60 =>
  wpB (ldv Try.prog 95 x9 w.drew) fun t61 =>
  effv Try.prog (Instr.buildSlice 104 1 #[(0, t61)]) w.drew fun t62 w =>
  effv Try.prog (Builtin.append_ #[104, 104] 104 #[t60, t62]) w fun t63 w =>
  wpB (nilv x8) fun t64 =>
  wpB (pureRun Try.prog (Instr.fieldAt 106 t64 1)) fun t65 =>
  effu Try.prog (Instr.storeAt 104 t65 t63) w fun w =>
  Q (.tuple #[]) w)
  (Q (.tuple #[]) w))
  (wpB (be Try.prog .eql 3 (.tmp 20) (.const (.int .i64 7)) t20 (.int .i64 7)) fun t67 =>
  cnd t67
  ((wpB (pureRun Try.prog (Instr.fieldAt 29 x6 3)) fun t70 =>
  wpB (pureRun Try.prog (Instr.fieldAt 29 x6 4)) fun t73 =>
  wpB (ldv Try.prog 27 x7 w.drew) fun t69 =>
  wpB (ldv Try.prog 3 t70 w.drew) fun t71 =>
  wpB (ldv Try.prog 22 t73 w.drew) fun t74 =>
  CallR Try.prog 57 [x0, t69, t71] w.drew fun t72 w =>
  wpB (nilv t72) fun t75 =>
  effu Try.prog (Instr.storeAt 22 t75 t74) w fun w =>
  Q (.tuple #[]) w) ∧
  (wpB (ldv Try.prog 27 x7 w.drew) fun t69_1 =>
  wpB (pureRun Try.prog (Instr.fieldAt 29 x6 3)) fun t70_1 =>
  wpB (ldv Try.prog 3 t70_1 w.drew) fun t71_1 =>
  CallR Try.prog 57 [x0, t69_1, t71_1] w.drew fun t72_1 w =>
  wpB (pureRun Try.prog (Instr.fieldAt 29 x6 4)) fun t73_1 =>
  wpB (ldv Try.prog 22 t73_1 w) fun t74_1 =>
  wpB (nilv t72_1) fun t75_1 =>
  effu Try.prog (Instr.storeAt 22 t75_1 t74_1) w fun w =>
  Q (.tuple #[]) w))
  (wpB (be Try.prog .eql 3 (.tmp 20) (.const (.int .i64 8)) t20 (.int .i64 8)) fun t77 =>
  cnd t77
  ((wpB (pureRun Try.prog (Instr.fieldAt 29 x6 3)) fun t80 =>
  wpB (pureRun Try.prog (Instr.fieldAt 29 x6 4)) fun t85 =>
  wpB (ldv Try.prog 27 x7 w.drew) fun t79 =>
  wpB (ldv Try.prog 3 t80 w.drew) fun t81 =>
  wpB (ldv Try.prog 22 t85 w.drew) fun t86 =>
  CallR Try.prog 57 [x0, t79, t81] w.drew fun t82 w =>
  wpB (nilv t82) fun t83 =>
  wpB (ldv Try.prog 22 t83 w) fun t84 =>
  wpB (bp Try.prog .add 22 t84 t86) fun t87 =>
  wpB (nilv t82) fun t88 =>
  effu Try.prog (Instr.storeAt 22 t88 t87) w fun w =>
  Q (.tuple #[]) w) ∧
  (wpB (ldv Try.prog 27 x7 w.drew) fun t79_1 =>
  wpB (pureRun Try.prog (Instr.fieldAt 29 x6 3)) fun t80_1 =>
  wpB (ldv Try.prog 3 t80_1 w.drew) fun t81_1 =>
  CallR Try.prog 57 [x0, t79_1, t81_1] w.drew fun t82_1 w =>
  wpB (nilv t82_1) fun t83_1 =>
  wpB (ldv Try.prog 22 t83_1 w) fun t84_1 =>
  wpB (pureRun Try.prog (Instr.fieldAt 29 x6 4)) fun t85_1 =>
  wpB (ldv Try.prog 22 t85_1 w) fun t86_1 =>
  wpB (bp Try.prog .add 22 t84_1 t86_1) fun t87_1 =>
  wpB (nilv t82_1) fun t88_1 =>
  effu Try.prog (Instr.storeAt 22 t88_1 t87_1) w fun w =>
  Q (.tuple #[]) w))
  (wpB (be Try.prog .eql 3 (.tmp 20) (.const (.int .i64 9)) t20 (.int .i64 9)) fun t90 =>
  cnd t90
  (wpB (ldv Try.prog 27 x7 w) fun t92 =>
  wpB (pureRun Try.prog (Instr.fieldAt 29 x6 3)) fun t93 =>
  wpB (ldv Try.prog 3 t93 w) fun t94 =>
  CallR Try.prog 57 [x0, t92, t94] w fun t95 w =>
  wpB (nilv t95) fun t97 =>
  wpB (ldv Try.prog 22 t97 w.drew) fun t98 =>
  wpB (pureRun Try.prog (Instr.fieldAt 29 x6 4)) fun t99 =>
  wpB (ldv Try.prog 22 t99 w.drew) fun t100 =>
  wpB (be Try.prog .eql 22 (.tmp 98) (.tmp 100) t98 t100) fun t101 =>
  cnd t101
  (wpB (pureRun Try.prog (Instr.fieldAt 29 x6 5)) fun t103 =>
  wpB (ldv Try.prog 22 t103 w.drew) fun t104 =>
  wpB (nilv t95) fun t105 =>
  effu Try.prog (Instr.storeAt 22 t105 t104) w.drew fun w =>
  Q (.tuple #[]) w)
  (Q (.tuple #[]) w.drew))
  (wpB (be Try.prog .eql 3 (.tmp 20) (.const (.int .i64 10)) t20 (.int .i64 10)) fun t107 =>
  cnd t107
  (wpB (nilv x0) fun t109 =>
  wpB (pureRun Try.prog (Instr.fieldAt 72 t109 2)) fun t110 =>
  wpB (ldv Try.prog 68 t110 w.drew) fun t111 =>
  wpB (pureRun Try.prog (Instr.fieldAt 27 x7 0)) fun t112 =>
  wpB (ldv Try.prog 3 t112 w.drew) fun t113 =>
  wpB (pureRun Try.prog (Instr.indexAt 68 t111 t113)) fun t114 =>
  wpB (pureRun Try.prog (Instr.fieldAt 80 t114 0)) fun t115 =>
  effu Try.prog (Instr.storeAt 3 t115 (.int .i64 2)) w.drew fun w =>
  wpB (nilv x0) fun t117 =>
  wpB (pureRun Try.prog (Instr.fieldAt 72 t117 1)) fun t118 =>
  wpB (ldv Try.prog 4 t118 w) fun t119 =>
  cnd t119
  (wpB (nilv x0) fun t121 =>
  wpB (pureRun Try.prog (Instr.fieldAt 72 t121 2)) fun t122 =>
  wpB (ldv Try.prog 68 t122 w.drew) fun t123 =>
  wpB (pureRun Try.prog (Instr.fieldAt 27 x7 0)) fun t124 =>
  wpB (ldv Try.prog 3 t124 w.drew) fun t125 =>
  wpB (pureRun Try.prog (Instr.indexAt 68 t123 t125)) fun t126 =>
  wpB (pureRun Try.prog (Instr.fieldAt 80 t126 0)) fun t127 =>
  effu Try.prog (Instr.storeAt 3 t127 (.int .i64 0)) w.drew fun w =>
  Q (.tuple #[]) w)
  (Q (.tuple #[]) w))
  (Q (.tuple #[]) w)))))))
theorem F45_ok {a0 a1 a2 a3 : Value} {w : World} {Q : Value → World → Prop} (h : F45 a0 a1 a2 a3 w Q) : CallR Try.prog 45 [a0, a1, a2, a3] w Q :=
  call_ofE mixed entOk Try.func45 (c := C45) rfl H45 (Nat.le_of_ble_eq_true rfl) (by kernel_rfl) h
theorem L45_0_ok {x0 x6 x7 x8 x9 : Value} {w : World} {Q : Value → World → Prop} (h : L45_0 x0 x6 x7 x8 x9 w Q) : P45_0 x0 x6 x7 x8 x9 w Q :=
  part_jnE mixed entOk Try.func45 H45 (by kernel_rfl) h

noncomputable def C46 : Code := (Try.f46.body).getD .skip
noncomputable def H46 : Hints := ⟨[], [(9, [0, 1, 5, 7]), (13, [])], [(3, (.leaf [0, 1, 2, 3, 4, 5, 6, 7, 8, 9, 10, 11, 12, 13, 14, 15, 16, 17, 18])), (6, (.leaf [0, 1, 2, 3, 4, 5, 6, 7, 8, 9, 10])), (11, (.leaf [0, 1, 2, 3, 4, 5, 6, 7, 8, 9, 10])), (12, (.ask 4 7 (.leaf [0, 1, 2, 3, 4, 5, 6, 7, 8, 9, 10, 11, 12, 13, 14]) (.leaf [0, 1, 2, 3, 5, 8, 6, 7, 9, 4, 10, 11, 12, 13, 14])))]⟩
noncomputable def T46_0 : List It := [.jn (nav [1, 1, 1, 1, 1] C46)]
noncomputable def T46_1 : List It := [.jn (nav [1, 1, 1, 1, 1, 1, 1, 1] C46)]
/-- (*rundale/model.Model).creates, from a join on -/
def P46_0 (x0 x1 x5 x7 : Value) (w : World) (Q : Value → World → Prop) : Prop := Part Try.prog 46 T46_0 [0, 1, 5, 7] [x0, x1, x5, x7] w Q
/-- (*rundale/model.Model).creates, from a join on -/
def P46_1 (w : World) (Q : Value → World → Prop) : Prop := Part Try.prog 46 T46_1 [] [] w Q
def F46 (a0 a1 a2 : Value) (w : World) (Q : Value → World → Prop) : Prop :=
  effv Try.prog (Instr.box 32 a2) w fun t5 w =>
  wpB (ldv Try.prog 32 t5 w) fun t9 =>
  wpB (pureRun Try.prog (Instr.build 32 #[(0, (.int .i64 7))])) fun t10 =>
  wpB (be Try.prog .eql 32 (.tmp 9) (.tmp 10) t9 t10) fun t11 =>
  cnd t11
  (wpB (nilv a0) fun t13 =>
  wpB (pureRun Try.prog (Instr.fieldAt 72 t13 1)) fun t14 =>
  wpB (ldv Try.prog 4 t14 w) fun t15 =>
  gE t15 false (CallR Try.prog 73 [(gv t15 false a0)] w) (fun t18 w =>
  wpB (gd t15 false (be Try.prog .eql 3 (.tmp 18) (.const (.int .i64 0)) t18 (.int .i64 0))) fun t19 =>
  wpB (pickv t15 (some (.bool true)) (some t19)) fun t20 =>
  Q t20 w) w)
  (wpB (pureRun Try.prog (Instr.fieldAt 32 t5 1)) fun t22 =>
  wpB (pureRun Try.prog (Instr.fieldAt 27 t22 0)) fun t23 =>
  wpB (ldv Try.prog 3 t23 w.drew) fun t24 =>
  CallR Try.prog 43 [a0, t24] w.drew fun t25 w =>
  wpB (pureRun Try.prog (Op.unary .not t25)) fun t26 =>
  wpB (gd t26 false (nilv (gv t26 false a0))) fun t29 =>
  wpB (gd t26 false (pureRun Try.prog (Instr.fieldAt 72 t29 2))) fun t30 =>
  wpB (gd t26 false (ldv Try.prog 68 t30 w)) fun t31 =>
  wpB (gd t26 false (pureRun Try.prog (Instr.fieldAt 32 t5 1))) fun t32 =>
  wpB (gd t26 false (pureRun Try.prog (Instr.fieldAt 27 t32 0))) fun t33 =>
  wpB (gd t26 false (ldv Try.prog 3 t33 w)) fun t34 =>
  wpB (gd t26 false (pureRun Try.prog (Instr.indexAt 68 t31 t34))) fun t35 =>
  wpB (gd t26 false (pureRun Try.prog (Instr.fieldAt 80 t35 0))) fun t36 =>
  wpB (gd t26 false (ldv Try.prog 3 t36 w)) fun t37 =>
  wpB (gd t26 false (be Try.prog .neq 3 (.tmp 37) (.const (.int .i64 0)) t37 (.int .i64 0))) fun t38 =>
  wpB (pickv t26 (some (.bool true)) (some t38)) fun t39 =>
  cnd t39
  (Q (.bool false) w)
  (wpB (nilv a0) fun t41 =>
  wpB (pureRun Try.prog (Instr.fieldAt 72 t41 2)) fun t42 =>
  wpB (ldv Try.prog 68 t42 w.drew) fun t43 =>
  wpB (pureRun Try.prog (Instr.fieldAt 32 t5 1)) fun t44 =>
  wpB (pureRun Try.prog (Instr.fieldAt 27 t44 0)) fun t45 =>
  wpB (ldv Try.prog 3 t45 w.drew) fun t46 =>
  wpB (pureRun Try.prog (Instr.indexAt 68 t43 t46)) fun t47 =>
  wpB (pureRun Try.prog (Instr.fieldAt 80 t47 1)) fun t48 =>
  wpB (ldv Try.prog 3 t48 w.drew) fun t49 =>
  wpB (bp Try.prog .lss 3 t49 (.int .i64 4294967295)) fun t51 =>
  cnd t51
  (wpB (bp Try.prog .add 3 t49 (.int .i64 1)) fun t53 =>
  P46_0 a0 a1 t5 t53 w.drew Q)
  (P46_0 a0 a1 t5 (.int .i64 0) w.drew Q)))
def L46_0 (x0 x1 x5 x7 : Value) (w : World) (Q : Value → World → Prop) : Prop :=
  wpB (ldv Try.prog 32 x5 w) fun t54 =>
  wpB (pureRun Try.prog (Instr.fieldAt 32 x5 1)) fun t55 =>
  wpB (pureRun Try.prog (Instr.fieldAt 27 t55 0)) fun t56 =>
  wpB (ldv Try.prog 3 t56 w) fun t57 =>
  wpB (pureRun Try.prog (Instr.build 27 #[(0, t57), (1, x7)])) fun t59 =>
  wpB (pureRun Try.prog (Instr.build 32 #[(1, t59)])) fun t60 =>
  wpB (be Try.prog .neq 32 (.tmp 54) (.tmp 60) t54 t60) fun t61 =>
  cnd t61
  (Q (.bool false) w)
  (wpB (nilv x0) fun t63 =>
  wpB (pureRun Try.prog (Instr.fieldAt 72 t63 2)) fun t64 =>
  wpB (ldv Try.prog 68 t64 w.drew) fun t65 =>
  wpB (pureRun Try.prog (Instr.fieldAt 32 x5 1)) fun t66 =>
  wpB (pureRun Try.prog (Instr.fieldAt 27 t66 0)) fun t67 =>
  wpB (ldv Try.prog 3 t67 w.drew) fun t68 =>
  wpB (pureRun Try.prog (Instr.build 80 #[(0, (.int .i64 1)), (1, x7)])) fun t70 =>
  wpB (pureRun Try.prog (Instr.indexAt 68 t65 t68)) fun t71 =>
  effu Try.prog (Instr.storeAt 80 t71 t70) w.drew fun w =>
  (wpB (nilv x0) fun t74 =>
  wpB (pureRun Try.prog (Instr.fieldAt 72 t74 3)) fun t75 =>
  wpB (ldv Try.prog 69 t75 w.drew) fun t76 =>
  wpB (pureRun Try.prog (Instr.fieldAt 32 x5 1)) fun t77 =>
  wpB (ldv Try.prog 27 t77 w.drew) fun t78 =>
  CallR Try.prog 59 [t78] w.drew fun t79 w =>
  wpB (pureRun Try.prog (Instr.build 98 #[(0, t79), (1, x1)])) fun t81 =>
  effv Try.prog (Instr.buildSlice 69 1 #[(0, t81)]) w fun t82 w =>
  effv Try.prog (Builtin.append_ #[69, 69] 69 #[t76, t82]) w fun t83 w =>
  wpB (nilv x0) fun t84 =>
  wpB (pureRun Try.prog (Instr.fieldAt 72 t84 3)) fun t85 =>
  effu Try.prog (Instr.storeAt 69 t85 t83) w fun w =>
  P46_1 w Q) ∧
  (wpB (nilv x0) fun t74_1 =>
  wpB (pureRun Try.prog (Instr.fieldAt 72 t74_1 3)) fun t75_1 =>
  wpB (pureRun Try.prog (Instr.fieldAt 32 x5 1)) fun t77_1 =>
  wpB (ldv Try.prog 27 t77_1 w.drew) fun t78_1 =>
  CallR Try.prog 59 [t78_1] w.drew fun t79_1 w =>
  wpB (pureRun Try.prog (Instr.build 98 #[(0, t79_1), (1, x1)])) fun t81_1 =>
  wpB (ldv Try.prog 69 t75_1 w) fun t76_1 =>
  effv Try.prog (Instr.buildSlice 69 1 #[(0, t81_1)]) w fun t82_1 w =>
  effv Try.prog (Builtin.append_ #[69, 69] 69 #[t76_1, t82_1]) w fun t83_1 w =>
  wpB (nilv x0) fun t84_1 =>
  wpB (pureRun Try.prog (Instr.fieldAt 72 t84_1 3)) fun t85_1 =>
  effu Try.prog (Instr.storeAt 69 t85_1 t83_1) w fun w =>
  P46_1 w Q))
def L46_1 (w : World) (Q : Value → World → Prop) : Prop :=
  Q (.bool true) w
theorem F46_ok {a0 a1 a2 : Value} {w : World} {Q : Value → World → Prop} (h : F46 a0 a1 a2 w Q) : CallR Try.prog 46 [a0, a1, a2] w Q :=
  call_ofE mixed entOk Try.func46 (c := C46) rfl H46 (Nat.le_of_ble_eq_true rfl) (by kernel_rfl) h
theorem L46_0_ok {x0 x1 x5 x7 : Value} {w : World} {Q : Value → World → Prop} (h : L46_0 x0 x1 x5 x7 w Q) : P46_0 x0 x1 x5 x7 w Q :=
  part_jnE mixed entOk Try.func46 H46 (by kernel_rfl) h
theorem L46_1_ok {w : World} {Q : Value → World → Prop} (h : L46_1  w Q) : P46_1  w Q :=
  part_jnE mixed entOk Try.func46 H46 (by kernel_rfl) h

noncomputable def C47 : Code := (Try.f47.body).getD .skip
noncomputable def H47 : Hints := ⟨[], [(11, [0, 7, 9, 10, 11, 12]), (18, [9, 11])], [(6, (.ask 5 1 (.leaf [0, 2, 3, 4, 5, 1, 6, 7, 8, 9]) (.ask 5 7 (.leaf [0, 1, 2, 3, 4, 5, 6, 7, 8, 9]) (.leaf [0, 2, 3, 4, 1, 6, 7, 5, 8, 9])))), (9, (.leaf [0, 1, 2, 3, 4, 5, 6, 7, 8, 9, 10, 11, 12, 13, 14, 15, 16, 17, 18, 19])), (15, (.leaf [0, 1, 2, 3, 4, 5, 6, 7, 8, 9, 10, 11])), (16, (.leaf [0, 1, 2, 3, 4, 5, 6, 7, 8, 9, 10, 11, 12, 13, 14, 15])), (18, (.leaf [0, 1, 2, 3, 4, 5, 6, 7, 8, 9, 10]))]⟩
noncomputable def T47_0 : List It := [.jn (nav [1, 1, 1, 1, 1, 1] C47)]
noncomputable def T47_1 : List It := [.jn (nav [1, 1, 1, 1, 1, 1, 1, 1] C47)]
/-- (*rundale/model.Model).gives, from a join on -/
def P47_0 (x0 x7 x9 x10 x11 x12 : Value) (w : World) (Q : Value → World → Prop) : Prop := Part Try.prog 47 T47_0 [0, 7, 9, 10, 11, 12] [x0, x7, x9, x10, x11, x12] w Q
/-- (*rundale/model.Model).gives, from a join on -/
def P47_1 (x9 x11 : Value) (w : World) (Q : Value → World → Prop) : Prop := Part Try.prog 47 T47_1 [9, 11] [x9, x11] w Q
def F47 (a0 a1 a2 a3 : Value) (w : World) (Q : Value → World → Prop) : Prop :=
  effv Try.prog (Instr.box 27 a2) w fun t6 w =>
  effv Try.prog (Instr.box 32 a3) w fun t7 w =>
  wpB (ldv Try.prog 27 t6 w) fun t14 =>
  CallR Try.prog 59 [t14] w fun t15 w =>
  CallR Try.prog 58 [a0, t15] w fun t16 w =>
  wpB (nilv t16) fun t18 =>
  wpB (pureRun Try.prog (Instr.fieldAt 98 t18 1)) fun t19 =>
  wpB (ldv Try.prog 3 t19 w) fun t20 =>
  CallR Try.prog 74 [t20, a1] w fun t22 w =>
  wpB (pureRun Try.prog (Instr.fieldAt 27 t6 0)) fun t23 =>
  wpB (ldv Try.prog 3 t23 w) fun t24 =>
  wpB (pureRun Try.prog (Instr.fieldAt 27 t6 1)) fun t25 =>
  wpB (ldv Try.prog 3 t25 w) fun t26 =>
  wpB (pureRun Try.prog (Instr.fieldAt 32 t7 1)) fun t27 =>
  wpB (pureRun Try.prog (Instr.fieldAt 27 t27 2)) fun t28 =>
  wpB (ldv Try.prog 3 t28 w) fun t29 =>
  wpB (pureRun Try.prog (Instr.build 27 #[(0, t24), (1, t26), (2, t29), (4, a1)])) fun t31 =>
  effv Try.prog (Instr.alloc 27 true (.tuple #[])) w fun t11 w =>
  effu Try.prog (Instr.storeAt 27 t11 t31) w fun w =>
  wpB (nilv a0) fun t34 =>
  wpB (pureRun Try.prog (Instr.fieldAt 72 t34 0)) fun t35 =>
  wpB (pureRun Try.prog (Instr.fieldAt 25 t35 2)) fun t36 =>
  wpB (ldv Try.prog 3 t36 w) fun t37 =>
  CallR Try.prog 75 [t16, t37, t22] w fun t39 w =>
  cnd t39
  ((wpB (nilv t16) fun t45 =>
  wpB (pureRun Try.prog (Instr.fieldAt 98 t45 2)) fun t46 =>
  wpB (ldv Try.prog 3 t46 w.drew) fun t47 =>
  CallR Try.prog 76 [t16] w.drew fun t43 w =>
  wpB (pureRun Try.prog (Instr.fieldAt 27 t11 2)) fun t48 =>
  effu Try.prog (Instr.storeAt 3 t48 t43) w fun w =>
  wpB (pureRun Try.prog (Instr.fieldAt 27 t11 3)) fun t49 =>
  effu Try.prog (Instr.storeAt 3 t49 t47) w fun w =>
  P47_0 a0 t7 t16 t22 t11 t39 w Q) ∧
  ((CallR Try.prog 76 [t16] w.drew fun t43_1 w =>
  wpB (nilv t16) fun t45_1 =>
  wpB (pureRun Try.prog (Instr.fieldAt 98 t45_1 2)) fun t46_1 =>
  wpB (ldv Try.prog 3 t46_1 w) fun t47_1 =>
  wpB (pureRun Try.prog (Instr.fieldAt 27 t11 2)) fun t48_1 =>
  effu Try.prog (Instr.storeAt 3 t48_1 t43_1) w fun w =>
  wpB (pureRun Try.prog (Instr.fieldAt 27 t11 3)) fun t49_1 =>
  effu Try.prog (Instr.storeAt 3 t49_1 t47_1) w fun w =>
  P47_0 a0 t7 t16 t22 t11 t39 w Q) ∧
  (wpB (nilv t16) fun t45_2 =>
  wpB (pureRun Try.prog (Instr.fieldAt 98 t45_2 2)) fun t46_2 =>
  CallR Try.prog 76 [t16] w.drew fun t43_2 w =>
  wpB (pureRun Try.prog (Instr.fieldAt 27 t11 2)) fun t48_2 =>
  effu Try.prog (Instr.storeAt 3 t48_2 t43_2) w fun w =>
  wpB (ldv Try.prog 3 t46_2 w) fun t47_2 =>
  wpB (pureRun Try.prog (Instr.fieldAt 27 t11 3)) fun t49_2 =>
  effu Try.prog (Instr.storeAt 3 t49_2 t47_2) w fun w =>
  P47_0 a0 t7 t16 t22 t11 t39 w Q)))
  (wpB (ldv Try.prog 32 t7 w) fun t51 =>
  wpB (pureRun Try.prog (Instr.build 32 #[(0, (.int .i64 6))])) fun t52 =>
  wpB (be Try.prog .eql 32 (.tmp 51) (.tmp 52) t51 t52) fun t53 =>
  cnd t53
  (Q (.bool true) w)
  (wpB (pureRun Try.prog (Instr.fieldAt 27 t11 2)) fun t55 =>
  wpB (ldv Try.prog 3 t55 w.drew) fun t56 =>
  wpB (bp Try.prog .lss 3 t56 (.int .i64 0)) fun t57 =>
  wpB (gd t57 false (pureRun Try.prog (Instr.fieldAt 27 t11 2))) fun t59 =>
  wpB (gd t57 false (ldv Try.prog 3 t59 w.drew)) fun t60 =>
  wpB (gd t57 false (nilv (gv t57 false a0))) fun t62 =>
  wpB (gd t57 false (pureRun Try.prog (Instr.fieldAt 72 t62 0))) fun t63 =>
  wpB (gd t57 false (pureRun Try.prog (Instr.fieldAt 25 t63 1))) fun t64 =>
  wpB (gd t57 false (ldv Try.prog 3 t64 w.drew)) fun t65 =>
  wpB (gd t57 false (bp Try.prog .geq 3 t60 t65)) fun t66 =>
  wpB (pickv t57 (some (.bool true)) (some t66)) fun t67 =>
  wpB (gd t67 false (pureRun Try.prog (Instr.fieldAt 27 t11 2))) fun t70 =>
  wpB (gd t67 false (ldv Try.prog 3 t70 w.drew)) fun t71 =>
  gE t67 false (CallR Try.prog 77 [(gv t67 false a0), t71] w.drew) (fun t72 w =>
  wpB (pickv t67 (some (.bool true)) (some t72)) fun t73 =>
  cnd t73
  (Q (.bool false) w)
  (P47_0 a0 t7 t16 t22 t11 t39 w Q)) w.drew))
def L47_0 (x0 x7 x9 x10 x11 x12 : Value) (w : World) (Q : Value → World → Prop) : Prop :=
  wpB (ldv Try.prog 32 x7 w) fun t74 =>
  wpB (ldv Try.prog 27 x11 w) fun t75 =>
  wpB (pureRun Try.prog (Instr.build 32 #[(1, t75)])) fun t76 =>
  wpB (be Try.prog .neq 32 (.tmp 74) (.tmp 76) t74 t76) fun t77 =>
  cnd t77
  (Q (.bool false) w)
  (cnd x12
  (wpB (nilv x9) fun t80 =>
  wpB (pureRun Try.prog (Instr.fieldAt 98 t80 2)) fun t81 =>
  wpB (ldv Try.prog 3 t81 w) fun t82 =>
  wpB (bp Try.prog .add 3 t82 x10) fun t84 =>
  wpB (nilv x9) fun t85 =>
  wpB (pureRun Try.prog (Instr.fieldAt 98 t85 2)) fun t86 =>
  effu Try.prog (Instr.storeAt 3 t86 t84) w fun w =>
  P47_1 x9 x11 w Q)
  (wpB (nilv x9) fun t89 =>
  wpB (pureRun Try.prog (Instr.fieldAt 98 t89 3)) fun t90 =>
  wpB (ldv Try.prog 36 t90 w.drew) fun t91 =>
  wpB (pureRun Try.prog (Instr.fieldAt 27 x11 2)) fun t92 =>
  wpB (ldv Try.prog 3 t92 w.drew) fun t93 =>
  effv Try.prog (Instr.buildSlice 36 1 #[(0, t93)]) w.drew fun t94 w =>
  effv Try.prog (Builtin.append_ #[36, 36] 36 #[t91, t94]) w fun t95 w =>
  wpB (nilv x9) fun t96 =>
  wpB (pureRun Try.prog (Instr.fieldAt 98 t96 3)) fun t97 =>
  effu Try.prog (Instr.storeAt 36 t97 t95) w fun w =>
  wpB (nilv x9) fun t100 =>
  wpB (pureRun Try.prog (Instr.fieldAt 98 t100 4)) fun t101 =>
  wpB (ldv Try.prog 96 t101 w.drew) fun t102 =>
  wpB (nilv x0) fun t104 =>
  wpB (pureRun Try.prog (Instr.fieldAt 72 t104 0)) fun t105 =>
  wpB (pureRun Try.prog (Instr.fieldAt 25 t105 2)) fun t106 =>
  wpB (ldv Try.prog 3 t106 w.drew) fun t107 =>
  effv Try.prog (Instr.makeSlice 112 t107 t107) w.drew fun t108 w =>
  effv Try.prog (Instr.buildSlice 96 1 #[(0, t108)]) w fun t109 w =>
  effv Try.prog (Builtin.append_ #[96, 96] 96 #[t102, t109]) w fun t110 w =>
  wpB (nilv x9) fun t111 =>
  wpB (pureRun Try.prog (Instr.fieldAt 98 t111 4)) fun t112 =>
  effu Try.prog (Instr.storeAt 96 t112 t110) w fun w =>
  wpB (nilv x0) fun t115 =>
  wpB (pureRun Try.prog (Instr.fieldAt 72 t115 0)) fun t116 =>
  wpB (pureRun Try.prog (Instr.fieldAt 25 t116 2)) fun t117 =>
  wpB (ldv Try.prog 3 t117 w) fun t118 =>
  CallR Try.prog 78 [t118, x10] w fun t120 w =>
  wpB (nilv x9) fun t121 =>
  wpB (pureRun Try.prog (Instr.fieldAt 98 t121 2)) fun t122 =>
  effu Try.prog (Instr.storeAt 3 t122 t120) w fun w =>
  P47_1 x9 x11 w Q))
def L47_1 (x9 x11 : Value) (w : World) (Q : Value → World → Prop) : Prop :=
  wpB (nilv x9) fun t125 =>
  wpB (pureRun Try.prog (Instr.fieldAt 98 t125 5)) fun t126 =>
  wpB (ldv Try.prog 48 t126 w.drew) fun t127 =>
  wpB (ldv Try.prog 27 x11 w.drew) fun t128 =>
  effv Try.prog (Instr.buildSlice 48 1 #[(0, t128)]) w.drew fun t129 w =>
  effv Try.prog (Builtin.append_ #[48, 48] 48 #[t127, t129]) w fun t130 w =>
  wpB (nilv x9) fun t131 =>
  wpB (pureRun Try.prog (Instr.fieldAt 98 t131 5)) fun t132 =>
  effu Try.prog (Instr.storeAt 48 t132 t130) w fun w =>
  Q (.bool true) w
theorem F47_ok {a0 a1 a2 a3 : Value} {w : World} {Q : Value → World → Prop} (h : F47 a0 a1 a2 a3 w Q) : CallR Try.prog 47 [a0, a1, a2, a3] w Q :=
  call_ofE mixed entOk Try.func47 (c := C47) rfl H47 (Nat.le_of_ble_eq_true rfl) (by kernel_rfl) h
theorem L47_0_ok {x0 x7 x9 x10 x11 x12 : Value} {w : World} {Q : Value → World → Prop} (h : L47_0 x0 x7 x9 x10 x11 x12 w Q) : P47_0 x0 x7 x9 x10 x11 x12 w Q :=
  part_jnE mixed entOk Try.func47 H47 (by kernel_rfl) h
theorem L47_1_ok {x9 x11 : Value} {w : World} {Q : Value → World → Prop} (h : L47_1 x9 x11 w Q) : P47_1 x9 x11 w Q :=
  part_jnE mixed entOk Try.func47 H47 (by kernel_rfl) h

noncomputable def C54 : Code := (Try.f54.body).getD .skip
noncomputable def H54 : Hints := ⟨[], [], []⟩
def F54 (a0 a1 : Value) (w : World) (Q : Value → World → Prop) : Prop :=
  CallR Try.prog 84 [a0, a1] w fun t7 w =>
  wpB (bp Try.prog .geq 3 t7 (.int .i64 0)) fun t8 =>
  Q t8 w
theorem F54_ok {a0 a1 : Value} {w : World} {Q : Value → World → Prop} (h : F54 a0 a1 w Q) : CallR Try.prog 54 [a0, a1] w Q :=
  call_ofE mixed entOk Try.func54 (c := C54) rfl H54 (Nat.le_of_ble_eq_true rfl) (by kernel_rfl) h

noncomputable def C55 : Code := (Try.f55.body).getD .skip
noncomputable def H55 : Hints := ⟨[], [], []⟩
def F55 (a0 a1 : Value) (w : World) (Q : Value → World → Prop) : Prop :=
  wpB (nilv a0) fun t6 =>
  wpB (pureRun Try.prog (Instr.fieldAt 50 t6 2)) fun t7 =>
  wpB (ldv Try.prog 36 t7 w) fun t8 =>
  CallR Try.prog 54 [t8, a1] w fun t10 w =>
  Q t10 w
theorem F55_ok {a0 a1 : Value} {w : World} {Q : Value → World → Prop} (h : F55 a0 a1 w Q) : CallR Try.prog 55 [a0, a1] w Q :=
  call_ofE mixed entOk Try.func55 (c := C55) rfl H55 (Nat.le_of_ble_eq_true rfl) (by kernel_rfl) h

noncomputable def C56 : Code := (Try.f56.body).getD .skip
noncomputable def H56 : Hints := ⟨[], [(5, [0, 6, 7, 10, 11]), (9, [0, 6, 7, 10, 12, 13]), (31, [6, 7, 12, 13, 45, 94]), (37, [13, 108]), (38, [])], [(4, (.ask 3 7 (.ask 8 7 (.leaf [0, 1, 2, 4, 3, 5, 6, 8, 7, 9, 10]) (.leaf [0, 1, 2, 3, 4, 5, 6, 7, 8, 9, 10])) (.ask 8 7 (.leaf [0, 1, 2, 4, 6, 8, 7, 3, 5, 9, 10]) (.leaf [0, 1, 2, 4, 6, 7, 3, 5, 8, 9, 10])))), (5, (.leaf [0, 1, 2, 3, 4, 5, 6])), (11, (.leaf [0, 1, 2, 3, 4, 5, 6, 7, 8, 9, 10, 11, 12]))]⟩
noncomputable def T56_0 : List It := [.jn (nav [1, 1, 1] C56)]
noncomputable def T56_1 : List It := [.jn (nav [1, 1, 1, 1, 1, 1] C56)]
noncomputable def T56_2 : List It := [.jn (nav [1, 1, 1, 1, 1, 1, 1] C56)]
noncomputable def T56_3 : List It := [.jn (nav [1, 1, 1, 1, 1, 1, 0, 1, 4, 1, 3, 1, 3, 1, 3, 1, 3, 1] C56), .blk 0, .jn (nav [1, 1, 1, 1, 1, 1, 1] C56)]
noncomputable def T56_4 : List It := [.jn (nav [1, 1, 1, 1, 1, 1, 0, 1, 4, 1, 3, 1, 3, 1, 3, 1, 3, 1, 3, 1] C56), .blk 0, .jn (nav [1, 1, 1, 1, 1, 1, 1] C56)]
/-- (*rundale/model.Model).refuses, from a join on -/
def P56_0 (x0 x6 x7 x10 x11 : Value) (w : World) (Q : Value → World → Prop) : Prop := Part Try.prog 56 T56_0 [0, 6, 7, 10, 11] [x0, x6, x7, x10, x11] w Q
/-- (*rundale/model.Model).refuses, from a join on -/
def P56_1 (x0 x6 x7 x10 x12 x13 : Value) (w : World) (Q : Value → World → Prop) : Prop := Part Try.prog 56 T56_1 [0, 6, 7, 10, 12, 13] [x0, x6, x7, x10, x12, x13] w Q
/-- (*rundale/model.Model).refuses, from a join on -/
def P56_2 (w : World) (Q : Value → World → Prop) : Prop := Part Try.prog 56 T56_2 [] [] w Q
/-- (*rundale/model.Model).refuses, from a join on -/
def P56_3 (x6 x7 x12 x13 x45 x94 : Value) (w : World) (Q : Value → World → Prop) : Prop := Part Try.prog 56 T56_3 [6, 7, 12, 13, 45, 94] [x6, x7, x12, x13, x45, x94] w Q
/-- (*rundale/model.Model).refuses, from a join on -/
def P56_4 (x13 x108 : Value) (w : World) (Q : Value → World → Prop) : Prop := Part Try.prog 56 T56_4 [13, 108] [x13, x108] w Q
def F56 (a0 a1 a2 a3 : Value) (w : World) (Q : Value → World → Prop) : Prop :=
  effv Try.prog (Instr.box 29 a2) w fun t6 w =>
  effv Try.prog (Instr.box 27 a3) w fun t7 w =>
  wpB (pureRun Try.prog (Instr.fieldAt 29 t6 0)) fun t14 =>
  wpB (ldv Try.prog 3 t14 w) fun t15 =>
  CallR Try.prog 42 [t15] w fun t16 w =>
  wpB (be Try.prog .neq 3 (.tmp 17) (.const (.int .i64 0)) t16 (.int .i64 0)) fun t18 =>
  wpB (gd t18 true (ldv Try.prog 27 t7 w)) fun t21 =>
  gE t18 true (CallR Try.prog 85 [(gv t18 true a0), t21, (gv t18 true t16)] w) (fun t23 w =>
  wpB (gd t18 true (pureRun Try.prog (Op.unary .not t23))) fun t24 =>
  wpB (pickv t18 (some t24) (some (.bool false))) fun t25 =>
  cnd t25
  (Q (.int .i64 2) w)
  (((wpB (nilv a0) fun t27 =>
  wpB (pureRun Try.prog (Instr.fieldAt 72 t27 4)) fun t28 =>
  wpB (ldv Try.prog 70 t28 w.drew) fun t29 =>
  wpB (pureRun Try.prog (Instr.indexAt 70 t29 a1)) fun t31 =>
  wpB (ldv Try.prog 27 t7 w.drew) fun t32 =>
  effv Try.prog (Instr.alloc 95 true (.tuple #[])) w.drew fun t11 w =>
  CallR Try.prog 59 [t32] w fun t33 w =>
  effu Try.prog (Instr.storeAt 95 t11 t33) w fun w =>
  P56_0 a0 t6 t7 t31 t11 w Q) ∧
  (wpB (nilv a0) fun t27_1 =>
  wpB (pureRun Try.prog (Instr.fieldAt 72 t27_1 4)) fun t28_1 =>
  wpB (ldv Try.prog 70 t28_1 w.drew) fun t29_1 =>
  wpB (pureRun Try.prog (Instr.indexAt 70 t29_1 a1)) fun t31_1 =>
  wpB (ldv Try.prog 27 t7 w.drew) fun t32_1 =>
  CallR Try.prog 59 [t32_1] w.drew fun t33_1 w =>
  effv Try.prog (Instr.alloc 95 true (.tuple #[])) w fun t11_1 w =>
  effu Try.prog (Instr.storeAt 95 t11_1 t33_1) w fun w =>
  P56_0 a0 t6 t7 t31_1 t11_1 w Q)) ∧
  ((wpB (nilv a0) fun t27_2 =>
  wpB (pureRun Try.prog (Instr.fieldAt 72 t27_2 4)) fun t28_2 =>
  wpB (ldv Try.prog 27 t7 w.drew) fun t32_2 =>
  effv Try.prog (Instr.alloc 95 true (.tuple #[])) w.drew fun t11_2 w =>
  CallR Try.prog 59 [t32_2] w fun t33_2 w =>
  wpB (ldv Try.prog 70 t28_2 w) fun t29_2 =>
  wpB (pureRun Try.prog (Instr.indexAt 70 t29_2 a1)) fun t31_2 =>
  effu Try.prog (Instr.storeAt 95 t11_2 t33_2) w fun w =>
  P56_0 a0 t6 t7 t31_2 t11_2 w Q) ∧
  (wpB (nilv a0) fun t27_3 =>
  wpB (pureRun Try.prog (Instr.fieldAt 72 t27_3 4)) fun t28_3 =>
  wpB (ldv Try.prog 27 t7 w.drew) fun t32_3 =>
  CallR Try.prog 59 [t32_3] w.drew fun t33_3 w =>
  wpB (ldv Try.prog 70 t28_3 w) fun t29_3 =>
  wpB (pureRun Try.prog (Instr.indexAt 70 t29_3 a1)) fun t31_3 =>
  effv Try.prog (Instr.alloc 95 true (.tuple #[])) w fun t11_3 w =>
  effu Try.prog (Instr.storeAt 95 t11_3 t33_3) w fun w =>
  P56_0 a0 t6 t7 t31_3 t11_3 w Q)))) w
def L56_0 (x0 x6 x7 x10 x11 : Value) (w : World) (Q : Value → World → Prop) : Prop :=
  wpB (nilv x10) fun t35 =>
  wpB (pureRun Try.prog (Instr.fieldAt 106 t35 1)) fun t36 =>
  wpB (ldv Try.prog 104 t36 w.drew) fun t37 =>
  wpB (ldv Try.prog 95 x11 w.drew) fun t38 =>
  CallR Try.prog 72 [t37, t38] w.drew fun t39 w =>
  wpB (ldv Try.prog 95 x11 w) fun t41 =>
  CallR Try.prog 86 [x0, t41] w fun t42 w =>
  wpB (pureRun Try.prog (Op.unary .not t42)) fun t43 =>
  cnd t43
  (P56_1 x0 x6 x7 x10 t39 (.int .i64 3) w Q)
  (P56_1 x0 x6 x7 x10 t39 (.int .i64 0) w Q)
def L56_1 (x0 x6 x7 x10 x12 x13 : Value) (w : World) (Q : Value → World → Prop) : Prop :=
  wpB (pureRun Try.prog (Instr.fieldAt 29 x6 0)) fun t44 =>
  wpB (ldv Try.prog 3 t44 w) fun t45 =>
  wpB (be Try.prog .eql 3 (.tmp 45) (.const (.int .i64 2)) t45 (.int .i64 2)) fun t47 =>
  cnd t47
  (wpB (pureRun Try.prog (Instr.fieldAt 29 x6 3)) fun t48 =>
  wpB (ldv Try.prog 3 t48 w.drew) fun t49 =>
  wpB (bp Try.prog .lss 3 t49 (.int .i64 1)) fun t50 =>
  wpB (gd t50 false (pureRun Try.prog (Instr.fieldAt 29 x6 3))) fun t52 =>
  wpB (gd t50 false (ldv Try.prog 3 t52 w.drew)) fun t53 =>
  wpB (gd t50 false (nilv (gv t50 false x0))) fun t55 =>
  wpB (gd t50 false (pureRun Try.prog (Instr.fieldAt 72 t55 0))) fun t56 =>
  wpB (gd t50 false (pureRun Try.prog (Instr.fieldAt 25 t56 2))) fun t57 =>
  wpB (gd t50 false (ldv Try.prog 3 t57 w.drew)) fun t58 =>
  wpB (gd t50 false (bp Try.prog .gtr 3 t53 t58)) fun t59 =>
  wpB (pickv t50 (some (.bool true)) (some t59)) fun t60 =>
  cnd t60
  (Q (.int .i64 5) w.drew)
  (Q x13 w.drew))
  (wpB (be Try.prog .eql 3 (.tmp 45) (.const (.int .i64 3)) t45 (.int .i64 3)) fun t63 =>
  cnd t63
  (wpB (nilv x10) fun t65 =>
  wpB (pureRun Try.prog (Instr.fieldAt 106 t65 0)) fun t66 =>
  wpB (ldv Try.prog 3 t66 w) fun t67 =>
  wpB (be Try.prog .eql 3 (.tmp 67) (.const (.int .i64 15)) t67 (.int .i64 15)) fun t68 =>
  cnd t68
  (Q (.int .i64 8) w)
  (P56_2 w Q))
  (wpB (be Try.prog .eql 3 (.tmp 45) (.const (.int .i64 4)) t45 (.int .i64 4)) fun t70 =>
  cnd t70
  (wpB (nilv x10) fun t72 =>
  wpB (pureRun Try.prog (Instr.fieldAt 106 t72 0)) fun t73 =>
  wpB (ldv Try.prog 3 t73 w) fun t74 =>
  wpB (be Try.prog .eql 3 (.tmp 74) (.const (.int .i64 0)) t74 (.int .i64 0)) fun t75 =>
  cnd t75
  (Q (.int .i64 4) w)
  (P56_2 w Q))
  (wpB (be Try.prog .eql 3 (.tmp 45) (.const (.int .i64 5)) t45 (.int .i64 5)) fun t77 =>
  cnd t77
  (wpB (nilv x10) fun t81 =>
  wpB (pureRun Try.prog (Instr.fieldAt 106 t81 0)) fun t82 =>
  wpB (ldv Try.prog 3 t82 w) fun t83 =>
  wpB (be Try.prog .eql 3 (.tmp 83) (.const (.int .i64 0)) t83 (.int .i64 0)) fun t84 =>
  cnd t84
  (Q (.int .i64 4) w)
  (cnd x12
  (P56_2 w Q)
  (wpB (nilv x10) fun t89 =>
  wpB (pureRun Try.prog (Instr.fieldAt 106 t89 1)) fun t90 =>
  wpB (ldv Try.prog 104 t90 w) fun t91 =>
  wpB (pureRun Try.prog (Builtin.len_ #[104] 3 #[t91])) fun t92 =>
  wpB (be Try.prog .eql 3 (.tmp 92) (.const (.int .i64 8)) t92 (.int .i64 8)) fun t93 =>
  cnd t93
  (Q (.int .i64 8) w)
  (Q x13 w))))
  (wpB (be Try.prog .eql 3 (.tmp 45) (.const (.int .i64 6)) t45 (.int .i64 6)) fun t95 =>
  cnd t95
  (P56_3 x6 x7 x12 x13 t45 t95 w Q)
  (wpB (be Try.prog .eql 3 (.tmp 45) (.const (.int .i64 7)) t45 (.int .i64 7)) fun t96 =>
  cnd t96
  (P56_3 x6 x7 x12 x13 t45 t96 w Q)
  (wpB (be Try.prog .eql 3 (.tmp 45) (.const (.int .i64 8)) t45 (.int .i64 8)) fun t97 =>
  cnd t97
  (P56_3 x6 x7 x12 x13 t45 t97 w Q)
  (wpB (be Try.prog .eql 3 (.tmp 45) (.const (.int .i64 9)) t45 (.int .i64 9)) fun t98 =>
  P56_3 x6 x7 x12 x13 t45 t98 w Q)))))))
def L56_2 (w : World) (Q : Value → World → Prop) : Prop :=
  Q (.int .i64 0) w
def L56_3 (x6 x7 x12 x13 x45 x94 : Value) (w : World) (Q : Value → World → Prop) : Prop :=
  cnd x94
  (wpB (pureRun Try.prog (Op.unary .not x12)) fun t101 =>
  cnd t101
  (Q (.int .i64 4) w)
  (wpB (pureRun Try.prog (Instr.fieldAt 29 x6 3)) fun t103 =>
  wpB (ldv Try.prog 3 t103 w) fun t104 =>
  wpB (pureRun Try.prog (Instr.fieldAt 27 x7 4)) fun t105 =>
  wpB (ldv Try.prog 3 t105 w) fun t106 =>
  wpB (bp Try.prog .geq 3 t104 t106) fun t107 =>
  cnd t107
  (Q (.int .i64 5) w)
  (P56_2 w Q)))
  (wpB (be Try.prog .eql 3 (.tmp 45) (.const (.int .i64 10)) x45 (.int .i64 10)) fun t109 =>
  cnd t109
  (P56_4 x13 t109 w Q)
  (wpB (be Try.prog .eql 3 (.tmp 45) (.const (.int .i64 12)) x45 (.int .i64 12)) fun t110 =>
  P56_4 x13 t110 w Q))
def L56_4 (x13 x108 : Value) (w : World) (Q : Value → World → Prop) : Prop :=
  cnd x108
  (Q x13 w)
  (P56_2 w Q)
theorem F56_ok {a0 a1 a2 a3 : Value} {w : World} {Q : Value → World → Prop} (h : F56 a0 a1 a2 a3 w Q) : CallR Try.prog 56 [a0, a1, a2, a3] w Q :=
  call_ofE mixed entOk Try.func56 (c := C56) rfl H56 (Nat.le_of_ble_eq_true rfl) (by kernel_rfl) h
theorem L56_0_ok {x0 x6 x7 x10 x11 : Value} {w : World} {Q : Value → World → Prop} (h : L56_0 x0 x6 x7 x10 x11 w Q) : P56_0 x0 x6 x7 x10 x11 w Q :=
  part_jnE mixed entOk Try.func56 H56 (by kernel_rfl) h
theorem L56_1_ok {x0 x6 x7 x10 x12 x13 : Value} {w : World} {Q : Value → World → Prop} (h : L56_1 x0 x6 x7 x10 x12 x13 w Q) : P56_1 x0 x6 x7 x10 x12 x13 w Q :=
  part_jnE mixed entOk Try.func56 H56 (by kernel_rfl) h
theorem L56_2_ok {w : World} {Q : Value → World → Prop} (h : L56_2  w Q) : P56_2  w Q :=
  part_jnE mixed entOk Try.func56 H56 (by kernel_rfl) h
theorem L56_3_ok {x6 x7 x12 x13 x45 x94 : Value} {w : World} {Q : Value → World → Prop} (h : L56_3 x6 x7 x12 x13 x45 x94 w Q) : P56_3 x6 x7 x12 x13 x45 x94 w Q :=
  part_jnE mixed entOk Try.func56 H56 (by kernel_rfl) h
theorem L56_4_ok {x13 x108 : Value} {w : World} {Q : Value → World → Prop} (h : L56_4 x13 x108 w Q) : P56_4 x13 x108 w Q :=
  part_jnE mixed entOk Try.func56 H56 (by kernel_rfl) h

noncomputable def C57 : Code := (Try.f57.body).getD .skip
noncomputable def H57 : Hints := ⟨[], [], [(2, (.ask 3 10 (.ask 14 10 (.leaf [0, 1, 2, 4, 5, 6, 8, 13, 15, 3, 7, 9, 14, 16, 10, 11, 12, 17, 18]) (.leaf [0, 1, 2, 3, 4, 5, 6, 7, 8, 9, 10, 11, 12, 13, 14, 15, 16, 17, 18])) (.ask 14 10 (.leaf [0, 1, 2, 4, 5, 6, 8, 13, 15, 7, 9, 14, 16, 10, 3, 11, 12, 17, 18]) (.leaf [0, 1, 2, 4, 5, 6, 8, 13, 15, 7, 9, 10, 3, 11, 12, 14, 16, 17, 18]))))]⟩
def F57 (a0 a1 a2 : Value) (w : World) (Q : Value → World → Prop) : Prop :=
  effv Try.prog (Instr.box 27 a1) w fun t4 w =>
  wpB (ldv Try.prog 27 t4 w) fun t9 =>
  CallR Try.prog 59 [t9] w fun t10 w =>
  CallR Try.prog 58 [a0, t10] w fun t11 w =>
  ((wpB (nilv t11) fun t13 =>
  wpB (pureRun Try.prog (Instr.fieldAt 98 t13 4)) fun t14 =>
  wpB (nilv t11) fun t17 =>
  wpB (pureRun Try.prog (Instr.fieldAt 98 t17 3)) fun t18 =>
  wpB (pureRun Try.prog (Instr.fieldAt 27 t4 2)) fun t20 =>
  wpB (pureRun Try.prog (Instr.fieldAt 27 t4 3)) fun t25 =>
  wpB (ldv Try.prog 96 t14 w.drew) fun t15 =>
  wpB (ldv Try.prog 36 t18 w.drew) fun t19 =>
  wpB (ldv Try.prog 3 t20 w.drew) fun t21 =>
  wpB (ldv Try.prog 3 t25 w.drew) fun t26 =>
  wpB (bp Try.prog .add 3 t26 a2) fun t28 =>
  CallR Try.prog 84 [t19, t21] w.drew fun t22 w =>
  wpB (pureRun Try.prog (Instr.indexAt 96 t15 t22)) fun t23 =>
  wpB (ldv Try.prog 112 t23 w) fun t24 =>
  wpB (pureRun Try.prog (Instr.indexAt 112 t24 t28)) fun t29 =>
  Q t29 w) ∧
  (wpB (nilv t11) fun t13_1 =>
  wpB (pureRun Try.prog (Instr.fieldAt 98 t13_1 4)) fun t14_1 =>
  wpB (ldv Try.prog 96 t14_1 w.drew) fun t15_1 =>
  wpB (nilv t11) fun t17_1 =>
  wpB (pureRun Try.prog (Instr.fieldAt 98 t17_1 3)) fun t18_1 =>
  wpB (ldv Try.prog 36 t18_1 w.drew) fun t19_1 =>
  wpB (pureRun Try.prog (Instr.fieldAt 27 t4 2)) fun t20_1 =>
  wpB (ldv Try.prog 3 t20_1 w.drew) fun t21_1 =>
  CallR Try.prog 84 [t19_1, t21_1] w.drew fun t22_1 w =>
  wpB (pureRun Try.prog (Instr.indexAt 96 t15_1 t22_1)) fun t23_1 =>
  wpB (ldv Try.prog 112 t23_1 w) fun t24_1 =>
  wpB (pureRun Try.prog (Instr.fieldAt 27 t4 3)) fun t25_1 =>
  wpB (ldv Try.prog 3 t25_1 w) fun t26_1 =>
  wpB (bp Try.prog .add 3 t26_1 a2) fun t28_1 =>
  wpB (pureRun Try.prog (Instr.indexAt 112 t24_1 t28_1)) fun t29_1 =>
  Q t29_1 w)) ∧
  ((wpB (nilv t11) fun t13_2 =>
  wpB (pureRun Try.prog (Instr.fieldAt 98 t13_2 4)) fun t14_2 =>
  wpB (nilv t11) fun t17_2 =>
  wpB (pureRun Try.prog (Instr.fieldAt 98 t17_2 3)) fun t18_2 =>
  wpB (pureRun Try.prog (Instr.fieldAt 27 t4 2)) fun t20_2 =>
  wpB (pureRun Try.prog (Instr.fieldAt 27 t4 3)) fun t25_2 =>
  wpB (ldv Try.prog 36 t18_2 w.drew) fun t19_2 =>
  wpB (ldv Try.prog 3 t20_2 w.drew) fun t21_2 =>
  wpB (ldv Try.prog 3 t25_2 w.drew) fun t26_2 =>
  wpB (bp Try.prog .add 3 t26_2 a2) fun t28_2 =>
  CallR Try.prog 84 [t19_2, t21_2] w.drew fun t22_2 w =>
  wpB (ldv Try.prog 96 t14_2 w) fun t15_2 =>
  wpB (pureRun Try.prog (Instr.indexAt 96 t15_2 t22_2)) fun t23_2 =>
  wpB (ldv Try.prog 112 t23_2 w) fun t24_2 =>
  wpB (pureRun Try.prog (Instr.indexAt 112 t24_2 t28_2)) fun t29_2 =>
  Q t29_2 w) ∧
  (wpB (nilv t11) fun t13_3 =>
  wpB (pureRun Try.prog (Instr.fieldAt 98 t13_3 4)) fun t14_3 =>
  wpB (nilv t11) fun t17_3 =>
  wpB (pureRun Try.prog (Instr.fieldAt 98 t17_3 3)) fun t18_3 =>
  wpB (pureRun Try.prog (Instr.fieldAt 27 t4 2)) fun t20_3 =>
  wpB (pureRun Try.prog (Instr.fieldAt 27 t4 3)) fun t25_3 =>
  wpB (ldv Try.prog 36 t18_3 w.drew) fun t19_3 =>
  wpB (ldv Try.prog 3 t20_3 w.drew) fun t21_3 =>
  CallR Try.prog 84 [t19_3, t21_3] w.drew fun t22_3 w =>
  wpB (ldv Try.prog 96 t14_3 w) fun t15_3 =>
  wpB (pureRun Try.prog (Instr.indexAt 96 t15_3 t22_3)) fun t23_3 =>
  wpB (ldv Try.prog 112 t23_3 w) fun t24_3 =>
  wpB (ldv Try.prog 3 t25_3 w) fun t26_3 =>
  wpB (bp Try.prog .add 3 t26_3 a2) fun t28_3 =>
  wpB (pureRun Try.prog (Instr.indexAt 112 t24_3 t28_3)) fun t29_3 =>
  Q t29_3 w))
theorem F57_ok {a0 a1 a2 : Value} {w : World} {Q : Value → World → Prop} (h : F57 a0 a1 a2 w Q) : CallR Try.prog 57 [a0, a1, a2] w Q :=
  call_ofE mixed entOk Try.func57 (c := C57) rfl H57 (Nat.le_of_ble_eq_true rfl) (by kernel_rfl) h

noncomputable def C58 : Code := (Try.f58.body).getD .skip
noncomputable def H58 : Hints := ⟨[(2, [0, 3, 10, 11])], [], [(4, (.leaf [0, 1, 2, 3, 4, 5, 6, 7, 8, 9]))]⟩
noncomputable def T58_0 : List It := [.lp (nav [1, 0, 1, 4, 5] C58), .blk 0, .jn (nav [1, 1] C58)]
/-- (*rundale/model.Model).region, from a loop's head on -/
def P58_0 (x0 x3 x10 x11 : Value) (w : World) (Q : Value → World → Prop) : Prop := Part Try.prog 58 T58_0 [0, 3, 10, 11] [x0, x3, x10, x11] w Q
def F58 (a0 a1 : Value) (w : World) (Q : Value → World → Prop) : Prop :=
  effv Try.prog (Instr.box 95 a1) w fun t3 w =>
  wpB (nilv a0) fun t7 =>
  wpB (pureRun Try.prog (Instr.fieldAt 72 t7 3)) fun t8 =>
  wpB (ldv Try.prog 69 t8 w) fun t9 =>
  wpB (pureRun Try.prog (Builtin.len_ #[69] 3 #[t9])) fun t10 =>
  P58_0 a0 t3 t10 (.int .i64 0) w Q
def L58_0 (x0 x3 x10 x11 : Value) (w : World) (Q : Value → World → Prop) : Prop :=
  wpB (bp Try.prog .lss 3 x11 x10) fun t12 =>
  cnd t12
  (wpB (nilv x0) fun t15 =>
  wpB (pureRun Try.prog (Instr.fieldAt 72 t15 3)) fun t16 =>
  wpB (ldv Try.prog 69 t16 w.drew) fun t17 =>
  wpB (pureRun Try.prog (Instr.indexAt 69 t17 x11)) fun t19 =>
  wpB (pureRun Try.prog (Instr.fieldAt 98 t19 0)) fun t20 =>
  wpB (ldv Try.prog 95 t20 w.drew) fun t21 =>
  wpB (ldv Try.prog 95 x3 w.drew) fun t22 =>
  wpB (be Try.prog .eql 95 (.tmp 21) (.tmp 22) t21 t22) fun t23 =>
  cnd t23
  (wpB (nilv x0) fun t25 =>
  wpB (pureRun Try.prog (Instr.fieldAt 72 t25 3)) fun t26 =>
  wpB (ldv Try.prog 69 t26 w.drew) fun t27 =>
  wpB (pureRun Try.prog (Instr.indexAt 69 t27 x11)) fun t29 =>
  Q t29 w.drew)
  (wpB (bp Try.prog .add 3 x11 (.int .i64 1)) fun t30 =>
  P58_0 x0 x3 x10 t30 w.drew Q))
  (Q (.pointer none) w)
theorem F58_ok {a0 a1 : Value} {w : World} {Q : Value → World → Prop} (h : F58 a0 a1 w Q) : CallR Try.prog 58 [a0, a1] w Q :=
  call_ofE mixed entOk Try.func58 (c := C58) rfl H58 (Nat.le_of_ble_eq_true rfl) (by kernel_rfl) h
theorem L58_0_ok {x0 x3 x10 x11 : Value} {w : World} {Q : Value → World → Prop} (h : L58_0 x0 x3 x10 x11 w Q) : P58_0 x0 x3 x10 x11 w Q :=
  part_lpE mixed entOk Try.func58 H58 (by kernel_rfl) h

noncomputable def C59 : Code := (Try.f59.body).getD .skip
noncomputable def H59 : Hints := ⟨[], [], []⟩
def F59 (a0 : Value) (w : World) (Q : Value → World → Prop) : Prop :=
  effv Try.prog (Instr.box 27 a0) w fun t1 w =>
  effv Try.prog (Instr.alloc 95 true (.tuple #[])) w fun t2 w =>
  wpB (pureRun Try.prog (Instr.fieldAt 27 t1 0)) fun t3 =>
  wpB (ldv Try.prog 3 t3 w) fun t4 =>
  wpB (pureRun Try.prog (Instr.fieldAt 27 t1 1)) fun t5 =>
  wpB (ldv Try.prog 3 t5 w) fun t6 =>
  wpB (pureRun Try.prog (Instr.build 95 #[(0, t4), (1, t6)])) fun t7 =>
  effu Try.prog (Instr.storeAt 95 t2 t7) w fun w =>
  wpB (ldv Try.prog 95 t2 w) fun r2 => Q r2 w
theorem F59_ok {a0 : Value} {w : World} {Q : Value → World → Prop} (h : F59 a0 w Q) : CallR Try.prog 59 [a0] w Q :=
  call_ofE mixed entOk Try.func59 (c := C59) rfl H59 (Nat.le_of_ble_eq_true rfl) (by kernel_rfl) h

noncomputable def C60 : Code := (Try.f60.body).getD .skip
noncomputable def H60 : Hints := ⟨[], [], []⟩
def F60 (a0 : Value) (w : World) (Q : Value → World → Prop) : Prop :=
  wpB (be Try.prog .eql 68 (.tmp 3) (.const (.slice none 0 0)) a0 (.slice none 0 0)) fun t4 =>
  cnd t4
  (Q (.slice none 0 0) w)
  (effv Try.prog (Instr.buildSlice 68 0 #[]) w fun t5 w =>
  effv Try.prog (Builtin.append_ #[68, 68] 68 #[t5, a0]) w fun t7 w =>
  Q t7 w)
theorem F60_ok {a0 : Value} {w : World} {Q : Value → World → Prop} (h : F60 a0 w Q) : CallR Try.prog 60 [a0] w Q :=
  call_ofE mixed entOk Try.func60 (c := C60) rfl H60 (Nat.le_of_ble_eq_true rfl) (by kernel_rfl) h

noncomputable def C61 : Code := (Try.f61.body).getD .skip
noncomputable def H61 : Hints := ⟨[], [], []⟩
def F61 (a0 : Value) (w : World) (Q : Value → World → Prop) : Prop :=
  wpB (be Try.prog .eql 70 (.tmp 3) (.const (.slice none 0 0)) a0 (.slice none 0 0)) fun t4 =>
  cnd t4
  (Q (.slice none 0 0) w)
  (effv Try.prog (Instr.buildSlice 70 0 #[]) w fun t5 w =>
  effv Try.prog (Builtin.append_ #[70, 70] 70 #[t5, a0]) w fun t7 w =>
  Q t7 w)
theorem F61_ok {a0 : Value} {w : World} {Q : Value → World → Prop} (h : F61 a0 w Q) : CallR Try.prog 61 [a0] w Q :=
  call_ofE mixed entOk Try.func61 (c := C61) rfl H61 (Nat.le_of_ble_eq_true rfl) (by kernel_rfl) h

noncomputable def C62 : Code := (Try.f62.body).getD .skip
noncomputable def H62 : Hints := ⟨[], [], []⟩
def F62 (a0 : Value) (w : World) (Q : Value → World → Prop) : Prop :=
  wpB (be Try.prog .eql 104 (.tmp 3) (.const (.slice none 0 0)) a0 (.slice none 0 0)) fun t4 =>
  cnd t4
  (Q (.slice none 0 0) w)
  (effv Try.prog (Instr.buildSlice 104 0 #[]) w fun t5 w =>
  effv Try.prog (Builtin.append_ #[104, 104] 104 #[t5, a0]) w fun t7 w =>
  Q t7 w)
theorem F62_ok {a0 : Value} {w : World} {Q : Value → World → Prop} (h : F62 a0 w Q) : CallR Try.prog 62 [a0] w Q :=
  call_ofE mixed entOk Try.func62 (c := C62) rfl H62 (Nat.le_of_ble_eq_true rfl) (by kernel_rfl) h

noncomputable def C63 : Code := (Try.f63.body).getD .skip
noncomputable def H63 : Hints := ⟨[], [], []⟩
def F63 (a0 : Value) (w : World) (Q : Value → World → Prop) : Prop :=
  wpB (be Try.prog .eql 69 (.tmp 3) (.const (.slice none 0 0)) a0 (.slice none 0 0)) fun t4 =>
  cnd t4
  (Q (.slice none 0 0) w)
  (effv Try.prog (Instr.buildSlice 69 0 #[]) w fun t5 w =>
  effv Try.prog (Builtin.append_ #[69, 69] 69 #[t5, a0]) w fun t7 w =>
  Q t7 w)
theorem F63_ok {a0 : Value} {w : World} {Q : Value → World → Prop} (h : F63 a0 w Q) : CallR Try.prog 63 [a0] w Q :=
  call_ofE mixed entOk Try.func63 (c := C63) rfl H63 (Nat.le_of_ble_eq_true rfl) (by kernel_rfl) h

noncomputable def C64 : Code := (Try.f64.body).getD .skip
noncomputable def H64 : Hints := ⟨[], [], []⟩
def F64 (a0 : Value) (w : World) (Q : Value → World → Prop) : Prop :=
  wpB (be Try.prog .eql 36 (.tmp 3) (.const (.slice none 0 0)) a0 (.slice none 0 0)) fun t4 =>
  cnd t4
  (Q (.slice none 0 0) w)
  (effv Try.prog (Instr.buildSlice 36 0 #[]) w fun t5 w =>
  effv Try.prog (Builtin.append_ #[36, 36] 36 #[t5, a0]) w fun t7 w =>
  Q t7 w)
theorem F64_ok {a0 : Value} {w : World} {Q : Value → World → Prop} (h : F64 a0 w Q) : CallR Try.prog 64 [a0] w Q :=
  call_ofE mixed entOk Try.func64 (c := C64) rfl H64 (Nat.le_of_ble_eq_true rfl) (by kernel_rfl) h

noncomputable def C65 : Code := (Try.f65.body).getD .skip
noncomputable def H65 : Hints := ⟨[], [], []⟩
def F65 (a0 : Value) (w : World) (Q : Value → World → Prop) : Prop :=
  wpB (be Try.prog .eql 48 (.tmp 3) (.const (.slice none 0 0)) a0 (.slice none 0 0)) fun t4 =>
  cnd t4
  (Q (.slice none 0 0) w)
  (effv Try.prog (Instr.buildSlice 48 0 #[]) w fun t5 w =>
  effv Try.prog (Builtin.append_ #[48, 48] 48 #[t5, a0]) w fun t7 w =>
  Q t7 w)
theorem F65_ok {a0 : Value} {w : World} {Q : Value → World → Prop} (h : F65 a0 w Q) : CallR Try.prog 65 [a0] w Q :=
  call_ofE mixed entOk Try.func65 (c := C65) rfl H65 (Nat.le_of_ble_eq_true rfl) (by kernel_rfl) h

noncomputable def C66 : Code := (Try.f66.body).getD .skip
noncomputable def H66 : Hints := ⟨[], [], []⟩
def F66 (a0 : Value) (w : World) (Q : Value → World → Prop) : Prop :=
  wpB (be Try.prog .eql 96 (.tmp 3) (.const (.slice none 0 0)) a0 (.slice none 0 0)) fun t4 =>
  cnd t4
  (Q (.slice none 0 0) w)
  (effv Try.prog (Instr.buildSlice 96 0 #[]) w fun t5 w =>
  effv Try.prog (Builtin.append_ #[96, 96] 96 #[t5, a0]) w fun t7 w =>
  Q t7 w)
theorem F66_ok {a0 : Value} {w : World} {Q : Value → World → Prop} (h : F66 a0 w Q) : CallR Try.prog 66 [a0] w Q :=
  call_ofE mixed entOk Try.func66 (c := C66) rfl H66 (Nat.le_of_ble_eq_true rfl) (by kernel_rfl) h

noncomputable def C67 : Code := (Try.f67.body).getD .skip
noncomputable def H67 : Hints := ⟨[], [], []⟩
def F67 (a0 : Value) (w : World) (Q : Value → World → Prop) : Prop :=
  wpB (be Try.prog .eql 112 (.tmp 3) (.const (.slice none 0 0)) a0 (.slice none 0 0)) fun t4 =>
  cnd t4
  (Q (.slice none 0 0) w)
  (effv Try.prog (Instr.buildSlice 112 0 #[]) w fun t5 w =>
  effv Try.prog (Builtin.append_ #[112, 112] 112 #[t5, a0]) w fun t7 w =>
  Q t7 w)
theorem F67_ok {a0 : Value} {w : World} {Q : Value → World → Prop} (h : F67 a0 w Q) : CallR Try.prog 67 [a0] w Q :=
  call_ofE mixed entOk Try.func67 (c := C67) rfl H67 (Nat.le_of_ble_eq_true rfl) (by kernel_rfl) h

noncomputable def C70 : Code := (Try.f70.body).getD .skip
noncomputable def H70 : Hints := ⟨[], [], []⟩
def F70 (a0 : Value) (w : World) (Q : Value → World → Prop) : Prop :=
  effv Try.prog (Instr.alloc 116 true (.tuple #[])) w fun t2 w =>
  wpB (pureRun Try.prog (Instr.build 116 #[])) fun t4 =>
  wpB (pureRun Try.prog (Instr.build 116 #[(0, (.string { data := #[99, 114, 101, 97, 116, 101] })), (2, (.bool true))])) fun t5 =>
  wpB (pureRun Try.prog (Instr.build 116 #[(0, (.string { data := #[97, 108, 108, 111, 99] })), (1, (.int .i64 1)), (2, (.bool true))])) fun t6 =>
  wpB (pureRun Try.prog (Instr.build 116 #[(0, (.string { data := #[112, 105, 110] }))])) fun t7 =>
  wpB (pureRun Try.prog (Instr.build 116 #[(0, (.string { data := #[117, 110, 112, 105, 110] }))])) fun t8 =>
  wpB (pureRun Try.prog (Instr.build 116 #[(0, (.string { data := #[104, 111, 108, 100] })), (1, (.int .i64 3))])) fun t9 =>
  wpB (pureRun Try.prog (Instr.build 116 #[(0, (.string { data := #[108, 111, 97, 100] })), (1, (.int .i64 2)), (2, (.bool true))])) fun t10 =>
  wpB (pureRun Try.prog (Instr.build 116 #[(0, (.string { data := #[115, 116, 111, 114, 101] })), (1, (.int .i64 2)), (2, (.bool true)), (3, (.bool true))])) fun t11 =>
  wpB (pureRun Try.prog (Instr.build 116 #[(0, (.string { data := #[97, 100, 100] })), (1, (.int .i64 2)), (2, (.bool true)), (3, (.bool true))])) fun t12 =>
  wpB (pureRun Try.prog (Instr.build 116 #[(0, (.string { data := #[99, 97, 115] })), (1, (.int .i64 2)), (2, (.bool true)), (3, (.bool true)), (4, (.bool true))])) fun t13 =>
  wpB (pureRun Try.prog (Instr.build 116 #[(0, (.string { data := #[102, 114, 101, 101] })), (1, (.int .i64 1))])) fun t14 =>
  wpB (pureRun Try.prog (Instr.build 116 #[(0, (.string { data := #[99, 111, 108, 108, 101, 99, 116] }))])) fun t15 =>
  wpB (pureRun Try.prog (Instr.build 116 #[(0, (.string { data := #[115, 116, 97, 116, 115] })), (1, (.int .i64 1))])) fun t16 =>
  effv Try.prog (Instr.buildSlice 134 13 #[(0, t4), (1, t5), (2, t6), (3, t7), (4, t8), (5, t9), (6, t10), (7, t11), (8, t12), (9, t13), (10, t14), (11, t15), (12, t16)]) w fun t17 w =>
  wpB (bp Try.prog .lss 3 a0 (.int .i64 1)) fun t19 =>
  wpB (gd t19 false (pureRun Try.prog (Builtin.len_ #[134] 3 #[(gv t19 false t17)]))) fun t23 =>
  wpB (gd t19 false (bp Try.prog .geq 3 (gv t19 false a0) t23)) fun t24 =>
  wpB (pickv t19 (some (.bool true)) (some t24)) fun t25 =>
  cnd t25
  (wpB (pureRun Try.prog (Instr.indexAt 134 t17 (.int .i64 0))) fun t27 =>
  wpB (ldv Try.prog 116 t27 w) fun t28 =>
  effu Try.prog (Instr.storeAt 116 t2 t28) w fun w =>
  wpB (ldv Try.prog 116 t2 w) fun r2 => Q r2 w)
  (wpB (pureRun Try.prog (Instr.indexAt 134 t17 a0)) fun t31 =>
  wpB (ldv Try.prog 116 t31 w) fun t32 =>
  effu Try.prog (Instr.storeAt 116 t2 t32) w fun w =>
  wpB (ldv Try.prog 116 t2 w) fun r2_1 => Q r2_1 w)
theorem F70_ok {a0 : Value} {w : World} {Q : Value → World → Prop} (h : F70 a0 w Q) : CallR Try.prog 70 [a0] w Q :=
  call_ofE mixed entOk Try.func70 (c := C70) rfl H70 (Nat.le_of_ble_eq_true rfl) (by kernel_rfl) h

noncomputable def C71 : Code := (Try.f71.body).getD .skip
noncomputable def H71 : Hints := ⟨[], [(5, [1, 3, 4, 5, 6]), (9, [1, 3, 4, 5, 6])], []⟩
noncomputable def T71_0 : List It := [.jn (nav [1, 1, 1, 1] C71)]
noncomputable def T71_1 : List It := [.jn (nav [1, 1, 1, 1, 1] C71)]
/-- rundale/op.May, from a join on -/
def P71_0 (x1 x3 x4 x5 x6 : Value) (w : World) (Q : Value → World → Prop) : Prop := Part Try.prog 71 T71_0 [1, 3, 4, 5, 6] [x1, x3, x4, x5, x6] w Q
/-- rundale/op.May, from a join on -/
def P71_1 (x1 x3 x4 x5 x6 : Value) (w : World) (Q : Value → World → Prop) : Prop := Part Try.prog 71 T71_1 [1, 3, 4, 5, 6] [x1, x3, x4, x5, x6] w Q
def F71 (a0 : Value) (w : World) (Q : Value → World → Prop) : Prop :=
  effv Try.prog (Instr.box 29 a0) w fun t1 w =>
  wpB (pureRun Try.prog (Instr.fieldAt 29 t1 0)) fun t7 =>
  wpB (ldv Try.prog 3 t7 w) fun t8 =>
  CallR Try.prog 70 [t8] w fun t9 w =>
  effv Try.prog (Instr.alloc 116 true (.tuple #[])) w fun t3 w =>
  effu Try.prog (Instr.storeAt 116 t3 t9) w fun w =>
  wpB (pureRun Try.prog (Instr.fieldAt 116 t3 1)) fun t10 =>
  wpB (ldv Try.prog 3 t10 w) fun t11 =>
  wpB (be Try.prog .neq 3 (.tmp 11) (.const (.int .i64 0)) t11 (.int .i64 0)) fun t12 =>
  cnd t12
  (P71_0 t1 t3 (.int .i64 63) (.int .i64 999) (.int .i64 0) w Q)
  (P71_0 t1 t3 (.int .i64 0) (.int .i64 0) (.int .i64 0) w Q)
def L71_0 (x1 x3 x4 x5 x6 : Value) (w : World) (Q : Value → World → Prop) : Prop :=
  wpB (pureRun Try.prog (Instr.fieldAt 29 x1 0)) fun t14 =>
  wpB (ldv Try.prog 3 t14 w) fun t15 =>
  wpB (be Try.prog .eql 3 (.tmp 15) (.const (.int .i64 1)) t15 (.int .i64 1)) fun t16 =>
  cnd t16
  (P71_1 x1 x3 x4 x5 (.int .i64 3) w Q)
  (wpB (pureRun Try.prog (Instr.fieldAt 116 x3 2)) fun t18 =>
  wpB (ldv Try.prog 4 t18 w) fun t19 =>
  cnd t19
  (P71_1 x1 x3 x4 x5 (.int .i64 65535) w Q)
  (P71_1 x1 x3 x4 x5 x6 w Q))
def L71_1 (x1 x3 x4 x5 x6 : Value) (w : World) (Q : Value → World → Prop) : Prop :=
  wpB (pureRun Try.prog (Instr.fieldAt 116 x3 0)) fun t20 =>
  wpB (ldv Try.prog 9 t20 w) fun t21 =>
  wpB (be Try.prog .neq 9 (.tmp 21) (.const (.string { data := #[] })) t21 (.string { data := #[] })) fun t22 =>
  wpB (gd t22 true (pureRun Try.prog (Instr.fieldAt 29 x1 1))) fun t24 =>
  wpB (gd t22 true (ldv Try.prog 3 t24 w)) fun t25 =>
  gE t22 true (CallR Try.prog 89 [t25, (gv t22 true x4)] w) (fun t27 w =>
  wpB (pickv t22 (some t27) (some (.bool false))) fun t28 =>
  wpB (gd t28 true (pureRun Try.prog (Instr.fieldAt 29 x1 2))) fun t30 =>
  wpB (gd t28 true (ldv Try.prog 3 t30 w)) fun t31 =>
  gE t28 true (CallR Try.prog 89 [t31, (gv t28 true x5)] w) (fun t33 w =>
  wpB (pickv t28 (some t33) (some (.bool false))) fun t34 =>
  wpB (gd t34 true (pureRun Try.prog (Instr.fieldAt 29 x1 3))) fun t36 =>
  wpB (gd t34 true (ldv Try.prog 3 t36 w)) fun t37 =>
  gE t34 true (CallR Try.prog 89 [t37, (gv t34 true x6)] w) (fun t39 w =>
  wpB (pickv t34 (some t39) (some (.bool false))) fun t40 =>
  wpB (gd t40 true (pureRun Try.prog (Instr.fieldAt 116 x3 3))) fun t42 =>
  wpB (gd t40 true (ldv Try.prog 4 t42 w)) fun t43 =>
  wpB (gd (gv t40 true t43) false (pureRun Try.prog (Instr.fieldAt 29 x1 4))) fun t45 =>
  wpB (gd (gv t40 true t43) false (ldv Try.prog 22 t45 w)) fun t46 =>
  wpB (gd (gv t40 true t43) false (be Try.prog .eql 22 (.tmp 46) (.const (.int .u64 0)) t46 (.int .u64 0))) fun t47 =>
  wpB (gd t40 true (pickv (gv t40 true t43) (some (.bool true)) (some t47))) fun t48 =>
  wpB (pickv t40 (some t48) (some (.bool false))) fun t49 =>
  wpB (gd t49 true (pureRun Try.prog (Instr.fieldAt 116 x3 4))) fun t51 =>
  wpB (gd t49 true (ldv Try.prog 4 t51 w)) fun t52 =>
  wpB (gd (gv t49 true t52) false (pureRun Try.prog (Instr.fieldAt 29 x1 5))) fun t54 =>
  wpB (gd (gv t49 true t52) false (ldv Try.prog 22 t54 w)) fun t55 =>
  wpB (gd (gv t49 true t52) false (be Try.prog .eql 22 (.tmp 55) (.const (.int .u64 0)) t55 (.int .u64 0))) fun t56 =>
  wpB (gd t49 true (pickv (gv t49 true t52) (some (.bool true)) (some t56))) fun t57 =>
  wpB (pickv t49 (some t57) (some (.bool false))) fun t58 =>
  Q t58 w) w) w) w
theorem F71_ok {a0 : Value} {w : World} {Q : Value → World → Prop} (h : F71 a0 w Q) : CallR Try.prog 71 [a0] w Q :=
  call_ofE mixed entOk Try.func71 (c := C71) rfl H71 (Nat.le_of_ble_eq_true rfl) (by kernel_rfl) h
theorem L71_0_ok {x1 x3 x4 x5 x6 : Value} {w : World} {Q : Value → World → Prop} (h : L71_0 x1 x3 x4 x5 x6 w Q) : P71_0 x1 x3 x4 x5 x6 w Q :=
  part_jnE mixed entOk Try.func71 H71 (by kernel_rfl) h
theorem L71_1_ok {x1 x3 x4 x5 x6 : Value} {w : World} {Q : Value → World → Prop} (h : L71_1 x1 x3 x4 x5 x6 w Q) : P71_1 x1 x3 x4 x5 x6 w Q :=
  part_jnE mixed entOk Try.func71 H71 (by kernel_rfl) h

noncomputable def C72 : Code := (Try.f72.body).getD .skip
noncomputable def H72 : Hints := ⟨[], [], []⟩
def F72 (a0 a1 : Value) (w : World) (Q : Value → World → Prop) : Prop :=
  effv Try.prog (Instr.box 95 a1) w fun t3 w =>
  wpB (ldv Try.prog 95 t3 w) fun t6 =>
  CallR Try.prog 90 [a0, t6] w fun t7 w =>
  wpB (bp Try.prog .geq 3 t7 (.int .i64 0)) fun t8 =>
  Q t8 w
theorem F72_ok {a0 a1 : Value} {w : World} {Q : Value → World → Prop} (h : F72 a0 a1 w Q) : CallR Try.prog 72 [a0, a1] w Q :=
  call_ofE mixed entOk Try.func72 (c := C72) rfl H72 (Nat.le_of_ble_eq_true rfl) (by kernel_rfl) h

noncomputable def C73 : Code := (Try.f73.body).getD .skip
noncomputable def H73 : Hints := ⟨[(3, [3, 9, 10, 11])], [(7, [3, 9, 10, 11])], []⟩
noncomputable def T73_0 : List It := [.lp (nav [1, 1, 0, 1, 4, 5] C73), .blk 0, .jn (nav [1, 1, 1] C73)]
noncomputable def T73_1 : List It := [.jn (nav [1, 1, 0, 1, 4, 5, 1, 1, 1] C73), .lp (nav [1, 1, 0, 1, 4, 5] C73), .blk 0, .jn (nav [1, 1, 1] C73)]
/-- (*rundale/model.Model).Spare, from a loop's head on -/
def P73_0 (x3 x9 x10 x11 : Value) (w : World) (Q : Value → World → Prop) : Prop := Part Try.prog 73 T73_0 [3, 9, 10, 11] [x3, x9, x10, x11] w Q
/-- (*rundale/model.Model).Spare, from a join on -/
def P73_1 (x3 x9 x10 x11 : Value) (w : World) (Q : Value → World → Prop) : Prop := Part Try.prog 73 T73_1 [3, 9, 10, 11] [x3, x9, x10, x11] w Q
def F73 (a0 : Value) (w : World) (Q : Value → World → Prop) : Prop :=
  wpB (nilv a0) fun t7 =>
  wpB (pureRun Try.prog (Instr.fieldAt 72 t7 2)) fun t8 =>
  wpB (ldv Try.prog 68 t8 w) fun t9 =>
  wpB (pureRun Try.prog (Builtin.len_ #[68] 3 #[t9])) fun t10 =>
  P73_0 (.int .i64 0) t9 t10 (.int .i64 0) w Q
def L73_0 (x3 x9 x10 x11 : Value) (w : World) (Q : Value → World → Prop) : Prop :=
  wpB (bp Try.prog .lss 3 x11 x10) fun t12 =>
  cnd t12
  (wpB (pureRun Try.prog (Instr.indexAt 68 x9 x11)) fun t13 =>
  wpB (ldv Try.prog 80 t13 w) fun t14 =>
  effv Try.prog (Instr.alloc 80 true (.tuple #[])) w fun t5 w =>
  effu Try.prog (Instr.storeAt 80 t5 t14) w fun w =>
  wpB (pureRun Try.prog (Instr.fieldAt 80 t5 0)) fun t15 =>
  wpB (ldv Try.prog 3 t15 w) fun t16 =>
  wpB (be Try.prog .eql 3 (.tmp 16) (.const (.int .i64 0)) t16 (.int .i64 0)) fun t17 =>
  cnd t17
  (wpB (bp Try.prog .add 3 x3 (.int .i64 1)) fun t19 =>
  P73_1 t19 x9 x10 x11 w Q)
  (P73_1 x3 x9 x10 x11 w Q))
  (Q x3 w)
def L73_1 (x3 x9 x10 x11 : Value) (w : World) (Q : Value → World → Prop) : Prop :=
  wpB (bp Try.prog .add 3 x11 (.int .i64 1)) fun t20 =>
  P73_0 x3 x9 x10 t20 w Q
theorem F73_ok {a0 : Value} {w : World} {Q : Value → World → Prop} (h : F73 a0 w Q) : CallR Try.prog 73 [a0] w Q :=
  call_ofE mixed entOk Try.func73 (c := C73) rfl H73 (Nat.le_of_ble_eq_true rfl) (by kernel_rfl) h
theorem L73_0_ok {x3 x9 x10 x11 : Value} {w : World} {Q : Value → World → Prop} (h : L73_0 x3 x9 x10 x11 w Q) : P73_0 x3 x9 x10 x11 w Q :=
  part_lpE mixed entOk Try.func73 H73 (by kernel_rfl) h
theorem L73_1_ok {x3 x9 x10 x11 : Value} {w : World} {Q : Value → World → Prop} (h : L73_1 x3 x9 x10 x11 w Q) : P73_1 x3 x9 x10 x11 w Q :=
  part_jnE mixed entOk Try.func73 H73 (by kernel_rfl) h

noncomputable def C74 : Code := (Try.f74.body).getD .skip
noncomputable def H74 : Hints := ⟨[], [], []⟩
def F74 (a0 a1 : Value) (w : World) (Q : Value → World → Prop) : Prop :=
  wpB (bp Try.prog .lss 3 a1 (.int .i64 1)) fun t7 =>
  wpB (gd t7 false (bp Try.prog .gtr 3 (gv t7 false a1) (.int .i64 1024))) fun t10 =>
  wpB (pickv t7 (some (.bool true)) (some t10)) fun t11 =>
  cnd t11
  (Q (.int .i64 0) w)
  (wpB (pureRun Try.prog (Builtin.max_ #[3, 3] 3 #[a0, (.int .i64 0)])) fun t13 =>
  wpB (pureRun Try.prog (Builtin.min_ #[3, 3] 3 #[t13, (.int .i64 3)])) fun t14 =>
  wpB (bp Try.prog .shl 3 (.int .i64 1) t14) fun t15 =>
  wpB (bp Try.prog .add 3 a1 t15) fun t18 =>
  wpB (bp Try.prog .sub 3 t18 (.int .i64 1)) fun t19 =>
  wpB (bp Try.prog .quo 3 t19 t15) fun t21 =>
  wpB (bp Try.prog .mul 3 t21 t15) fun t23 =>
  Q t23 w)
theorem F74_ok {a0 a1 : Value} {w : World} {Q : Value → World → Prop} (h : F74 a0 a1 w Q) : CallR Try.prog 74 [a0, a1] w Q :=
  call_ofE mixed entOk Try.func74 (c := C74) rfl H74 (Nat.le_of_ble_eq_true rfl) (by kernel_rfl) h

noncomputable def C75 : Code := (Try.f75.body).getD .skip
noncomputable def H75 : Hints := ⟨[], [], []⟩
def F75 (a0 a1 a2 : Value) (w : World) (Q : Value → World → Prop) : Prop :=
  wpB (nilv a0) fun t8 =>
  wpB (pureRun Try.prog (Instr.fieldAt 98 t8 3)) fun t9 =>
  wpB (ldv Try.prog 36 t9 w) fun t10 =>
  wpB (pureRun Try.prog (Builtin.len_ #[36] 3 #[t10])) fun t11 =>
  wpB (bp Try.prog .gtr 3 t11 (.int .i64 0)) fun t12 =>
  wpB (gd t12 true (nilv (gv t12 true a0))) fun t16 =>
  wpB (gd t12 true (pureRun Try.prog (Instr.fieldAt 98 t16 2))) fun t17 =>
  wpB (gd t12 true (ldv Try.prog 3 t17 w)) fun t18 =>
  gE t12 true (CallR Try.prog 91 [(gv t12 true a1), t18, (gv t12 true a2)] w) (fun t20 w =>
  wpB (pickv t12 (some t20) (some (.bool false))) fun t21 =>
  Q t21 w) w
theorem F75_ok {a0 a1 a2 : Value} {w : World} {Q : Value → World → Prop} (h : F75 a0 a1 a2 w Q) : CallR Try.prog 75 [a0, a1, a2] w Q :=
  call_ofE mixed entOk Try.func75 (c := C75) rfl H75 (Nat.le_of_ble_eq_true rfl) (by kernel_rfl) h

noncomputable def C76 : Code := (Try.f76.body).getD .skip
noncomputable def H76 : Hints := ⟨[], [], [(3, (.leaf [0, 1, 2, 3, 4, 5, 6, 7, 8, 9, 10, 11, 12]))]⟩
def F76 (a0 : Value) (w : World) (Q : Value → World → Prop) : Prop :=
  wpB (nilv a0) fun t4 =>
  wpB (pureRun Try.prog (Instr.fieldAt 98 t4 3)) fun t5 =>
  wpB (ldv Try.prog 36 t5 w) fun t6 =>
  wpB (pureRun Try.prog (Builtin.len_ #[36] 3 #[t6])) fun t7 =>
  wpB (be Try.prog .eql 3 (.tmp 7) (.const (.int .i64 0)) t7 (.int .i64 0)) fun t8 =>
  cnd t8
  (Q (.int .i64 (-1)) w)
  (wpB (nilv a0) fun t10 =>
  wpB (pureRun Try.prog (Instr.fieldAt 98 t10 3)) fun t11 =>
  wpB (ldv Try.prog 36 t11 w.drew) fun t12 =>
  wpB (nilv a0) fun t14 =>
  wpB (pureRun Try.prog (Instr.fieldAt 98 t14 3)) fun t15 =>
  wpB (ldv Try.prog 36 t15 w.drew) fun t16 =>
  wpB (pureRun Try.prog (Builtin.len_ #[36] 3 #[t16])) fun t17 =>
  wpB (bp Try.prog .sub 3 t17 (.int .i64 1)) fun t18 =>
  wpB (pureRun Try.prog (Instr.indexAt 36 t12 t18)) fun t19 =>
  wpB (ldv Try.prog 3 t19 w.drew) fun t20 =>
  Q t20 w.drew)
theorem F76_ok {a0 : Value} {w : World} {Q : Value → World → Prop} (h : F76 a0 w Q) : CallR Try.prog 76 [a0] w Q :=
  call_ofE mixed entOk Try.func76 (c := C76) rfl H76 (Nat.le_of_ble_eq_true rfl) (by kernel_rfl) h

noncomputable def C77 : Code := (Try.f77.body).getD .skip
noncomputable def H77 : Hints := ⟨[(2, [0, 1, 10, 11, 12])], [], []⟩
noncomputable def T77_0 : List It := [.lp (nav [1, 0, 1, 4, 5] C77), .blk 0, .jn (nav [1, 1] C77)]
/-- (*rundale/model.Model).taken, from a loop's head on -/
def P77_0 (x0 x1 x10 x11 x12 : Value) (w : World) (Q : Value → World → Prop) : Prop := Part Try.prog 77 T77_0 [0, 1, 10, 11, 12] [x0, x1, x10, x11, x12] w Q
def F77 (a0 a1 : Value) (w : World) (Q : Value → World → Prop) : Prop :=
  wpB (nilv a0) fun t8 =>
  wpB (pureRun Try.prog (Instr.fieldAt 72 t8 3)) fun t9 =>
  wpB (ldv Try.prog 69 t9 w) fun t10 =>
  wpB (pureRun Try.prog (Builtin.len_ #[69] 3 #[t10])) fun t11 =>
  P77_0 a0 a1 t10 t11 (.int .i64 0) w Q
def L77_0 (x0 x1 x10 x11 x12 : Value) (w : World) (Q : Value → World → Prop) : Prop :=
  wpB (bp Try.prog .lss 3 x12 x11) fun t13 =>
  cnd t13
  (wpB (pureRun Try.prog (Instr.indexAt 69 x10 x12)) fun t14 =>
  wpB (ldv Try.prog 98 t14 w) fun t15 =>
  effv Try.prog (Instr.alloc 98 true (.tuple #[])) w fun t6 w =>
  effu Try.prog (Instr.storeAt 98 t6 t15) w fun w =>
  wpB (pureRun Try.prog (Instr.fieldAt 98 t6 0)) fun t17 =>
  wpB (ldv Try.prog 95 t17 w) fun t18 =>
  CallR Try.prog 86 [x0, t18] w fun t19 w =>
  wpB (gd t19 true (pureRun Try.prog (Instr.fieldAt 98 t6 3))) fun t21 =>
  wpB (gd t19 true (ldv Try.prog 36 t21 w)) fun t22 =>
  gE t19 true (CallR Try.prog 54 [t22, (gv t19 true x1)] w) (fun t24 w =>
  wpB (pickv t19 (some t24) (some (.bool false))) fun t25 =>
  cnd t25
  (Q (.bool true) w)
  (wpB (bp Try.prog .add 3 x12 (.int .i64 1)) fun t26 =>
  P77_0 x0 x1 x10 x11 t26 w Q)) w)
  (Q (.bool false) w)
theorem F77_ok {a0 a1 : Value} {w : World} {Q : Value → World → Prop} (h : F77 a0 a1 w Q) : CallR Try.prog 77 [a0, a1] w Q :=
  call_ofE mixed entOk Try.func77 (c := C77) rfl H77 (Nat.le_of_ble_eq_true rfl) (by kernel_rfl) h
theorem L77_0_ok {x0 x1 x10 x11 x12 : Value} {w : World} {Q : Value → World → Prop} (h : L77_0 x0 x1 x10 x11 x12 w Q) : P77_0 x0 x1 x10 x11 x12 w Q :=
  part_lpE mixed entOk Try.func77 H77 (by kernel_rfl) h

noncomputable def C78 : Code := (Try.f78.body).getD .skip
noncomputable def H78 : Hints := ⟨[], [], []⟩
def F78 (a0 a1 : Value) (w : World) (Q : Value → World → Prop) : Prop :=
  CallR Try.prog 92 [a0, a1] w fun t8 w =>
  wpB (pureRun Try.prog (Op.unary .not t8)) fun t9 =>
  cnd t9
  (Q (.int .i64 0) w)
  (CallR Try.prog 93 [a0, a1] w fun t13 w =>
  cnd t13
  (Q a0 w)
  (Q a1 w))
theorem F78_ok {a0 a1 : Value} {w : World} {Q : Value → World → Prop} (h : F78 a0 a1 w Q) : CallR Try.prog 78 [a0, a1] w Q :=
  call_ofE mixed entOk Try.func78 (c := C78) rfl H78 (Nat.le_of_ble_eq_true rfl) (by kernel_rfl) h

noncomputable def C84 : Code := (Try.f84.body).getD .skip
noncomputable def H84 : Hints := ⟨[(2, [0, 1, 7, 8])], [], []⟩
noncomputable def T84_0 : List It := [.lp (nav [1, 0, 1, 4, 5] C84), .blk 0, .jn (nav [1, 1] C84)]
/-- slices.Index[[]int,int], from a loop's head on -/
def P84_0 (x0 x1 x7 x8 : Value) (w : World) (Q : Value → World → Prop) : Prop := Part Try.prog 84 T84_0 [0, 1, 7, 8] [x0, x1, x7, x8] w Q
def F84 (a0 a1 : Value) (w : World) (Q : Value → World → Prop) : Prop :=
  wpB (pureRun Try.prog (Builtin.len_ #[36] 3 #[a0])) fun t7 =>
  P84_0 a0 a1 t7 (.int .i64 0) w Q
def L84_0 (x0 x1 x7 x8 : Value) (w : World) (Q : Value → World → Prop) : Prop :=
  wpB (bp Try.prog .lss 3 x8 x7) fun t9 =>
  cnd t9
  (wpB (pureRun Try.prog (Instr.indexAt 36 x0 x8)) fun t14 =>
  wpB (ldv Try.prog 3 t14 w) fun t15 =>
  wpB (be Try.prog .eql 3 (.tmp 11) (.tmp 15) x1 t15) fun t16 =>
  cnd t16
  (Q x8 w)
  (wpB (bp Try.prog .add 3 x8 (.int .i64 1)) fun t18 =>
  P84_0 x0 x1 x7 t18 w Q))
  (Q (.int .i64 (-1)) w)
theorem F84_ok {a0 a1 : Value} {w : World} {Q : Value → World → Prop} (h : F84 a0 a1 w Q) : CallR Try.prog 84 [a0, a1] w Q :=
  call_ofE mixed entOk Try.func84 (c := C84) rfl H84 (Nat.le_of_ble_eq_true rfl) (by kernel_rfl) h
theorem L84_0_ok {x0 x1 x7 x8 : Value} {w : World} {Q : Value → World → Prop} (h : L84_0 x0 x1 x7 x8 w Q) : P84_0 x0 x1 x7 x8 w Q :=
  part_lpE mixed entOk Try.func84 H84 (by kernel_rfl) h

noncomputable def C85 : Code := (Try.f85.body).getD .skip
noncomputable def H85 : Hints := ⟨[], [], [(6, (.leaf [0, 1, 2, 3, 4, 5, 6, 7, 8, 9, 10]))]⟩
def F85 (a0 a1 a2 : Value) (w : World) (Q : Value → World → Prop) : Prop :=
  effv Try.prog (Instr.box 27 a1) w fun t4 w =>
  wpB (ldv Try.prog 27 t4 w) fun t9 =>
  CallR Try.prog 59 [t9] w fun t10 w =>
  CallR Try.prog 58 [a0, t10] w fun t11 w =>
  wpB (be Try.prog .eql 99 (.tmp 12) (.const (.pointer none)) t11 (.pointer none)) fun t13 =>
  cnd t13
  (Q (.bool false) w)
  (wpB (pureRun Try.prog (Instr.fieldAt 27 t4 4)) fun t14 =>
  wpB (ldv Try.prog 3 t14 w) fun t15 =>
  wpB (be Try.prog .eql 3 (.tmp 15) (.const (.int .i64 0)) t15 (.int .i64 0)) fun t16 =>
  cnd t16
  (wpB (pureRun Try.prog (Instr.fieldAt 27 t4 2)) fun t17 =>
  wpB (ldv Try.prog 3 t17 w) fun t18 =>
  wpB (be Try.prog .eql 3 (.tmp 18) (.const (.int .i64 0)) t18 (.int .i64 0)) fun t19 =>
  wpB (gd t19 true (pureRun Try.prog (Instr.fieldAt 27 t4 3))) fun t21 =>
  wpB (gd t19 true (ldv Try.prog 3 t21 w)) fun t22 =>
  wpB (gd t19 true (be Try.prog .eql 3 (.tmp 22) (.const (.int .i64 0)) t22 (.int .i64 0))) fun t23 =>
  wpB (pickv t19 (some t23) (some (.bool false))) fun t24 =>
  wpB (gd t24 true (be Try.prog .neq 3 (.tmp 26) (.const (.int .i64 2)) (gv t24 true a2) (.int .i64 2))) fun t27 =>
  wpB (pickv t24 (some t27) (some (.bool false))) fun t28 =>
  Q t28 w)
  (wpB (be Try.prog .neq 3 (.tmp 29) (.const (.int .i64 1)) a2 (.int .i64 1)) fun t30 =>
  wpB (gd t30 true (nilv (gv t30 true t11))) fun t33 =>
  wpB (gd t30 true (pureRun Try.prog (Instr.fieldAt 98 t33 5))) fun t34 =>
  wpB (gd t30 true (ldv Try.prog 48 t34 w.drew)) fun t35 =>
  wpB (gd t30 true (ldv Try.prog 27 t4 w.drew)) fun t36 =>
  gE t30 true (CallR Try.prog 108 [t35, t36] w.drew) (fun t37 w =>
  wpB (pickv t30 (some t37) (some (.bool false))) fun t38 =>
  Q t38 w) w.drew))
theorem F85_ok {a0 a1 a2 : Value} {w : World} {Q : Value → World → Prop} (h : F85 a0 a1 a2 w Q) : CallR Try.prog 85 [a0, a1, a2] w Q :=
  call_ofE mixed entOk Try.func85 (c := C85) rfl H85 (Nat.le_of_ble_eq_true rfl) (by kernel_rfl) h

noncomputable def C86 : Code := (Try.f86.body).getD .skip
noncomputable def H86 : Hints := ⟨[], [], [(1, (.leaf [0, 1, 2, 3, 4, 5, 6, 7, 8, 9, 10, 11, 12, 13, 14, 15, 16, 17, 18]))]⟩
def F86 (a0 a1 : Value) (w : World) (Q : Value → World → Prop) : Prop :=
  effv Try.prog (Instr.box 95 a1) w fun t3 w =>
  wpB (pureRun Try.prog (Instr.fieldAt 95 t3 0)) fun t6 =>
  wpB (ldv Try.prog 3 t6 w.drew) fun t7 =>
  CallR Try.prog 43 [a0, t7] w.drew fun t8 w =>
  wpB (gd t8 true (nilv (gv t8 true a0))) fun t11 =>
  wpB (gd t8 true (pureRun Try.prog (Instr.fieldAt 72 t11 2))) fun t12 =>
  wpB (gd t8 true (ldv Try.prog 68 t12 w)) fun t13 =>
  wpB (gd t8 true (pureRun Try.prog (Instr.fieldAt 95 t3 0))) fun t14 =>
  wpB (gd t8 true (ldv Try.prog 3 t14 w)) fun t15 =>
  wpB (gd t8 true (pureRun Try.prog (Instr.indexAt 68 t13 t15))) fun t16 =>
  wpB (gd t8 true (ldv Try.prog 80 t16 w)) fun t17 =>
  wpB (gd t8 true (pureRun Try.prog (Instr.fieldAt 95 t3 1))) fun t18 =>
  wpB (gd t8 true (ldv Try.prog 3 t18 w)) fun t19 =>
  wpB (gd t8 true (pureRun Try.prog (Instr.build 80 #[(0, (.int .i64 1)), (1, t19)]))) fun t20 =>
  wpB (gd t8 true (be Try.prog .eql 80 (.tmp 17) (.tmp 20) t17 t20)) fun t21 =>
  wpB (pickv t8 (some t21) (some (.bool false))) fun t22 =>
  Q t22 w
theorem F86_ok {a0 a1 : Value} {w : World} {Q : Value → World → Prop} (h : F86 a0 a1 w Q) : CallR Try.prog 86 [a0, a1] w Q :=
  call_ofE mixed entOk Try.func86 (c := C86) rfl H86 (Nat.le_of_ble_eq_true rfl) (by kernel_rfl) h

noncomputable def C89 : Code := (Try.f89.body).getD .skip
noncomputable def H89 : Hints := ⟨[], [], []⟩
def F89 (a0 a1 : Value) (w : World) (Q : Value → World → Prop) : Prop :=
  wpB (bp Try.prog .geq 3 a0 (.int .i64 0)) fun t6 =>
  wpB (gd t6 true (bp Try.prog .leq 3 (gv t6 true a0) (gv t6 true a1))) fun t10 =>
  wpB (pickv t6 (some t10) (some (.bool false))) fun t11 =>
  Q t11 w
theorem F89_ok {a0 a1 : Value} {w : World} {Q : Value → World → Prop} (h : F89 a0 a1 w Q) : CallR Try.prog 89 [a0, a1] w Q :=
  call_ofE mixed entOk Try.func89 (c := C89) rfl H89 (Nat.le_of_ble_eq_true rfl) (by kernel_rfl) h

noncomputable def C90 : Code := (Try.f90.body).getD .skip
noncomputable def H90 : Hints := ⟨[(2, [0, 3, 7, 8])], [], [(4, (.leaf [0, 1, 2, 3, 4, 5]))]⟩
noncomputable def T90_0 : List It := [.lp (nav [1, 0, 1, 4, 5] C90), .blk 0, .jn (nav [1, 1] C90)]
/-- slices.Index[[]rundale/model.name,rundale/model.name], from a loop's head on -/
def P90_0 (x0 x3 x7 x8 : Value) (w : World) (Q : Value → World → Prop) : Prop := Part Try.prog 90 T90_0 [0, 3, 7, 8] [x0, x3, x7, x8] w Q
def F90 (a0 a1 : Value) (w : World) (Q : Value → World → Prop) : Prop :=
  effv Try.prog (Instr.box 95 a1) w fun t3 w =>
  wpB (pureRun Try.prog (Builtin.len_ #[104] 3 #[a0])) fun t7 =>
  P90_0 a0 t3 t7 (.int .i64 0) w Q
def L90_0 (x0 x3 x7 x8 : Value) (w : World) (Q : Value → World → Prop) : Prop :=
  wpB (bp Try.prog .lss 3 x8 x7) fun t9 =>
  cnd t9
  (wpB (ldv Try.prog 95 x3 w.drew) fun t11 =>
  wpB (pureRun Try.prog (Instr.indexAt 104 x0 x8)) fun t14 =>
  wpB (ldv Try.prog 95 t14 w.drew) fun t15 =>
  wpB (be Try.prog .eql 95 (.tmp 11) (.tmp 15) t11 t15) fun t16 =>
  cnd t16
  (Q x8 w.drew)
  (wpB (bp Try.prog .add 3 x8 (.int .i64 1)) fun t18 =>
  P90_0 x0 x3 x7 t18 w.drew Q))
  (Q (.int .i64 (-1)) w)
theorem F90_ok {a0 a1 : Value} {w : World} {Q : Value → World → Prop} (h : F90 a0 a1 w Q) : CallR Try.prog 90 [a0, a1] w Q :=
  call_ofE mixed entOk Try.func90 (c := C90) rfl H90 (Nat.le_of_ble_eq_true rfl) (by kernel_rfl) h
theorem L90_0_ok {x0 x3 x7 x8 : Value} {w : World} {Q : Value → World → Prop} (h : L90_0 x0 x3 x7 x8 w Q) : P90_0 x0 x3 x7 x8 w Q :=
  part_lpE mixed entOk Try.func90 H90 (by kernel_rfl) h

noncomputable def C91 : Code := (Try.f91.body).getD .skip
noncomputable def H91 : Hints := ⟨[], [], []⟩
def F91 (a0 a1 a2 : Value) (w : World) (Q : Value → World → Prop) : Prop :=
  CallR Try.prog 92 [a0, a2] w fun t9 w =>
  gE t9 true (CallR Try.prog 93 [(gv t9 true a0), (gv t9 true a2)] w) (fun t13 w =>
  wpB (gd t9 true (pureRun Try.prog (Op.unary .not t13))) fun t14 =>
  wpB (pickv t9 (some t14) (some (.bool false))) fun t15 =>
  wpB (gd t15 true (bp Try.prog .geq 3 (gv t15 true a1) (.int .i64 0))) fun t18 =>
  wpB (pickv t15 (some t18) (some (.bool false))) fun t19 =>
  wpB (gd t19 true (bp Try.prog .sub 3 (gv t19 true a0) (gv t19 true a2))) fun t24 =>
  wpB (gd t19 true (bp Try.prog .leq 3 (gv t19 true a1) t24)) fun t25 =>
  wpB (pickv t19 (some t25) (some (.bool false))) fun t26 =>
  Q t26 w) w
theorem F91_ok {a0 a1 a2 : Value} {w : World} {Q : Value → World → Prop} (h : F91 a0 a1 a2 w Q) : CallR Try.prog 91 [a0, a1, a2] w Q :=
  call_ofE mixed entOk Try.func91 (c := C91) rfl H91 (Nat.le_of_ble_eq_true rfl) (by kernel_rfl) h

noncomputable def C92 : Code := (Try.f92.body).getD .skip
noncomputable def H92 : Hints := ⟨[], [], []⟩
def F92 (a0 a1 : Value) (w : World) (Q : Value → World → Prop) : Prop :=
  wpB (bp Try.prog .geq 3 a0 (.int .i64 1)) fun t6 =>
  wpB (gd t6 true (bp Try.prog .leq 3 (gv t6 true a0) (.int .i64 1024))) fun t9 =>
  wpB (pickv t6 (some t9) (some (.bool false))) fun t10 =>
  wpB (gd t10 true (bp Try.prog .geq 3 (gv t10 true a1) (.int .i64 1))) fun t13 =>
  wpB (pickv t10 (some t13) (some (.bool false))) fun t14 =>
  wpB (gd t14 true (bp Try.prog .leq 3 (gv t14 true a1) (gv t14 true a0))) fun t18 =>
  wpB (pickv t14 (some t18) (some (.bool false))) fun t19 =>
  Q t19 w
theorem F92_ok {a0 a1 : Value} {w : World} {Q : Value → World → Prop} (h : F92 a0 a1 w Q) : CallR Try.prog 92 [a0, a1] w Q :=
  call_ofE mixed entOk Try.func92 (c := C92) rfl H92 (Nat.le_of_ble_eq_true rfl) (by kernel_rfl) h

noncomputable def C93 : Code := (Try.f93.body).getD .skip
noncomputable def H93 : Hints := ⟨[], [], []⟩
def F93 (a0 a1 : Value) (w : World) (Q : Value → World → Prop) : Prop :=
  CallR Try.prog 92 [a0, a1] w fun t7 w =>
  wpB (gd t7 true (bp Try.prog .mul 3 (.int .i64 2) (gv t7 true a1))) fun t10 =>
  wpB (gd t7 true (bp Try.prog .gtr 3 t10 (gv t7 true a0))) fun t12 =>
  wpB (pickv t7 (some t12) (some (.bool false))) fun t13 =>
  Q t13 w
theorem F93_ok {a0 a1 : Value} {w : World} {Q : Value → World → Prop} (h : F93 a0 a1 w Q) : CallR Try.prog 93 [a0, a1] w Q :=
  call_ofE mixed entOk Try.func93 (c := C93) rfl H93 (Nat.le_of_ble_eq_true rfl) (by kernel_rfl) h

noncomputable def C108 : Code := (Try.f108.body).getD .skip
noncomputable def H108 : Hints := ⟨[], [], []⟩
def F108 (a0 a1 : Value) (w : World) (Q : Value → World → Prop) : Prop :=
  effv Try.prog (Instr.box 27 a1) w fun t3 w =>
  wpB (ldv Try.prog 27 t3 w) fun t6 =>
  CallR Try.prog 114 [a0, t6] w fun t7 w =>
  wpB (bp Try.prog .geq 3 t7 (.int .i64 0)) fun t8 =>
  Q t8 w
theorem F108_ok {a0 a1 : Value} {w : World} {Q : Value → World → Prop} (h : F108 a0 a1 w Q) : CallR Try.prog 108 [a0, a1] w Q :=
  call_ofE mixed entOk Try.func108 (c := C108) rfl H108 (Nat.le_of_ble_eq_true rfl) (by kernel_rfl) h

noncomputable def C114 : Code := (Try.f114.body).getD .skip
noncomputable def H114 : Hints := ⟨[(2, [0, 3, 7, 8])], [], [(4, (.leaf [0, 1, 2, 3, 4, 5]))]⟩
noncomputable def T114_0 : List It := [.lp (nav [1, 0, 1, 4, 5] C114), .blk 0, .jn (nav [1, 1] C114)]
/-- slices.Index[[]rundale/api.Handle,rundale/api.Handle], from a loop's head on -/
def P114_0 (x0 x3 x7 x8 : Value) (w : World) (Q : Value → World → Prop) : Prop := Part Try.prog 114 T114_0 [0, 3, 7, 8] [x0, x3, x7, x8] w Q
def F114 (a0 a1 : Value) (w : World) (Q : Value → World → Prop) : Prop :=
  effv Try.prog (Instr.box 27 a1) w fun t3 w =>
  wpB (pureRun Try.prog (Builtin.len_ #[48] 3 #[a0])) fun t7 =>
  P114_0 a0 t3 t7 (.int .i64 0) w Q
def L114_0 (x0 x3 x7 x8 : Value) (w : World) (Q : Value → World → Prop) : Prop :=
  wpB (bp Try.prog .lss 3 x8 x7) fun t9 =>
  cnd t9
  (wpB (ldv Try.prog 27 x3 w.drew) fun t11 =>
  wpB (pureRun Try.prog (Instr.indexAt 48 x0 x8)) fun t14 =>
  wpB (ldv Try.prog 27 t14 w.drew) fun t15 =>
  wpB (be Try.prog .eql 27 (.tmp 11) (.tmp 15) t11 t15) fun t16 =>
  cnd t16
  (Q x8 w.drew)
  (wpB (bp Try.prog .add 3 x8 (.int .i64 1)) fun t18 =>
  P114_0 x0 x3 x7 t18 w.drew Q))
  (Q (.int .i64 (-1)) w)
theorem F114_ok {a0 a1 : Value} {w : World} {Q : Value → World → Prop} (h : F114 a0 a1 w Q) : CallR Try.prog 114 [a0, a1] w Q :=
  call_ofE mixed entOk Try.func114 (c := C114) rfl H114 (Nat.le_of_ble_eq_true rfl) (by kernel_rfl) h
theorem L114_0_ok {x0 x3 x7 x8 : Value} {w : World} {Q : Value → World → Prop} (h : L114_0 x0 x3 x7 x8 w Q) : P114_0 x0 x3 x7 x8 w Q :=
  part_lpE mixed entOk Try.func114 H114 (by kernel_rfl) h

end Go.Proofs.Yteapggpkgfiacaa

namespace Go.Proofs.Yteapggpkgfiacaa
open Go Ev Go.RowKit
set_option linter.unusedSimpArgs false
set_option linter.unusedVariables false
set_option maxRecDepth 10000

def ofK (k : Int) : Int := if k = 2 ∨ k = 10 ∨ k = 12 then 1 else if 6 ≤ k ∧ k ≤ 9 then 2 else if k = 5 then 3 else 0
def nB (k : Int) : Bool := decide (k = 1 ∨ k = 2 ∨ (6 ≤ k ∧ k ≤ 9))
def vB (k : Int) : Bool := decide (7 ≤ k ∧ k ≤ 9)
def wB (k : Int) : Bool := decide (k = 9)
theorem kind_cases (k : Int) : k = 1 ∨ k = 2 ∨ k = 3 ∨ k = 4 ∨ k = 5 ∨ k = 6 ∨ k = 7 ∨ k = 8 ∨ k = 9 ∨ k = 10 ∨ k = 11 ∨ k = 12 ∨ (k < 1 ∨ 12 < k) := by omega
theorem eqf {k c : Int} (h : k ≠ c) : (k == c) = false := by simpa using h
def nameK (k : Int) : ByteArray :=
  if k = 1 then { data := #[99, 114, 101, 97, 116, 101] } else if k = 2 then { data := #[97, 108, 108, 111, 99] } else if k = 3 then { data := #[112, 105, 110] } else if k = 4 then { data := #[117, 110, 112, 105, 110] }
  else if k = 5 then { data := #[104, 111, 108, 100] } else if k = 6 then { data := #[108, 111, 97, 100] } else if k = 7 then { data := #[115, 116, 111, 114, 101] } else if k = 8 then { data := #[97, 100, 100] }
  else if k = 9 then { data := #[99, 97, 115] } else if k = 10 then { data := #[102, 114, 101, 101] } else if k = 11 then { data := #[99, 111, 108, 108, 101, 99, 116] } else if k = 12 then { data := #[115, 116, 97, 116, 115] } else { data := #[] }
def formC (k : Int) : List Value := [.string (nameK k), .int .i64 (ofK k), .bool (nB k), .bool (vB k), .bool (wB k)]
theorem formC_out {k : Int} (h : k < 1 ∨ 12 < k) : formC k = [.string { data := #[] }, .int .i64 0, .bool false, .bool false, .bool false] := by
  have e1 : nameK k = { data := #[] } := by
    unfold nameK
    rw [if_neg (by omega), if_neg (by omega), if_neg (by omega), if_neg (by omega), if_neg (by omega), if_neg (by omega), if_neg (by omega), if_neg (by omega), if_neg (by omega), if_neg (by omega), if_neg (by omega), if_neg (by omega)]
  have e2 : ofK k = 0 := by rw [ofK, if_neg (by omega), if_neg (by omega), if_neg (by omega)]
  have e3 : nB k = false := by simp [nB]; omega
  have e4 : vB k = false := by simp [vB]; omega
  have e5 : wB k = false := by simp [wB]; omega
  rw [formC, e1, e2, e3, e4, e5]
theorem c_formOf (k : Int) (w : World) : CallR Try.prog 70 [.int .i64 k] w fun v w' => v = .agg (formC k).toArray ∧ Chg [] w w' := by
  have hb : ∀ w' : World, w' = w → Chg [] w w' := fun w' h => h ▸ Chg.refl _ _
  have hch : ∀ c1 c2 c3 : Array Value, Chg [] w (put ((w.alloc (.cells c1 116)).alloc (.cells c2 116)) w.heap.size c3 116) := fun c1 c2 c3 => (((Chg.refl [] w).alloc _).alloc _).put (.inr (Nat.le_refl _)) _ _
  rcases kind_cases k with rfl | rfl | rfl | rfl | rfl | rfl | rfl | rfl | rfl | rfl | rfl | rfl | h
  case inr.inr.inr.inr.inr.inr.inr.inr.inr.inr.inr.inr =>
    apply F70_ok
    rw [formC_out h]
    rcases h with h | h
    · have h' : k < 1 := h
      simp -implicitDefEqProofs [F70, h', ia_134, ld_116, st_116, hch]
    · have h1 : ¬ k < 1 := by omega
      have h2 : (13 : Int) ≤ k := by omega
      simp -implicitDefEqProofs [F70, h1, h2, ia_134, ld_116, st_116, hch]
  all_goals
    apply F70_ok
    simp -implicitDefEqProofs [F70, ia_134, ld_116, st_116, formC, nameK, ofK, nB, vB, wB, hch]
theorem c_opOf (k : Int) (w : World) : CallR Try.prog 42 [.int .i64 k] w fun v w' => v = .int .i64 (ofK k) ∧ Chg [] w w' := by
  apply F42_ok
  refine (c_formOf k w).mono ?_
  rintro v w1 ⟨rfl, hc⟩
  simp -implicitDefEqProofs [F42, formC, hc]
end Go.Proofs.Yteapggpkgfiacaa

namespace Go.Proofs.Yteapggpkgfiacaa
open Go Ev Go.RowKit
set_option linter.unusedSimpArgs false
set_option linter.unusedVariables false
set_option maxRecDepth 10000

/-- an operation: kind, from, at, n, v, w -/
abbrev OpV := Int × Int × Int × Int × Int × Int
def opC (o : OpV) : List Value := [.int .i64 o.1, .int .i64 o.2.1, .int .i64 o.2.2.1, .int .i64 o.2.2.2.1, .int .u64 o.2.2.2.2.1, .int .u64 o.2.2.2.2.2]
end Go.Proofs.Yteapggpkgfiacaa

namespace Go.Proofs.Yteapggpkgfiacaa
open Go Ev Go.RowKit
set_option linter.unusedSimpArgs false
set_option linter.unusedVariables false
set_option maxRecDepth 10000

theorem tup0 (a b : Value) : pureRun Try.prog (Instr.extract (.tuple #[a, b]) 0) = some a := by rw [pr_extract]; rfl
theorem tup1 (a b : Value) : pureRun Try.prog (Instr.extract (.tuple #[a, b]) 1) = some b := by rw [pr_extract]; rfl
theorem c_within (n m : Int) (w : World) : CallR Try.prog 89 [.int .i64 n, .int .i64 m] w fun v w' => v = .bool (decide (0 ≤ n ∧ n ≤ m)) ∧ w' = w := by
  apply F89_ok
  by_cases h : 0 ≤ n
  · have e : decide (0 ≤ n ∧ n ≤ m) = decide (n ≤ m) := by simp [h]
    simp -implicitDefEqProofs only [F89, zS, h, e, and_self]
    exact ⟨by simp, trivial⟩
  · simp -implicitDefEqProofs only [F89, zS, h, false_and, and_self]
def frM (k : Int) : Int := if ofK k = 0 then 0 else 63
def atM (k : Int) : Int := if ofK k = 0 then 0 else 999
def nM (k : Int) : Int := if k = 1 then 3 else if nB k then 65535 else 0
/-- may an operation be? -/
def mayO (o : OpV) : Bool := decide ((1 ≤ o.1 ∧ o.1 ≤ 12) ∧ (0 ≤ o.2.1 ∧ o.2.1 ≤ frM o.1) ∧ (0 ≤ o.2.2.1 ∧ o.2.2.1 ≤ atM o.1) ∧ (0 ≤ o.2.2.2.1 ∧ o.2.2.2.1 ≤ nM o.1) ∧ (vB o.1 = true ∨ o.2.2.2.2.1 = 0) ∧ (wB o.1 = true ∨ o.2.2.2.2.2 = 0))
theorem op_0 (o : OpV) : (opC o).toArray[0 + 0]? = some (.int .i64 o.1) := rfl
theorem op_1 (o : OpV) : (opC o).toArray[0 + 1]? = some (.int .i64 o.2.1) := rfl
theorem op_2 (o : OpV) : (opC o).toArray[0 + 2]? = some (.int .i64 o.2.2.1) := rfl
theorem op_3 (o : OpV) : (opC o).toArray[0 + 3]? = some (.int .i64 o.2.2.2.1) := rfl
theorem op_4 (o : OpV) : (opC o).toArray[0 + 4]? = some (.int .u64 o.2.2.2.2.1) := rfl
theorem op_5 (o : OpV) : (opC o).toArray[0 + 5]? = some (.int .u64 o.2.2.2.2.2) := rfl
theorem form_0 (k : Int) : (formC k).toArray[0 + 0]? = some (.string (nameK k)) := rfl
theorem form_1 (k : Int) : (formC k).toArray[0 + 1]? = some (.int .i64 (ofK k)) := rfl
theorem form_2 (k : Int) : (formC k).toArray[0 + 2]? = some (.bool (nB k)) := rfl
theorem form_3 (k : Int) : (formC k).toArray[0 + 3]? = some (.bool (vB k)) := rfl
theorem form_4 (k : Int) : (formC k).toArray[0 + 4]? = some (.bool (wB k)) := rfl
theorem name_ne (k : Int) : (!((nameK k).toList == (({ data := #[] } : ByteArray)).toList)) = decide (1 ≤ k ∧ k ≤ 12) := by
  have e : (({ data := #[] } : ByteArray)).toList = [] := ByteArray.toList_mk []
  rw [e]
  rcases kind_cases k with rfl | rfl | rfl | rfl | rfl | rfl | rfl | rfl | rfl | rfl | rfl | rfl | h
  case inr.inr.inr.inr.inr.inr.inr.inr.inr.inr.inr.inr =>
    have := formC_out h
    have e2 : nameK k = { data := #[] } := by
      have h0 := congrArg (fun l : List Value => l[0]?) this
      simp [formC] at h0; exact h0
    rw [e2, e]
    have : ¬ (1 ≤ k ∧ k ≤ 12) := by omega
    simp [this]
  all_goals decide +kernel
theorem mayO_eq (o : OpV) {b : Bool} (h : ((1 ≤ o.1 ∧ o.1 ≤ 12) ∧ (0 ≤ o.2.1 ∧ o.2.1 ≤ frM o.1) ∧ (0 ≤ o.2.2.1 ∧ o.2.2.1 ≤ atM o.1) ∧ (0 ≤ o.2.2.2.1 ∧ o.2.2.2.1 ≤ nM o.1) ∧ (vB o.1 = true ∨ o.2.2.2.2.1 = 0) ∧ (wB o.1 = true ∨ o.2.2.2.2.2 = 0)) ↔ b = true) : mayO o = b := by
  unfold mayO
  cases b
  · exact decide_eq_false fun h' => by have := h.1 h'; cases this
  · exact decide_eq_true (h.2 rfl)
set_option maxHeartbeats 1000000 in
theorem l_opMay1 {w w0 : World} (hw0 : Chg [] w0 w) {o : OpV} {g1 g3 : Nat} (h1 : hp w g1 = some (.cells (opC o).toArray 29)) (h3 : hp w g3 = some (.cells (formC o.1).toArray 116)) :
    P71_1 (.pointer (some ⟨g1, 0, none⟩)) (.pointer (some ⟨g3, 0, none⟩)) (.int .i64 (frM o.1)) (.int .i64 (atM o.1)) (.int .i64 (nM o.1)) w fun v w' => v = .bool (mayO o) ∧ Chg [] w0 w' := by
  apply L71_1_ok
  by_cases k1 : 1 ≤ o.1 ∧ o.1 ≤ 12
  rotate_left
  · simp -implicitDefEqProofs only [L71_1, zS, fa_116_0, ld_9, h3, form_0, be_neqstr, name_ne, k1]
    exact ⟨by rw [mayO_eq o (b := false) ⟨fun h => absurd h.1 k1, fun h => by cases h⟩], hw0⟩
  simp -implicitDefEqProofs only [L71_1, zS, fa_116_0, ld_9, h3, form_0, be_neqstr, name_ne, decide_eq_true k1, fa_29_1, ld_3, h1, op_1]
  refine (c_within _ _ _).step ?_
  by_cases k2 : 0 ≤ o.2.1 ∧ o.2.1 ≤ frM o.1
  rotate_left
  · simp -implicitDefEqProofs only [decide_eq_false k2, zS]
    exact ⟨by rw [mayO_eq o (b := false) ⟨fun h => absurd h.2.1 k2, fun h => by cases h⟩], hw0⟩
  simp -implicitDefEqProofs only [decide_eq_true k2, zS, fa_29_2, ld_3, h1, op_2]
  refine (c_within _ _ _).step ?_
  by_cases k3 : 0 ≤ o.2.2.1 ∧ o.2.2.1 ≤ atM o.1
  rotate_left
  · simp -implicitDefEqProofs only [decide_eq_false k3, zS]
    exact ⟨by rw [mayO_eq o (b := false) ⟨fun h => absurd h.2.2.1 k3, fun h => by cases h⟩], hw0⟩
  simp -implicitDefEqProofs only [decide_eq_true k3, zS, fa_29_3, ld_3, h1, op_3]
  refine (c_within _ _ _).step ?_
  by_cases k4 : 0 ≤ o.2.2.2.1 ∧ o.2.2.2.1 ≤ nM o.1
  rotate_left
  · simp -implicitDefEqProofs only [decide_eq_false k4, zS]
    exact ⟨by rw [mayO_eq o (b := false) ⟨fun h => absurd h.2.2.2.1 k4, fun h => by cases h⟩], hw0⟩
  simp -implicitDefEqProofs only [decide_eq_true k4, zS, fa_116_3, ld_4, h3, form_3]
  have last : ∀ b : Bool, (vB o.1 = true ∨ o.2.2.2.2.1 = 0) → ((wB o.1 = true ∨ o.2.2.2.2.2 = 0) ↔ b = true) → mayO o = b := fun b h5 h6 => mayO_eq o ⟨fun h => h6.1 h.2.2.2.2.2, fun h => ⟨k1, k2, k3, k4, h5, h6.2 h⟩⟩
  have no5 : ¬ (vB o.1 = true ∨ o.2.2.2.2.1 = 0) → mayO o = false := fun h5 => mayO_eq o ⟨fun h => absurd h.2.2.2.2.1 h5, fun h => by cases h⟩
  cases hv : vB o.1 with
  | true =>
    rw [hv] at last
    cases hww : wB o.1 with
    | true =>
      rw [hww] at last
      simp -implicitDefEqProofs only [zS, fa_116_4, ld_4, h3, form_4, hww]
      exact ⟨by rw [last true (.inl rfl) (by simp)], hw0⟩
    | false =>
      rw [hww] at last
      simp -implicitDefEqProofs only [zS, fa_116_4, ld_4, h3, form_4, hww, fa_29_5, ld_22, h1, op_5]
      exact ⟨by rw [last (o.2.2.2.2.2 == 0) (.inl rfl) (by simp)], hw0⟩
  | false =>
    rw [hv] at last no5
    by_cases k5 : o.2.2.2.2.1 = 0
    rotate_left
    · simp -implicitDefEqProofs only [zS, fa_29_4, ld_22, h1, op_4, eqf k5]
      exact ⟨by rw [no5 (by simp [k5])], hw0⟩
    have k5' : (o.2.2.2.2.1 == 0) = true := by rw [k5]; rfl
    cases hww : wB o.1 with
    | true =>
      rw [hww] at last
      simp -implicitDefEqProofs only [zS, fa_29_4, ld_22, h1, op_4, k5', fa_116_4, ld_4, h3, form_4, hww]
      exact ⟨by rw [last true (.inr k5) (by simp)], hw0⟩
    | false =>
      rw [hww] at last
      simp -implicitDefEqProofs only [zS, fa_29_4, ld_22, h1, op_4, k5', fa_116_4, ld_4, h3, form_4, hww, fa_29_5, ld_22, h1, op_5]
      exact ⟨by rw [last (o.2.2.2.2.2 == 0) (.inr k5) (by simp)], hw0⟩
theorem c_opMay (o : OpV) (w : World) : CallR Try.prog 71 [.agg (opC o).toArray] w fun v w' => v = .bool (mayO o) ∧ Chg [] w w' := by
  apply F71_ok
  have h1 : hp (w.alloc (.cells (opC o).toArray 29)) w.heap.size = some (.cells (opC o).toArray 29) := by rw [alloc_heap, if_pos rfl]
  have hc1 : Chg [] w (w.alloc (.cells (opC o).toArray 29)) := (Chg.refl _ _).alloc _
  have hlt : w.heap.size < (w.alloc (.cells (opC o).toArray 29)).heap.size := by simp
  simp -implicitDefEqProofs only [F71, effv_box, cells_agg, zS, fa_29_0, ld_3, h1, op_0]
  generalize w.alloc (.cells (opC o).toArray 29) = w1 at *
  generalize hg : w.heap.size = g1 at *
  refine (c_formOf o.1 w1).mono ?_
  rintro v w2 ⟨rfl, hc2⟩
  simp -implicitDefEqProofs only [al_116]
  rw [st_116 (by rfl) (by rfl) (by rw [alloc_heap, if_pos rfl]; rfl) (by rw [alloc_heap, if_pos rfl]; rfl), alloc_heap, if_pos rfl]
  simp -implicitDefEqProofs only [getE_some]
  generalize hz : w2.alloc _ = wa
  have hca : Chg [] w2 wa := by rw [← hz]; exact (Chg.refl _ _).alloc _
  have hza : wa.heap.size = w2.heap.size + 1 := by rw [← hz]; simp
  have hcp : Chg [] w2 (put wa w2.heap.size (formC o.1).toArray 116) := hca.put (.inr (Nat.le_refl _)) _ _
  have h3 : hp (put wa w2.heap.size (formC o.1).toArray 116) w2.heap.size = some (.cells (formC o.1).toArray 116) := by rw [put_heap, if_pos rfl, if_pos (by omega)]
  have h1 := (hc2.trans hcp).at h1 (by simp)
  have hcc := (hc1.trans hc2).trans hcp
  clear hz hca hza hcp
  generalize put wa w2.heap.size (formC o.1).toArray 116 = w3 at *
  generalize w2.heap.size = g3 at *
  simp -implicitDefEqProofs only [zS, fa_116_1, ld_3, h3, form_1]
  have zero : ∀ f a : Int, f = frM o.1 → a = atM o.1 → P71_0 (.pointer (some ⟨g1, 0, none⟩)) (.pointer (some ⟨g3, 0, none⟩)) (.int .i64 f) (.int .i64 a) (.int .i64 0) w3 fun v w' => v = .bool (mayO o) ∧ Chg [] w w' := by
    intro f a hf ha
    subst hf; subst ha
    apply L71_0_ok
    by_cases k1 : o.1 = 1
    · have k1' : (o.1 == 1) = true := by rw [k1]; rfl
      have e : (3 : Int) = nM o.1 := by simp [nM, k1]
      simp -implicitDefEqProofs only [L71_0, zS, fa_29_0, ld_3, h1, op_0, k1']
      rw [e]
      exact l_opMay1 hcc h1 h3
    · cases hn : nB o.1 with
      | true =>
        have e : (65535 : Int) = nM o.1 := by simp [nM, k1, hn]
        simp -implicitDefEqProofs only [L71_0, zS, fa_29_0, ld_3, h1, op_0, eqf k1, fa_116_2, ld_4, h3, form_2, hn]
        rw [e]
        exact l_opMay1 hcc h1 h3
      | false =>
        have e : (0 : Int) = nM o.1 := by simp [nM, k1, hn]
        simp -implicitDefEqProofs only [L71_0, zS, fa_29_0, ld_3, h1, op_0, eqf k1, fa_116_2, ld_4, h3, form_2, hn]
        have := l_opMay1 (w0 := w) hcc h1 h3
        rw [← e] at this
        exact this
  by_cases k : ofK o.1 = 0
  · have k' : (ofK o.1 != 0) = false := by rw [k]; rfl
    simp -implicitDefEqProofs only [k', zS]
    exact zero 0 0 (by simp [frM, k]) (by simp [atM, k])
  · simp -implicitDefEqProofs only [bne_iff_ne.2 k, zS]
    exact zero 63 999 (by simp [frM, k]) (by simp [atM, k])
end Go.Proofs.Yteapggpkgfiacaa

namespace Go.Proofs.Yteapggpkgfiacaa
open Go Ev Go.RowKit
set_option linter.unusedSimpArgs false
set_option linter.unusedVariables false
set_option maxRecDepth 10000

theorem tmod_cases2 (a m : Int) (hm : 0 < m) : (0 ≤ a.tmod m ∧ a.tmod m = a % m) ∨ (a.tmod m < 0 ∧ a.tmod m + m = a % m) := by
  have h1 := Int.emod_lt_of_pos a hm
  have h2 := Int.emod_nonneg a (b := m) (by omega)
  rcases Int.lt_or_le a 0 with h | h
  · have h5 := Int.tmod_eq_emod (a := a) (b := m)
    by_cases hd : 0 ≤ a ∨ m ∣ a
    · rw [if_pos hd] at h5
      left; omega
    · rw [if_neg hd] at h5
      have h6 : (m.natAbs : Int) = m := by omega
      rw [h6] at h5
      right; omega
  · left
    rw [Int.tmod_eq_emod_of_nonneg h]; omega
theorem c_Number (a m : Int) (w : World) (hm : 0 < m) (hm2 : m ≤ 4611686018427387904) : CallR Try.prog 7 [.int .i64 a, .int .i64 m] w fun v w' => v = .int .i64 (a % m) ∧ w' = w := by
  apply F7_ok
  have hlt := Int.emod_lt_of_pos a hm
  have hge := Int.emod_nonneg a (b := m) (by omega)
  simp -implicitDefEqProofs only [F7, bp_rem (show m ≠ 0 by omega), zS]
  rcases tmod_cases2 a m hm with ⟨h1, h2⟩ | ⟨h1, h2⟩
  · simp -implicitDefEqProofs only [show ¬ a.tmod m < 0 by omega, zS]
    apply L7_0_ok
    simp -implicitDefEqProofs only [L7_0, h2, and_self]
  · simp -implicitDefEqProofs only [h1, zS, bp_add]
    apply L7_0_ok
    simp -implicitDefEqProofs only [L7_0, h2, wrapi (n := a % m) (by omega) (by omega), and_self]
end Go.Proofs.Yteapggpkgfiacaa

