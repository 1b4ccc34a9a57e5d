/- Parts of the proof of OrderRaw, one behind the other. Conditions: none. -/
import Derived.Test.YteapggpkgfiacaaChecked
import Derived.Eval
import Derived.Laws.Tables
import Derived.Test.YteapggpkgfiacaaZOrderRaw8
namespace Go.Proofs.Yteapggpkgfiacaa
open Go Ev
set_option linter.unusedVariables false
set_option maxRecDepth 100000
variable {w : World} {K : Value → World → Prop} {L : World → Prop}
@[simp] theorem fa_25_0 {b o : Nat} : pureRun Try.prog (Instr.fieldAt 25 (.pointer (some ⟨b, o, none⟩)) 0) = some (.pointer (some ⟨b, o + 0, none⟩)) := pr_fieldAt (g := false) (z := 1) (by kernel_rfl) (by decide)
@[simp] theorem fa_25_1 {b o : Nat} : pureRun Try.prog (Instr.fieldAt 25 (.pointer (some ⟨b, o, none⟩)) 1) = some (.pointer (some ⟨b, o + 1, none⟩)) := pr_fieldAt (g := false) (z := 1) (by kernel_rfl) (by decide)
@[simp] theorem fa_25_2 {b o : Nat} : pureRun Try.prog (Instr.fieldAt 25 (.pointer (some ⟨b, o, none⟩)) 2) = some (.pointer (some ⟨b, o + 2, none⟩)) := pr_fieldAt (g := false) (z := 1) (by kernel_rfl) (by decide)
@[simp] theorem fa_25_3 {b o : Nat} : pureRun Try.prog (Instr.fieldAt 25 (.pointer (some ⟨b, o, none⟩)) 3) = some (.pointer (some ⟨b, o + 3, none⟩)) := pr_fieldAt (g := false) (z := 1) (by kernel_rfl) (by decide)
@[simp] theorem fa_25_4 {b o : Nat} : pureRun Try.prog (Instr.fieldAt 25 (.pointer (some ⟨b, o, none⟩)) 4) = some (.pointer (some ⟨b, o + 4, none⟩)) := pr_fieldAt (g := false) (z := 1) (by kernel_rfl) (by decide)
@[simp] theorem fa_25_5 {b o : Nat} : pureRun Try.prog (Instr.fieldAt 25 (.pointer (some ⟨b, o, none⟩)) 5) = some (.pointer (some ⟨b, o + 5, none⟩)) := pr_fieldAt (g := false) (z := 1) (by kernel_rfl) (by decide)
@[simp] theorem fa_27_0 {b o : Nat} : pureRun Try.prog (Instr.fieldAt 27 (.pointer (some ⟨b, o, none⟩)) 0) = some (.pointer (some ⟨b, o + 0, none⟩)) := pr_fieldAt (g := false) (z := 1) (by kernel_rfl) (by decide)
@[simp] theorem fa_27_1 {b o : Nat} : pureRun Try.prog (Instr.fieldAt 27 (.pointer (some ⟨b, o, none⟩)) 1) = some (.pointer (some ⟨b, o + 1, none⟩)) := pr_fieldAt (g := false) (z := 1) (by kernel_rfl) (by decide)
@[simp] theorem fa_27_2 {b o : Nat} : pureRun Try.prog (Instr.fieldAt 27 (.pointer (some ⟨b, o, none⟩)) 2) = some (.pointer (some ⟨b, o + 2, none⟩)) := pr_fieldAt (g := false) (z := 1) (by kernel_rfl) (by decide)
@[simp] theorem fa_27_3 {b o : Nat} : pureRun Try.prog (Instr.fieldAt 27 (.pointer (some ⟨b, o, none⟩)) 3) = some (.pointer (some ⟨b, o + 3, none⟩)) := pr_fieldAt (g := false) (z := 1) (by kernel_rfl) (by decide)
@[simp] theorem fa_27_4 {b o : Nat} : pureRun Try.prog (Instr.fieldAt 27 (.pointer (some ⟨b, o, none⟩)) 4) = some (.pointer (some ⟨b, o + 4, none⟩)) := pr_fieldAt (g := false) (z := 1) (by kernel_rfl) (by decide)
@[simp] theorem fa_29_0 {b o : Nat} : pureRun Try.prog (Instr.fieldAt 29 (.pointer (some ⟨b, o, none⟩)) 0) = some (.pointer (some ⟨b, o + 0, none⟩)) := pr_fieldAt (g := false) (z := 1) (by kernel_rfl) (by decide)
@[simp] theorem fa_29_1 {b o : Nat} : pureRun Try.prog (Instr.fieldAt 29 (.pointer (some ⟨b, o, none⟩)) 1) = some (.pointer (some ⟨b, o + 1, none⟩)) := pr_fieldAt (g := false) (z := 1) (by kernel_rfl) (by decide)
@[simp] theorem fa_29_2 {b o : Nat} : pureRun Try.prog (Instr.fieldAt 29 (.pointer (some ⟨b, o, none⟩)) 2) = some (.pointer (some ⟨b, o + 2, none⟩)) := pr_fieldAt (g := false) (z := 1) (by kernel_rfl) (by decide)
@[simp] theorem fa_29_3 {b o : Nat} : pureRun Try.prog (Instr.fieldAt 29 (.pointer (some ⟨b, o, none⟩)) 3) = some (.pointer (some ⟨b, o + 3, none⟩)) := pr_fieldAt (g := false) (z := 1) (by kernel_rfl) (by decide)
@[simp] theorem fa_29_4 {b o : Nat} : pureRun Try.prog (Instr.fieldAt 29 (.pointer (some ⟨b, o, none⟩)) 4) = some (.pointer (some ⟨b, o + 4, none⟩)) := pr_fieldAt (g := false) (z := 1) (by kernel_rfl) (by decide)
@[simp] theorem fa_29_5 {b o : Nat} : pureRun Try.prog (Instr.fieldAt 29 (.pointer (some ⟨b, o, none⟩)) 5) = some (.pointer (some ⟨b, o + 5, none⟩)) := pr_fieldAt (g := false) (z := 1) (by kernel_rfl) (by decide)
@[simp] theorem fa_32_0 {b o : Nat} : pureRun Try.prog (Instr.fieldAt 32 (.pointer (some ⟨b, o, none⟩)) 0) = some (.pointer (some ⟨b, o + 0, none⟩)) := pr_fieldAt (g := false) (z := 1) (by kernel_rfl) (by decide)
@[simp] theorem fa_32_1 {b o : Nat} : pureRun Try.prog (Instr.fieldAt 32 (.pointer (some ⟨b, o, none⟩)) 1) = some (.pointer (some ⟨b, o + 1, none⟩)) := pr_fieldAt (g := true) (z := 5) (by kernel_rfl) (by decide)
@[simp] theorem fa_32_2 {b o : Nat} : pureRun Try.prog (Instr.fieldAt 32 (.pointer (some ⟨b, o, none⟩)) 2) = some (.pointer (some ⟨b, o + 6, none⟩)) := pr_fieldAt (g := false) (z := 1) (by kernel_rfl) (by decide)
@[simp] theorem fa_32_3 {b o : Nat} : pureRun Try.prog (Instr.fieldAt 32 (.pointer (some ⟨b, o, none⟩)) 3) = some (.pointer (some ⟨b, o + 7, none⟩)) := pr_fieldAt (g := false) (z := 1) (by kernel_rfl) (by decide)
@[simp] theorem fa_34_0 {b o : Nat} : pureRun Try.prog (Instr.fieldAt 34 (.pointer (some ⟨b, o, none⟩)) 0) = some (.pointer (some ⟨b, o + 0, none⟩)) := pr_fieldAt (g := false) (z := 1) (by kernel_rfl) (by decide)
@[simp] theorem fa_34_1 {b o : Nat} : pureRun Try.prog (Instr.fieldAt 34 (.pointer (some ⟨b, o, none⟩)) 1) = some (.pointer (some ⟨b, o + 1, none⟩)) := pr_fieldAt (g := false) (z := 1) (by kernel_rfl) (by decide)
@[simp] theorem fa_34_2 {b o : Nat} : pureRun Try.prog (Instr.fieldAt 34 (.pointer (some ⟨b, o, none⟩)) 2) = some (.pointer (some ⟨b, o + 2, none⟩)) := pr_fieldAt (g := true) (z := 6) (by kernel_rfl) (by decide)
@[simp] theorem fa_34_3 {b o : Nat} : pureRun Try.prog (Instr.fieldAt 34 (.pointer (some ⟨b, o, none⟩)) 3) = some (.pointer (some ⟨b, o + 8, none⟩)) := pr_fieldAt (g := false) (z := 1) (by kernel_rfl) (by decide)
@[simp] theorem fa_34_4 {b o : Nat} : pureRun Try.prog (Instr.fieldAt 34 (.pointer (some ⟨b, o, none⟩)) 4) = some (.pointer (some ⟨b, o + 9, none⟩)) := pr_fieldAt (g := false) (z := 1) (by kernel_rfl) (by decide)
@[simp] theorem fa_34_5 {b o : Nat} : pureRun Try.prog (Instr.fieldAt 34 (.pointer (some ⟨b, o, none⟩)) 5) = some (.pointer (some ⟨b, o + 10, none⟩)) := pr_fieldAt (g := false) (z := 1) (by kernel_rfl) (by decide)
@[simp] theorem fa_34_6 {b o : Nat} : pureRun Try.prog (Instr.fieldAt 34 (.pointer (some ⟨b, o, none⟩)) 6) = some (.pointer (some ⟨b, o + 11, none⟩)) := pr_fieldAt (g := false) (z := 1) (by kernel_rfl) (by decide)
@[simp] theorem fa_34_7 {b o : Nat} : pureRun Try.prog (Instr.fieldAt 34 (.pointer (some ⟨b, o, none⟩)) 7) = some (.pointer (some ⟨b, o + 12, none⟩)) := pr_fieldAt (g := true) (z := 8) (by kernel_rfl) (by decide)
@[simp] theorem fa_50_0 {b o : Nat} : pureRun Try.prog (Instr.fieldAt 50 (.pointer (some ⟨b, o, none⟩)) 0) = some (.pointer (some ⟨b, o + 0, none⟩)) := pr_fieldAt (g := false) (z := 1) (by kernel_rfl) (by decide)
@[simp] theorem fa_50_1 {b o : Nat} : pureRun Try.prog (Instr.fieldAt 50 (.pointer (some ⟨b, o, none⟩)) 1) = some (.pointer (some ⟨b, o + 1, none⟩)) := pr_fieldAt (g := false) (z := 1) (by kernel_rfl) (by decide)
@[simp] theorem fa_50_2 {b o : Nat} : pureRun Try.prog (Instr.fieldAt 50 (.pointer (some ⟨b, o, none⟩)) 2) = some (.pointer (some ⟨b, o + 2, none⟩)) := pr_fieldAt (g := false) (z := 1) (by kernel_rfl) (by decide)
@[simp] theorem fa_50_3 {b o : Nat} : pureRun Try.prog (Instr.fieldAt 50 (.pointer (some ⟨b, o, none⟩)) 3) = some (.pointer (some ⟨b, o + 3, none⟩)) := pr_fieldAt (g := false) (z := 1) (by kernel_rfl) (by decide)
@[simp] theorem fa_50_4 {b o : Nat} : pureRun Try.prog (Instr.fieldAt 50 (.pointer (some ⟨b, o, none⟩)) 4) = some (.pointer (some ⟨b, o + 4, none⟩)) := pr_fieldAt (g := false) (z := 1) (by kernel_rfl) (by decide)
@[simp] theorem fa_50_5 {b o : Nat} : pureRun Try.prog (Instr.fieldAt 50 (.pointer (some ⟨b, o, none⟩)) 5) = some (.pointer (some ⟨b, o + 5, none⟩)) := pr_fieldAt (g := false) (z := 1) (by kernel_rfl) (by decide)
@[simp] theorem fa_59_0 {b o : Nat} : pureRun Try.prog (Instr.fieldAt 59 (.pointer (some ⟨b, o, none⟩)) 0) = some (.pointer (some ⟨b, o + 0, none⟩)) := pr_fieldAt (g := false) (z := 1) (by kernel_rfl) (by decide)
@[simp] theorem fa_59_1 {b o : Nat} : pureRun Try.prog (Instr.fieldAt 59 (.pointer (some ⟨b, o, none⟩)) 1) = some (.pointer (some ⟨b, o + 1, none⟩)) := pr_fieldAt (g := false) (z := 1) (by kernel_rfl) (by decide)
@[simp] theorem fa_59_2 {b o : Nat} : pureRun Try.prog (Instr.fieldAt 59 (.pointer (some ⟨b, o, none⟩)) 2) = some (.pointer (some ⟨b, o + 2, none⟩)) := pr_fieldAt (g := false) (z := 1) (by kernel_rfl) (by decide)
@[simp] theorem fa_67_0 {b o : Nat} : pureRun Try.prog (Instr.fieldAt 67 (.pointer (some ⟨b, o, none⟩)) 0) = some (.pointer (some ⟨b, o + 0, none⟩)) := pr_fieldAt (g := false) (z := 1) (by kernel_rfl) (by decide)
@[simp] theorem fa_67_1 {b o : Nat} : pureRun Try.prog (Instr.fieldAt 67 (.pointer (some ⟨b, o, none⟩)) 1) = some (.pointer (some ⟨b, o + 1, none⟩)) := pr_fieldAt (g := false) (z := 1) (by kernel_rfl) (by decide)
@[simp] theorem fa_67_2 {b o : Nat} : pureRun Try.prog (Instr.fieldAt 67 (.pointer (some ⟨b, o, none⟩)) 2) = some (.pointer (some ⟨b, o + 2, none⟩)) := pr_fieldAt (g := false) (z := 1) (by kernel_rfl) (by decide)
@[simp] theorem fa_72_0 {b o : Nat} : pureRun Try.prog (Instr.fieldAt 72 (.pointer (some ⟨b, o, none⟩)) 0) = some (.pointer (some ⟨b, o + 0, none⟩)) := pr_fieldAt (g := true) (z := 6) (by kernel_rfl) (by decide)
@[simp] theorem fa_72_1 {b o : Nat} : pureRun Try.prog (Instr.fieldAt 72 (.pointer (some ⟨b, o, none⟩)) 1) = some (.pointer (some ⟨b, o + 6, none⟩)) := pr_fieldAt (g := false) (z := 1) (by kernel_rfl) (by decide)
@[simp] theorem fa_72_2 {b o : Nat} : pureRun Try.prog (Instr.fieldAt 72 (.pointer (some ⟨b, o, none⟩)) 2) = some (.pointer (some ⟨b, o + 7, none⟩)) := pr_fieldAt (g := false) (z := 1) (by kernel_rfl) (by decide)
@[simp] theorem fa_72_3 {b o : Nat} : pureRun Try.prog (Instr.fieldAt 72 (.pointer (some ⟨b, o, none⟩)) 3) = some (.pointer (some ⟨b, o + 8, none⟩)) := pr_fieldAt (g := false) (z := 1) (by kernel_rfl) (by decide)
@[simp] theorem fa_72_4 {b o : Nat} : pureRun Try.prog (Instr.fieldAt 72 (.pointer (some ⟨b, o, none⟩)) 4) = some (.pointer (some ⟨b, o + 9, none⟩)) := pr_fieldAt (g := false) (z := 1) (by kernel_rfl) (by decide)
@[simp] theorem fa_80_0 {b o : Nat} : pureRun Try.prog (Instr.fieldAt 80 (.pointer (some ⟨b, o, none⟩)) 0) = some (.pointer (some ⟨b, o + 0, none⟩)) := pr_fieldAt (g := false) (z := 1) (by kernel_rfl) (by decide)
@[simp] theorem fa_80_1 {b o : Nat} : pureRun Try.prog (Instr.fieldAt 80 (.pointer (some ⟨b, o, none⟩)) 1) = some (.pointer (some ⟨b, o + 1, none⟩)) := pr_fieldAt (g := false) (z := 1) (by kernel_rfl) (by decide)
@[simp] theorem fa_95_0 {b o : Nat} : pureRun Try.prog (Instr.fieldAt 95 (.pointer (some ⟨b, o, none⟩)) 0) = some (.pointer (some ⟨b, o + 0, none⟩)) := pr_fieldAt (g := false) (z := 1) (by kernel_rfl) (by decide)
@[simp] theorem fa_95_1 {b o : Nat} : pureRun Try.prog (Instr.fieldAt 95 (.pointer (some ⟨b, o, none⟩)) 1) = some (.pointer (some ⟨b, o + 1, none⟩)) := pr_fieldAt (g := false) (z := 1) (by kernel_rfl) (by decide)
@[simp] theorem fa_98_0 {b o : Nat} : pureRun Try.prog (Instr.fieldAt 98 (.pointer (some ⟨b, o, none⟩)) 0) = some (.pointer (some ⟨b, o + 0, none⟩)) := pr_fieldAt (g := true) (z := 2) (by kernel_rfl) (by decide)
@[simp] theorem fa_98_1 {b o : Nat} : pureRun Try.prog (Instr.fieldAt 98 (.pointer (some ⟨b, o, none⟩)) 1) = some (.pointer (some ⟨b, o + 2, none⟩)) := pr_fieldAt (g := false) (z := 1) (by kernel_rfl) (by decide)
@[simp] theorem fa_98_2 {b o : Nat} : pureRun Try.prog (Instr.fieldAt 98 (.pointer (some ⟨b, o, none⟩)) 2) = some (.pointer (some ⟨b, o + 3, none⟩)) := pr_fieldAt (g := false) (z := 1) (by kernel_rfl) (by decide)
@[simp] theorem fa_98_3 {b o : Nat} : pureRun Try.prog (Instr.fieldAt 98 (.pointer (some ⟨b, o, none⟩)) 3) = some (.pointer (some ⟨b, o + 4, none⟩)) := pr_fieldAt (g := false) (z := 1) (by kernel_rfl) (by decide)
@[simp] theorem fa_98_4 {b o : Nat} : pureRun Try.prog (Instr.fieldAt 98 (.pointer (some ⟨b, o, none⟩)) 4) = some (.pointer (some ⟨b, o + 5, none⟩)) := pr_fieldAt (g := false) (z := 1) (by kernel_rfl) (by decide)
@[simp] theorem fa_98_5 {b o : Nat} : pureRun Try.prog (Instr.fieldAt 98 (.pointer (some ⟨b, o, none⟩)) 5) = some (.pointer (some ⟨b, o + 6, none⟩)) := pr_fieldAt (g := false) (z := 1) (by kernel_rfl) (by decide)
@[simp] theorem fa_106_0 {b o : Nat} : pureRun Try.prog (Instr.fieldAt 106 (.pointer (some ⟨b, o, none⟩)) 0) = some (.pointer (some ⟨b, o + 0, none⟩)) := pr_fieldAt (g := false) (z := 1) (by kernel_rfl) (by decide)
@[simp] theorem fa_106_1 {b o : Nat} : pureRun Try.prog (Instr.fieldAt 106 (.pointer (some ⟨b, o, none⟩)) 1) = some (.pointer (some ⟨b, o + 1, none⟩)) := pr_fieldAt (g := false) (z := 1) (by kernel_rfl) (by decide)
@[simp] theorem fa_116_0 {b o : Nat} : pureRun Try.prog (Instr.fieldAt 116 (.pointer (some ⟨b, o, none⟩)) 0) = some (.pointer (some ⟨b, o + 0, none⟩)) := pr_fieldAt (g := false) (z := 1) (by kernel_rfl) (by decide)
@[simp] theorem fa_116_1 {b o : Nat} : pureRun Try.prog (Instr.fieldAt 116 (.pointer (some ⟨b, o, none⟩)) 1) = some (.pointer (some ⟨b, o + 1, none⟩)) := pr_fieldAt (g := false) (z := 1) (by kernel_rfl) (by decide)
@[simp] theorem fa_116_2 {b o : Nat} : pureRun Try.prog (Instr.fieldAt 116 (.pointer (some ⟨b, o, none⟩)) 2) = some (.pointer (some ⟨b, o + 2, none⟩)) := pr_fieldAt (g := false) (z := 1) (by kernel_rfl) (by decide)
@[simp] theorem fa_116_3 {b o : Nat} : pureRun Try.prog (Instr.fieldAt 116 (.pointer (some ⟨b, o, none⟩)) 3) = some (.pointer (some ⟨b, o + 3, none⟩)) := pr_fieldAt (g := false) (z := 1) (by kernel_rfl) (by decide)
@[simp] theorem fa_116_4 {b o : Nat} : pureRun Try.prog (Instr.fieldAt 116 (.pointer (some ⟨b, o, none⟩)) 4) = some (.pointer (some ⟨b, o + 4, none⟩)) := pr_fieldAt (g := false) (z := 1) (by kernel_rfl) (by decide)
@[simp] theorem fa_126_0 {b o : Nat} : pureRun Try.prog (Instr.fieldAt 126 (.pointer (some ⟨b, o, none⟩)) 0) = some (.pointer (some ⟨b, o + 0, none⟩)) := pr_fieldAt (g := true) (z := 6) (by kernel_rfl) (by decide)
@[simp] theorem fa_126_1 {b o : Nat} : pureRun Try.prog (Instr.fieldAt 126 (.pointer (some ⟨b, o, none⟩)) 1) = some (.pointer (some ⟨b, o + 6, none⟩)) := pr_fieldAt (g := false) (z := 1) (by kernel_rfl) (by decide)
@[simp] theorem fa_126_2 {b o : Nat} : pureRun Try.prog (Instr.fieldAt 126 (.pointer (some ⟨b, o, none⟩)) 2) = some (.pointer (some ⟨b, o + 7, none⟩)) := pr_fieldAt (g := false) (z := 1) (by kernel_rfl) (by decide)
@[simp] theorem fa_126_3 {b o : Nat} : pureRun Try.prog (Instr.fieldAt 126 (.pointer (some ⟨b, o, none⟩)) 3) = some (.pointer (some ⟨b, o + 8, none⟩)) := pr_fieldAt (g := false) (z := 1) (by kernel_rfl) (by decide)
@[simp] theorem fa_126_4 {b o : Nat} : pureRun Try.prog (Instr.fieldAt 126 (.pointer (some ⟨b, o, none⟩)) 4) = some (.pointer (some ⟨b, o + 9, none⟩)) := pr_fieldAt (g := false) (z := 1) (by kernel_rfl) (by decide)
@[simp] theorem fa_126_5 {b o : Nat} : pureRun Try.prog (Instr.fieldAt 126 (.pointer (some ⟨b, o, none⟩)) 5) = some (.pointer (some ⟨b, o + 10, none⟩)) := pr_fieldAt (g := false) (z := 1) (by kernel_rfl) (by decide)
@[simp] theorem fa_126_6 {b o : Nat} : pureRun Try.prog (Instr.fieldAt 126 (.pointer (some ⟨b, o, none⟩)) 6) = some (.pointer (some ⟨b, o + 11, none⟩)) := pr_fieldAt (g := false) (z := 1) (by kernel_rfl) (by decide)
@[simp] theorem fa_138_0 {b o : Nat} : pureRun Try.prog (Instr.fieldAt 138 (.pointer (some ⟨b, o, none⟩)) 0) = some (.pointer (some ⟨b, o + 0, none⟩)) := pr_fieldAt (g := false) (z := 1) (by kernel_rfl) (by decide)
@[simp] theorem fa_138_1 {b o : Nat} : pureRun Try.prog (Instr.fieldAt 138 (.pointer (some ⟨b, o, none⟩)) 1) = some (.pointer (some ⟨b, o + 1, none⟩)) := pr_fieldAt (g := false) (z := 1) (by kernel_rfl) (by decide)
@[simp] theorem fa_138_2 {b o : Nat} : pureRun Try.prog (Instr.fieldAt 138 (.pointer (some ⟨b, o, none⟩)) 2) = some (.pointer (some ⟨b, o + 2, none⟩)) := pr_fieldAt (g := false) (z := 1) (by kernel_rfl) (by decide)
@[simp] theorem fa_138_3 {b o : Nat} : pureRun Try.prog (Instr.fieldAt 138 (.pointer (some ⟨b, o, none⟩)) 3) = some (.pointer (some ⟨b, o + 3, none⟩)) := pr_fieldAt (g := false) (z := 1) (by kernel_rfl) (by decide)
@[simp] theorem fa_138_4 {b o : Nat} : pureRun Try.prog (Instr.fieldAt 138 (.pointer (some ⟨b, o, none⟩)) 4) = some (.pointer (some ⟨b, o + 4, none⟩)) := pr_fieldAt (g := false) (z := 1) (by kernel_rfl) (by decide)
@[simp] theorem fa_138_5 {b o : Nat} : pureRun Try.prog (Instr.fieldAt 138 (.pointer (some ⟨b, o, none⟩)) 5) = some (.pointer (some ⟨b, o + 5, none⟩)) := pr_fieldAt (g := false) (z := 1) (by kernel_rfl) (by decide)
@[simp] theorem fa_138_6 {b o : Nat} : pureRun Try.prog (Instr.fieldAt 138 (.pointer (some ⟨b, o, none⟩)) 6) = some (.pointer (some ⟨b, o + 6, none⟩)) := pr_fieldAt (g := false) (z := 1) (by kernel_rfl) (by decide)
@[simp] theorem fa_138_7 {b o : Nat} : pureRun Try.prog (Instr.fieldAt 138 (.pointer (some ⟨b, o, none⟩)) 7) = some (.pointer (some ⟨b, o + 7, none⟩)) := pr_fieldAt (g := false) (z := 1) (by kernel_rfl) (by decide)
@[simp] theorem fi_116_1 {x0 x1 x2 x3 x4 : Value} : pureRun Try.prog (Instr.field 116 (.agg #[x0, x1, x2, x3, x4]) 1) = some x1 := pr_field1 (off := 1) (z := 1) (by kernel_rfl) rfl
theorem sz_3 : (Try.prog.info? 3).map (·.size) = some 1 := by kernel_rfl
theorem ag_3 : (Try.prog.underlying 3).map isAggD = some false := by kernel_rfl
@[simp] theorem ld_3 {b o : Nat} : ldv Try.prog 3 (.pointer (some ⟨b, o, none⟩)) w = ldC (hp w b) o := ldv_blk ag_3
theorem sz_4 : (Try.prog.info? 4).map (·.size) = some 1 := by kernel_rfl
theorem ag_4 : (Try.prog.underlying 4).map isAggD = some false := by kernel_rfl
@[simp] theorem ld_4 {b o : Nat} : ldv Try.prog 4 (.pointer (some ⟨b, o, none⟩)) w = ldC (hp w b) o := ldv_blk ag_4
theorem ag_9 : (Try.prog.underlying 9).map isAggD = some false := by kernel_rfl
@[simp] theorem ld_9 {b o : Nat} : ldv Try.prog 9 (.pointer (some ⟨b, o, none⟩)) w = ldC (hp w b) o := ldv_blk ag_9
theorem sz_22 : (Try.prog.info? 22).map (·.size) = some 1 := by kernel_rfl
theorem ag_22 : (Try.prog.underlying 22).map isAggD = some false := by kernel_rfl
@[simp] theorem ld_22 {b o : Nat} : ldv Try.prog 22 (.pointer (some ⟨b, o, none⟩)) w = ldC (hp w b) o := ldv_blk ag_22
theorem sz_25 : (Try.prog.info? 25).map (·.size) = some 6 := by kernel_rfl
theorem ag_25 : (Try.prog.underlying 25).map isAggD = some true := by kernel_rfl
theorem sz_27 : (Try.prog.info? 27).map (·.size) = some 5 := by kernel_rfl
theorem ag_27 : (Try.prog.underlying 27).map isAggD = some true := by kernel_rfl
theorem ld_27 {b o : Nat} : ldv Try.prog 27 (.pointer (some ⟨b, o, none⟩)) w = (ldL (hp w b) o 5).map fun l => .agg l.toArray := ldv_L ag_27 sz_27
theorem sz_29 : (Try.prog.info? 29).map (·.size) = some 6 := by kernel_rfl
theorem ag_29 : (Try.prog.underlying 29).map isAggD = some true := by kernel_rfl
theorem ld_29 {b o : Nat} : ldv Try.prog 29 (.pointer (some ⟨b, o, none⟩)) w = (ldL (hp w b) o 6).map fun l => .agg l.toArray := ldv_L ag_29 sz_29
theorem sz_30 : (Try.prog.info? 30).map (·.size) = some 1 := by kernel_rfl
theorem ag_30 : (Try.prog.underlying 30).map isAggD = some false := by kernel_rfl
@[simp] theorem ld_30 {b o : Nat} : ldv Try.prog 30 (.pointer (some ⟨b, o, none⟩)) w = ldC (hp w b) o := ldv_blk ag_30
theorem sz_32 : (Try.prog.info? 32).map (·.size) = some 8 := by kernel_rfl
theorem ag_32 : (Try.prog.underlying 32).map isAggD = some true := by kernel_rfl
theorem ld_32 {b o : Nat} : ldv Try.prog 32 (.pointer (some ⟨b, o, none⟩)) w = (ldL (hp w b) o 8).map fun l => .agg l.toArray := ldv_L ag_32 sz_32
theorem sz_34 : (Try.prog.info? 34).map (·.size) = some 20 := by kernel_rfl
theorem ag_34 : (Try.prog.underlying 34).map isAggD = some true := by kernel_rfl
theorem ld_34 {b o : Nat} : ldv Try.prog 34 (.pointer (some ⟨b, o, none⟩)) w = (ldL (hp w b) o 20).map fun l => .agg l.toArray := ldv_L ag_34 sz_34
theorem ag_35 : (Try.prog.underlying 35).map isAggD = some false := by kernel_rfl
@[simp] theorem ld_35 {b o : Nat} : ldv Try.prog 35 (.pointer (some ⟨b, o, none⟩)) w = ldC (hp w b) o := ldv_blk ag_35
theorem sz_36 : (Try.prog.info? 36).map (·.size) = some 1 := by kernel_rfl
theorem ag_36 : (Try.prog.underlying 36).map isAggD = some false := by kernel_rfl
@[simp] theorem ld_36 {b o : Nat} : ldv Try.prog 36 (.pointer (some ⟨b, o, none⟩)) w = ldC (hp w b) o := ldv_blk ag_36
theorem sz_48 : (Try.prog.info? 48).map (·.size) = some 1 := by kernel_rfl
theorem ag_48 : (Try.prog.underlying 48).map isAggD = some false := by kernel_rfl
@[simp] theorem ld_48 {b o : Nat} : ldv Try.prog 48 (.pointer (some ⟨b, o, none⟩)) w = ldC (hp w b) o := ldv_blk ag_48
theorem sz_59 : (Try.prog.info? 59).map (·.size) = some 3 := by kernel_rfl
theorem ag_59 : (Try.prog.underlying 59).map isAggD = some true := by kernel_rfl
theorem ld_59 {b o : Nat} : ldv Try.prog 59 (.pointer (some ⟨b, o, none⟩)) w = (ldL (hp w b) o 3).map fun l => .agg l.toArray := ldv_L ag_59 sz_59
theorem sz_67 : (Try.prog.info? 67).map (·.size) = some 3 := by kernel_rfl
theorem ag_67 : (Try.prog.underlying 67).map isAggD = some true := by kernel_rfl
theorem ag_68 : (Try.prog.underlying 68).map isAggD = some false := by kernel_rfl
@[simp] theorem ld_68 {b o : Nat} : ldv Try.prog 68 (.pointer (some ⟨b, o, none⟩)) w = ldC (hp w b) o := ldv_blk ag_68
theorem sz_69 : (Try.prog.info? 69).map (·.size) = some 1 := by kernel_rfl
theorem ag_69 : (Try.prog.underlying 69).map isAggD = some false := by kernel_rfl
@[simp] theorem ld_69 {b o : Nat} : ldv Try.prog 69 (.pointer (some ⟨b, o, none⟩)) w = ldC (hp w b) o := ldv_blk ag_69
theorem ag_70 : (Try.prog.underlying 70).map isAggD = some false := by kernel_rfl
@[simp] theorem ld_70 {b o : Nat} : ldv Try.prog 70 (.pointer (some ⟨b, o, none⟩)) w = ldC (hp w b) o := ldv_blk ag_70
theorem sz_80 : (Try.prog.info? 80).map (·.size) = some 2 := by kernel_rfl
theorem ag_80 : (Try.prog.underlying 80).map isAggD = some true := by kernel_rfl
theorem ld_80 {b o : Nat} : ldv Try.prog 80 (.pointer (some ⟨b, o, none⟩)) w = (ldL (hp w b) o 2).map fun l => .agg l.toArray := ldv_L ag_80 sz_80
theorem sz_85 : (Try.prog.info? 85).map (·.size) = some 4 := by kernel_rfl
theorem ag_85 : (Try.prog.underlying 85).map isAggD = some true := by kernel_rfl
theorem ld_85 {b o : Nat} : ldv Try.prog 85 (.pointer (some ⟨b, o, none⟩)) w = (ldL (hp w b) o 4).map fun l => .agg l.toArray := ldv_L ag_85 sz_85
theorem sz_95 : (Try.prog.info? 95).map (·.size) = some 2 := by kernel_rfl
theorem ag_95 : (Try.prog.underlying 95).map isAggD = some true := by kernel_rfl
theorem ld_95 {b o : Nat} : ldv Try.prog 95 (.pointer (some ⟨b, o, none⟩)) w = (ldL (hp w b) o 2).map fun l => .agg l.toArray := ldv_L ag_95 sz_95
theorem sz_96 : (Try.prog.info? 96).map (·.size) = some 1 := by kernel_rfl
theorem ag_96 : (Try.prog.underlying 96).map isAggD = some false := by kernel_rfl
@[simp] theorem ld_96 {b o : Nat} : ldv Try.prog 96 (.pointer (some ⟨b, o, none⟩)) w = ldC (hp w b) o := ldv_blk ag_96
theorem sz_98 : (Try.prog.info? 98).map (·.size) = some 7 := by kernel_rfl
theorem ag_98 : (Try.prog.underlying 98).map isAggD = some true := by kernel_rfl
theorem ld_98 {b o : Nat} : ldv Try.prog 98 (.pointer (some ⟨b, o, none⟩)) w = (ldL (hp w b) o 7).map fun l => .agg l.toArray := ldv_L ag_98 sz_98
theorem sz_104 : (Try.prog.info? 104).map (·.size) = some 1 := by kernel_rfl
theorem ag_104 : (Try.prog.underlying 104).map isAggD = some false := by kernel_rfl
@[simp] theorem ld_104 {b o : Nat} : ldv Try.prog 104 (.pointer (some ⟨b, o, none⟩)) w = ldC (hp w b) o := ldv_blk ag_104
theorem ag_112 : (Try.prog.underlying 112).map isAggD = some false := by kernel_rfl
@[simp] theorem ld_112 {b o : Nat} : ldv Try.prog 112 (.pointer (some ⟨b, o, none⟩)) w = ldC (hp w b) o := ldv_blk ag_112
theorem sz_116 : (Try.prog.info? 116).map (·.size) = some 5 := by kernel_rfl
theorem ag_116 : (Try.prog.underlying 116).map isAggD = some true := by kernel_rfl
theorem ld_116 {b o : Nat} : ldv Try.prog 116 (.pointer (some ⟨b, o, none⟩)) w = (ldL (hp w b) o 5).map fun l => .agg l.toArray := ldv_L ag_116 sz_116
theorem ag_123 : (Try.prog.underlying 123).map isAggD = some false := by kernel_rfl
@[simp] theorem ld_123 {b o : Nat} : ldv Try.prog 123 (.pointer (some ⟨b, o, none⟩)) w = ldC (hp w b) o := ldv_blk ag_123
theorem sz_124 : (Try.prog.info? 124).map (·.size) = some 1 := by kernel_rfl
theorem ag_124 : (Try.prog.underlying 124).map isAggD = some false := by kernel_rfl
@[simp] theorem ld_124 {b o : Nat} : ldv Try.prog 124 (.pointer (some ⟨b, o, none⟩)) w = ldC (hp w b) o := ldv_blk ag_124
theorem sz_138 : (Try.prog.info? 138).map (·.size) = some 8 := by kernel_rfl
theorem ag_138 : (Try.prog.underlying 138).map isAggD = some true := by kernel_rfl
theorem ld_138 {b o : Nat} : ldv Try.prog 138 (.pointer (some ⟨b, o, none⟩)) w = (ldL (hp w b) o 8).map fun l => .agg l.toArray := ldv_L ag_138 sz_138
theorem sz_139 : (Try.prog.info? 139).map (·.size) = some 1 := by kernel_rfl
theorem ag_139 : (Try.prog.underlying 139).map isAggD = some false := by kernel_rfl
@[simp] theorem ld_139 {b o : Nat} : ldv Try.prog 139 (.pointer (some ⟨b, o, none⟩)) w = ldC (hp w b) o := ldv_blk ag_139
theorem sz_142 : (Try.prog.info? 142).map (·.size) = some 2 := by kernel_rfl
theorem ag_142 : (Try.prog.underlying 142).map isAggD = some true := by kernel_rfl
theorem ld_142 {b o : Nat} : ldv Try.prog 142 (.pointer (some ⟨b, o, none⟩)) w = (ldL (hp w b) o 2).map fun l => .agg l.toArray := ldv_L ag_142 sz_142
theorem st_3 {b o : Nat} {v : Value} (hv : v.cells = #[v]) (h1 : v.oneCell' = true) (h : okC (hp w b) (o + 1) = true) : effu Try.prog (Instr.storeAt 3 (.pointer (some ⟨b, o, none⟩)) v) w L = L (put w b ((getC (hp w b)).setIfInBounds o v) (getE (hp w b))) := effu_store1 sz_3 hv h1 h
theorem st_4 {b o : Nat} {v : Value} (hv : v.cells = #[v]) (h1 : v.oneCell' = true) (h : okC (hp w b) (o + 1) = true) : effu Try.prog (Instr.storeAt 4 (.pointer (some ⟨b, o, none⟩)) v) w L = L (put w b ((getC (hp w b)).setIfInBounds o v) (getE (hp w b))) := effu_store1 sz_4 hv h1 h
theorem st_22 {b o : Nat} {v : Value} (hv : v.cells = #[v]) (h1 : v.oneCell' = true) (h : okC (hp w b) (o + 1) = true) : effu Try.prog (Instr.storeAt 22 (.pointer (some ⟨b, o, none⟩)) v) w L = L (put w b ((getC (hp w b)).setIfInBounds o v) (getE (hp w b))) := effu_store1 sz_22 hv h1 h
theorem st_25 {b : Nat} {c : Array Value} (hc : c.size = 6) (h1 : c.toList.all (·.oneCell') = true) (h : okC (hp w b) 6 = true) (hs : (getC (hp w b)).size = 6) : effu Try.prog (Instr.storeAt 25 (.pointer (some ⟨b, 0, none⟩)) (.agg c)) w L = L (put w b c (getE (hp w b))) := effu_storeW sz_25 hc h1 (by decide) h hs
theorem st_27 {b : Nat} {c : Array Value} (hc : c.size = 5) (h1 : c.toList.all (·.oneCell') = true) (h : okC (hp w b) 5 = true) (hs : (getC (hp w b)).size = 5) : effu Try.prog (Instr.storeAt 27 (.pointer (some ⟨b, 0, none⟩)) (.agg c)) w L = L (put w b c (getE (hp w b))) := effu_storeW sz_27 hc h1 (by decide) h hs
theorem st_29 {b : Nat} {c : Array Value} (hc : c.size = 6) (h1 : c.toList.all (·.oneCell') = true) (h : okC (hp w b) 6 = true) (hs : (getC (hp w b)).size = 6) : effu Try.prog (Instr.storeAt 29 (.pointer (some ⟨b, 0, none⟩)) (.agg c)) w L = L (put w b c (getE (hp w b))) := effu_storeW sz_29 hc h1 (by decide) h hs
theorem st_32 {b : Nat} {c : Array Value} (hc : c.size = 8) (h1 : c.toList.all (·.oneCell') = true) (h : okC (hp w b) 8 = true) (hs : (getC (hp w b)).size = 8) : effu Try.prog (Instr.storeAt 32 (.pointer (some ⟨b, 0, none⟩)) (.agg c)) w L = L (put w b c (getE (hp w b))) := effu_storeW sz_32 hc h1 (by decide) h hs
theorem st_34 {b : Nat} {c : Array Value} (hc : c.size = 20) (h1 : c.toList.all (·.oneCell') = true) (h : okC (hp w b) 20 = true) (hs : (getC (hp w b)).size = 20) : effu Try.prog (Instr.storeAt 34 (.pointer (some ⟨b, 0, none⟩)) (.agg c)) w L = L (put w b c (getE (hp w b))) := effu_storeW sz_34 hc h1 (by decide) h hs
theorem st_36 {b o : Nat} {v : Value} (hv : v.cells = #[v]) (h1 : v.oneCell' = true) (h : okC (hp w b) (o + 1) = true) : effu Try.prog (Instr.storeAt 36 (.pointer (some ⟨b, o, none⟩)) v) w L = L (put w b ((getC (hp w b)).setIfInBounds o v) (getE (hp w b))) := effu_store1 sz_36 hv h1 h
theorem st_48 {b o : Nat} {v : Value} (hv : v.cells = #[v]) (h1 : v.oneCell' = true) (h : okC (hp w b) (o + 1) = true) : effu Try.prog (Instr.storeAt 48 (.pointer (some ⟨b, o, none⟩)) v) w L = L (put w b ((getC (hp w b)).setIfInBounds o v) (getE (hp w b))) := effu_store1 sz_48 hv h1 h
theorem st_59 {b : Nat} {c : Array Value} (hc : c.size = 3) (h1 : c.toList.all (·.oneCell') = true) (h : okC (hp w b) 3 = true) (hs : (getC (hp w b)).size = 3) : effu Try.prog (Instr.storeAt 59 (.pointer (some ⟨b, 0, none⟩)) (.agg c)) w L = L (put w b c (getE (hp w b))) := effu_storeW sz_59 hc h1 (by decide) h hs
theorem st_69 {b o : Nat} {v : Value} (hv : v.cells = #[v]) (h1 : v.oneCell' = true) (h : okC (hp w b) (o + 1) = true) : effu Try.prog (Instr.storeAt 69 (.pointer (some ⟨b, o, none⟩)) v) w L = L (put w b ((getC (hp w b)).setIfInBounds o v) (getE (hp w b))) := effu_store1 sz_69 hv h1 h
theorem st_80 {b : Nat} {c : Array Value} (hc : c.size = 2) (h1 : c.toList.all (·.oneCell') = true) (h : okC (hp w b) 2 = true) (hs : (getC (hp w b)).size = 2) : effu Try.prog (Instr.storeAt 80 (.pointer (some ⟨b, 0, none⟩)) (.agg c)) w L = L (put w b c (getE (hp w b))) := effu_storeW sz_80 hc h1 (by decide) h hs
theorem st_85 {b : Nat} {c : Array Value} (hc : c.size = 4) (h1 : c.toList.all (·.oneCell') = true) (h : okC (hp w b) 4 = true) (hs : (getC (hp w b)).size = 4) : effu Try.prog (Instr.storeAt 85 (.pointer (some ⟨b, 0, none⟩)) (.agg c)) w L = L (put w b c (getE (hp w b))) := effu_storeW sz_85 hc h1 (by decide) h hs
theorem st_95 {b : Nat} {c : Array Value} (hc : c.size = 2) (h1 : c.toList.all (·.oneCell') = true) (h : okC (hp w b) 2 = true) (hs : (getC (hp w b)).size = 2) : effu Try.prog (Instr.storeAt 95 (.pointer (some ⟨b, 0, none⟩)) (.agg c)) w L = L (put w b c (getE (hp w b))) := effu_storeW sz_95 hc h1 (by decide) h hs
theorem st_96 {b o : Nat} {v : Value} (hv : v.cells = #[v]) (h1 : v.oneCell' = true) (h : okC (hp w b) (o + 1) = true) : effu Try.prog (Instr.storeAt 96 (.pointer (some ⟨b, o, none⟩)) v) w L = L (put w b ((getC (hp w b)).setIfInBounds o v) (getE (hp w b))) := effu_store1 sz_96 hv h1 h
theorem st_98 {b : Nat} {c : Array Value} (hc : c.size = 7) (h1 : c.toList.all (·.oneCell') = true) (h : okC (hp w b) 7 = true) (hs : (getC (hp w b)).size = 7) : effu Try.prog (Instr.storeAt 98 (.pointer (some ⟨b, 0, none⟩)) (.agg c)) w L = L (put w b c (getE (hp w b))) := effu_storeW sz_98 hc h1 (by decide) h hs
theorem st_104 {b o : Nat} {v : Value} (hv : v.cells = #[v]) (h1 : v.oneCell' = true) (h : okC (hp w b) (o + 1) = true) : effu Try.prog (Instr.storeAt 104 (.pointer (some ⟨b, o, none⟩)) v) w L = L (put w b ((getC (hp w b)).setIfInBounds o v) (getE (hp w b))) := effu_store1 sz_104 hv h1 h
theorem st_116 {b : Nat} {c : Array Value} (hc : c.size = 5) (h1 : c.toList.all (·.oneCell') = true) (h : okC (hp w b) 5 = true) (hs : (getC (hp w b)).size = 5) : effu Try.prog (Instr.storeAt 116 (.pointer (some ⟨b, 0, none⟩)) (.agg c)) w L = L (put w b c (getE (hp w b))) := effu_storeW sz_116 hc h1 (by decide) h hs
theorem st_124 {b o : Nat} {v : Value} (hv : v.cells = #[v]) (h1 : v.oneCell' = true) (h : okC (hp w b) (o + 1) = true) : effu Try.prog (Instr.storeAt 124 (.pointer (some ⟨b, o, none⟩)) v) w L = L (put w b ((getC (hp w b)).setIfInBounds o v) (getE (hp w b))) := effu_store1 sz_124 hv h1 h
theorem st_138 {b : Nat} {c : Array Value} (hc : c.size = 8) (h1 : c.toList.all (·.oneCell') = true) (h : okC (hp w b) 8 = true) (hs : (getC (hp w b)).size = 8) : effu Try.prog (Instr.storeAt 138 (.pointer (some ⟨b, 0, none⟩)) (.agg c)) w L = L (put w b c (getE (hp w b))) := effu_storeW sz_138 hc h1 (by decide) h hs
theorem st_139 {b o : Nat} {v : Value} (hv : v.cells = #[v]) (h1 : v.oneCell' = true) (h : okC (hp w b) (o + 1) = true) : effu Try.prog (Instr.storeAt 139 (.pointer (some ⟨b, o, none⟩)) v) w L = L (put w b ((getC (hp w b)).setIfInBounds o v) (getE (hp w b))) := effu_store1 sz_139 hv h1 h
@[simp] theorem al_25 {x : Value} : effv Try.prog (Instr.alloc 25 true x) w K = K (.pointer (some ⟨w.heap.size, 0, none⟩)) (w.alloc (.cells #[.int .i64 0, .int .i64 0, .int .i64 0, .int .i64 0, .int .i64 0, .int .i64 0] 25)) := effv_alloc (z := (.agg #[.int .i64 0, .int .i64 0, .int .i64 0, .int .i64 0, .int .i64 0, .int .i64 0])) (by kernel_rfl)
@[simp] theorem al_27 {x : Value} : effv Try.prog (Instr.alloc 27 true x) w K = K (.pointer (some ⟨w.heap.size, 0, none⟩)) (w.alloc (.cells #[.int .i64 0, .int .i64 0, .int .i64 0, .int .i64 0, .int .i64 0] 27)) := effv_alloc (z := (.agg #[.int .i64 0, .int .i64 0, .int .i64 0, .int .i64 0, .int .i64 0])) (by kernel_rfl)
@[simp] theorem al_29 {x : Value} : effv Try.prog (Instr.alloc 29 true x) w K = K (.pointer (some ⟨w.heap.size, 0, none⟩)) (w.alloc (.cells #[.int .i64 0, .int .i64 0, .int .i64 0, .int .i64 0, .int .u64 0, .int .u64 0] 29)) := effv_alloc (z := (.agg #[.int .i64 0, .int .i64 0, .int .i64 0, .int .i64 0, .int .u64 0, .int .u64 0])) (by kernel_rfl)
@[simp] theorem al_32 {x : Value} : effv Try.prog (Instr.alloc 32 true x) w K = K (.pointer (some ⟨w.heap.size, 0, none⟩)) (w.alloc (.cells #[.int .i64 0, .int .i64 0, .int .i64 0, .int .i64 0, .int .i64 0, .int .i64 0, .int .i64 0, .int .u64 0] 32)) := effv_alloc (z := (.agg #[.int .i64 0, .int .i64 0, .int .i64 0, .int .i64 0, .int .i64 0, .int .i64 0, .int .i64 0, .int .u64 0])) (by kernel_rfl)
@[simp] theorem al_34 {x : Value} : effv Try.prog (Instr.alloc 34 true x) w K = K (.pointer (some ⟨w.heap.size, 0, none⟩)) (w.alloc (.cells #[.int .i64 0, .int .i64 0, .int .i64 0, .int .i64 0, .int .i64 0, .int .i64 0, .int .u64 0, .int .u64 0, .int .i64 0, .int .i64 0, .int .i64 0, .int .i64 0, .int .i64 0, .int .i64 0, .int .i64 0, .int .i64 0, .int .i64 0, .int .i64 0, .int .i64 0, .int .u64 0] 34)) := effv_alloc (z := (.agg #[.int .i64 0, .int .i64 0, .int .i64 0, .int .i64 0, .int .i64 0, .int .i64 0, .int .u64 0, .int .u64 0, .int .i64 0, .int .i64 0, .int .i64 0, .int .i64 0, .int .i64 0, .int .i64 0, .int .i64 0, .int .i64 0, .int .i64 0, .int .i64 0, .int .i64 0, .int .u64 0])) (by kernel_rfl)
@[simp] theorem al_59 {x : Value} : effv Try.prog (Instr.alloc 59 true x) w K = K (.pointer (some ⟨w.heap.size, 0, none⟩)) (w.alloc (.cells #[.int .i64 0, .int .i64 0, .bool false] 59)) := effv_alloc (z := (.agg #[.int .i64 0, .int .i64 0, .bool false])) (by kernel_rfl)
@[simp] theorem al_72 {x : Value} : effv Try.prog (Instr.alloc 72 true x) w K = K (.pointer (some ⟨w.heap.size, 0, none⟩)) (w.alloc (.cells #[.int .i64 0, .int .i64 0, .int .i64 0, .int .i64 0, .int .i64 0, .int .i64 0, .bool false, .slice none 0 0, .slice none 0 0, .slice none 0 0] 72)) := effv_alloc (z := (.agg #[.int .i64 0, .int .i64 0, .int .i64 0, .int .i64 0, .int .i64 0, .int .i64 0, .bool false, .slice none 0 0, .slice none 0 0, .slice none 0 0])) (by kernel_rfl)
@[simp] theorem al_80 {x : Value} : effv Try.prog (Instr.alloc 80 true x) w K = K (.pointer (some ⟨w.heap.size, 0, none⟩)) (w.alloc (.cells #[.int .i64 0, .int .i64 0] 80)) := effv_alloc (z := (.agg #[.int .i64 0, .int .i64 0])) (by kernel_rfl)
@[simp] theorem al_85 {x : Value} : effv Try.prog (Instr.alloc 85 true x) w K = K (.pointer (some ⟨w.heap.size, 0, none⟩)) (w.alloc (.cells #[.int .i64 0, .int .i64 0, .int .i64 0, .int .i64 0] 85)) := effv_alloc (z := (.agg #[.int .i64 0, .int .i64 0, .int .i64 0, .int .i64 0])) (by kernel_rfl)
@[simp] theorem al_95 {x : Value} : effv Try.prog (Instr.alloc 95 true x) w K = K (.pointer (some ⟨w.heap.size, 0, none⟩)) (w.alloc (.cells #[.int .i64 0, .int .i64 0] 95)) := effv_alloc (z := (.agg #[.int .i64 0, .int .i64 0])) (by kernel_rfl)
@[simp] theorem al_98 {x : Value} : effv Try.prog (Instr.alloc 98 true x) w K = K (.pointer (some ⟨w.heap.size, 0, none⟩)) (w.alloc (.cells #[.int .i64 0, .int .i64 0, .int .i64 0, .int .i64 0, .slice none 0 0, .slice none 0 0, .slice none 0 0] 98)) := effv_alloc (z := (.agg #[.int .i64 0, .int .i64 0, .int .i64 0, .int .i64 0, .slice none 0 0, .slice none 0 0, .slice none 0 0])) (by kernel_rfl)
@[simp] theorem al_116 {x : Value} : effv Try.prog (Instr.alloc 116 true x) w K = K (.pointer (some ⟨w.heap.size, 0, none⟩)) (w.alloc (.cells #[.string { data := #[] }, .int .i64 0, .bool false, .bool false, .bool false] 116)) := effv_alloc (z := (.agg #[.string { data := #[] }, .int .i64 0, .bool false, .bool false, .bool false])) (by kernel_rfl)
@[simp] theorem al_138 {x : Value} : effv Try.prog (Instr.alloc 138 true x) w K = K (.pointer (some ⟨w.heap.size, 0, none⟩)) (w.alloc (.cells #[.int .i64 0, .int .i64 0, .int .i64 0, .int .i64 0, .bool false, .slice none 0 0, .slice none 0 0, .slice none 0 0] 138)) := effv_alloc (z := (.agg #[.int .i64 0, .int .i64 0, .int .i64 0, .int .i64 0, .bool false, .slice none 0 0, .slice none 0 0, .slice none 0 0])) (by kernel_rfl)
@[simp] theorem bd_25_0_1_2_3_4_5 {x0 : Int} {x1 : Int} {x2 : Int} {x3 : Int} {x4 : Int} {x5 : Int} : pureRun Try.prog (Instr.build 25 #[(0, (.int .i64 x0)), (1, (.int .i64 x1)), (2, (.int .i64 x2)), (3, (.int .i64 x3)), (4, (.int .i64 x4)), (5, (.int .i64 x5))]) = some (.agg #[(.int .i64 x0), (.int .i64 x1), (.int .i64 x2), (.int .i64 x3), (.int .i64 x4), (.int .i64 x5)]) := pureRun_of fun w => run_build w 25 _ _ (by kernel_rfl)
@[simp] theorem bd_25_0_1_2_3_5 {x0 : Int} {x1 : Int} {x2 : Int} {x3 : Int} {x5 : Int} : pureRun Try.prog (Instr.build 25 #[(0, (.int .i64 x0)), (1, (.int .i64 x1)), (2, (.int .i64 x2)), (3, (.int .i64 x3)), (5, (.int .i64 x5))]) = some (.agg #[(.int .i64 x0), (.int .i64 x1), (.int .i64 x2), (.int .i64 x3), (.int .i64 0), (.int .i64 x5)]) := pureRun_of fun w => run_build w 25 _ _ (by kernel_rfl)
@[simp] theorem bd_27_  : pureRun Try.prog (Instr.build 27 #[]) = some (.agg #[(.int .i64 0), (.int .i64 0), (.int .i64 0), (.int .i64 0), (.int .i64 0)]) := pureRun_of fun w => run_build w 27 _ _ (by kernel_rfl)
@[simp] theorem bd_27_0_1 {x0 : Int} {x1 : Int} : pureRun Try.prog (Instr.build 27 #[(0, (.int .i64 x0)), (1, (.int .i64 x1))]) = some (.agg #[(.int .i64 x0), (.int .i64 x1), (.int .i64 0), (.int .i64 0), (.int .i64 0)]) := pureRun_of fun w => run_build w 27 _ _ (by kernel_rfl)
@[simp] theorem bd_27_0_1_2_4 {x0 : Int} {x1 : Int} {x2 : Int} {x4 : Int} : pureRun Try.prog (Instr.build 27 #[(0, (.int .i64 x0)), (1, (.int .i64 x1)), (2, (.int .i64 x2)), (4, (.int .i64 x4))]) = some (.agg #[(.int .i64 x0), (.int .i64 x1), (.int .i64 x2), (.int .i64 0), (.int .i64 x4)]) := pureRun_of fun w => run_build w 27 _ _ (by kernel_rfl)
@[simp] theorem bd_27_1 {x1 : Int} : pureRun Try.prog (Instr.build 27 #[(1, (.int .i64 x1))]) = some (.agg #[(.int .i64 0), (.int .i64 x1), (.int .i64 0), (.int .i64 0), (.int .i64 0)]) := pureRun_of fun w => run_build w 27 _ _ (by kernel_rfl)
@[simp] theorem bd_27_1_4 {x1 : Int} {x4 : Int} : pureRun Try.prog (Instr.build 27 #[(1, (.int .i64 x1)), (4, (.int .i64 x4))]) = some (.agg #[(.int .i64 0), (.int .i64 x1), (.int .i64 0), (.int .i64 0), (.int .i64 x4)]) := pureRun_of fun w => run_build w 27 _ _ (by kernel_rfl)
@[simp] theorem bd_29_0 {x0 : Int} : pureRun Try.prog (Instr.build 29 #[(0, (.int .i64 x0))]) = some (.agg #[(.int .i64 x0), (.int .i64 0), (.int .i64 0), (.int .i64 0), (.int .u64 0), (.int .u64 0)]) := pureRun_of fun w => run_build w 29 _ _ (by kernel_rfl)
@[simp] theorem bd_29_0_2 {x0 : Int} {x2 : Int} : pureRun Try.prog (Instr.build 29 #[(0, (.int .i64 x0)), (2, (.int .i64 x2))]) = some (.agg #[(.int .i64 x0), (.int .i64 0), (.int .i64 x2), (.int .i64 0), (.int .u64 0), (.int .u64 0)]) := pureRun_of fun w => run_build w 29 _ _ (by kernel_rfl)
@[simp] theorem bd_29_0_2_4 {x0 : Int} {x2 : Int} {x4 : Int} : pureRun Try.prog (Instr.build 29 #[(0, (.int .i64 x0)), (2, (.int .i64 x2)), (4, (.int .u64 x4))]) = some (.agg #[(.int .i64 x0), (.int .i64 0), (.int .i64 x2), (.int .i64 0), (.int .u64 x4), (.int .u64 0)]) := pureRun_of fun w => run_build w 29 _ _ (by kernel_rfl)
@[simp] theorem bd_29_0_3 {x0 : Int} {x3 : Int} : pureRun Try.prog (Instr.build 29 #[(0, (.int .i64 x0)), (3, (.int .i64 x3))]) = some (.agg #[(.int .i64 x0), (.int .i64 0), (.int .i64 0), (.int .i64 x3), (.int .u64 0), (.int .u64 0)]) := pureRun_of fun w => run_build w 29 _ _ (by kernel_rfl)
@[simp] theorem bd_32_  : pureRun Try.prog (Instr.build 32 #[]) = some (.agg #[(.int .i64 0), (.int .i64 0), (.int .i64 0), (.int .i64 0), (.int .i64 0), (.int .i64 0), (.int .i64 0), (.int .u64 0)]) := pureRun_of fun w => run_build w 32 _ _ (by kernel_rfl)
@[simp] theorem bd_32_0 {x0 : Int} : pureRun Try.prog (Instr.build 32 #[(0, (.int .i64 x0))]) = some (.agg #[(.int .i64 x0), (.int .i64 0), (.int .i64 0), (.int .i64 0), (.int .i64 0), (.int .i64 0), (.int .i64 0), (.int .u64 0)]) := pureRun_of fun w => run_build w 32 _ _ (by kernel_rfl)
@[simp] theorem bd_32_1 {x1_0 x1_1 x1_2 x1_3 x1_4 : Value} : pureRun Try.prog (Instr.build 32 #[(1, (.agg #[x1_0, x1_1, x1_2, x1_3, x1_4]))]) = some (.agg #[(.int .i64 0), x1_0, x1_1, x1_2, x1_3, x1_4, (.int .i64 0), (.int .u64 0)]) := pureRun_of fun w => run_build w 32 _ _ (by kernel_rfl)
@[simp] theorem bd_32_2 {x2 : Int} : pureRun Try.prog (Instr.build 32 #[(2, (.int .i64 x2))]) = some (.agg #[(.int .i64 0), (.int .i64 0), (.int .i64 0), (.int .i64 0), (.int .i64 0), (.int .i64 0), (.int .i64 x2), (.int .u64 0)]) := pureRun_of fun w => run_build w 32 _ _ (by kernel_rfl)
@[simp] theorem bd_32_3 {x3 : Int} : pureRun Try.prog (Instr.build 32 #[(3, (.int .u64 x3))]) = some (.agg #[(.int .i64 0), (.int .i64 0), (.int .i64 0), (.int .i64 0), (.int .i64 0), (.int .i64 0), (.int .i64 0), (.int .u64 x3)]) := pureRun_of fun w => run_build w 32 _ _ (by kernel_rfl)
@[simp] theorem bd_34_0_1_2_3_4_5_6 {x0 : Int} {x1 : Int} {x2_0 x2_1 x2_2 x2_3 x2_4 x2_5 : Value} {x3 : Int} {x4 : Int} {x5 : Int} {x6 : Int} : pureRun Try.prog (Instr.build 34 #[(0, (.int .i64 x0)), (1, (.int .i64 x1)), (2, (.agg #[x2_0, x2_1, x2_2, x2_3, x2_4, x2_5])), (3, (.int .i64 x3)), (4, (.int .i64 x4)), (5, (.int .i64 x5)), (6, (.int .i64 x6))]) = some (.agg #[(.int .i64 x0), (.int .i64 x1), x2_0, x2_1, x2_2, x2_3, x2_4, x2_5, (.int .i64 x3), (.int .i64 x4), (.int .i64 x5), (.int .i64 x6), (.int .i64 0), (.int .i64 0), (.int .i64 0), (.int .i64 0), (.int .i64 0), (.int .i64 0), (.int .i64 0), (.int .u64 0)]) := pureRun_of fun w => run_build w 34 _ _ (by kernel_rfl)
@[simp] theorem bd_34_1_2_3_4_5_6_7 {x1 : Int} {x2_0 x2_1 x2_2 x2_3 x2_4 x2_5 : Value} {x3 : Int} {x4 : Int} {x5 : Int} {x6 : Int} {x7_0 x7_1 x7_2 x7_3 x7_4 x7_5 x7_6 x7_7 : Value} : pureRun Try.prog (Instr.build 34 #[(1, (.int .i64 x1)), (2, (.agg #[x2_0, x2_1, x2_2, x2_3, x2_4, x2_5])), (3, (.int .i64 x3)), (4, (.int .i64 x4)), (5, (.int .i64 x5)), (6, (.int .i64 x6)), (7, (.agg #[x7_0, x7_1, x7_2, x7_3, x7_4, x7_5, x7_6, x7_7]))]) = some (.agg #[(.int .i64 0), (.int .i64 x1), x2_0, x2_1, x2_2, x2_3, x2_4, x2_5, (.int .i64 x3), (.int .i64 x4), (.int .i64 x5), (.int .i64 x6), x7_0, x7_1, x7_2, x7_3, x7_4, x7_5, x7_6, x7_7]) := pureRun_of fun w => run_build w 34 _ _ (by kernel_rfl)
@[simp] theorem bd_34_2_3_4_5_6_7 {x2_0 x2_1 x2_2 x2_3 x2_4 x2_5 : Value} {x3 : Int} {x4 : Int} {x5 : Int} {x6 : Int} {x7_0 x7_1 x7_2 x7_3 x7_4 x7_5 x7_6 x7_7 : Value} : pureRun Try.prog (Instr.build 34 #[(2, (.agg #[x2_0, x2_1, x2_2, x2_3, x2_4, x2_5])), (3, (.int .i64 x3)), (4, (.int .i64 x4)), (5, (.int .i64 x5)), (6, (.int .i64 x6)), (7, (.agg #[x7_0, x7_1, x7_2, x7_3, x7_4, x7_5, x7_6, x7_7]))]) = some (.agg #[(.int .i64 0), (.int .i64 0), x2_0, x2_1, x2_2, x2_3, x2_4, x2_5, (.int .i64 x3), (.int .i64 x4), (.int .i64 x5), (.int .i64 x6), x7_0, x7_1, x7_2, x7_3, x7_4, x7_5, x7_6, x7_7]) := pureRun_of fun w => run_build w 34 _ _ (by kernel_rfl)
@[simp] theorem bd_34_2_4_5_6 {x2_0 x2_1 x2_2 x2_3 x2_4 x2_5 : Value} {x4 : Int} {x5 : Int} {x6 : Int} : pureRun Try.prog (Instr.build 34 #[(2, (.agg #[x2_0, x2_1, x2_2, x2_3, x2_4, x2_5])), (4, (.int .i64 x4)), (5, (.int .i64 x5)), (6, (.int .i64 x6))]) = some (.agg #[(.int .i64 0), (.int .i64 0), x2_0, x2_1, x2_2, x2_3, x2_4, x2_5, (.int .i64 0), (.int .i64 x4), (.int .i64 x5), (.int .i64 x6), (.int .i64 0), (.int .i64 0), (.int .i64 0), (.int .i64 0), (.int .i64 0), (.int .i64 0), (.int .i64 0), (.int .u64 0)]) := pureRun_of fun w => run_build w 34 _ _ (by kernel_rfl)
@[simp] theorem bd_50_0_4 {x0 : Option Addr} {y0 z0 : Nat} {x4 : Int} : pureRun Try.prog (Instr.build 50 #[(0, (.slice x0 y0 z0)), (4, (.int .i64 x4))]) = some (.agg #[(.slice x0 y0 z0), (.slice none 0 0), (.slice none 0 0), (.int .i64 0), (.int .i64 x4), (.bool false)]) := pureRun_of fun w => run_build w 50 _ _ (by kernel_rfl)
@[simp] theorem bd_59_0_1 {x0 : Int} {x1 : Int} : pureRun Try.prog (Instr.build 59 #[(0, (.int .i64 x0)), (1, (.int .i64 x1))]) = some (.agg #[(.int .i64 x0), (.int .i64 x1), (.bool false)]) := pureRun_of fun w => run_build w 59 _ _ (by kernel_rfl)
@[simp] theorem bd_59_0_1_2 {x0 : Int} {x1 : Int} {x2 : Bool} : pureRun Try.prog (Instr.build 59 #[(0, (.int .i64 x0)), (1, (.int .i64 x1)), (2, (.bool x2))]) = some (.agg #[(.int .i64 x0), (.int .i64 x1), (.bool x2)]) := pureRun_of fun w => run_build w 59 _ _ (by kernel_rfl)
@[simp] theorem bd_67_0_1_2 {x0 : Int} {x1 : Int} {x2 : Bool} : pureRun Try.prog (Instr.build 67 #[(0, (.int .i64 x0)), (1, (.int .i64 x1)), (2, (.bool x2))]) = some (.agg #[(.int .i64 x0), (.int .i64 x1), (.bool x2)]) := pureRun_of fun w => run_build w 67 _ _ (by kernel_rfl)
@[simp] theorem bd_72_0_2_4 {x0_0 x0_1 x0_2 x0_3 x0_4 x0_5 : Value} {x2 : Option Addr} {y2 z2 : Nat} {x4 : Option Addr} {y4 z4 : Nat} : pureRun Try.prog (Instr.build 72 #[(0, (.agg #[x0_0, x0_1, x0_2, x0_3, x0_4, x0_5])), (2, (.slice x2 y2 z2)), (4, (.slice x4 y4 z4))]) = some (.agg #[x0_0, x0_1, x0_2, x0_3, x0_4, x0_5, (.bool false), (.slice x2 y2 z2), (.slice none 0 0), (.slice x4 y4 z4)]) := pureRun_of fun w => run_build w 72 _ _ (by kernel_rfl)
@[simp] theorem bd_80_0_1 {x0 : Int} {x1 : Int} : pureRun Try.prog (Instr.build 80 #[(0, (.int .i64 x0)), (1, (.int .i64 x1))]) = some (.agg #[(.int .i64 x0), (.int .i64 x1)]) := pureRun_of fun w => run_build w 80 _ _ (by kernel_rfl)
@[simp] theorem bd_85_0_1_2_3 {x0 : Int} {x1 : Int} {x2 : Int} {x3 : Int} : pureRun Try.prog (Instr.build 85 #[(0, (.int .i64 x0)), (1, (.int .i64 x1)), (2, (.int .i64 x2)), (3, (.int .i64 x3))]) = some (.agg #[(.int .i64 x0), (.int .i64 x1), (.int .i64 x2), (.int .i64 x3)]) := pureRun_of fun w => run_build w 85 _ _ (by kernel_rfl)
@[simp] theorem bd_95_0_1 {x0 : Int} {x1 : Int} : pureRun Try.prog (Instr.build 95 #[(0, (.int .i64 x0)), (1, (.int .i64 x1))]) = some (.agg #[(.int .i64 x0), (.int .i64 x1)]) := pureRun_of fun w => run_build w 95 _ _ (by kernel_rfl)
@[simp] theorem bd_98_0_1 {x0_0 x0_1 : Value} {x1 : Int} : pureRun Try.prog (Instr.build 98 #[(0, (.agg #[x0_0, x0_1])), (1, (.int .i64 x1))]) = some (.agg #[x0_0, x0_1, (.int .i64 x1), (.int .i64 0), (.slice none 0 0), (.slice none 0 0), (.slice none 0 0)]) := pureRun_of fun w => run_build w 98 _ _ (by kernel_rfl)
@[simp] theorem bd_116_  : pureRun Try.prog (Instr.build 116 #[]) = some (.agg #[(.string { data := #[] }), (.int .i64 0), (.bool false), (.bool false), (.bool false)]) := pureRun_of fun w => run_build w 116 _ _ (by kernel_rfl)
@[simp] theorem bd_116_0 {x0 : ByteArray} : pureRun Try.prog (Instr.build 116 #[(0, (.string x0))]) = some (.agg #[(.string x0), (.int .i64 0), (.bool false), (.bool false), (.bool false)]) := pureRun_of fun w => run_build w 116 _ _ (by kernel_rfl)
@[simp] theorem bd_116_0_1 {x0 : ByteArray} {x1 : Int} : pureRun Try.prog (Instr.build 116 #[(0, (.string x0)), (1, (.int .i64 x1))]) = some (.agg #[(.string x0), (.int .i64 x1), (.bool false), (.bool false), (.bool false)]) := pureRun_of fun w => run_build w 116 _ _ (by kernel_rfl)
@[simp] theorem bd_116_0_1_2 {x0 : ByteArray} {x1 : Int} {x2 : Bool} : pureRun Try.prog (Instr.build 116 #[(0, (.string x0)), (1, (.int .i64 x1)), (2, (.bool x2))]) = some (.agg #[(.string x0), (.int .i64 x1), (.bool x2), (.bool false), (.bool false)]) := pureRun_of fun w => run_build w 116 _ _ (by kernel_rfl)
@[simp] theorem bd_116_0_1_2_3 {x0 : ByteArray} {x1 : Int} {x2 : Bool} {x3 : Bool} : pureRun Try.prog (Instr.build 116 #[(0, (.string x0)), (1, (.int .i64 x1)), (2, (.bool x2)), (3, (.bool x3))]) = some (.agg #[(.string x0), (.int .i64 x1), (.bool x2), (.bool x3), (.bool false)]) := pureRun_of fun w => run_build w 116 _ _ (by kernel_rfl)
@[simp] theorem bd_116_0_1_2_3_4 {x0 : ByteArray} {x1 : Int} {x2 : Bool} {x3 : Bool} {x4 : Bool} : pureRun Try.prog (Instr.build 116 #[(0, (.string x0)), (1, (.int .i64 x1)), (2, (.bool x2)), (3, (.bool x3)), (4, (.bool x4))]) = some (.agg #[(.string x0), (.int .i64 x1), (.bool x2), (.bool x3), (.bool x4)]) := pureRun_of fun w => run_build w 116 _ _ (by kernel_rfl)
@[simp] theorem bd_116_0_2 {x0 : ByteArray} {x2 : Bool} : pureRun Try.prog (Instr.build 116 #[(0, (.string x0)), (2, (.bool x2))]) = some (.agg #[(.string x0), (.int .i64 0), (.bool x2), (.bool false), (.bool false)]) := pureRun_of fun w => run_build w 116 _ _ (by kernel_rfl)
@[simp] theorem bd_126_0_1_2_3_5_6 {x0_0 x0_1 x0_2 x0_3 x0_4 x0_5 : Value} {x1 : Bool} {x2 : Option Addr} {y2 z2 : Nat} {x3 : Option Addr} {y3 z3 : Nat} {x5 : Option Addr} {y5 z5 : Nat} {x6 : Option Addr} {y6 z6 : Nat} : pureRun Try.prog (Instr.build 126 #[(0, (.agg #[x0_0, x0_1, x0_2, x0_3, x0_4, x0_5])), (1, (.bool x1)), (2, (.slice x2 y2 z2)), (3, (.slice x3 y3 z3)), (5, (.slice x5 y5 z5)), (6, (.slice x6 y6 z6))]) = some (.agg #[x0_0, x0_1, x0_2, x0_3, x0_4, x0_5, (.bool x1), (.slice x2 y2 z2), (.slice x3 y3 z3), (.slice none 0 0), (.slice x5 y5 z5), (.slice x6 y6 z6)]) := pureRun_of fun w => run_build w 126 _ _ (by kernel_rfl)
@[simp] theorem bd_138_0_1_2_4 {x0 : Int} {x1 : Int} {x2 : Int} {x4 : Bool} : pureRun Try.prog (Instr.build 138 #[(0, (.int .i64 x0)), (1, (.int .i64 x1)), (2, (.int .i64 x2)), (4, (.bool x4))]) = some (.agg #[(.int .i64 x0), (.int .i64 x1), (.int .i64 x2), (.int .i64 0), (.bool x4), (.slice none 0 0), (.slice none 0 0), (.slice none 0 0)]) := pureRun_of fun w => run_build w 138 _ _ (by kernel_rfl)
@[simp] theorem bd_142_0_1 {x0 : Int} {x1 : Int} : pureRun Try.prog (Instr.build 142 #[(0, (.int .i64 x0)), (1, (.int .i64 x1))]) = some (.agg #[(.int .i64 x0), (.int .i64 x1)]) := pureRun_of fun w => run_build w 142 _ _ (by kernel_rfl)
theorem inf_34 : ∃ i, Try.prog.info? 34 = some i ∧ i.zero = some (.agg #[.int .i64 0, .int .i64 0, .int .i64 0, .int .i64 0, .int .i64 0, .int .i64 0, .int .u64 0, .int .u64 0, .int .i64 0, .int .i64 0, .int .i64 0, .int .i64 0, .int .i64 0, .int .i64 0, .int .i64 0, .int .i64 0, .int .i64 0, .int .i64 0, .int .i64 0, .int .u64 0]) ∧ i.size = 20 ∧ i.bytes = 160 := ⟨Try.t34, by kernel_rfl, rfl, rfl, rfl⟩
theorem inf_3 : ∃ i, Try.prog.info? 3 = some i ∧ i.zero = some (.int .i64 0) ∧ i.size = 1 ∧ i.bytes = 8 := ⟨Try.t3, by kernel_rfl, rfl, rfl, rfl⟩
theorem inf_27 : ∃ i, Try.prog.info? 27 = some i ∧ i.zero = some (.agg #[.int .i64 0, .int .i64 0, .int .i64 0, .int .i64 0, .int .i64 0]) ∧ i.size = 5 ∧ i.bytes = 40 := ⟨Try.t27, by kernel_rfl, rfl, rfl, rfl⟩
theorem inf_59 : ∃ i, Try.prog.info? 59 = some i ∧ i.zero = some (.agg #[.int .i64 0, .int .i64 0, .bool false]) ∧ i.size = 3 ∧ i.bytes = 24 := ⟨Try.t59, by kernel_rfl, rfl, rfl, rfl⟩
theorem inf_67 : ∃ i, Try.prog.info? 67 = some i ∧ i.zero = some (.agg #[.int .i64 0, .int .i64 0, .bool false]) ∧ i.size = 3 ∧ i.bytes = 24 := ⟨Try.t67, by kernel_rfl, rfl, rfl, rfl⟩
theorem inf_80 : ∃ i, Try.prog.info? 80 = some i ∧ i.zero = some (.agg #[.int .i64 0, .int .i64 0]) ∧ i.size = 2 ∧ i.bytes = 16 := ⟨Try.t80, by kernel_rfl, rfl, rfl, rfl⟩
theorem inf_98 : ∃ i, Try.prog.info? 98 = some i ∧ i.zero = some (.agg #[.int .i64 0, .int .i64 0, .int .i64 0, .int .i64 0, .slice none 0 0, .slice none 0 0, .slice none 0 0]) ∧ i.size = 7 ∧ i.bytes = 104 := ⟨Try.t98, by kernel_rfl, rfl, rfl, rfl⟩
theorem inf_106 : ∃ i, Try.prog.info? 106 = some i ∧ i.zero = some (.agg #[.int .i64 0, .slice none 0 0]) ∧ i.size = 2 ∧ i.bytes = 32 := ⟨Try.t106, by kernel_rfl, rfl, rfl, rfl⟩
theorem inf_112 : ∃ i, Try.prog.info? 112 = some i ∧ i.zero = some (.slice none 0 0) ∧ i.size = 1 ∧ i.bytes = 24 := ⟨Try.t112, by kernel_rfl, rfl, rfl, rfl⟩
theorem inf_95 : ∃ i, Try.prog.info? 95 = some i ∧ i.zero = some (.agg #[.int .i64 0, .int .i64 0]) ∧ i.size = 2 ∧ i.bytes = 16 := ⟨Try.t95, by kernel_rfl, rfl, rfl, rfl⟩
theorem inf_22 : ∃ i, Try.prog.info? 22 = some i ∧ i.zero = some (.int .u64 0) ∧ i.size = 1 ∧ i.bytes = 8 := ⟨Try.t22, by kernel_rfl, rfl, rfl, rfl⟩
theorem inf_139 : ∃ i, Try.prog.info? 139 = some i ∧ i.zero = some (.slice none 0 0) ∧ i.size = 1 ∧ i.bytes = 24 := ⟨Try.t139, by kernel_rfl, rfl, rfl, rfl⟩
theorem inf_138 : ∃ i, Try.prog.info? 138 = some i ∧ i.zero = some (.agg #[.int .i64 0, .int .i64 0, .int .i64 0, .int .i64 0, .bool false, .slice none 0 0, .slice none 0 0, .slice none 0 0]) ∧ i.size = 8 ∧ i.bytes = 112 := ⟨Try.t138, by kernel_rfl, rfl, rfl, rfl⟩
theorem inf_142 : ∃ i, Try.prog.info? 142 = some i ∧ i.zero = some (.agg #[.int .i64 0, .int .i64 0]) ∧ i.size = 2 ∧ i.bytes = 16 := ⟨Try.t142, by kernel_rfl, rfl, rfl, rfl⟩
@[simp] theorem bs_35_1 {x0_0 x0_1 x0_2 x0_3 x0_4 x0_5 x0_6 x0_7 x0_8 x0_9 x0_10 x0_11 x0_12 x0_13 x0_14 x0_15 x0_16 x0_17 x0_18 x0_19 : Value} : effv Try.prog (Instr.buildSlice 35 1 #[(0, (.agg #[x0_0, x0_1, x0_2, x0_3, x0_4, x0_5, x0_6, x0_7, x0_8, x0_9, x0_10, x0_11, x0_12, x0_13, x0_14, x0_15, x0_16, x0_17, x0_18, x0_19]))]) w K = K (.slice (some ⟨w.heap.size, 0, none⟩) 1 1) (w.alloc (.cells #[x0_0, x0_1, x0_2, x0_3, x0_4, x0_5, x0_6, x0_7, x0_8, x0_9, x0_10, x0_11, x0_12, x0_13, x0_14, x0_15, x0_16, x0_17, x0_18, x0_19] 34)) := by
  obtain ⟨i, hi, hz, hs, hb⟩ := inf_34
  exact effv_buildSlice (z := 20) Try.underlying35 hi hz hs (by decide) (by decide) (by kernel_rfl)
@[simp] theorem bs_35_2 {x0_0 x0_1 x0_2 x0_3 x0_4 x0_5 x0_6 x0_7 x0_8 x0_9 x0_10 x0_11 x0_12 x0_13 x0_14 x0_15 x0_16 x0_17 x0_18 x0_19 : Value} {x1_0 x1_1 x1_2 x1_3 x1_4 x1_5 x1_6 x1_7 x1_8 x1_9 x1_10 x1_11 x1_12 x1_13 x1_14 x1_15 x1_16 x1_17 x1_18 x1_19 : Value} : effv Try.prog (Instr.buildSlice 35 2 #[(0, (.agg #[x0_0, x0_1, x0_2, x0_3, x0_4, x0_5, x0_6, x0_7, x0_8, x0_9, x0_10, x0_11, x0_12, x0_13, x0_14, x0_15, x0_16, x0_17, x0_18, x0_19])), (1, (.agg #[x1_0, x1_1, x1_2, x1_3, x1_4, x1_5, x1_6, x1_7, x1_8, x1_9, x1_10, x1_11, x1_12, x1_13, x1_14, x1_15, x1_16, x1_17, x1_18, x1_19]))]) w K = K (.slice (some ⟨w.heap.size, 0, none⟩) 2 2) (w.alloc (.cells #[x0_0, x0_1, x0_2, x0_3, x0_4, x0_5, x0_6, x0_7, x0_8, x0_9, x0_10, x0_11, x0_12, x0_13, x0_14, x0_15, x0_16, x0_17, x0_18, x0_19, x1_0, x1_1, x1_2, x1_3, x1_4, x1_5, x1_6, x1_7, x1_8, x1_9, x1_10, x1_11, x1_12, x1_13, x1_14, x1_15, x1_16, x1_17, x1_18, x1_19] 34)) := by
  obtain ⟨i, hi, hz, hs, hb⟩ := inf_34
  exact effv_buildSlice (z := 20) Try.underlying35 hi hz hs (by decide) (by decide) (by kernel_rfl)
theorem ps_36 {x0 : Int} {x : Value} {base n : Nat} {xs : List Value} (h1 : ∀ u ∈ ([(.int .i64 x0)] : List Value), u.oneCell' = true) (hown : w.ownsRow base 3 1 x n xs) (hn : n + 1 ≤ 1048577) (hbase : base ≤ w.heap.size) (hk : ∀ x' w', w'.ownsRow base 3 1 x' (n + 1) (xs ++ [(.int .i64 x0)]) → w.grownBy w' x.ownBlock → NewB w x x' → K x' w') :
    effv Try.prog (Instr.buildSlice 36 1 #[(0, (.int .i64 x0))]) w fun y w1 => effv Try.prog (Builtin.append_ #[36, 36] 36 #[x, y]) w1 K := by
  obtain ⟨i, hi, hz, hs, hb⟩ := inf_3
  exact eff_pushN (cs := [(.int .i64 x0)]) Try.underlying36 hi hz hs rfl (by decide) (by decide) (by kernel_rfl) rfl h1 hown (by unfold maxLen; omega) (by rw [hb]; omega) hbase hk
@[simp] theorem bs_36_1 {x0 : Int} : effv Try.prog (Instr.buildSlice 36 1 #[(0, (.int .i64 x0))]) w K = K (.slice (some ⟨w.heap.size, 0, none⟩) 1 1) (w.alloc (.cells #[(.int .i64 x0)] 3)) := by
  obtain ⟨i, hi, hz, hs, hb⟩ := inf_3
  exact effv_buildSlice (z := 1) Try.underlying36 hi hz hs (by decide) (by decide) (by kernel_rfl)
@[simp] theorem bs_36_4 {x0 : Int} {x1 : Int} {x2 : Int} {x3 : Int} : effv Try.prog (Instr.buildSlice 36 4 #[(0, (.int .i64 x0)), (1, (.int .i64 x1)), (2, (.int .i64 x2)), (3, (.int .i64 x3))]) w K = K (.slice (some ⟨w.heap.size, 0, none⟩) 4 4) (w.alloc (.cells #[(.int .i64 x0), (.int .i64 x1), (.int .i64 x2), (.int .i64 x3)] 3)) := by
  obtain ⟨i, hi, hz, hs, hb⟩ := inf_3
  exact effv_buildSlice (z := 1) Try.underlying36 hi hz hs (by decide) (by decide) (by kernel_rfl)
theorem ps_48 {x0_0 x0_1 x0_2 x0_3 x0_4 : Value} {x : Value} {base n : Nat} {xs : List Value} (h1 : ∀ u ∈ ([x0_0, x0_1, x0_2, x0_3, x0_4] : List Value), u.oneCell' = true) (hown : w.ownsRow base 27 5 x n xs) (hn : n + 1 ≤ 1048577) (hbase : base ≤ w.heap.size) (hk : ∀ x' w', w'.ownsRow base 27 5 x' (n + 1) (xs ++ [x0_0, x0_1, x0_2, x0_3, x0_4]) → w.grownBy w' x.ownBlock → NewB w x x' → K x' w') :
    effv Try.prog (Instr.buildSlice 48 1 #[(0, (.agg #[x0_0, x0_1, x0_2, x0_3, x0_4]))]) w fun y w1 => effv Try.prog (Builtin.append_ #[48, 48] 48 #[x, y]) w1 K := by
  obtain ⟨i, hi, hz, hs, hb⟩ := inf_27
  exact eff_pushN (cs := [x0_0, x0_1, x0_2, x0_3, x0_4]) Try.underlying48 hi hz hs rfl (by decide) (by decide) (by kernel_rfl) rfl h1 hown (by unfold maxLen; omega) (by rw [hb]; omega) hbase hk
@[simp] theorem bs_48_1 {x0_0 x0_1 x0_2 x0_3 x0_4 : Value} : effv Try.prog (Instr.buildSlice 48 1 #[(0, (.agg #[x0_0, x0_1, x0_2, x0_3, x0_4]))]) w K = K (.slice (some ⟨w.heap.size, 0, none⟩) 1 1) (w.alloc (.cells #[x0_0, x0_1, x0_2, x0_3, x0_4] 27)) := by
  obtain ⟨i, hi, hz, hs, hb⟩ := inf_27
  exact effv_buildSlice (z := 5) Try.underlying48 hi hz hs (by decide) (by decide) (by kernel_rfl)
theorem ps_56 {x0_0 x0_1 x0_2 : Value} {x : Value} {base n : Nat} {xs : List Value} (h1 : ∀ u ∈ ([x0_0, x0_1, x0_2] : List Value), u.oneCell' = true) (hown : w.ownsRow base 59 3 x n xs) (hn : n + 1 ≤ 1048577) (hbase : base ≤ w.heap.size) (hk : ∀ x' w', w'.ownsRow base 59 3 x' (n + 1) (xs ++ [x0_0, x0_1, x0_2]) → w.grownBy w' x.ownBlock → NewB w x x' → K x' w') :
    effv Try.prog (Instr.buildSlice 56 1 #[(0, (.agg #[x0_0, x0_1, x0_2]))]) w fun y w1 => effv Try.prog (Builtin.append_ #[56, 56] 56 #[x, y]) w1 K := by
  obtain ⟨i, hi, hz, hs, hb⟩ := inf_59
  exact eff_pushN (cs := [x0_0, x0_1, x0_2]) Try.underlying56 hi hz hs rfl (by decide) (by decide) (by kernel_rfl) rfl h1 hown (by unfold maxLen; omega) (by rw [hb]; omega) hbase hk
@[simp] theorem bs_56_1 {x0_0 x0_1 x0_2 : Value} : effv Try.prog (Instr.buildSlice 56 1 #[(0, (.agg #[x0_0, x0_1, x0_2]))]) w K = K (.slice (some ⟨w.heap.size, 0, none⟩) 1 1) (w.alloc (.cells #[x0_0, x0_1, x0_2] 59)) := by
  obtain ⟨i, hi, hz, hs, hb⟩ := inf_59
  exact effv_buildSlice (z := 3) Try.underlying56 hi hz hs (by decide) (by decide) (by kernel_rfl)
theorem ps_65 {x0_0 x0_1 x0_2 : Value} {x : Value} {base n : Nat} {xs : List Value} (h1 : ∀ u ∈ ([x0_0, x0_1, x0_2] : List Value), u.oneCell' = true) (hown : w.ownsRow base 67 3 x n xs) (hn : n + 1 ≤ 1048577) (hbase : base ≤ w.heap.size) (hk : ∀ x' w', w'.ownsRow base 67 3 x' (n + 1) (xs ++ [x0_0, x0_1, x0_2]) → w.grownBy w' x.ownBlock → NewB w x x' → K x' w') :
    effv Try.prog (Instr.buildSlice 65 1 #[(0, (.agg #[x0_0, x0_1, x0_2]))]) w fun y w1 => effv Try.prog (Builtin.append_ #[65, 65] 65 #[x, y]) w1 K := by
  obtain ⟨i, hi, hz, hs, hb⟩ := inf_67
  exact eff_pushN (cs := [x0_0, x0_1, x0_2]) Try.underlying65 hi hz hs rfl (by decide) (by decide) (by kernel_rfl) rfl h1 hown (by unfold maxLen; omega) (by rw [hb]; omega) hbase hk
@[simp] theorem bs_65_1 {x0_0 x0_1 x0_2 : Value} : effv Try.prog (Instr.buildSlice 65 1 #[(0, (.agg #[x0_0, x0_1, x0_2]))]) w K = K (.slice (some ⟨w.heap.size, 0, none⟩) 1 1) (w.alloc (.cells #[x0_0, x0_1, x0_2] 67)) := by
  obtain ⟨i, hi, hz, hs, hb⟩ := inf_67
  exact effv_buildSlice (z := 3) Try.underlying65 hi hz hs (by decide) (by decide) (by kernel_rfl)
theorem ps_69 {x0_0 x0_1 x0_2 x0_3 x0_4 x0_5 x0_6 : Value} {x : Value} {base n : Nat} {xs : List Value} (h1 : ∀ u ∈ ([x0_0, x0_1, x0_2, x0_3, x0_4, x0_5, x0_6] : List Value), u.oneCell' = true) (hown : w.ownsRow base 98 7 x n xs) (hn : n + 1 ≤ 1048577) (hbase : base ≤ w.heap.size) (hk : ∀ x' w', w'.ownsRow base 98 7 x' (n + 1) (xs ++ [x0_0, x0_1, x0_2, x0_3, x0_4, x0_5, x0_6]) → w.grownBy w' x.ownBlock → NewB w x x' → K x' w') :
    effv Try.prog (Instr.buildSlice 69 1 #[(0, (.agg #[x0_0, x0_1, x0_2, x0_3, x0_4, x0_5, x0_6]))]) w fun y w1 => effv Try.prog (Builtin.append_ #[69, 69] 69 #[x, y]) w1 K := by
  obtain ⟨i, hi, hz, hs, hb⟩ := inf_98
  exact eff_pushN (cs := [x0_0, x0_1, x0_2, x0_3, x0_4, x0_5, x0_6]) Try.underlying69 hi hz hs rfl (by decide) (by decide) (by kernel_rfl) rfl h1 hown (by unfold maxLen; omega) (by rw [hb]; omega) hbase hk
@[simp] theorem bs_69_1 {x0_0 x0_1 x0_2 x0_3 x0_4 x0_5 x0_6 : Value} : effv Try.prog (Instr.buildSlice 69 1 #[(0, (.agg #[x0_0, x0_1, x0_2, x0_3, x0_4, x0_5, x0_6]))]) w K = K (.slice (some ⟨w.heap.size, 0, none⟩) 1 1) (w.alloc (.cells #[x0_0, x0_1, x0_2, x0_3, x0_4, x0_5, x0_6] 98)) := by
  obtain ⟨i, hi, hz, hs, hb⟩ := inf_98
  exact effv_buildSlice (z := 7) Try.underlying69 hi hz hs (by decide) (by decide) (by kernel_rfl)
theorem ps_96 {x0 : Option Addr} {y0 z0 : Nat} {x : Value} {base n : Nat} {xs : List Value} (h1 : ∀ u ∈ ([(.slice x0 y0 z0)] : List Value), u.oneCell' = true) (hown : w.ownsRow base 112 1 x n xs) (hn : n + 1 ≤ 1048577) (hbase : base ≤ w.heap.size) (hk : ∀ x' w', w'.ownsRow base 112 1 x' (n + 1) (xs ++ [(.slice x0 y0 z0)]) → w.grownBy w' x.ownBlock → NewB w x x' → K x' w') :
    effv Try.prog (Instr.buildSlice 96 1 #[(0, (.slice x0 y0 z0))]) w fun y w1 => effv Try.prog (Builtin.append_ #[96, 96] 96 #[x, y]) w1 K := by
  obtain ⟨i, hi, hz, hs, hb⟩ := inf_112
  exact eff_pushN (cs := [(.slice x0 y0 z0)]) Try.underlying96 hi hz hs rfl (by decide) (by decide) (by kernel_rfl) rfl h1 hown (by unfold maxLen; omega) (by rw [hb]; omega) hbase hk
@[simp] theorem bs_96_1 {x0 : Option Addr} {y0 z0 : Nat} : effv Try.prog (Instr.buildSlice 96 1 #[(0, (.slice x0 y0 z0))]) w K = K (.slice (some ⟨w.heap.size, 0, none⟩) 1 1) (w.alloc (.cells #[(.slice x0 y0 z0)] 112)) := by
  obtain ⟨i, hi, hz, hs, hb⟩ := inf_112
  exact effv_buildSlice (z := 1) Try.underlying96 hi hz hs (by decide) (by decide) (by kernel_rfl)
theorem ps_104 {x0_0 x0_1 : Value} {x : Value} {base n : Nat} {xs : List Value} (h1 : ∀ u ∈ ([x0_0, x0_1] : List Value), u.oneCell' = true) (hown : w.ownsRow base 95 2 x n xs) (hn : n + 1 ≤ 1048577) (hbase : base ≤ w.heap.size) (hk : ∀ x' w', w'.ownsRow base 95 2 x' (n + 1) (xs ++ [x0_0, x0_1]) → w.grownBy w' x.ownBlock → NewB w x x' → K x' w') :
    effv Try.prog (Instr.buildSlice 104 1 #[(0, (.agg #[x0_0, x0_1]))]) w fun y w1 => effv Try.prog (Builtin.append_ #[104, 104] 104 #[x, y]) w1 K := by
  obtain ⟨i, hi, hz, hs, hb⟩ := inf_95
  exact eff_pushN (cs := [x0_0, x0_1]) Try.underlying104 hi hz hs rfl (by decide) (by decide) (by kernel_rfl) rfl h1 hown (by unfold maxLen; omega) (by rw [hb]; omega) hbase hk
@[simp] theorem bs_104_1 {x0_0 x0_1 : Value} : effv Try.prog (Instr.buildSlice 104 1 #[(0, (.agg #[x0_0, x0_1]))]) w K = K (.slice (some ⟨w.heap.size, 0, none⟩) 1 1) (w.alloc (.cells #[x0_0, x0_1] 95)) := by
  obtain ⟨i, hi, hz, hs, hb⟩ := inf_95
  exact effv_buildSlice (z := 2) Try.underlying104 hi hz hs (by decide) (by decide) (by kernel_rfl)
theorem ps_124 {x0_0 x0_1 x0_2 x0_3 x0_4 x0_5 x0_6 x0_7 : Value} {x : Value} {base n : Nat} {xs : List Value} (h1 : ∀ u ∈ ([x0_0, x0_1, x0_2, x0_3, x0_4, x0_5, x0_6, x0_7] : List Value), u.oneCell' = true) (hown : w.ownsRow base 138 8 x n xs) (hn : n + 1 ≤ 1048577) (hbase : base ≤ w.heap.size) (hk : ∀ x' w', w'.ownsRow base 138 8 x' (n + 1) (xs ++ [x0_0, x0_1, x0_2, x0_3, x0_4, x0_5, x0_6, x0_7]) → w.grownBy w' x.ownBlock → NewB w x x' → K x' w') :
    effv Try.prog (Instr.buildSlice 124 1 #[(0, (.agg #[x0_0, x0_1, x0_2, x0_3, x0_4, x0_5, x0_6, x0_7]))]) w fun y w1 => effv Try.prog (Builtin.append_ #[124, 124] 124 #[x, y]) w1 K := by
  obtain ⟨i, hi, hz, hs, hb⟩ := inf_138
  exact eff_pushN (cs := [x0_0, x0_1, x0_2, x0_3, x0_4, x0_5, x0_6, x0_7]) Try.underlying124 hi hz hs rfl (by decide) (by decide) (by kernel_rfl) rfl h1 hown (by unfold maxLen; omega) (by rw [hb]; omega) hbase hk
@[simp] theorem bs_124_1 {x0_0 x0_1 x0_2 x0_3 x0_4 x0_5 x0_6 x0_7 : Value} : effv Try.prog (Instr.buildSlice 124 1 #[(0, (.agg #[x0_0, x0_1, x0_2, x0_3, x0_4, x0_5, x0_6, x0_7]))]) w K = K (.slice (some ⟨w.heap.size, 0, none⟩) 1 1) (w.alloc (.cells #[x0_0, x0_1, x0_2, x0_3, x0_4, x0_5, x0_6, x0_7] 138)) := by
  obtain ⟨i, hi, hz, hs, hb⟩ := inf_138
  exact effv_buildSlice (z := 8) Try.underlying124 hi hz hs (by decide) (by decide) (by kernel_rfl)
theorem inf_116 : ∃ i, Try.prog.info? 116 = some i ∧ i.zero = some (.agg #[.string { data := #[] }, .int .i64 0, .bool false, .bool false, .bool false]) ∧ i.size = 5 ∧ i.bytes = 32 := ⟨Try.t116, by kernel_rfl, rfl, rfl, rfl⟩
@[simp] theorem bs_134_13 {x0_0 x0_1 x0_2 x0_3 x0_4 : Value} {x1_0 x1_1 x1_2 x1_3 x1_4 : Value} {x2_0 x2_1 x2_2 x2_3 x2_4 : Value} {x3_0 x3_1 x3_2 x3_3 x3_4 : Value} {x4_0 x4_1 x4_2 x4_3 x4_4 : Value} {x5_0 x5_1 x5_2 x5_3 x5_4 : Value} {x6_0 x6_1 x6_2 x6_3 x6_4 : Value} {x7_0 x7_1 x7_2 x7_3 x7_4 : Value} {x8_0 x8_1 x8_2 x8_3 x8_4 : Value} {x9_0 x9_1 x9_2 x9_3 x9_4 : Value} {x10_0 x10_1 x10_2 x10_3 x10_4 : Value} {x11_0 x11_1 x11_2 x11_3 x11_4 : Value} {x12_0 x12_1 x12_2 x12_3 x12_4 : Value} : effv Try.prog (Instr.buildSlice 134 13 #[(0, (.agg #[x0_0, x0_1, x0_2, x0_3, x0_4])), (1, (.agg #[x1_0, x1_1, x1_2, x1_3, x1_4])), (2, (.agg #[x2_0, x2_1, x2_2, x2_3, x2_4])), (3, (.agg #[x3_0, x3_1, x3_2, x3_3, x3_4])), (4, (.agg #[x4_0, x4_1, x4_2, x4_3, x4_4])), (5, (.agg #[x5_0, x5_1, x5_2, x5_3, x5_4])), (6, (.agg #[x6_0, x6_1, x6_2, x6_3, x6_4])), (7, (.agg #[x7_0, x7_1, x7_2, x7_3, x7_4])), (8, (.agg #[x8_0, x8_1, x8_2, x8_3, x8_4])), (9, (.agg #[x9_0, x9_1, x9_2, x9_3, x9_4])), (10, (.agg #[x10_0, x10_1, x10_2, x10_3, x10_4])), (11, (.agg #[x11_0, x11_1, x11_2, x11_3, x11_4])), (12, (.agg #[x12_0, x12_1, x12_2, x12_3, x12_4]))]) w K = K (.slice (some ⟨w.heap.size, 0, none⟩) 13 13) (w.alloc (.cells #[x0_0, x0_1, x0_2, x0_3, x0_4, x1_0, x1_1, x1_2, x1_3, x1_4, x2_0, x2_1, x2_2, x2_3, x2_4, x3_0, x3_1, x3_2, x3_3, x3_4, x4_0, x4_1, x4_2, x4_3, x4_4, x5_0, x5_1, x5_2, x5_3, x5_4, x6_0, x6_1, x6_2, x6_3, x6_4, x7_0, x7_1, x7_2, x7_3, x7_4, x8_0, x8_1, x8_2, x8_3, x8_4, x9_0, x9_1, x9_2, x9_3, x9_4, x10_0, x10_1, x10_2, x10_3, x10_4, x11_0, x11_1, x11_2, x11_3, x11_4, x12_0, x12_1, x12_2, x12_3, x12_4] 116)) := by
  obtain ⟨i, hi, hz, hs, hb⟩ := inf_116
  exact effv_buildSlice (z := 5) Try.underlying134 hi hz hs (by decide) (by decide) (by kernel_rfl)
theorem ps_139 {x0_0 x0_1 : Value} {x : Value} {base n : Nat} {xs : List Value} (h1 : ∀ u ∈ ([x0_0, x0_1] : List Value), u.oneCell' = true) (hown : w.ownsRow base 142 2 x n xs) (hn : n + 1 ≤ 1048577) (hbase : base ≤ w.heap.size) (hk : ∀ x' w', w'.ownsRow base 142 2 x' (n + 1) (xs ++ [x0_0, x0_1]) → w.grownBy w' x.ownBlock → NewB w x x' → K x' w') :
    effv Try.prog (Instr.buildSlice 139 1 #[(0, (.agg #[x0_0, x0_1]))]) w fun y w1 => effv Try.prog (Builtin.append_ #[139, 139] 139 #[x, y]) w1 K := by
  obtain ⟨i, hi, hz, hs, hb⟩ := inf_142
  exact eff_pushN (cs := [x0_0, x0_1]) Try.underlying139 hi hz hs rfl (by decide) (by decide) (by kernel_rfl) rfl h1 hown (by unfold maxLen; omega) (by rw [hb]; omega) hbase hk
@[simp] theorem bs_139_1 {x0_0 x0_1 : Value} : effv Try.prog (Instr.buildSlice 139 1 #[(0, (.agg #[x0_0, x0_1]))]) w K = K (.slice (some ⟨w.heap.size, 0, none⟩) 1 1) (w.alloc (.cells #[x0_0, x0_1] 142)) := by
  obtain ⟨i, hi, hz, hs, hb⟩ := inf_142
  exact effv_buildSlice (z := 2) Try.underlying139 hi hz hs (by decide) (by decide) (by kernel_rfl)
@[simp] theorem len_35 {A : Option Addr} {n c : Nat} : pureRun Try.prog (Builtin.len_ #[35] 3 #[.slice A n c]) = some (.int .i64 n) := pr_len Try.underlying35
@[simp] theorem len_36 {A : Option Addr} {n c : Nat} : pureRun Try.prog (Builtin.len_ #[36] 3 #[.slice A n c]) = some (.int .i64 n) := pr_len Try.underlying36
@[simp] theorem len_48 {A : Option Addr} {n c : Nat} : pureRun Try.prog (Builtin.len_ #[48] 3 #[.slice A n c]) = some (.int .i64 n) := pr_len Try.underlying48
@[simp] theorem len_56 {A : Option Addr} {n c : Nat} : pureRun Try.prog (Builtin.len_ #[56] 3 #[.slice A n c]) = some (.int .i64 n) := pr_len Try.underlying56
@[simp] theorem len_65 {A : Option Addr} {n c : Nat} : pureRun Try.prog (Builtin.len_ #[65] 3 #[.slice A n c]) = some (.int .i64 n) := pr_len Try.underlying65
@[simp] theorem len_68 {A : Option Addr} {n c : Nat} : pureRun Try.prog (Builtin.len_ #[68] 3 #[.slice A n c]) = some (.int .i64 n) := pr_len Try.underlying68
@[simp] theorem len_69 {A : Option Addr} {n c : Nat} : pureRun Try.prog (Builtin.len_ #[69] 3 #[.slice A n c]) = some (.int .i64 n) := pr_len Try.underlying69
@[simp] theorem len_70 {A : Option Addr} {n c : Nat} : pureRun Try.prog (Builtin.len_ #[70] 3 #[.slice A n c]) = some (.int .i64 n) := pr_len Try.underlying70
@[simp] theorem len_96 {A : Option Addr} {n c : Nat} : pureRun Try.prog (Builtin.len_ #[96] 3 #[.slice A n c]) = some (.int .i64 n) := pr_len Try.underlying96
@[simp] theorem len_104 {A : Option Addr} {n c : Nat} : pureRun Try.prog (Builtin.len_ #[104] 3 #[.slice A n c]) = some (.int .i64 n) := pr_len Try.underlying104
@[simp] theorem len_124 {A : Option Addr} {n c : Nat} : pureRun Try.prog (Builtin.len_ #[124] 3 #[.slice A n c]) = some (.int .i64 n) := pr_len Try.underlying124
@[simp] theorem len_134 {A : Option Addr} {n c : Nat} : pureRun Try.prog (Builtin.len_ #[134] 3 #[.slice A n c]) = some (.int .i64 n) := pr_len Try.underlying134
@[simp] theorem len_139 {A : Option Addr} {n c : Nat} : pureRun Try.prog (Builtin.len_ #[139] 3 #[.slice A n c]) = some (.int .i64 n) := pr_len Try.underlying139
@[simp] theorem cv_3_144 {a : Int} : pureRun Try.prog (convert 3 144 (.int .i64 a)) = some (.int .u64 ((IntKind.u64).wrap a)) := pr_conv Try.underlying3 Try.underlying144
@[simp] theorem cv_144_3 {a : Int} : pureRun Try.prog (convert 144 3 (.int .u64 a)) = some (.int .i64 ((IntKind.i64).wrap a)) := pr_conv Try.underlying144 Try.underlying3
theorem ia_36 {b p n c : Nat} {j : IntKind} {i : Int} (h0 : 0 ≤ i) (h1 : i < n) : pureRun Try.prog (Instr.indexAt 36 (.slice (some ⟨b, p, none⟩) n c) (.int j i)) = some (.pointer (some ⟨b, p + i.toNat * 1, none⟩)) := by rw [← addr_add]; exact pr_index (z := 1) Try.underlying36 (by kernel_rfl) h0 h1
theorem ia_68 {b p n c : Nat} {j : IntKind} {i : Int} (h0 : 0 ≤ i) (h1 : i < n) : pureRun Try.prog (Instr.indexAt 68 (.slice (some ⟨b, p, none⟩) n c) (.int j i)) = some (.pointer (some ⟨b, p + i.toNat * 2, none⟩)) := by rw [← addr_add]; exact pr_index (z := 2) Try.underlying68 (by kernel_rfl) h0 h1
theorem ia_69 {b p n c : Nat} {j : IntKind} {i : Int} (h0 : 0 ≤ i) (h1 : i < n) : pureRun Try.prog (Instr.indexAt 69 (.slice (some ⟨b, p, none⟩) n c) (.int j i)) = some (.pointer (some ⟨b, p + i.toNat * 7, none⟩)) := by rw [← addr_add]; exact pr_index (z := 7) Try.underlying69 (by kernel_rfl) h0 h1
theorem ia_70 {b p n c : Nat} {j : IntKind} {i : Int} (h0 : 0 ≤ i) (h1 : i < n) : pureRun Try.prog (Instr.indexAt 70 (.slice (some ⟨b, p, none⟩) n c) (.int j i)) = some (.pointer (some ⟨b, p + i.toNat * 2, none⟩)) := by rw [← addr_add]; exact pr_index (z := 2) Try.underlying70 (by kernel_rfl) h0 h1
theorem ia_96 {b p n c : Nat} {j : IntKind} {i : Int} (h0 : 0 ≤ i) (h1 : i < n) : pureRun Try.prog (Instr.indexAt 96 (.slice (some ⟨b, p, none⟩) n c) (.int j i)) = some (.pointer (some ⟨b, p + i.toNat * 1, none⟩)) := by rw [← addr_add]; exact pr_index (z := 1) Try.underlying96 (by kernel_rfl) h0 h1
theorem ia_112 {b p n c : Nat} {j : IntKind} {i : Int} (h0 : 0 ≤ i) (h1 : i < n) : pureRun Try.prog (Instr.indexAt 112 (.slice (some ⟨b, p, none⟩) n c) (.int j i)) = some (.pointer (some ⟨b, p + i.toNat * 1, none⟩)) := by rw [← addr_add]; exact pr_index (z := 1) Try.underlying112 (by kernel_rfl) h0 h1
theorem ia_123 {b p n c : Nat} {j : IntKind} {i : Int} (h0 : 0 ≤ i) (h1 : i < n) : pureRun Try.prog (Instr.indexAt 123 (.slice (some ⟨b, p, none⟩) n c) (.int j i)) = some (.pointer (some ⟨b, p + i.toNat * 1, none⟩)) := by rw [← addr_add]; exact pr_index (z := 1) Try.underlying123 (by kernel_rfl) h0 h1
theorem ia_124 {b p n c : Nat} {j : IntKind} {i : Int} (h0 : 0 ≤ i) (h1 : i < n) : pureRun Try.prog (Instr.indexAt 124 (.slice (some ⟨b, p, none⟩) n c) (.int j i)) = some (.pointer (some ⟨b, p + i.toNat * 8, none⟩)) := by rw [← addr_add]; exact pr_index (z := 8) Try.underlying124 (by kernel_rfl) h0 h1
theorem ia_134 {b p n c : Nat} {j : IntKind} {i : Int} (h0 : 0 ≤ i) (h1 : i < n) : pureRun Try.prog (Instr.indexAt 134 (.slice (some ⟨b, p, none⟩) n c) (.int j i)) = some (.pointer (some ⟨b, p + i.toNat * 5, none⟩)) := by rw [← addr_add]; exact pr_index (z := 5) Try.underlying134 (by kernel_rfl) h0 h1
theorem ei_27 {d : Nat} {x0 y0 : Int} {x1 y1 : Int} {x2 y2 : Int} {x3 y3 : Int} {x4 y4 : Int} : (Op.equalIn (d + 2) 27 (.agg #[(.int .i64 x0), (.int .i64 x1), (.int .i64 x2), (.int .i64 x3), (.int .i64 x4)]) (.agg #[(.int .i64 y0), (.int .i64 y1), (.int .i64 y2), (.int .i64 y3), (.int .i64 y4)])).run Try.prog w = .ok ((x0 == y0) && ((x1 == y1) && ((x2 == y2) && ((x3 == y3) && ((x4 == y4) && (true)))))) w :=
  eqIn_struct (d := d + 1) (fs := [(true, 3, 0), (true, 3, 1), (true, 3, 2), (true, 3, 3), (true, 3, 4)]) (by kernel_rfl) (by kernel_rfl) (by kernel_rfl) (eqF_cons (part_sc (by kernel_rfl) rfl) (part_sc (by kernel_rfl) rfl) (eqIn_int Try.underlying3) (eqF_cons (part_sc (by kernel_rfl) rfl) (part_sc (by kernel_rfl) rfl) (eqIn_int Try.underlying3) (eqF_cons (part_sc (by kernel_rfl) rfl) (part_sc (by kernel_rfl) rfl) (eqIn_int Try.underlying3) (eqF_cons (part_sc (by kernel_rfl) rfl) (part_sc (by kernel_rfl) rfl) (eqIn_int Try.underlying3) (eqF_cons (part_sc (by kernel_rfl) rfl) (part_sc (by kernel_rfl) rfl) (eqIn_int Try.underlying3) eqF_nil)))))
@[simp] theorem be_eql_27 {x y : Operand} {x0 y0 : Int} {x1 y1 : Int} {x2 y2 : Int} {x3 y3 : Int} {x4 y4 : Int} : be Try.prog .eql 27 x y (.agg #[(.int .i64 x0), (.int .i64 x1), (.int .i64 x2), (.int .i64 x3), (.int .i64 x4)]) (.agg #[(.int .i64 y0), (.int .i64 y1), (.int .i64 y2), (.int .i64 y3), (.int .i64 y4)]) = some (.bool (((x0 == y0) && ((x1 == y1) && ((x2 == y2) && ((x3 == y3) && ((x4 == y4) && (true)))))))) := be_eqls (by kernel_rfl) fun w => ei_27 (d := 9998)
@[simp] theorem be_neq_27 {x y : Operand} {x0 y0 : Int} {x1 y1 : Int} {x2 y2 : Int} {x3 y3 : Int} {x4 y4 : Int} : be Try.prog .neq 27 x y (.agg #[(.int .i64 x0), (.int .i64 x1), (.int .i64 x2), (.int .i64 x3), (.int .i64 x4)]) (.agg #[(.int .i64 y0), (.int .i64 y1), (.int .i64 y2), (.int .i64 y3), (.int .i64 y4)]) = some (.bool (!((x0 == y0) && ((x1 == y1) && ((x2 == y2) && ((x3 == y3) && ((x4 == y4) && (true)))))))) := be_neqs (by kernel_rfl) fun w => ei_27 (d := 9998)
theorem ei_32 {d : Nat} {x0 y0 : Int} {x1 y1 : Int} {x2 y2 : Int} {x3 y3 : Int} {x4 y4 : Int} {x5 y5 : Int} {x6 y6 : Int} {x7 y7 : Int} : (Op.equalIn (d + 3) 32 (.agg #[(.int .i64 x0), (.int .i64 x1), (.int .i64 x2), (.int .i64 x3), (.int .i64 x4), (.int .i64 x5), (.int .i64 x6), (.int .u64 x7)]) (.agg #[(.int .i64 y0), (.int .i64 y1), (.int .i64 y2), (.int .i64 y3), (.int .i64 y4), (.int .i64 y5), (.int .i64 y6), (.int .u64 y7)])).run Try.prog w = .ok ((x0 == y0) && (((x1 == y1) && ((x2 == y2) && ((x3 == y3) && ((x4 == y4) && ((x5 == y5) && (true)))))) && ((x6 == y6) && ((x7 == y7) && (true))))) w :=
  eqIn_struct (d := d + 2) (fs := [(true, 30, 0), (true, 27, 1), (true, 3, 6), (true, 22, 7)]) (by kernel_rfl) (by kernel_rfl) (by kernel_rfl) (eqF_cons (part_sc (by kernel_rfl) rfl) (part_sc (by kernel_rfl) rfl) (eqIn_int Try.underlying30) (eqF_cons (part_ag (n := 5) (by kernel_rfl) (by kernel_rfl)) (part_ag (n := 5) (by kernel_rfl) (by kernel_rfl)) (ei_27 (d := d + 0)) (eqF_cons (part_sc (by kernel_rfl) rfl) (part_sc (by kernel_rfl) rfl) (eqIn_int Try.underlying3) (eqF_cons (part_sc (by kernel_rfl) rfl) (part_sc (by kernel_rfl) rfl) (eqIn_int Try.underlying22) eqF_nil))))
@[simp] theorem be_eql_32 {x y : Operand} {x0 y0 : Int} {x1 y1 : Int} {x2 y2 : Int} {x3 y3 : Int} {x4 y4 : Int} {x5 y5 : Int} {x6 y6 : Int} {x7 y7 : Int} : be Try.prog .eql 32 x y (.agg #[(.int .i64 x0), (.int .i64 x1), (.int .i64 x2), (.int .i64 x3), (.int .i64 x4), (.int .i64 x5), (.int .i64 x6), (.int .u64 x7)]) (.agg #[(.int .i64 y0), (.int .i64 y1), (.int .i64 y2), (.int .i64 y3), (.int .i64 y4), (.int .i64 y5), (.int .i64 y6), (.int .u64 y7)]) = some (.bool (((x0 == y0) && (((x1 == y1) && ((x2 == y2) && ((x3 == y3) && ((x4 == y4) && ((x5 == y5) && (true)))))) && ((x6 == y6) && ((x7 == y7) && (true))))))) := be_eqls (by kernel_rfl) fun w => ei_32 (d := 9997)
@[simp] theorem be_neq_32 {x y : Operand} {x0 y0 : Int} {x1 y1 : Int} {x2 y2 : Int} {x3 y3 : Int} {x4 y4 : Int} {x5 y5 : Int} {x6 y6 : Int} {x7 y7 : Int} : be Try.prog .neq 32 x y (.agg #[(.int .i64 x0), (.int .i64 x1), (.int .i64 x2), (.int .i64 x3), (.int .i64 x4), (.int .i64 x5), (.int .i64 x6), (.int .u64 x7)]) (.agg #[(.int .i64 y0), (.int .i64 y1), (.int .i64 y2), (.int .i64 y3), (.int .i64 y4), (.int .i64 y5), (.int .i64 y6), (.int .u64 y7)]) = some (.bool (!((x0 == y0) && (((x1 == y1) && ((x2 == y2) && ((x3 == y3) && ((x4 == y4) && ((x5 == y5) && (true)))))) && ((x6 == y6) && ((x7 == y7) && (true))))))) := be_neqs (by kernel_rfl) fun w => ei_32 (d := 9997)
theorem ei_80 {d : Nat} {x0 y0 : Int} {x1 y1 : Int} : (Op.equalIn (d + 2) 80 (.agg #[(.int .i64 x0), (.int .i64 x1)]) (.agg #[(.int .i64 y0), (.int .i64 y1)])).run Try.prog w = .ok ((x0 == y0) && ((x1 == y1) && (true))) w :=
  eqIn_struct (d := d + 1) (fs := [(true, 3, 0), (true, 3, 1)]) (by kernel_rfl) (by kernel_rfl) (by kernel_rfl) (eqF_cons (part_sc (by kernel_rfl) rfl) (part_sc (by kernel_rfl) rfl) (eqIn_int Try.underlying3) (eqF_cons (part_sc (by kernel_rfl) rfl) (part_sc (by kernel_rfl) rfl) (eqIn_int Try.underlying3) eqF_nil))
@[simp] theorem be_eql_80 {x y : Operand} {x0 y0 : Int} {x1 y1 : Int} : be Try.prog .eql 80 x y (.agg #[(.int .i64 x0), (.int .i64 x1)]) (.agg #[(.int .i64 y0), (.int .i64 y1)]) = some (.bool (((x0 == y0) && ((x1 == y1) && (true))))) := be_eqls (by kernel_rfl) fun w => ei_80 (d := 9998)
@[simp] theorem be_neq_80 {x y : Operand} {x0 y0 : Int} {x1 y1 : Int} : be Try.prog .neq 80 x y (.agg #[(.int .i64 x0), (.int .i64 x1)]) (.agg #[(.int .i64 y0), (.int .i64 y1)]) = some (.bool (!((x0 == y0) && ((x1 == y1) && (true))))) := be_neqs (by kernel_rfl) fun w => ei_80 (d := 9998)
theorem ei_95 {d : Nat} {x0 y0 : Int} {x1 y1 : Int} : (Op.equalIn (d + 2) 95 (.agg #[(.int .i64 x0), (.int .i64 x1)]) (.agg #[(.int .i64 y0), (.int .i64 y1)])).run Try.prog w = .ok ((x0 == y0) && ((x1 == y1) && (true))) w :=
  eqIn_struct (d := d + 1) (fs := [(true, 3, 0), (true, 3, 1)]) (by kernel_rfl) (by kernel_rfl) (by kernel_rfl) (eqF_cons (part_sc (by kernel_rfl) rfl) (part_sc (by kernel_rfl) rfl) (eqIn_int Try.underlying3) (eqF_cons (part_sc (by kernel_rfl) rfl) (part_sc (by kernel_rfl) rfl) (eqIn_int Try.underlying3) eqF_nil))
@[simp] theorem be_eql_95 {x y : Operand} {x0 y0 : Int} {x1 y1 : Int} : be Try.prog .eql 95 x y (.agg #[(.int .i64 x0), (.int .i64 x1)]) (.agg #[(.int .i64 y0), (.int .i64 y1)]) = some (.bool (((x0 == y0) && ((x1 == y1) && (true))))) := be_eqls (by kernel_rfl) fun w => ei_95 (d := 9998)
@[simp] theorem be_neq_95 {x y : Operand} {x0 y0 : Int} {x1 y1 : Int} : be Try.prog .neq 95 x y (.agg #[(.int .i64 x0), (.int .i64 x1)]) (.agg #[(.int .i64 y0), (.int .i64 y1)]) = some (.bool (!((x0 == y0) && ((x1 == y1) && (true))))) := be_neqs (by kernel_rfl) fun w => ei_95 (d := 9998)
theorem ei_142 {d : Nat} {x0 y0 : Int} {x1 y1 : Int} : (Op.equalIn (d + 2) 142 (.agg #[(.int .i64 x0), (.int .i64 x1)]) (.agg #[(.int .i64 y0), (.int .i64 y1)])).run Try.prog w = .ok ((x0 == y0) && ((x1 == y1) && (true))) w :=
  eqIn_struct (d := d + 1) (fs := [(true, 3, 0), (true, 3, 1)]) (by kernel_rfl) (by kernel_rfl) (by kernel_rfl) (eqF_cons (part_sc (by kernel_rfl) rfl) (part_sc (by kernel_rfl) rfl) (eqIn_int Try.underlying3) (eqF_cons (part_sc (by kernel_rfl) rfl) (part_sc (by kernel_rfl) rfl) (eqIn_int Try.underlying3) eqF_nil))
@[simp] theorem be_eql_142 {x y : Operand} {x0 y0 : Int} {x1 y1 : Int} : be Try.prog .eql 142 x y (.agg #[(.int .i64 x0), (.int .i64 x1)]) (.agg #[(.int .i64 y0), (.int .i64 y1)]) = some (.bool (((x0 == y0) && ((x1 == y1) && (true))))) := be_eqls (by kernel_rfl) fun w => ei_142 (d := 9998)
@[simp] theorem be_neq_142 {x y : Operand} {x0 y0 : Int} {x1 y1 : Int} : be Try.prog .neq 142 x y (.agg #[(.int .i64 x0), (.int .i64 x1)]) (.agg #[(.int .i64 y0), (.int .i64 y1)]) = some (.bool (!((x0 == y0) && ((x1 == y1) && (true))))) := be_neqs (by kernel_rfl) fun w => ei_142 (d := 9998)
end Go.Proofs.Yteapggpkgfiacaa

namespace Go.Proofs.Yteapggpkgfiacaa
open Go Ev
set_option linter.unusedVariables false
set_option maxRecDepth 100000
theorem mixed : Try.prog.follows .mixedOrders = true := Checked.mixed Try.checked
theorem entOk : EntOk Try.prog (entR 3 116) := entOk_of (by kernel_rfl)
noncomputable def C4 : Code := (Try.f4.body).getD .skip
noncomputable def H4 : Hints := ⟨[], [(7, [1, 2, 5, 6, 7]), (10, [1, 2, 5])], [(6, (.ask 0 2 (.leaf [0, 1, 2, 3, 4, 5, 6, 7, 8]) (.leaf [1, 2, 0, 3, 4, 5, 6, 7, 8])))]⟩
noncomputable def T4_0 : List It := [.jn (nav [1, 1, 1, 1, 1] C4)]
noncomputable def T4_1 : List It := [.jn (nav [1, 1, 1, 1, 1, 1] C4)]
/-- rundale/rundalelaw25.OrderRaw, from a join on -/
def P4_0 (x1 x2 x5 x6 x7 : Value) (w : World) (Q : Value → World → Prop) : Prop := Part Try.prog 4 T4_0 [1, 2, 5, 6, 7] [x1, x2, x5, x6, x7] w Q
/-- rundale/rundalelaw25.OrderRaw, from a join on -/
def P4_1 (x1 x2 x5 : Value) (w : World) (Q : Value → World → Prop) : Prop := Part Try.prog 4 T4_1 [1, 2, 5] [x1, x2, x5] w Q
def F4 (a0 a1 : Value) (w : World) (Q : Value → World → Prop) : Prop :=
  effv Try.prog (Instr.box 25 a0) w fun t2 w =>
  CallR Try.prog 8 [] w fun t8 w =>
  wpB (pureRun Try.prog (Op.unary .not t8)) fun t10 =>
  cnd t10
  (Q (.bool false) w)
  (wpB (pureRun Try.prog (Builtin.len_ #[35] 3 #[a1])) fun t12 =>
  wpB (bp Try.prog .gtr 3 t12 (.int .i64 10)) fun t13 =>
  cnd t13
  (Q t8 w)
  ((wpB (ldv Try.prog 25 t2 w.drew) fun t16 =>
  effv Try.prog (Builtin.append_ #[35, 35] 35 #[(.slice none 0 0), a1]) w.drew fun t18 w =>
  CallR Try.prog 9 [t16, t18] w fun t19 w =>
  wpB (pureRun Try.prog (Instr.extract t19 0)) fun t20 =>
  wpB (pureRun Try.prog (Instr.extract t19 1)) fun t21 =>
  P4_0 a1 t2 t8 t20 t21 w Q) ∧
  (effv Try.prog (Builtin.append_ #[35, 35] 35 #[(.slice none 0 0), a1]) w.drew fun t18_1 w =>
  wpB (ldv Try.prog 25 t2 w) fun t16_1 =>
  CallR Try.prog 9 [t16_1, t18_1] w fun t19_1 w =>
  wpB (pureRun Try.prog (Instr.extract t19_1 0)) fun t20_1 =>
  wpB (pureRun Try.prog (Instr.extract t19_1 1)) fun t21_1 =>
  P4_0 a1 t2 t8 t20_1 t21_1 w Q)))
def L4_0 (x1 x2 x5 x6 x7 : Value) (w : World) (Q : Value → World → Prop) : Prop :=
  wpB (ldv Try.prog 25 x2 w) fun t22 =>
  CallR Try.prog 10 [t22] w fun t23 w =>
  wpB (pureRun Try.prog (Op.unary .not t23)) fun t24 =>
  gE t24 false (CallR Try.prog 11 [(gv t24 false x1)] w) (fun t27 w =>
  wpB (gd t24 false (pureRun Try.prog (Op.unary .not t27))) fun t28 =>
  wpB (pickv t24 (some (.bool true)) (some t28)) fun t29 =>
  cnd t29
  (wpB (be Try.prog .neq 3 (.tmp 30) (.const (.int .i64 0)) x6 (.int .i64 0)) fun t31 =>
  wpB (pickv t31 (some (.bool true)) (some (gv t31 false x7))) fun t34 =>
  cnd t34
  (Q (.bool false) w)
  (P4_1 x1 x2 x5 w Q))
  (P4_1 x1 x2 x5 w Q)) w
def L4_1 (x1 x2 x5 : Value) (w : World) (Q : Value → World → Prop) : Prop :=
  wpB (gd x5 true (ldv Try.prog 25 x2 w)) fun t37 =>
  gE x5 true (CallR Try.prog 13 [t37] w) (fun t38 w =>
  gE x5 true (CallR Try.prog 12 [t38, (gv x5 true x1)] w) (fun t40 w =>
  wpB (pickv x5 (some t40) (some (.bool false))) fun t41 =>
  Q t41 w) w) w
theorem F4_ok {a0 a1 : Value} {w : World} {Q : Value → World → Prop} (h : F4 a0 a1 w Q) : CallR Try.prog 4 [a0, a1] w Q :=
  call_ofE mixed entOk Try.func4 (c := C4) rfl H4 (Nat.le_of_ble_eq_true rfl) (by kernel_rfl) h
theorem L4_0_ok {x1 x2 x5 x6 x7 : Value} {w : World} {Q : Value → World → Prop} (h : L4_0 x1 x2 x5 x6 x7 w Q) : P4_0 x1 x2 x5 x6 x7 w Q :=
  part_jnE mixed entOk Try.func4 H4 (by kernel_rfl) h
theorem L4_1_ok {x1 x2 x5 : Value} {w : World} {Q : Value → World → Prop} (h : L4_1 x1 x2 x5 w Q) : P4_1 x1 x2 x5 w Q :=
  part_jnE mixed entOk Try.func4 H4 (by kernel_rfl) h

noncomputable def C7 : Code := (Try.f7.body).getD .skip
noncomputable def H7 : Hints := ⟨[], [(4, [5])], []⟩
noncomputable def T7_0 : List It := [.jn (nav [1, 1, 1] C7)]
/-- rundale/rundalemake.Number, from a join on -/
def P7_0 (x5 : Value) (w : World) (Q : Value → World → Prop) : Prop := Part Try.prog 7 T7_0 [5] [x5] w Q
def F7 (a0 a1 : Value) (w : World) (Q : Value → World → Prop) : Prop :=
  wpB (bp Try.prog .rem 3 a0 a1) fun t8 =>
  wpB (bp Try.prog .lss 3 t8 (.int .i64 0)) fun t10 =>
  cnd t10
  (wpB (bp Try.prog .add 3 t8 a1) fun t13 =>
  P7_0 t13 w Q)
  (P7_0 t8 w Q)
def L7_0 (x5 : Value) (w : World) (Q : Value → World → Prop) : Prop :=
  Q x5 w
theorem F7_ok {a0 a1 : Value} {w : World} {Q : Value → World → Prop} (h : F7 a0 a1 w Q) : CallR Try.prog 7 [a0, a1] w Q :=
  call_ofE mixed entOk Try.func7 (c := C7) rfl H7 (Nat.le_of_ble_eq_true rfl) (by kernel_rfl) h
theorem L7_0_ok {x5 : Value} {w : World} {Q : Value → World → Prop} (h : L7_0 x5 w Q) : P7_0 x5 w Q :=
  part_jnE mixed entOk Try.func7 H7 (by kernel_rfl) h

noncomputable def C8 : Code := (Try.f8.body).getD .skip
noncomputable def H8 : Hints := ⟨[], [], []⟩
def F8 (w : World) (Q : Value → World → Prop) : Prop :=
  wpB (pureRun Try.prog (Instr.build 25 #[(0, (.int .i64 1)), (1, (.int .i64 1)), (2, (.int .i64 8)), (3, (.int .i64 1)), (5, (.int .i64 1))])) fun t9 =>
  effv Try.prog (Instr.alloc 25 true (.tuple #[])) w fun t1 w =>
  effu Try.prog (Instr.storeAt 25 t1 t9) w fun w =>
  wpB (ldv Try.prog 25 t1 w) fun t11 =>
  CallR Try.prog 9 [t11, (.slice none 0 0)] w fun t12 w =>
  wpB (pureRun Try.prog (Instr.extract t12 0)) fun t13 =>
  wpB (pureRun Try.prog (Instr.extract t12 1)) fun t14 =>
  wpB (pureRun Try.prog (Instr.build 29 #[(0, (.int .i64 3))])) fun t15 =>
  wpB (pureRun Try.prog (Instr.build 34 #[(2, t15), (4, (.int .i64 1)), (5, (.int .i64 (-1))), (6, (.int .i64 1))])) fun t16 =>
  effv Try.prog (Instr.alloc 34 true (.tuple #[])) w fun t4 w =>
  effu Try.prog (Instr.storeAt 34 t4 t16) w fun w =>
  wpB (ldv Try.prog 25 t1 w) fun t18 =>
  wpB (ldv Try.prog 34 t4 w) fun t19 =>
  effv Try.prog (Instr.buildSlice 35 1 #[(0, t19)]) w fun t20 w =>
  CallR Try.prog 9 [t18, t20] w fun t21 w =>
  wpB (pureRun Try.prog (Instr.extract t21 0)) fun t22 =>
  wpB (pureRun Try.prog (Instr.extract t21 1)) fun t23 =>
  wpB (pureRun Try.prog (Instr.fieldAt 34 t4 7)) fun t24 =>
  wpB (pureRun Try.prog (Instr.fieldAt 32 t24 0)) fun t25 =>
  effu Try.prog (Instr.storeAt 30 t25 (.int .i64 4)) w fun w =>
  wpB (ldv Try.prog 25 t1 w) fun t27 =>
  wpB (ldv Try.prog 34 t4 w) fun t28 =>
  effv Try.prog (Instr.buildSlice 35 1 #[(0, t28)]) w fun t29 w =>
  CallR Try.prog 9 [t27, t29] w fun t30 w =>
  wpB (pureRun Try.prog (Instr.extract t30 0)) fun t31 =>
  wpB (pureRun Try.prog (Instr.extract t30 1)) fun t32 =>
  wpB (be Try.prog .eql 3 (.tmp 33) (.const (.int .i64 (-1))) t13 (.int .i64 (-1))) fun t34 =>
  wpB (pickv t34 (some (gv t34 true t14)) (some (.bool false))) fun t37 =>
  wpB (gd t37 true (be Try.prog .eql 3 (.tmp 39) (.const (.int .i64 (-1))) (gv t37 true t22) (.int .i64 (-1)))) fun t40 =>
  wpB (pickv t37 (some t40) (some (.bool false))) fun t41 =>
  wpB (pickv t41 (some (gv t41 true t23)) (some (.bool false))) fun t44 =>
  wpB (gd t44 true (be Try.prog .eql 3 (.tmp 46) (.const (.int .i64 0)) (gv t44 true t31) (.int .i64 0))) fun t47 =>
  wpB (pickv t44 (some t47) (some (.bool false))) fun t48 =>
  wpB (gd t48 true (pureRun Try.prog (Op.unary .not (gv t48 true t32)))) fun t51 =>
  wpB (pickv t48 (some t51) (some (.bool false))) fun t52 =>
  Q t52 w
theorem F8_ok {w : World} {Q : Value → World → Prop} (h : F8  w Q) : CallR Try.prog 8 [] w Q :=
  call_ofE mixed entOk Try.func8 (c := C8) rfl H8 (Nat.le_of_ble_eq_true rfl) (by kernel_rfl) h

noncomputable def C9 : Code := (Try.f9.body).getD .skip
noncomputable def H9 : Hints := ⟨[(5, [1, 6, 31, 32, 33])], [(8, [1, 6, 9, 10, 11, 31, 32, 33]), (12, [1, 6, 9, 12, 31, 32, 33])], [(7, (.ask 9 10 (.ask 9 8 (.ask 10 8 (.ext [0, 1, 5, 6, 2, 3, 4, 7, 9, 10, 8, 11, 12]) (.ext [0, 1, 5, 6, 2, 3, 4, 7, 9, 8, 10, 11, 12])) (.ext [0, 1, 5, 6, 2, 3, 4, 7, 8, 9, 10, 11, 12])) (.ask 10 8 (.ask 9 8 (.ext [0, 1, 5, 6, 2, 3, 4, 7, 10, 9, 8, 11, 12]) (.ext [0, 1, 5, 6, 2, 3, 4, 7, 10, 8, 9, 11, 12])) (.ext [0, 1, 5, 6, 2, 3, 4, 7, 8, 10, 9, 11, 12]))))]⟩
noncomputable def T9_0 : List It := [.lp (nav [1, 1, 1, 0, 1, 4, 5] C9), .blk 0, .jn (nav [1, 1, 1, 1] C9)]
noncomputable def T9_1 : List It := [.jn (nav [1, 1, 1, 0, 1, 4, 5, 1, 1, 0, 4, 1, 1] C9), .blk 1, .jn (nav [1, 1, 1, 0, 1, 4, 5, 1, 1, 1] C9), .lp (nav [1, 1, 1, 0, 1, 4, 5] C9), .blk 0, .jn (nav [1, 1, 1, 1] C9)]
noncomputable def T9_2 : List It := [.jn (nav [1, 1, 1, 0, 1, 4, 5, 1, 1, 0, 4, 1, 1, 1, 1] C9), .blk 1, .jn (nav [1, 1, 1, 0, 1, 4, 5, 1, 1, 1] C9), .lp (nav [1, 1, 1, 0, 1, 4, 5] C9), .blk 0, .jn (nav [1, 1, 1, 1] C9)]
/-- rundale/order.Check, from a loop's head on -/
def P9_0 (x1 x6 x31 x32 x33 : Value) (w : World) (Q : Value → World → Prop) : Prop := Part Try.prog 9 T9_0 [1, 6, 31, 32, 33] [x1, x6, x31, x32, x33] w Q
/-- rundale/order.Check, from a join on -/
def P9_1 (x1 x6 x9 x10 x11 x31 x32 x33 : Value) (w : World) (Q : Value → World → Prop) : Prop := Part Try.prog 9 T9_1 [1, 6, 9, 10, 11, 31, 32, 33] [x1, x6, x9, x10, x11, x31, x32, x33] w Q
/-- rundale/order.Check, from a join on -/
def P9_2 (x1 x6 x9 x12 x31 x32 x33 : Value) (w : World) (Q : Value → World → Prop) : Prop := Part Try.prog 9 T9_2 [1, 6, 9, 12, 31, 32, 33] [x1, x6, x9, x12, x31, x32, x33] w Q
def F9 (a0 a1 : Value) (w : World) (Q : Value → World → Prop) : Prop :=
  effv Try.prog (Instr.box 25 a0) w fun t2 w =>
  wpB (ldv Try.prog 25 t2 w) fun t14 =>
  CallR Try.prog 19 [t14] w fun t15 w =>
  wpB (pureRun Try.prog (Instr.extract t15 0)) fun t16 =>
  wpB (pureRun Try.prog (Instr.extract t15 1)) fun t17 =>
  wpB (be Try.prog .neq 30 (.tmp 18) (.const (.int .i64 0)) t17 (.int .i64 0)) fun t19 =>
  wpB (gd t19 false (ldv Try.prog 25 t2 w)) fun t21 =>
  gE t19 false (CallR Try.prog 14 [t21] w) (fun t22 w =>
  wpB (gd t19 false (pureRun Try.prog (Op.unary .not t22))) fun t23 =>
  wpB (pickv t19 (some (.bool true)) (some t23)) fun t24 =>
  gE t24 false (CallR Try.prog 15 [(gv t24 false a1)] w) (fun t27 w =>
  wpB (gd t24 false (pureRun Try.prog (Op.unary .not t27))) fun t28 =>
  wpB (pickv t24 (some (.bool true)) (some t28)) fun t29 =>
  cnd t29
  (Q (.tuple #[(.int .i64 0), (.bool false)]) w)
  (CallR Try.prog 20 [a1] w fun t31 w =>
  wpB (pureRun Try.prog (Builtin.len_ #[56] 3 #[t31])) fun t32 =>
  P9_0 a1 t16 t31 t32 (.int .i64 0) w Q)) w) w
def L9_0 (x1 x6 x31 x32 x33 : Value) (w : World) (Q : Value → World → Prop) : Prop :=
  wpB (bp Try.prog .lss 3 x33 x32) fun t34 =>
  cnd t34
  (wpB (pureRun Try.prog (Instr.indexAt 56 x31 x33)) fun t35 =>
  wpB (ldv Try.prog 59 t35 w) fun t36 =>
  effv Try.prog (Instr.alloc 59 true (.tuple #[])) w fun t9 w =>
  effu Try.prog (Instr.storeAt 59 t9 t36) w fun w =>
  (((wpB (pureRun Try.prog (Instr.fieldAt 59 t9 1)) fun t38 =>
  wpB (pureRun Try.prog (Instr.fieldAt 59 t9 1)) fun t43 =>
  wpB (ldv Try.prog 3 t38 w.drew) fun t39 =>
  wpB (pureRun Try.prog (Instr.indexAt 35 x1 t39)) fun t40 =>
  wpB (ldv Try.prog 34 t40 w.drew) fun t41 =>
  wpB (ldv Try.prog 3 t43 w.drew) fun t44 =>
  effv Try.prog (Instr.alloc 34 true (.tuple #[])) w.drew fun t10 w =>
  effv Try.prog (Instr.alloc 27 true (.tuple #[])) w fun t11 w =>
  CallX Try.prog 21 [x1, t44] w fun t45 w =>
  effu Try.prog (Instr.storeAt 34 t10 t41) w fun w =>
  effu Try.prog (Instr.storeAt 27 t11 t45) w fun w =>
  P9_1 x1 x6 t9 t10 t11 x31 x32 x33 w Q) ∧
  (wpB (pureRun Try.prog (Instr.fieldAt 59 t9 1)) fun t38_1 =>
  wpB (pureRun Try.prog (Instr.fieldAt 59 t9 1)) fun t43_1 =>
  wpB (ldv Try.prog 3 t38_1 w.drew) fun t39_1 =>
  wpB (pureRun Try.prog (Instr.indexAt 35 x1 t39_1)) fun t40_1 =>
  wpB (ldv Try.prog 34 t40_1 w.drew) fun t41_1 =>
  wpB (ldv Try.prog 3 t43_1 w.drew) fun t44_1 =>
  effv Try.prog (Instr.alloc 34 true (.tuple #[])) w.drew fun t10_1 w =>
  CallX Try.prog 21 [x1, t44_1] w fun t45_1 w =>
  effv Try.prog (Instr.alloc 27 true (.tuple #[])) w fun t11_1 w =>
  effu Try.prog (Instr.storeAt 34 t10_1 t41_1) w fun w =>
  effu Try.prog (Instr.storeAt 27 t11_1 t45_1) w fun w =>
  P9_1 x1 x6 t9 t10_1 t11_1 x31 x32 x33 w Q)) ∧
  (wpB (pureRun Try.prog (Instr.fieldAt 59 t9 1)) fun t38_2 =>
  wpB (pureRun Try.prog (Instr.fieldAt 59 t9 1)) fun t43_2 =>
  wpB (ldv Try.prog 3 t38_2 w.drew) fun t39_2 =>
  wpB (pureRun Try.prog (Instr.indexAt 35 x1 t39_2)) fun t40_2 =>
  wpB (ldv Try.prog 34 t40_2 w.drew) fun t41_2 =>
  wpB (ldv Try.prog 3 t43_2 w.drew) fun t44_2 =>
  CallX Try.prog 21 [x1, t44_2] w.drew fun t45_2 w =>
  effv Try.prog (Instr.alloc 34 true (.tuple #[])) w fun t10_2 w =>
  effv Try.prog (Instr.alloc 27 true (.tuple #[])) w fun t11_2 w =>
  effu Try.prog (Instr.storeAt 34 t10_2 t41_2) w fun w =>
  effu Try.prog (Instr.storeAt 27 t11_2 t45_2) w fun w =>
  P9_1 x1 x6 t9 t10_2 t11_2 x31 x32 x33 w Q)) ∧
  (((wpB (pureRun Try.prog (Instr.fieldAt 59 t9 1)) fun t38_3 =>
  wpB (pureRun Try.prog (Instr.fieldAt 59 t9 1)) fun t43_3 =>
  wpB (ldv Try.prog 3 t38_3 w.drew) fun t39_3 =>
  wpB (pureRun Try.prog (Instr.indexAt 35 x1 t39_3)) fun t40_3 =>
  wpB (ldv Try.prog 34 t40_3 w.drew) fun t41_3 =>
  wpB (ldv Try.prog 3 t43_3 w.drew) fun t44_3 =>
  effv Try.prog (Instr.alloc 27 true (.tuple #[])) w.drew fun t11_3 w =>
  effv Try.prog (Instr.alloc 34 true (.tuple #[])) w fun t10_3 w =>
  CallX Try.prog 21 [x1, t44_3] w fun t45_3 w =>
  effu Try.prog (Instr.storeAt 34 t10_3 t41_3) w fun w =>
  effu Try.prog (Instr.storeAt 27 t11_3 t45_3) w fun w =>
  P9_1 x1 x6 t9 t10_3 t11_3 x31 x32 x33 w Q) ∧
  (wpB (pureRun Try.prog (Instr.fieldAt 59 t9 1)) fun t38_4 =>
  wpB (pureRun Try.prog (Instr.fieldAt 59 t9 1)) fun t43_4 =>
  wpB (ldv Try.prog 3 t38_4 w.drew) fun t39_4 =>
  wpB (pureRun Try.prog (Instr.indexAt 35 x1 t39_4)) fun t40_4 =>
  wpB (ldv Try.prog 34 t40_4 w.drew) fun t41_4 =>
  wpB (ldv Try.prog 3 t43_4 w.drew) fun t44_4 =>
  effv Try.prog (Instr.alloc 27 true (.tuple #[])) w.drew fun t11_4 w =>
  CallX Try.prog 21 [x1, t44_4] w fun t45_4 w =>
  effv Try.prog (Instr.alloc 34 true (.tuple #[])) w fun t10_4 w =>
  effu Try.prog (Instr.storeAt 34 t10_4 t41_4) w fun w =>
  effu Try.prog (Instr.storeAt 27 t11_4 t45_4) w fun w =>
  P9_1 x1 x6 t9 t10_4 t11_4 x31 x32 x33 w Q)) ∧
  (wpB (pureRun Try.prog (Instr.fieldAt 59 t9 1)) fun t38_5 =>
  wpB (pureRun Try.prog (Instr.fieldAt 59 t9 1)) fun t43_5 =>
  wpB (ldv Try.prog 3 t38_5 w.drew) fun t39_5 =>
  wpB (pureRun Try.prog (Instr.indexAt 35 x1 t39_5)) fun t40_5 =>
  wpB (ldv Try.prog 34 t40_5 w.drew) fun t41_5 =>
  wpB (ldv Try.prog 3 t43_5 w.drew) fun t44_5 =>
  CallX Try.prog 21 [x1, t44_5] w.drew fun t45_5 w =>
  effv Try.prog (Instr.alloc 27 true (.tuple #[])) w fun t11_5 w =>
  effv Try.prog (Instr.alloc 34 true (.tuple #[])) w fun t10_5 w =>
  effu Try.prog (Instr.storeAt 34 t10_5 t41_5) w fun w =>
  effu Try.prog (Instr.storeAt 27 t11_5 t45_5) w fun w =>
  P9_1 x1 x6 t9 t10_5 t11_5 x31 x32 x33 w Q)))
  (Q (.tuple #[(.int .i64 (-1)), (.bool true)]) w)
def L9_1 (x1 x6 x9 x10 x11 x31 x32 x33 : Value) (w : World) (Q : Value → World → Prop) : Prop :=
  wpB (pureRun Try.prog (Instr.fieldAt 59 x9 2)) fun t46 =>
  wpB (ldv Try.prog 4 t46 w) fun t47 =>
  cnd t47
  (wpB (pureRun Try.prog (Instr.fieldAt 27 x11 0)) fun t49 =>
  wpB (ldv Try.prog 3 t49 w) fun t50 =>
  CallR Try.prog 22 [x6, t50] w fun t51 w =>
  P9_2 x1 x6 x9 t51 x31 x32 x33 w Q)
  (wpB (pureRun Try.prog (Instr.fieldAt 34 x10 0)) fun t53 =>
  wpB (ldv Try.prog 3 t53 w) fun t54 =>
  wpB (pureRun Try.prog (Instr.fieldAt 34 x10 2)) fun t55 =>
  wpB (ldv Try.prog 29 t55 w) fun t56 =>
  wpB (ldv Try.prog 27 x11 w) fun t57 =>
  wpB (pureRun Try.prog (Instr.fieldAt 34 x10 7)) fun t58 =>
  wpB (ldv Try.prog 32 t58 w) fun t59 =>
  CallR Try.prog 23 [x6, t54, t56, t57, t59] w fun t60 w =>
  P9_2 x1 x6 x9 t60 x31 x32 x33 w Q)
def L9_2 (x1 x6 x9 x12 x31 x32 x33 : Value) (w : World) (Q : Value → World → Prop) : Prop :=
  wpB (pureRun Try.prog (Op.unary .not x12)) fun t62 =>
  cnd t62
  (wpB (pureRun Try.prog (Instr.fieldAt 59 x9 1)) fun t63 =>
  wpB (ldv Try.prog 3 t63 w) fun t64 =>
  Q (.tuple #[t64, (.bool false)]) w)
  (wpB (bp Try.prog .add 3 x33 (.int .i64 1)) fun t65 =>
  P9_0 x1 x6 x31 x32 t65 w Q)
theorem F9_ok {a0 a1 : Value} {w : World} {Q : Value → World → Prop} (h : F9 a0 a1 w Q) : CallR Try.prog 9 [a0, a1] w Q :=
  call_ofE mixed entOk Try.func9 (c := C9) rfl H9 (Nat.le_of_ble_eq_true rfl) (by kernel_rfl) h
theorem L9_0_ok {x1 x6 x31 x32 x33 : Value} {w : World} {Q : Value → World → Prop} (h : L9_0 x1 x6 x31 x32 x33 w Q) : P9_0 x1 x6 x31 x32 x33 w Q :=
  part_lpE mixed entOk Try.func9 H9 (by kernel_rfl) h
theorem L9_1_ok {x1 x6 x9 x10 x11 x31 x32 x33 : Value} {w : World} {Q : Value → World → Prop} (h : L9_1 x1 x6 x9 x10 x11 x31 x32 x33 w Q) : P9_1 x1 x6 x9 x10 x11 x31 x32 x33 w Q :=
  part_jnE mixed entOk Try.func9 H9 (by kernel_rfl) h
theorem L9_2_ok {x1 x6 x9 x12 x31 x32 x33 : Value} {w : World} {Q : Value → World → Prop} (h : L9_2 x1 x6 x9 x12 x31 x32 x33 w Q) : P9_2 x1 x6 x9 x12 x31 x32 x33 w Q :=
  part_jnE mixed entOk Try.func9 H9 (by kernel_rfl) h

noncomputable def C10 : Code := (Try.f10.body).getD .skip
noncomputable def H10 : Hints := ⟨[], [], []⟩
def F10 (a0 : Value) (w : World) (Q : Value → World → Prop) : Prop :=
  effv Try.prog (Instr.box 25 a0) w fun t1 w =>
  wpB (pureRun Try.prog (Instr.fieldAt 25 t1 0)) fun t3 =>
  wpB (ldv Try.prog 3 t3 w) fun t4 =>
  CallR Try.prog 24 [t4, (.int .i64 1), (.int .i64 64)] w fun t5 w =>
  wpB (gd t5 true (pureRun Try.prog (Instr.fieldAt 25 t1 1))) fun t7 =>
  wpB (gd t5 true (ldv Try.prog 3 t7 w)) fun t8 =>
  gE t5 true (CallR Try.prog 24 [t8, (.int .i64 1), (.int .i64 4096)] w) (fun t9 w =>
  wpB (pickv t5 (some t9) (some (.bool false))) fun t10 =>
  wpB (gd t10 true (pureRun Try.prog (Instr.fieldAt 25 t1 2))) fun t12 =>
  wpB (gd t10 true (ldv Try.prog 3 t12 w)) fun t13 =>
  gE t10 true (CallR Try.prog 24 [t13, (.int .i64 8), (.int .i64 1024)] w) (fun t14 w =>
  wpB (pickv t10 (some t14) (some (.bool false))) fun t15 =>
  wpB (gd t15 true (pureRun Try.prog (Instr.fieldAt 25 t1 2))) fun t17 =>
  wpB (gd t15 true (ldv Try.prog 3 t17 w)) fun t18 =>
  wpB (gd t15 true (bp Try.prog .rem 3 t18 (.int .i64 8))) fun t19 =>
  wpB (gd t15 true (be Try.prog .eql 3 (.tmp 19) (.const (.int .i64 0)) t19 (.int .i64 0))) fun t20 =>
  wpB (pickv t15 (some t20) (some (.bool false))) fun t21 =>
  wpB (gd t21 true (pureRun Try.prog (Instr.fieldAt 25 t1 3))) fun t23 =>
  wpB (gd t21 true (ldv Try.prog 3 t23 w)) fun t24 =>
  gE t21 true (CallR Try.prog 24 [t24, (.int .i64 1), (.int .i64 4096)] w) (fun t25 w =>
  wpB (pickv t21 (some t25) (some (.bool false))) fun t26 =>
  wpB (gd t26 true (pureRun Try.prog (Instr.fieldAt 25 t1 4))) fun t28 =>
  wpB (gd t26 true (ldv Try.prog 3 t28 w)) fun t29 =>
  gE t26 true (CallR Try.prog 24 [t29, (.int .i64 0), (.int .i64 64)] w) (fun t30 w =>
  wpB (pickv t26 (some t30) (some (.bool false))) fun t31 =>
  wpB (gd t31 true (pureRun Try.prog (Instr.fieldAt 25 t1 5))) fun t33 =>
  wpB (gd t31 true (ldv Try.prog 3 t33 w)) fun t34 =>
  gE t31 true (CallR Try.prog 24 [t34, (.int .i64 1), (.int .i64 8)] w) (fun t35 w =>
  wpB (pickv t31 (some t35) (some (.bool false))) fun t36 =>
  Q t36 w) w) w) w) w) w
theorem F10_ok {a0 : Value} {w : World} {Q : Value → World → Prop} (h : F10 a0 w Q) : CallR Try.prog 10 [a0] w Q :=
  call_ofE mixed entOk Try.func10 (c := C10) rfl H10 (Nat.le_of_ble_eq_true rfl) (by kernel_rfl) h

noncomputable def C11 : Code := (Try.f11.body).getD .skip
noncomputable def H11 : Hints := ⟨[(2, [0, 3]), (7, [0, 3, 4])], [], [(4, (.leaf [0, 1, 2, 3, 4, 5, 6, 7, 8, 9, 10, 11, 12, 13, 14, 15, 16, 17, 18, 19, 20, 21, 22, 23])), (9, (.leaf [0, 1, 2, 3, 4, 5, 6, 7, 8, 9, 10, 11, 12, 13, 14, 15, 16, 17, 18, 19, 20, 21, 22, 23, 24, 25, 26, 27, 28, 29, 30, 31, 32, 33, 34, 35, 36, 37, 38, 39, 40, 41, 42, 43, 44, 45, 46]))]⟩
noncomputable def T11_0 : List It := [.lp (nav [1, 0, 1, 4, 5] C11), .blk 0, .jn (nav [1, 1] C11)]
noncomputable def T11_1 : List It := [.lp (nav [1, 0, 1, 4, 5, 1, 0, 4, 1, 1, 4, 5] C11), .blk 2, .blk 1, .jn (nav [1, 0, 1, 4, 5, 1, 1] C11), .lp (nav [1, 0, 1, 4, 5] C11), .blk 0, .jn (nav [1, 1] C11)]
/-- rundale/rundaleref18.MayRecord, from a loop's head on -/
def P11_0 (x0 x3 : Value) (w : World) (Q : Value → World → Prop) : Prop := Part Try.prog 11 T11_0 [0, 3] [x0, x3] w Q
/-- rundale/rundaleref18.MayRecord, from a loop's head on -/
def P11_1 (x0 x3 x4 : Value) (w : World) (Q : Value → World → Prop) : Prop := Part Try.prog 11 T11_1 [0, 3, 4] [x0, x3, x4] w Q
def F11 (a0 : Value) (w : World) (Q : Value → World → Prop) : Prop :=
  P11_0 a0 (.int .i64 0) w Q
def L11_0 (x0 x3 : Value) (w : World) (Q : Value → World → Prop) : Prop :=
  wpB (pureRun Try.prog (Builtin.len_ #[35] 3 #[x0])) fun t7 =>
  wpB (bp Try.prog .lss 3 x3 t7) fun t8 =>
  cnd t8
  (wpB (pureRun Try.prog (Instr.indexAt 35 x0 x3)) fun t13 =>
  wpB (ldv Try.prog 34 t13 w.drew) fun t14 =>
  CallR Try.prog 25 [t14] w.drew fun t15 w =>
  wpB (pureRun Try.prog (Op.unary .not t15)) fun t16 =>
  wpB (gd t16 false (bp Try.prog .gtr 3 (gv t16 false x3) (.int .i64 0))) fun t19 =>
  wpB (gd (gv t16 false t19) true (pureRun Try.prog (Instr.indexAt 35 (gv (gv t16 false t19) true x0) (gv (gv t16 false t19) true x3)))) fun t23 =>
  wpB (gd (gv t16 false t19) true (pureRun Try.prog (Instr.fieldAt 34 t23 3))) fun t24 =>
  wpB (gd (gv t16 false t19) true (ldv Try.prog 3 t24 w)) fun t25 =>
  wpB (gd (gv t16 false t19) true (bp Try.prog .sub 3 (gv (gv t16 false t19) true x3) (.int .i64 1))) fun t28 =>
  wpB (gd (gv t16 false t19) true (pureRun Try.prog (Instr.indexAt 35 (gv (gv t16 false t19) true x0) t28))) fun t29 =>
  wpB (gd (gv t16 false t19) true (pureRun Try.prog (Instr.fieldAt 34 t29 3))) fun t30 =>
  wpB (gd (gv t16 false t19) true (ldv Try.prog 3 t30 w)) fun t31 =>
  wpB (gd (gv t16 false t19) true (bp Try.prog .leq 3 t25 t31)) fun t32 =>
  wpB (gd t16 false (pickv (gv t16 false t19) (some t32) (some (.bool false)))) fun t33 =>
  wpB (pickv t16 (some (.bool true)) (some t33)) fun t34 =>
  cnd t34
  (Q (.bool false) w)
  (P11_1 x0 x3 (.int .i64 0) w Q))
  (Q (.bool true) w)
def L11_1 (x0 x3 x4 : Value) (w : World) (Q : Value → World → Prop) : Prop :=
  wpB (bp Try.prog .lss 3 x4 x3) fun t37 =>
  cnd t37
  (wpB (pureRun Try.prog (Instr.indexAt 35 x0 x3)) fun t42 =>
  wpB (ldv Try.prog 34 t42 w.drew) fun t43 =>
  wpB (pureRun Try.prog (Instr.indexAt 35 x0 x4)) fun t46 =>
  wpB (ldv Try.prog 34 t46 w.drew) fun t47 =>
  CallR Try.prog 26 [t43, t47] w.drew fun t48 w =>
  wpB (gd t48 false (pureRun Try.prog (Instr.indexAt 35 (gv t48 false x0) (gv t48 false x4)))) fun t52 =>
  wpB (gd t48 false (pureRun Try.prog (Instr.fieldAt 34 t52 0))) fun t53 =>
  wpB (gd t48 false (ldv Try.prog 3 t53 w)) fun t54 =>
  wpB (gd t48 false (pureRun Try.prog (Instr.indexAt 35 (gv t48 false x0) (gv t48 false x3)))) fun t57 =>
  wpB (gd t48 false (pureRun Try.prog (Instr.fieldAt 34 t57 0))) fun t58 =>
  wpB (gd t48 false (ldv Try.prog 3 t58 w)) fun t59 =>
  wpB (gd t48 false (be Try.prog .eql 3 (.tmp 54) (.tmp 59) t54 t59)) fun t60 =>
  wpB (gd (gv t48 false t60) true (pureRun Try.prog (Instr.indexAt 35 (gv (gv t48 false t60) true x0) (gv (gv t48 false t60) true x4)))) fun t64 =>
  wpB (gd (gv t48 false t60) true (ldv Try.prog 34 t64 w)) fun t65 =>
  wpB (gd (gv t48 false t60) true (pureRun Try.prog (Instr.indexAt 35 (gv (gv t48 false t60) true x0) (gv (gv t48 false t60) true x3)))) fun t68 =>
  wpB (gd (gv t48 false t60) true (ldv Try.prog 34 t68 w)) fun t69 =>
  gE (gv t48 false t60) true (CallR Try.prog 27 [t65, t69] w) (fun t70 w =>
  wpB (gd (gv t48 false t60) true (pureRun Try.prog (Op.unary .not t70))) fun t71 =>
  wpB (gd (gv (gv t48 false t60) true t71) false (pureRun Try.prog (Instr.indexAt 35 (gv (gv (gv t48 false t60) true t71) false x0) (gv (gv (gv t48 false t60) true t71) false x3)))) fun t75 =>
  wpB (gd (gv (gv t48 false t60) true t71) false (pureRun Try.prog (Instr.fieldAt 34 t75 1))) fun t76 =>
  wpB (gd (gv (gv t48 false t60) true t71) false (ldv Try.prog 3 t76 w)) fun t77 =>
  wpB (gd (gv (gv t48 false t60) true t71) false (pureRun Try.prog (Instr.indexAt 35 (gv (gv (gv t48 false t60) true t71) false x0) (gv (gv (gv t48 false t60) true t71) false x4)))) fun t80 =>
  wpB (gd (gv (gv t48 false t60) true t71) false (pureRun Try.prog (Instr.fieldAt 34 t80 1))) fun t81 =>
  wpB (gd (gv (gv t48 false t60) true t71) false (ldv Try.prog 3 t81 w)) fun t82 =>
  wpB (gd (gv (gv t48 false t60) true t71) false (bp Try.prog .leq 3 t77 t82)) fun t83 =>
  wpB (gd (gv t48 false t60) true (pickv (gv (gv t48 false t60) true t71) (some (.bool true)) (some t83))) fun t84 =>
  wpB (gd t48 false (pickv (gv t48 false t60) (some t84) (some (.bool false)))) fun t85 =>
  wpB (pickv t48 (some (.bool true)) (some t85)) fun t86 =>
  cnd t86
  (Q (.bool false) w)
  (wpB (bp Try.prog .add 3 x4 (.int .i64 1)) fun t39 =>
  P11_1 x0 x3 t39 w Q)) w)
  (wpB (bp Try.prog .add 3 x3 (.int .i64 1)) fun t10 =>
  P11_0 x0 t10 w Q)
theorem F11_ok {a0 : Value} {w : World} {Q : Value → World → Prop} (h : F11 a0 w Q) : CallR Try.prog 11 [a0] w Q :=
  call_ofE mixed entOk Try.func11 (c := C11) rfl H11 (Nat.le_of_ble_eq_true rfl) (by kernel_rfl) h
theorem L11_0_ok {x0 x3 : Value} {w : World} {Q : Value → World → Prop} (h : L11_0 x0 x3 w Q) : P11_0 x0 x3 w Q :=
  part_lpE mixed entOk Try.func11 H11 (by kernel_rfl) h
theorem L11_1_ok {x0 x3 x4 : Value} {w : World} {Q : Value → World → Prop} (h : L11_1 x0 x3 x4 w Q) : P11_1 x0 x3 x4 w Q :=
  part_lpE mixed entOk Try.func11 H11 (by kernel_rfl) h

noncomputable def C12 : Code := (Try.f12.body).getD .skip
noncomputable def H12 : Hints := ⟨[(12, [1, 9, 10, 11]), (17, [1, 12])], [(2, [1, 2, 5, 6])], [(1, (.ask 0 2 (.leaf [0, 1, 2, 3, 4, 5, 6, 7, 8]) (.leaf [1, 2, 0, 3, 4, 5, 6, 7, 8]))), (14, (.leaf [0, 1, 2, 3, 4, 5, 6, 7, 8, 9, 10, 11, 12, 13, 14, 15, 16, 17, 18, 19, 20, 21, 22, 23, 24, 25, 26, 27, 28, 29, 30, 31, 32, 33, 34, 35, 36]))]⟩
noncomputable def T12_0 : List It := [.jn (nav [1, 1] C12)]
noncomputable def T12_1 : List It := [.lp (nav [1, 1, 1, 1, 1, 1, 1, 1, 0, 1, 4, 5] C12), .blk 0, .jn (nav [1, 1, 1, 1, 1, 1, 1, 1, 1] C12)]
noncomputable def T12_2 : List It := [.lp (nav [1, 1, 1, 1, 1, 1, 1, 1, 1, 0, 1, 4, 5] C12), .blk 2, .jn (nav [1, 1, 1, 1, 1, 1, 1, 1, 1, 1] C12)]
/-- rundale/rundalelaw25.says, from a join on -/
def P12_0 (x1 x2 x5 x6 : Value) (w : World) (Q : Value → World → Prop) : Prop := Part Try.prog 12 T12_0 [1, 2, 5, 6] [x1, x2, x5, x6] w Q
/-- rundale/rundalelaw25.says, from a loop's head on -/
def P12_1 (x1 x9 x10 x11 : Value) (w : World) (Q : Value → World → Prop) : Prop := Part Try.prog 12 T12_1 [1, 9, 10, 11] [x1, x9, x10, x11] w Q
/-- rundale/rundalelaw25.says, from a loop's head on -/
def P12_2 (x1 x12 : Value) (w : World) (Q : Value → World → Prop) : Prop := Part Try.prog 12 T12_2 [1, 12] [x1, x12] w Q
def F12 (a0 a1 : Value) (w : World) (Q : Value → World → Prop) : Prop :=
  effv Try.prog (Instr.box 25 a0) w fun t2 w =>
  (wpB (ldv Try.prog 25 t2 w.drew) fun t14 =>
  effv Try.prog (Builtin.append_ #[35, 35] 35 #[(.slice none 0 0), a1]) w.drew fun t16 w =>
  CallR Try.prog 9 [t14, t16] w fun t17 w =>
  wpB (pureRun Try.prog (Instr.extract t17 0)) fun t18 =>
  wpB (pureRun Try.prog (Instr.extract t17 1)) fun t19 =>
  P12_0 a1 t2 t18 t19 w Q) ∧
  (effv Try.prog (Builtin.append_ #[35, 35] 35 #[(.slice none 0 0), a1]) w.drew fun t16_1 w =>
  wpB (ldv Try.prog 25 t2 w) fun t14_1 =>
  CallR Try.prog 9 [t14_1, t16_1] w fun t17_1 w =>
  wpB (pureRun Try.prog (Instr.extract t17_1 0)) fun t18_1 =>
  wpB (pureRun Try.prog (Instr.extract t17_1 1)) fun t19_1 =>
  P12_0 a1 t2 t18_1 t19_1 w Q)
def L12_0 (x1 x2 x5 x6 : Value) (w : World) (Q : Value → World → Prop) : Prop :=
  wpB (ldv Try.prog 25 x2 w) fun t21 =>
  CallR Try.prog 28 [t21, x1] w fun t23 w =>
  wpB (pureRun Try.prog (Instr.extract t23 0)) fun t24 =>
  wpB (pureRun Try.prog (Instr.extract t23 1)) fun t25 =>
  wpB (be Try.prog .neq 3 (.tmp 26) (.tmp 27) x5 t24) fun t28 =>
  wpB (gd t28 false (be Try.prog .neq 4 (.tmp 30) (.tmp 31) (gv t28 false x6) (gv t28 false t25))) fun t32 =>
  wpB (pickv t28 (some (.bool true)) (some t32)) fun t33 =>
  cnd t33
  (Q (.bool false) w)
  (CallR Try.prog 11 [x1] w fun t35 w =>
  wpB (pureRun Try.prog (Op.unary .not t35)) fun t36 =>
  cnd t36
  (CallR Try.prog 20 [x1] w fun t38 w =>
  wpB (pureRun Try.prog (Builtin.len_ #[56] 3 #[t38])) fun t39 =>
  wpB (be Try.prog .eql 3 (.tmp 39) (.const (.int .i64 0)) t39 (.int .i64 0)) fun t40 =>
  gE t40 true (CallR Try.prog 16 [(gv t40 true x1), (.int .i64 0)] w) (fun t43 w =>
  wpB (gd t40 true (pureRun Try.prog (Instr.build 27 #[]))) fun t44 =>
  wpB (gd t40 true (be Try.prog .eql 27 (.tmp 43) (.tmp 44) t43 t44)) fun t45 =>
  wpB (pickv t40 (some t45) (some (.bool false))) fun t46 =>
  Q t46 w) w)
  (effv Try.prog (Builtin.append_ #[35, 35] 35 #[(.slice none 0 0), x1]) w fun t48 w =>
  CallR Try.prog 20 [t48] w fun t49 w =>
  CallR Try.prog 29 [x1] w fun t51 w =>
  wpB (pureRun Try.prog (Builtin.len_ #[56] 3 #[t49])) fun t53 =>
  wpB (pureRun Try.prog (Builtin.len_ #[65] 3 #[t51])) fun t55 =>
  wpB (be Try.prog .neq 3 (.tmp 53) (.tmp 55) t53 t55) fun t56 =>
  cnd t56
  (Q (.bool false) w)
  (P12_1 x1 t49 t51 (.int .i64 0) w Q)))
def L12_1 (x1 x9 x10 x11 : Value) (w : World) (Q : Value → World → Prop) : Prop :=
  wpB (pureRun Try.prog (Builtin.len_ #[56] 3 #[x9])) fun t59 =>
  wpB (bp Try.prog .lss 3 x11 t59) fun t60 =>
  cnd t60
  (wpB (pureRun Try.prog (Instr.indexAt 56 x9 x11)) fun t65 =>
  wpB (pureRun Try.prog (Instr.fieldAt 59 t65 0)) fun t66 =>
  wpB (ldv Try.prog 3 t66 w.drew) fun t67 =>
  wpB (pureRun Try.prog (Instr.indexAt 65 x10 x11)) fun t70 =>
  wpB (pureRun Try.prog (Instr.fieldAt 67 t70 0)) fun t71 =>
  wpB (ldv Try.prog 3 t71 w.drew) fun t72 =>
  wpB (be Try.prog .neq 3 (.tmp 67) (.tmp 72) t67 t72) fun t73 =>
  wpB (gd t73 false (pureRun Try.prog (Instr.indexAt 56 (gv t73 false x9) (gv t73 false x11)))) fun t77 =>
  wpB (gd t73 false (pureRun Try.prog (Instr.fieldAt 59 t77 1))) fun t78 =>
  wpB (gd t73 false (ldv Try.prog 3 t78 w.drew)) fun t79 =>
  wpB (gd t73 false (pureRun Try.prog (Instr.indexAt 65 (gv t73 false x10) (gv t73 false x11)))) fun t82 =>
  wpB (gd t73 false (pureRun Try.prog (Instr.fieldAt 67 t82 1))) fun t83 =>
  wpB (gd t73 false (ldv Try.prog 3 t83 w.drew)) fun t84 =>
  wpB (gd t73 false (be Try.prog .neq 3 (.tmp 79) (.tmp 84) t79 t84)) fun t85 =>
  wpB (pickv t73 (some (.bool true)) (some t85)) fun t86 =>
  wpB (gd t86 false (pureRun Try.prog (Instr.indexAt 56 (gv t86 false x9) (gv t86 false x11)))) fun t90 =>
  wpB (gd t86 false (pureRun Try.prog (Instr.fieldAt 59 t90 2))) fun t91 =>
  wpB (gd t86 false (ldv Try.prog 4 t91 w.drew)) fun t92 =>
  wpB (gd t86 false (pureRun Try.prog (Instr.indexAt 65 (gv t86 false x10) (gv t86 false x11)))) fun t95 =>
  wpB (gd t86 false (pureRun Try.prog (Instr.fieldAt 67 t95 2))) fun t96 =>
  wpB (gd t86 false (ldv Try.prog 4 t96 w.drew)) fun t97 =>
  wpB (gd t86 false (be Try.prog .neq 4 (.tmp 92) (.tmp 97) t92 t97)) fun t98 =>
  wpB (pickv t86 (some (.bool true)) (some t98)) fun t99 =>
  cnd t99
  (Q (.bool false) w.drew)
  (wpB (bp Try.prog .add 3 x11 (.int .i64 1)) fun t62 =>
  P12_1 x1 x9 x10 t62 w.drew Q))
  (P12_2 x1 (.int .i64 (-1)) w Q)
def L12_2 (x1 x12 : Value) (w : World) (Q : Value → World → Prop) : Prop :=
  wpB (pureRun Try.prog (Builtin.len_ #[35] 3 #[x1])) fun t102 =>
  wpB (bp Try.prog .leq 3 x12 t102) fun t103 =>
  cnd t103
  (CallR Try.prog 16 [x1, x12] w fun t108 w =>
  CallR Try.prog 30 [x1, x12] w fun t111 w =>
  wpB (be Try.prog .neq 27 (.tmp 108) (.tmp 111) t108 t111) fun t112 =>
  cnd t112
  (Q (.bool false) w)
  (wpB (bp Try.prog .add 3 x12 (.int .i64 1)) fun t105 =>
  P12_2 x1 t105 w Q))
  (Q (.bool true) w)
theorem F12_ok {a0 a1 : Value} {w : World} {Q : Value → World → Prop} (h : F12 a0 a1 w Q) : CallR Try.prog 12 [a0, a1] w Q :=
  call_ofE mixed entOk Try.func12 (c := C12) rfl H12 (Nat.le_of_ble_eq_true rfl) (by kernel_rfl) h
theorem L12_0_ok {x1 x2 x5 x6 : Value} {w : World} {Q : Value → World → Prop} (h : L12_0 x1 x2 x5 x6 w Q) : P12_0 x1 x2 x5 x6 w Q :=
  part_jnE mixed entOk Try.func12 H12 (by kernel_rfl) h
theorem L12_1_ok {x1 x9 x10 x11 : Value} {w : World} {Q : Value → World → Prop} (h : L12_1 x1 x9 x10 x11 w Q) : P12_1 x1 x9 x10 x11 w Q :=
  part_lpE mixed entOk Try.func12 H12 (by kernel_rfl) h
theorem L12_2_ok {x1 x12 : Value} {w : World} {Q : Value → World → Prop} (h : L12_2 x1 x12 w Q) : P12_2 x1 x12 w Q :=
  part_lpE mixed entOk Try.func12 H12 (by kernel_rfl) h

noncomputable def C13 : Code := (Try.f13.body).getD .skip
noncomputable def H13 : Hints := ⟨[], [], [(1, (.ext [0, 4, 8, 13, 17, 20, 1, 5, 9, 14, 18, 21, 2, 3, 6, 7, 10, 11, 12, 15, 16, 19, 22, 23, 24, 25]))]⟩
def F13 (a0 : Value) (w : World) (Q : Value → World → Prop) : Prop :=
  effv Try.prog (Instr.box 25 a0) w fun t1 w =>
  effv Try.prog (Instr.alloc 25 true (.tuple #[])) w fun t2 w =>
  wpB (pureRun Try.prog (Instr.fieldAt 25 t1 0)) fun t3 =>
  wpB (pureRun Try.prog (Instr.fieldAt 25 t1 1)) fun t7 =>
  wpB (pureRun Try.prog (Instr.fieldAt 25 t1 2)) fun t11 =>
  wpB (pureRun Try.prog (Instr.fieldAt 25 t1 3)) fun t16 =>
  wpB (pureRun Try.prog (Instr.fieldAt 25 t1 4)) fun t20 =>
  wpB (pureRun Try.prog (Instr.fieldAt 25 t1 5)) fun t23 =>
  wpB (ldv Try.prog 3 t3 w.drew) fun t4 =>
  wpB (ldv Try.prog 3 t7 w.drew) fun t8 =>
  wpB (ldv Try.prog 3 t11 w.drew) fun t12 =>
  wpB (ldv Try.prog 3 t16 w.drew) fun t17 =>
  wpB (ldv Try.prog 3 t20 w.drew) fun t21 =>
  wpB (ldv Try.prog 3 t23 w.drew) fun t24 =>
  CallX Try.prog 7 [t4, (.int .i64 4)] w.drew fun t5 w =>
  wpB (bp Try.prog .add 3 (.int .i64 1) t5) fun t6 =>
  CallX Try.prog 7 [t8, (.int .i64 8)] w fun t9 w =>
  wpB (bp Try.prog .add 3 (.int .i64 1) t9) fun t10 =>
  CallX Try.prog 7 [t12, (.int .i64 2)] w fun t13 w =>
  wpB (bp Try.prog .mul 3 (.int .i64 8) t13) fun t14 =>
  wpB (bp Try.prog .add 3 (.int .i64 8) t14) fun t15 =>
  CallX Try.prog 7 [t17, (.int .i64 4)] w fun t18 w =>
  wpB (bp Try.prog .add 3 (.int .i64 1) t18) fun t19 =>
  CallX Try.prog 7 [t21, (.int .i64 4)] w fun t22 w =>
  CallX Try.prog 7 [t24, (.int .i64 3)] w fun t25 w =>
  wpB (bp Try.prog .add 3 (.int .i64 1) t25) fun t26 =>
  wpB (pureRun Try.prog (Instr.build 25 #[(0, t6), (1, t10), (2, t15), (3, t19), (4, t22), (5, t26)])) fun t27 =>
  effu Try.prog (Instr.storeAt 25 t2 t27) w fun w =>
  wpB (ldv Try.prog 25 t2 w) fun r2 => Q r2 w
theorem F13_ok {a0 : Value} {w : World} {Q : Value → World → Prop} (h : F13 a0 w Q) : CallR Try.prog 13 [a0] w Q :=
  call_ofE mixed entOk Try.func13 (c := C13) rfl H13 (Nat.le_of_ble_eq_true rfl) (by kernel_rfl) h

noncomputable def C14 : Code := (Try.f14.body).getD .skip
noncomputable def H14 : Hints := ⟨[], [], []⟩
def F14 (a0 : Value) (w : World) (Q : Value → World → Prop) : Prop :=
  effv Try.prog (Instr.box 25 a0) w fun t1 w =>
  wpB (pureRun Try.prog (Instr.fieldAt 25 t1 0)) fun t3 =>
  wpB (ldv Try.prog 3 t3 w) fun t4 =>
  CallR Try.prog 31 [t4, (.int .i64 1), (.int .i64 64)] w fun t5 w =>
  wpB (gd t5 true (pureRun Try.prog (Instr.fieldAt 25 t1 1))) fun t7 =>
  wpB (gd t5 true (ldv Try.prog 3 t7 w)) fun t8 =>
  gE t5 true (CallR Try.prog 31 [t8, (.int .i64 1), (.int .i64 4096)] w) (fun t9 w =>
  wpB (pickv t5 (some t9) (some (.bool false))) fun t10 =>
  wpB (gd t10 true (pureRun Try.prog (Instr.fieldAt 25 t1 2))) fun t12 =>
  wpB (gd t10 true (ldv Try.prog 3 t12 w)) fun t13 =>
  gE t10 true (CallR Try.prog 31 [t13, (.int .i64 8), (.int .i64 1024)] w) (fun t14 w =>
  wpB (pickv t10 (some t14) (some (.bool false))) fun t15 =>
  wpB (gd t15 true (pureRun Try.prog (Instr.fieldAt 25 t1 2))) fun t17 =>
  wpB (gd t15 true (ldv Try.prog 3 t17 w)) fun t18 =>
  wpB (gd t15 true (bp Try.prog .rem 3 t18 (.int .i64 8))) fun t19 =>
  wpB (gd t15 true (be Try.prog .eql 3 (.tmp 19) (.const (.int .i64 0)) t19 (.int .i64 0))) fun t20 =>
  wpB (pickv t15 (some t20) (some (.bool false))) fun t21 =>
  wpB (gd t21 true (pureRun Try.prog (Instr.fieldAt 25 t1 3))) fun t23 =>
  wpB (gd t21 true (ldv Try.prog 3 t23 w)) fun t24 =>
  gE t21 true (CallR Try.prog 31 [t24, (.int .i64 1), (.int .i64 4096)] w) (fun t25 w =>
  wpB (pickv t21 (some t25) (some (.bool false))) fun t26 =>
  wpB (gd t26 true (pureRun Try.prog (Instr.fieldAt 25 t1 4))) fun t28 =>
  wpB (gd t26 true (ldv Try.prog 3 t28 w)) fun t29 =>
  gE t26 true (CallR Try.prog 31 [t29, (.int .i64 0), (.int .i64 64)] w) (fun t30 w =>
  wpB (pickv t26 (some t30) (some (.bool false))) fun t31 =>
  wpB (gd t31 true (pureRun Try.prog (Instr.fieldAt 25 t1 5))) fun t33 =>
  wpB (gd t31 true (ldv Try.prog 3 t33 w)) fun t34 =>
  gE t31 true (CallR Try.prog 31 [t34, (.int .i64 1), (.int .i64 8)] w) (fun t35 w =>
  wpB (pickv t31 (some t35) (some (.bool false))) fun t36 =>
  Q t36 w) w) w) w) w) w
theorem F14_ok {a0 : Value} {w : World} {Q : Value → World → Prop} (h : F14 a0 w Q) : CallR Try.prog 14 [a0] w Q :=
  call_ofE mixed entOk Try.func14 (c := C14) rfl H14 (Nat.le_of_ble_eq_true rfl) (by kernel_rfl) h

noncomputable def C15 : Code := (Try.f15.body).getD .skip
noncomputable def H15 : Hints := ⟨[(2, [0, 6, 7, 8]), (7, [0, 4, 6, 7, 8, 31, 32])], [], [(4, (.leaf [0, 1, 2, 3, 4, 5, 6, 7, 8, 9, 10, 11, 12, 13, 14, 15, 16, 17])), (9, (.leaf [0, 1, 2, 3, 4, 5, 6, 7, 8, 9, 10, 11, 12, 13, 14, 15, 16, 17, 18, 19, 20, 21, 22, 23, 24, 25, 26, 27, 28, 29, 30, 31, 32, 33, 34]))]⟩
noncomputable def T15_0 : List It := [.lp (nav [1, 0, 1, 4, 5] C15), .blk 0, .jn (nav [1, 1] C15)]
noncomputable def T15_1 : List It := [.lp (nav [1, 0, 1, 4, 5, 1, 1, 0, 4, 1, 1, 1, 4, 5] C15), .blk 2, .blk 1, .jn (nav [1, 0, 1, 4, 5, 1, 1, 1] C15), .lp (nav [1, 0, 1, 4, 5] C15), .blk 0, .jn (nav [1, 1] C15)]
/-- rundale/record.May, from a loop's head on -/
def P15_0 (x0 x6 x7 x8 : Value) (w : World) (Q : Value → World → Prop) : Prop := Part Try.prog 15 T15_0 [0, 6, 7, 8] [x0, x6, x7, x8] w Q
/-- rundale/record.May, from a loop's head on -/
def P15_1 (x0 x4 x6 x7 x8 x31 x32 : Value) (w : World) (Q : Value → World → Prop) : Prop := Part Try.prog 15 T15_1 [0, 4, 6, 7, 8, 31, 32] [x0, x4, x6, x7, x8, x31, x32] w Q
def F15 (a0 : Value) (w : World) (Q : Value → World → Prop) : Prop :=
  wpB (pureRun Try.prog (Builtin.len_ #[35] 3 #[a0])) fun t7 =>
  P15_0 a0 a0 t7 (.int .i64 0) w Q
def L15_0 (x0 x6 x7 x8 : Value) (w : World) (Q : Value → World → Prop) : Prop :=
  wpB (bp Try.prog .lss 3 x8 x7) fun t9 =>
  cnd t9
  (wpB (pureRun Try.prog (Instr.indexAt 35 x6 x8)) fun t11 =>
  wpB (ldv Try.prog 34 t11 w) fun t12 =>
  effv Try.prog (Instr.alloc 34 true (.tuple #[])) w fun t4 w =>
  effu Try.prog (Instr.storeAt 34 t4 t12) w fun w =>
  wpB (ldv Try.prog 34 t4 w.drew) fun t13 =>
  CallR Try.prog 32 [t13] w.drew fun t14 w =>
  wpB (pureRun Try.prog (Op.unary .not t14)) fun t15 =>
  wpB (gd t15 false (bp Try.prog .gtr 3 (gv t15 false x8) (.int .i64 0))) fun t18 =>
  wpB (gd (gv t15 false t18) true (pureRun Try.prog (Instr.fieldAt 34 t4 3))) fun t20 =>
  wpB (gd (gv t15 false t18) true (ldv Try.prog 3 t20 w)) fun t21 =>
  wpB (gd (gv t15 false t18) true (bp Try.prog .sub 3 (gv (gv t15 false t18) true x8) (.int .i64 1))) fun t24 =>
  wpB (gd (gv t15 false t18) true (pureRun Try.prog (Instr.indexAt 35 (gv (gv t15 false t18) true x0) t24))) fun t25 =>
  wpB (gd (gv t15 false t18) true (pureRun Try.prog (Instr.fieldAt 34 t25 3))) fun t26 =>
  wpB (gd (gv t15 false t18) true (ldv Try.prog 3 t26 w)) fun t27 =>
  wpB (gd (gv t15 false t18) true (bp Try.prog .leq 3 t21 t27)) fun t28 =>
  wpB (gd t15 false (pickv (gv t15 false t18) (some t28) (some (.bool false)))) fun t29 =>
  wpB (pickv t15 (some (.bool true)) (some t29)) fun t30 =>
  cnd t30
  (Q (.bool false) w)
  (P15_1 x0 t4 x6 x7 x8 x8 (.int .i64 0) w Q))
  (Q (.bool true) w)
def L15_1 (x0 x4 x6 x7 x8 x31 x32 : Value) (w : World) (Q : Value → World → Prop) : Prop :=
  wpB (bp Try.prog .lss 3 x32 x31) fun t33 =>
  cnd t33
  (wpB (pureRun Try.prog (Instr.indexAt 35 x0 x32)) fun t37 =>
  wpB (pureRun Try.prog (Instr.fieldAt 34 t37 0)) fun t38 =>
  wpB (ldv Try.prog 3 t38 w.drew) fun t39 =>
  wpB (pureRun Try.prog (Instr.fieldAt 34 x4 0)) fun t40 =>
  wpB (ldv Try.prog 3 t40 w.drew) fun t41 =>
  wpB (be Try.prog .eql 3 (.tmp 39) (.tmp 41) t39 t41) fun t42 =>
  wpB (gd t42 true (pureRun Try.prog (Instr.indexAt 35 (gv t42 true x0) (gv t42 true x32)))) fun t46 =>
  wpB (gd t42 true (ldv Try.prog 34 t46 w.drew)) fun t47 =>
  wpB (gd t42 true (ldv Try.prog 34 x4 w.drew)) fun t48 =>
  gE t42 true (CallR Try.prog 33 [t47, t48] w.drew) (fun t49 w =>
  wpB (gd t42 true (pureRun Try.prog (Op.unary .not t49))) fun t50 =>
  wpB (gd (gv t42 true t50) false (pureRun Try.prog (Instr.fieldAt 34 x4 1))) fun t52 =>
  wpB (gd (gv t42 true t50) false (ldv Try.prog 3 t52 w)) fun t53 =>
  wpB (gd (gv t42 true t50) false (pureRun Try.prog (Instr.indexAt 35 (gv (gv t42 true t50) false x0) (gv (gv t42 true t50) false x32)))) fun t56 =>
  wpB (gd (gv t42 true t50) false (pureRun Try.prog (Instr.fieldAt 34 t56 1))) fun t57 =>
  wpB (gd (gv t42 true t50) false (ldv Try.prog 3 t57 w)) fun t58 =>
  wpB (gd (gv t42 true t50) false (bp Try.prog .leq 3 t53 t58)) fun t59 =>
  wpB (gd t42 true (pickv (gv t42 true t50) (some (.bool true)) (some t59))) fun t60 =>
  wpB (pickv t42 (some t60) (some (.bool false))) fun t61 =>
  wpB (gd t61 false (pureRun Try.prog (Instr.indexAt 35 (gv t61 false x0) (gv t61 false x32)))) fun t65 =>
  wpB (gd t61 false (ldv Try.prog 34 t65 w)) fun t66 =>
  wpB (gd t61 false (ldv Try.prog 34 x4 w)) fun t67 =>
  gE t61 false (CallR Try.prog 34 [t66, t67] w) (fun t68 w =>
  wpB (pickv t61 (some (.bool true)) (some t68)) fun t69 =>
  cnd t69
  (Q (.bool false) w)
  (wpB (bp Try.prog .add 3 x32 (.int .i64 1)) fun t70 =>
  P15_1 x0 x4 x6 x7 x8 x31 t70 w Q)) w) w.drew)
  (wpB (bp Try.prog .add 3 x8 (.int .i64 1)) fun t71 =>
  P15_0 x0 x6 x7 t71 w Q)
theorem F15_ok {a0 : Value} {w : World} {Q : Value → World → Prop} (h : F15 a0 w Q) : CallR Try.prog 15 [a0] w Q :=
  call_ofE mixed entOk Try.func15 (c := C15) rfl H15 (Nat.le_of_ble_eq_true rfl) (by kernel_rfl) h
theorem L15_0_ok {x0 x6 x7 x8 : Value} {w : World} {Q : Value → World → Prop} (h : L15_0 x0 x6 x7 x8 w Q) : P15_0 x0 x6 x7 x8 w Q :=
  part_lpE mixed entOk Try.func15 H15 (by kernel_rfl) h
theorem L15_1_ok {x0 x4 x6 x7 x8 x31 x32 : Value} {w : World} {Q : Value → World → Prop} (h : L15_1 x0 x4 x6 x7 x8 x31 x32 w Q) : P15_1 x0 x4 x6 x7 x8 x31 x32 w Q :=
  part_lpE mixed entOk Try.func15 H15 (by kernel_rfl) h

noncomputable def C16 : Code := (Try.f16.body).getD .skip
noncomputable def H16 : Hints := ⟨[], [], []⟩
def F16 (a0 a1 : Value) (w : World) (Q : Value → World → Prop) : Prop :=
  effv Try.prog (Instr.alloc 27 true (.tuple #[])) w fun t4 w =>
  wpB (bp Try.prog .lss 3 a1 (.int .i64 0)) fun t6 =>
  wpB (gd t6 false (pureRun Try.prog (Builtin.len_ #[35] 3 #[(gv t6 false a0)]))) fun t10 =>
  wpB (gd t6 false (bp Try.prog .geq 3 (gv t6 false a1) t10)) fun t11 =>
  wpB (pickv t6 (some (.bool true)) (some t11)) fun t12 =>
  gE t12 false (CallR Try.prog 15 [(gv t12 false a0)] w) (fun t15 w =>
  wpB (gd t12 false (pureRun Try.prog (Op.unary .not t15))) fun t16 =>
  wpB (pickv t12 (some (.bool true)) (some t16)) fun t17 =>
  cnd t17
  (wpB (pureRun Try.prog (Instr.build 27 #[])) fun t18 =>
  effu Try.prog (Instr.storeAt 27 t4 t18) w fun w =>
  wpB (ldv Try.prog 27 t4 w) fun r4 => Q r4 w)
  (CallR Try.prog 21 [a0, a1] w fun t21 w =>
  effu Try.prog (Instr.storeAt 27 t4 t21) w fun w =>
  wpB (ldv Try.prog 27 t4 w) fun r4_1 => Q r4_1 w)) w
theorem F16_ok {a0 a1 : Value} {w : World} {Q : Value → World → Prop} (h : F16 a0 a1 w Q) : CallR Try.prog 16 [a0, a1] w Q :=
  call_ofE mixed entOk Try.func16 (c := C16) rfl H16 (Nat.le_of_ble_eq_true rfl) (by kernel_rfl) h

noncomputable def C19 : Code := (Try.f19.body).getD .skip
noncomputable def H19 : Hints := ⟨[], [], [(3, (.ask 3 6 (.leaf [1, 4, 0, 2, 5, 3, 6, 7, 8, 9, 10]) (.leaf [1, 4, 0, 2, 5, 6, 3, 7, 8, 9, 10])))]⟩
def F19 (a0 : Value) (w : World) (Q : Value → World → Prop) : Prop :=
  effv Try.prog (Instr.box 25 a0) w fun t1 w =>
  wpB (ldv Try.prog 25 t1 w) fun t4 =>
  CallR Try.prog 14 [t4] w fun t5 w =>
  wpB (pureRun Try.prog (Op.unary .not t5)) fun t6 =>
  cnd t6
  (Q (.tuple #[(.pointer none), (.int .i64 1)]) w)
  ((wpB (pureRun Try.prog (Instr.fieldAt 25 t1 3)) fun t8 =>
  wpB (pureRun Try.prog (Instr.fieldAt 25 t1 0)) fun t11 =>
  wpB (ldv Try.prog 25 t1 w.drew) fun t7 =>
  wpB (ldv Try.prog 3 t8 w.drew) fun t9 =>
  wpB (ldv Try.prog 3 t11 w.drew) fun t12 =>
  effv Try.prog (Instr.makeSlice 68 t9 t9) w.drew fun t10 w =>
  effv Try.prog (Instr.makeSlice 70 t12 t12) w fun t13 w =>
  wpB (pureRun Try.prog (Instr.build 72 #[(0, t7), (2, t10), (4, t13)])) fun t14 =>
  effv Try.prog (Instr.box 72 t14) w fun t15 w =>
  Q (.tuple #[t15, (.int .i64 0)]) w) ∧
  (wpB (pureRun Try.prog (Instr.fieldAt 25 t1 3)) fun t8_1 =>
  wpB (pureRun Try.prog (Instr.fieldAt 25 t1 0)) fun t11_1 =>
  wpB (ldv Try.prog 25 t1 w.drew) fun t7_1 =>
  wpB (ldv Try.prog 3 t8_1 w.drew) fun t9_1 =>
  wpB (ldv Try.prog 3 t11_1 w.drew) fun t12_1 =>
  effv Try.prog (Instr.makeSlice 70 t12_1 t12_1) w.drew fun t13_1 w =>
  effv Try.prog (Instr.makeSlice 68 t9_1 t9_1) w fun t10_1 w =>
  wpB (pureRun Try.prog (Instr.build 72 #[(0, t7_1), (2, t10_1), (4, t13_1)])) fun t14_1 =>
  effv Try.prog (Instr.box 72 t14_1) w fun t15_1 w =>
  Q (.tuple #[t15_1, (.int .i64 0)]) w))
theorem F19_ok {a0 : Value} {w : World} {Q : Value → World → Prop} (h : F19 a0 w Q) : CallR Try.prog 19 [a0] w Q :=
  call_ofE mixed entOk Try.func19 (c := C19) rfl H19 (Nat.le_of_ble_eq_true rfl) (by kernel_rfl) h

noncomputable def C20 : Code := (Try.f20.body).getD .skip
noncomputable def H20 : Hints := ⟨[(5, [3, 9, 10, 11])], [(9, [3, 4, 5, 9, 10, 11]), (11, [3, 9, 10, 11])], []⟩
noncomputable def T20_0 : List It := [.lp (nav [1, 1, 1, 0, 1, 4, 5] C20), .blk 0, .jn (nav [1, 1, 1, 1] C20)]
noncomputable def T20_1 : List It := [.jn (nav [1, 1, 1, 0, 1, 4, 5, 1, 1, 0, 4, 1, 1] C20), .blk 1, .jn (nav [1, 1, 1, 0, 1, 4, 5, 1, 1, 1] C20), .lp (nav [1, 1, 1, 0, 1, 4, 5] C20), .blk 0, .jn (nav [1, 1, 1, 1] C20)]
noncomputable def T20_2 : List It := [.jn (nav [1, 1, 1, 0, 1, 4, 5, 1, 1, 1] C20), .lp (nav [1, 1, 1, 0, 1, 4, 5] C20), .blk 0, .jn (nav [1, 1, 1, 1] C20)]
/-- rundale/order.Sort, from a loop's head on -/
def P20_0 (x3 x9 x10 x11 : Value) (w : World) (Q : Value → World → Prop) : Prop := Part Try.prog 20 T20_0 [3, 9, 10, 11] [x3, x9, x10, x11] w Q
/-- rundale/order.Sort, from a join on -/
def P20_1 (x3 x4 x5 x9 x10 x11 : Value) (w : World) (Q : Value → World → Prop) : Prop := Part Try.prog 20 T20_1 [3, 4, 5, 9, 10, 11] [x3, x4, x5, x9, x10, x11] w Q
/-- rundale/order.Sort, from a join on -/
def P20_2 (x3 x9 x10 x11 : Value) (w : World) (Q : Value → World → Prop) : Prop := Part Try.prog 20 T20_2 [3, 9, 10, 11] [x3, x9, x10, x11] w Q
def F20 (a0 : Value) (w : World) (Q : Value → World → Prop) : Prop :=
  CallR Try.prog 15 [a0] w fun t7 w =>
  wpB (pureRun Try.prog (Op.unary .not t7)) fun t8 =>
  cnd t8
  (Q (.slice none 0 0) w)
  (wpB (pureRun Try.prog (Builtin.len_ #[35] 3 #[a0])) fun t10 =>
  P20_0 (.slice none 0 0) a0 t10 (.int .i64 0) w Q)
def L20_0 (x3 x9 x10 x11 : Value) (w : World) (Q : Value → World → Prop) : Prop :=
  wpB (bp Try.prog .lss 3 x11 x10) fun t12 =>
  cnd t12
  (wpB (pureRun Try.prog (Instr.indexAt 35 x9 x11)) fun t14 =>
  wpB (ldv Try.prog 34 t14 w) fun t15 =>
  effv Try.prog (Instr.alloc 34 true (.tuple #[])) w fun t5 w =>
  effu Try.prog (Instr.storeAt 34 t5 t15) w fun w =>
  wpB (pureRun Try.prog (Instr.fieldAt 34 t5 4)) fun t16 =>
  wpB (ldv Try.prog 3 t16 w) fun t17 =>
  wpB (bp Try.prog .geq 3 t17 (.int .i64 0)) fun t18 =>
  cnd t18
  (wpB (pureRun Try.prog (Instr.fieldAt 34 t5 4)) fun t20 =>
  wpB (ldv Try.prog 3 t20 w) fun t21 =>
  wpB (pureRun Try.prog (Instr.build 59 #[(0, t21), (1, x11)])) fun t23 =>
  effv Try.prog (Instr.buildSlice 56 1 #[(0, t23)]) w fun t24 w =>
  effv Try.prog (Builtin.append_ #[56, 56] 56 #[x3, t24]) w fun t25 w =>
  P20_1 t25 x11 t5 x9 x10 x11 w Q)
  (P20_1 x3 x11 t5 x9 x10 x11 w Q))
  (CallR Try.prog 39 [x3, (.func (.func 40) #[] #[])] w fun t38 w =>
  Q x3 w)
def L20_1 (x3 x4 x5 x9 x10 x11 : Value) (w : World) (Q : Value → World → Prop) : Prop :=
  wpB (pureRun Try.prog (Instr.fieldAt 34 x5 5)) fun t26 =>
  wpB (ldv Try.prog 3 t26 w) fun t27 =>
  wpB (bp Try.prog .geq 3 t27 (.int .i64 0)) fun t28 =>
  cnd t28
  (wpB (pureRun Try.prog (Instr.fieldAt 34 x5 5)) fun t30 =>
  wpB (ldv Try.prog 3 t30 w) fun t31 =>
  wpB (pureRun Try.prog (Instr.build 59 #[(0, t31), (1, x4), (2, (.bool true))])) fun t33 =>
  effv Try.prog (Instr.buildSlice 56 1 #[(0, t33)]) w fun t34 w =>
  effv Try.prog (Builtin.append_ #[56, 56] 56 #[x3, t34]) w fun t35 w =>
  P20_2 t35 x9 x10 x11 w Q)
  (P20_2 x3 x9 x10 x11 w Q)
def L20_2 (x3 x9 x10 x11 : Value) (w : World) (Q : Value → World → Prop) : Prop :=
  wpB (bp Try.prog .add 3 x11 (.int .i64 1)) fun t36 =>
  P20_0 x3 x9 x10 t36 w Q
theorem F20_ok {a0 : Value} {w : World} {Q : Value → World → Prop} (h : F20 a0 w Q) : CallR Try.prog 20 [a0] w Q :=
  call_ofE mixed entOk Try.func20 (c := C20) rfl H20 (Nat.le_of_ble_eq_true rfl) (by kernel_rfl) h
theorem L20_0_ok {x3 x9 x10 x11 : Value} {w : World} {Q : Value → World → Prop} (h : L20_0 x3 x9 x10 x11 w Q) : P20_0 x3 x9 x10 x11 w Q :=
  part_lpE mixed entOk Try.func20 H20 (by kernel_rfl) h
theorem L20_1_ok {x3 x4 x5 x9 x10 x11 : Value} {w : World} {Q : Value → World → Prop} (h : L20_1 x3 x4 x5 x9 x10 x11 w Q) : P20_1 x3 x4 x5 x9 x10 x11 w Q :=
  part_jnE mixed entOk Try.func20 H20 (by kernel_rfl) h
theorem L20_2_ok {x3 x9 x10 x11 : Value} {w : World} {Q : Value → World → Prop} (h : L20_2 x3 x9 x10 x11 w Q) : P20_2 x3 x9 x10 x11 w Q :=
  part_jnE mixed entOk Try.func20 H20 (by kernel_rfl) h

noncomputable def C21 : Code := (Try.f21.body).getD .skip
noncomputable def H21 : Hints := ⟨[(5, [0, 1, 4, 5, 18, 19, 20])], [], [(7, (.leaf [0, 1, 2, 3, 4, 5, 6, 7, 8, 9, 10, 11, 12, 13, 14, 15, 16, 17, 18, 19, 20, 21, 22, 23, 24, 25, 26, 27, 28, 29, 30, 31, 32, 33, 34, 35, 36, 37]))]⟩
noncomputable def T21_0 : List It := [.lp (nav [1, 1, 1, 0, 1, 4, 5] C21), .blk 0, .jn (nav [1, 1, 1, 1] C21)]
/-- rundale/order.handle, from a loop's head on -/
def P21_0 (x0 x1 x4 x5 x18 x19 x20 : Value) (w : World) (Q : Value → World → Prop) : Prop := Part Try.prog 21 T21_0 [0, 1, 4, 5, 18, 19, 20] [x0, x1, x4, x5, x18, x19, x20] w Q
def F21 (a0 a1 : Value) (w : World) (Q : Value → World → Prop) : Prop :=
  effv Try.prog (Instr.alloc 27 true (.tuple #[])) w fun t4 w =>
  wpB (pureRun Try.prog (Instr.indexAt 35 a0 a1)) fun t10 =>
  wpB (pureRun Try.prog (Instr.fieldAt 34 t10 2)) fun t11 =>
  wpB (ldv Try.prog 29 t11 w) fun t12 =>
  effv Try.prog (Instr.alloc 29 true (.tuple #[])) w fun t5 w =>
  effu Try.prog (Instr.storeAt 29 t5 t12) w fun w =>
  wpB (pureRun Try.prog (Instr.fieldAt 29 t5 0)) fun t13 =>
  wpB (ldv Try.prog 3 t13 w) fun t14 =>
  CallR Try.prog 42 [t14] w fun t15 w =>
  wpB (be Try.prog .eql 3 (.tmp 15) (.const (.int .i64 0)) t15 (.int .i64 0)) fun t16 =>
  cnd t16
  (wpB (pureRun Try.prog (Instr.build 27 #[])) fun t17 =>
  effu Try.prog (Instr.storeAt 27 t4 t17) w fun w =>
  wpB (ldv Try.prog 27 t4 w) fun r4 => Q r4 w)
  (wpB (pureRun Try.prog (Builtin.len_ #[35] 3 #[a0])) fun t19 =>
  P21_0 a0 a1 t4 t5 a0 t19 (.int .i64 0) w Q)
def L21_0 (x0 x1 x4 x5 x18 x19 x20 : Value) (w : World) (Q : Value → World → Prop) : Prop :=
  wpB (bp Try.prog .lss 3 x20 x19) fun t21 =>
  cnd t21
  (wpB (pureRun Try.prog (Instr.indexAt 35 x18 x20)) fun t22 =>
  wpB (ldv Try.prog 34 t22 w) fun t23 =>
  effv Try.prog (Instr.alloc 34 true (.tuple #[])) w fun t7 w =>
  effu Try.prog (Instr.storeAt 34 t7 t23) w fun w =>
  wpB (pureRun Try.prog (Instr.fieldAt 34 t7 0)) fun t24 =>
  wpB (ldv Try.prog 3 t24 w.drew) fun t25 =>
  wpB (pureRun Try.prog (Instr.fieldAt 29 x5 1)) fun t26 =>
  wpB (ldv Try.prog 3 t26 w.drew) fun t27 =>
  wpB (be Try.prog .eql 3 (.tmp 25) (.tmp 27) t25 t27) fun t28 =>
  wpB (gd t28 true (pureRun Try.prog (Instr.fieldAt 34 t7 1))) fun t30 =>
  wpB (gd t28 true (ldv Try.prog 3 t30 w.drew)) fun t31 =>
  wpB (gd t28 true (pureRun Try.prog (Instr.fieldAt 29 x5 2))) fun t32 =>
  wpB (gd t28 true (ldv Try.prog 3 t32 w.drew)) fun t33 =>
  wpB (gd t28 true (be Try.prog .eql 3 (.tmp 31) (.tmp 33) t31 t33)) fun t34 =>
  wpB (pickv t28 (some t34) (some (.bool false))) fun t35 =>
  wpB (gd t35 true (pureRun Try.prog (Instr.fieldAt 34 t7 2))) fun t37 =>
  wpB (gd t35 true (pureRun Try.prog (Instr.fieldAt 29 t37 0))) fun t38 =>
  wpB (gd t35 true (ldv Try.prog 3 t38 w.drew)) fun t39 =>
  wpB (gd t35 true (be Try.prog .eql 3 (.tmp 39) (.const (.int .i64 1)) t39 (.int .i64 1))) fun t40 =>
  wpB (gd (gv t35 true t40) false (pureRun Try.prog (Instr.fieldAt 34 t7 2))) fun t42 =>
  wpB (gd (gv t35 true t40) false (pureRun Try.prog (Instr.fieldAt 29 t42 0))) fun t43 =>
  wpB (gd (gv t35 true t40) false (ldv Try.prog 3 t43 w.drew)) fun t44 =>
  wpB (gd (gv t35 true t40) false (be Try.prog .eql 3 (.tmp 44) (.const (.int .i64 2)) t44 (.int .i64 2))) fun t45 =>
  wpB (gd t35 true (pickv (gv t35 true t40) (some (.bool true)) (some t45))) fun t46 =>
  wpB (pickv t35 (some t46) (some (.bool false))) fun t47 =>
  wpB (gd t47 true (pureRun Try.prog (Instr.fieldAt 34 t7 7))) fun t49 =>
  wpB (gd t47 true (pureRun Try.prog (Instr.fieldAt 32 t49 0))) fun t50 =>
  wpB (gd t47 true (ldv Try.prog 30 t50 w.drew)) fun t51 =>
  wpB (gd t47 true (be Try.prog .eql 30 (.tmp 51) (.const (.int .i64 0)) t51 (.int .i64 0))) fun t52 =>
  wpB (pickv t47 (some t52) (some (.bool false))) fun t53 =>
  wpB (gd t53 true (ldv Try.prog 34 t7 w.drew)) fun t55 =>
  wpB (gd t53 true (pureRun Try.prog (Instr.indexAt 35 (gv t53 true x0) (gv t53 true x1)))) fun t58 =>
  wpB (gd t53 true (ldv Try.prog 34 t58 w.drew)) fun t59 =>
  gE t53 true (CallR Try.prog 33 [t55, t59] w.drew) (fun t60 w =>
  wpB (pickv t53 (some t60) (some (.bool false))) fun t61 =>
  cnd t61
  (wpB (pureRun Try.prog (Instr.fieldAt 34 t7 7)) fun t62 =>
  wpB (pureRun Try.prog (Instr.fieldAt 32 t62 1)) fun t63 =>
  wpB (ldv Try.prog 27 t63 w) fun t64 =>
  effu Try.prog (Instr.storeAt 27 x4 t64) w fun w =>
  wpB (ldv Try.prog 27 x4 w) fun r4 => Q r4 w)
  (wpB (bp Try.prog .add 3 x20 (.int .i64 1)) fun t65 =>
  P21_0 x0 x1 x4 x5 x18 x19 t65 w Q)) w.drew)
  (wpB (pureRun Try.prog (Instr.build 27 #[])) fun t66 =>
  effu Try.prog (Instr.storeAt 27 x4 t66) w fun w =>
  wpB (ldv Try.prog 27 x4 w) fun r4_1 => Q r4_1 w)
theorem F21_ok {a0 a1 : Value} {w : World} {Q : Value → World → Prop} (h : F21 a0 a1 w Q) : CallR Try.prog 21 [a0, a1] w Q :=
  call_ofE mixed entOk Try.func21 (c := C21) rfl H21 (Nat.le_of_ble_eq_true rfl) (by kernel_rfl) h
theorem L21_0_ok {x0 x1 x4 x5 x18 x19 x20 : Value} {w : World} {Q : Value → World → Prop} (h : L21_0 x0 x1 x4 x5 x18 x19 x20 w Q) : P21_0 x0 x1 x4 x5 x18 x19 x20 w Q :=
  part_lpE mixed entOk Try.func21 H21 (by kernel_rfl) h

noncomputable def C22 : Code := (Try.f22.body).getD .skip
noncomputable def H22 : Hints := ⟨[], [], []⟩
def F22 (a0 a1 : Value) (w : World) (Q : Value → World → Prop) : Prop :=
  CallR Try.prog 43 [a0, a1] w fun t7 w =>
  wpB (pureRun Try.prog (Op.unary .not t7)) fun t8 =>
  wpB (gd t8 false (nilv (gv t8 false a0))) fun t11 =>
  wpB (gd t8 false (pureRun Try.prog (Instr.fieldAt 72 t11 2))) fun t12 =>
  wpB (gd t8 false (ldv Try.prog 68 t12 w)) fun t13 =>
  wpB (gd t8 false (pureRun Try.prog (Instr.indexAt 68 t13 (gv t8 false a1)))) fun t15 =>
  wpB (gd t8 false (pureRun Try.prog (Instr.fieldAt 80 t15 0))) fun t16 =>
  wpB (gd t8 false (ldv Try.prog 3 t16 w)) fun t17 =>
  wpB (gd t8 false (be Try.prog .neq 3 (.tmp 17) (.const (.int .i64 2)) t17 (.int .i64 2))) fun t18 =>
  wpB (pickv t8 (some (.bool true)) (some t18)) fun t19 =>
  cnd t19
  (Q (.bool false) w)
  (wpB (nilv a0) fun t21 =>
  wpB (pureRun Try.prog (Instr.fieldAt 72 t21 2)) fun t22 =>
  wpB (ldv Try.prog 68 t22 w) fun t23 =>
  wpB (pureRun Try.prog (Instr.indexAt 68 t23 a1)) fun t25 =>
  wpB (pureRun Try.prog (Instr.fieldAt 80 t25 0)) fun t26 =>
  effu Try.prog (Instr.storeAt 3 t26 (.int .i64 0)) w fun w =>
  Q (.bool true) w)
theorem F22_ok {a0 a1 : Value} {w : World} {Q : Value → World → Prop} (h : F22 a0 a1 w Q) : CallR Try.prog 22 [a0, a1] w Q :=
  call_ofE mixed entOk Try.func22 (c := C22) rfl H22 (Nat.le_of_ble_eq_true rfl) (by kernel_rfl) h

noncomputable def C23 : Code := (Try.f23.body).getD .skip
noncomputable def H23 : Hints := ⟨[], [(9, [])], []⟩
noncomputable def T23_0 : List It := [.jn (nav [1, 1, 0, 1, 1, 2, 1, 1] C23), .jn (nav [1, 1, 1] C23)]
/-- (*rundale/model.Model).Do, from a join on -/
def P23_0 (w : World) (Q : Value → World → Prop) : Prop := Part Try.prog 23 T23_0 [] [] w Q
def F23 (a0 a1 a2 a3 a4 : Value) (w : World) (Q : Value → World → Prop) : Prop :=
  effv Try.prog (Instr.box 29 a2) w fun t7 w =>
  effv Try.prog (Instr.box 27 a3) w fun t8 w =>
  effv Try.prog (Instr.box 32 a4) w fun t9 w =>
  wpB (ldv Try.prog 29 t7 w) fun t15 =>
  CallR Try.prog 44 [a0, a1, t15] w fun t16 w =>
  wpB (pureRun Try.prog (Op.unary .not t16)) fun t17 =>
  cnd t17
  (Q (.bool false) w)
  (wpB (ldv Try.prog 29 t7 w) fun t21 =>
  wpB (ldv Try.prog 27 t8 w) fun t22 =>
  CallR Try.prog 37 [a0, a1, t21, t22] w fun t23 w =>
  wpB (pureRun Try.prog (Instr.extract t23 0)) fun t24 =>
  wpB (pureRun Try.prog (Instr.extract t23 1)) fun t25 =>
  effv Try.prog (Instr.alloc 32 true (.tuple #[])) w fun t11 w =>
  effu Try.prog (Instr.storeAt 32 t11 t24) w fun w =>
  cnd t25
  (wpB (ldv Try.prog 32 t9 w) fun t27 =>
  wpB (ldv Try.prog 32 t11 w) fun t28 =>
  wpB (be Try.prog .neq 32 (.tmp 27) (.tmp 28) t27 t28) fun t29 =>
  cnd t29
  (Q (.bool false) w)
  (wpB (pureRun Try.prog (Instr.fieldAt 32 t9 0)) fun t30 =>
  wpB (ldv Try.prog 30 t30 w) fun t31 =>
  wpB (be Try.prog .eql 30 (.tmp 31) (.const (.int .i64 0)) t31 (.int .i64 0)) fun t32 =>
  cnd t32
  (wpB (ldv Try.prog 29 t7 w) fun t35 =>
  wpB (ldv Try.prog 27 t8 w) fun t36 =>
  CallR Try.prog 45 [a0, a1, t35, t36] w fun t37 w =>
  P23_0 w Q)
  (P23_0 w Q)))
  (wpB (pureRun Try.prog (Instr.fieldAt 29 t7 0)) fun t38 =>
  wpB (ldv Try.prog 3 t38 w) fun t39 =>
  wpB (be Try.prog .eql 3 (.tmp 39) (.const (.int .i64 1)) t39 (.int .i64 1)) fun t40 =>
  cnd t40
  (wpB (pureRun Try.prog (Instr.fieldAt 29 t7 3)) fun t42 =>
  wpB (ldv Try.prog 3 t42 w) fun t43 =>
  wpB (ldv Try.prog 32 t9 w) fun t44 =>
  CallR Try.prog 46 [a0, t43, t44] w fun t45 w =>
  Q t45 w)
  (wpB (pureRun Try.prog (Instr.fieldAt 29 t7 3)) fun t47 =>
  wpB (ldv Try.prog 3 t47 w) fun t48 =>
  wpB (ldv Try.prog 27 t8 w) fun t49 =>
  wpB (ldv Try.prog 32 t9 w) fun t50 =>
  CallR Try.prog 47 [a0, t48, t49, t50] w fun t51 w =>
  Q t51 w)))
def L23_0 (w : World) (Q : Value → World → Prop) : Prop :=
  Q (.bool true) w
theorem F23_ok {a0 a1 a2 a3 a4 : Value} {w : World} {Q : Value → World → Prop} (h : F23 a0 a1 a2 a3 a4 w Q) : CallR Try.prog 23 [a0, a1, a2, a3, a4] w Q :=
  call_ofE mixed entOk Try.func23 (c := C23) rfl H23 (Nat.le_of_ble_eq_true rfl) (by kernel_rfl) h
theorem L23_0_ok {w : World} {Q : Value → World → Prop} (h : L23_0  w Q) : P23_0  w Q :=
  part_jnE mixed entOk Try.func23 H23 (by kernel_rfl) h

noncomputable def C24 : Code := (Try.f24.body).getD .skip
noncomputable def H24 : Hints := ⟨[], [], []⟩
def F24 (a0 a1 a2 : Value) (w : World) (Q : Value → World → Prop) : Prop :=
  wpB (bp Try.prog .geq 3 a0 a1) fun t9 =>
  wpB (gd t9 true (bp Try.prog .leq 3 (gv t9 true a0) (gv t9 true a2))) fun t13 =>
  wpB (pickv t9 (some t13) (some (.bool false))) fun t14 =>
  Q t14 w
theorem F24_ok {a0 a1 a2 : Value} {w : World} {Q : Value → World → Prop} (h : F24 a0 a1 a2 w Q) : CallR Try.prog 24 [a0, a1, a2] w Q :=
  call_ofE mixed entOk Try.func24 (c := C24) rfl H24 (Nat.le_of_ble_eq_true rfl) (by kernel_rfl) h

noncomputable def C25 : Code := (Try.f25.body).getD .skip
noncomputable def H25 : Hints := ⟨[], [], []⟩
def F25 (a0 : Value) (w : World) (Q : Value → World → Prop) : Prop :=
  effv Try.prog (Instr.box 34 a0) w fun t1 w =>
  wpB (pureRun Try.prog (Instr.fieldAt 34 t1 0)) fun t3 =>
  wpB (ldv Try.prog 3 t3 w) fun t4 =>
  wpB (bp Try.prog .lss 3 t4 (.int .i64 0)) fun t5 =>
  wpB (gd t5 false (pureRun Try.prog (Instr.fieldAt 34 t1 0))) fun t7 =>
  wpB (gd t5 false (ldv Try.prog 3 t7 w)) fun t8 =>
  wpB (gd t5 false (bp Try.prog .geq 3 t8 (.int .i64 64))) fun t9 =>
  wpB (pickv t5 (some (.bool true)) (some t9)) fun t10 =>
  wpB (gd t10 false (pureRun Try.prog (Instr.fieldAt 34 t1 3))) fun t12 =>
  wpB (gd t10 false (ldv Try.prog 3 t12 w)) fun t13 =>
  wpB (gd t10 false (bp Try.prog .lss 3 t13 (.int .i64 0))) fun t14 =>
  wpB (pickv t10 (some (.bool true)) (some t14)) fun t15 =>
  wpB (gd t15 false (pureRun Try.prog (Instr.fieldAt 34 t1 4))) fun t17 =>
  wpB (gd t15 false (ldv Try.prog 3 t17 w)) fun t18 =>
  wpB (gd t15 false (be Try.prog .neq 3 (.tmp 18) (.const (.int .i64 (-1))) t18 (.int .i64 (-1)))) fun t19 =>
  wpB (gd (gv t15 false t19) true (pureRun Try.prog (Instr.fieldAt 34 t1 4))) fun t21 =>
  wpB (gd (gv t15 false t19) true (ldv Try.prog 3 t21 w)) fun t22 =>
  wpB (gd (gv t15 false t19) true (pureRun Try.prog (Instr.fieldAt 34 t1 3))) fun t23 =>
  wpB (gd (gv t15 false t19) true (ldv Try.prog 3 t23 w)) fun t24 =>
  wpB (gd (gv t15 false t19) true (bp Try.prog .lss 3 t22 t24)) fun t25 =>
  wpB (gd t15 false (pickv (gv t15 false t19) (some t25) (some (.bool false)))) fun t26 =>
  wpB (pickv t15 (some (.bool true)) (some t26)) fun t27 =>
  cnd t27
  (Q (.bool false) w)
  (wpB (pureRun Try.prog (Instr.fieldAt 34 t1 5)) fun t28 =>
  wpB (ldv Try.prog 3 t28 w) fun t29 =>
  wpB (be Try.prog .neq 3 (.tmp 29) (.const (.int .i64 (-1))) t29 (.int .i64 (-1))) fun t30 =>
  wpB (gd t30 true (pureRun Try.prog (Instr.fieldAt 34 t1 4))) fun t32 =>
  wpB (gd t30 true (ldv Try.prog 3 t32 w)) fun t33 =>
  wpB (gd t30 true (bp Try.prog .lss 3 t33 (.int .i64 0))) fun t34 =>
  wpB (gd (gv t30 true t34) false (pureRun Try.prog (Instr.fieldAt 34 t1 5))) fun t36 =>
  wpB (gd (gv t30 true t34) false (ldv Try.prog 3 t36 w)) fun t37 =>
  wpB (gd (gv t30 true t34) false (pureRun Try.prog (Instr.fieldAt 34 t1 4))) fun t38 =>
  wpB (gd (gv t30 true t34) false (ldv Try.prog 3 t38 w)) fun t39 =>
  wpB (gd (gv t30 true t34) false (bp Try.prog .leq 3 t37 t39)) fun t40 =>
  wpB (gd t30 true (pickv (gv t30 true t34) (some (.bool true)) (some t40))) fun t41 =>
  wpB (pickv t30 (some t41) (some (.bool false))) fun t42 =>
  cnd t42
  (Q (.bool false) w)
  (wpB (pureRun Try.prog (Instr.fieldAt 34 t1 6)) fun t43 =>
  wpB (ldv Try.prog 3 t43 w) fun t44 =>
  wpB (be Try.prog .eql 3 (.tmp 44) (.const (.int .i64 (-1))) t44 (.int .i64 (-1))) fun t45 =>
  wpB (gd t45 false (pureRun Try.prog (Instr.fieldAt 34 t1 4))) fun t47 =>
  wpB (gd t45 false (ldv Try.prog 3 t47 w)) fun t48 =>
  wpB (gd t45 false (bp Try.prog .geq 3 t48 (.int .i64 0))) fun t49 =>
  wpB (gd (gv t45 false t49) true (pureRun Try.prog (Instr.fieldAt 34 t1 6))) fun t51 =>
  wpB (gd (gv t45 false t49) true (ldv Try.prog 3 t51 w)) fun t52 =>
  wpB (gd (gv t45 false t49) true (pureRun Try.prog (Instr.fieldAt 34 t1 4))) fun t53 =>
  wpB (gd (gv t45 false t49) true (ldv Try.prog 3 t53 w)) fun t54 =>
  wpB (gd (gv t45 false t49) true (bp Try.prog .geq 3 t52 t54)) fun t55 =>
  wpB (gd t45 false (pickv (gv t45 false t49) (some t55) (some (.bool false)))) fun t56 =>
  wpB (gd (gv t45 false t56) true (pureRun Try.prog (Instr.fieldAt 34 t1 6))) fun t58 =>
  wpB (gd (gv t45 false t56) true (ldv Try.prog 3 t58 w)) fun t59 =>
  wpB (gd (gv t45 false t56) true (pureRun Try.prog (Instr.fieldAt 34 t1 5))) fun t60 =>
  wpB (gd (gv t45 false t56) true (ldv Try.prog 3 t60 w)) fun t61 =>
  wpB (gd (gv t45 false t56) true (bp Try.prog .geq 3 t59 t61)) fun t62 =>
  wpB (gd t45 false (pickv (gv t45 false t56) (some t62) (some (.bool false)))) fun t63 =>
  wpB (pickv t45 (some (.bool true)) (some t63)) fun t64 =>
  Q t64 w))
theorem F25_ok {a0 : Value} {w : World} {Q : Value → World → Prop} (h : F25 a0 w Q) : CallR Try.prog 25 [a0] w Q :=
  call_ofE mixed entOk Try.func25 (c := C25) rfl H25 (Nat.le_of_ble_eq_true rfl) (by kernel_rfl) h

noncomputable def C26 : Code := (Try.f26.body).getD .skip
noncomputable def H26 : Hints := ⟨[(3, [5, 6, 7]), (6, [5, 6, 7, 8])], [(2, [5, 6])], [(1, (.ask 2 1 (.ask 4 5 (.ask 4 1 (.ask 5 1 (.leaf [0, 2, 4, 5, 1, 3, 6, 7]) (.ask 5 3 (.leaf [0, 2, 4, 1, 5, 3, 6, 7]) (.leaf [0, 2, 4, 1, 3, 5, 6, 7]))) (.ask 4 3 (.ask 5 3 (.leaf [0, 2, 1, 4, 5, 3, 6, 7]) (.leaf [0, 2, 1, 4, 3, 5, 6, 7])) (.leaf [0, 2, 1, 3, 4, 5, 6, 7]))) (.ask 5 1 (.ask 4 1 (.leaf [0, 2, 5, 4, 1, 3, 6, 7]) (.ask 4 3 (.leaf [0, 2, 5, 1, 4, 3, 6, 7]) (.leaf [0, 2, 5, 1, 3, 4, 6, 7]))) (.ask 5 3 (.ask 4 3 (.leaf [0, 2, 1, 5, 4, 3, 6, 7]) (.leaf [0, 2, 1, 5, 3, 4, 6, 7])) (.leaf [0, 2, 1, 3, 5, 4, 6, 7])))) (.ask 4 5 (.ask 4 1 (.ask 5 1 (.leaf [0, 4, 5, 1, 2, 3, 6, 7]) (.ask 5 3 (.leaf [0, 4, 1, 2, 5, 3, 6, 7]) (.leaf [0, 4, 1, 2, 3, 5, 6, 7]))) (.ask 4 3 (.ask 5 3 (.leaf [0, 1, 2, 4, 5, 3, 6, 7]) (.leaf [0, 1, 2, 4, 3, 5, 6, 7])) (.leaf [0, 1, 2, 3, 4, 5, 6, 7]))) (.ask 5 1 (.ask 4 1 (.leaf [0, 5, 4, 1, 2, 3, 6, 7]) (.ask 4 3 (.leaf [0, 5, 1, 2, 4, 3, 6, 7]) (.leaf [0, 5, 1, 2, 3, 4, 6, 7]))) (.ask 5 3 (.ask 4 3 (.leaf [0, 1, 2, 5, 4, 3, 6, 7]) (.leaf [0, 1, 2, 5, 3, 4, 6, 7])) (.leaf [0, 1, 2, 3, 5, 4, 6, 7])))))), (8, (.leaf [0, 1, 2, 3, 4, 5, 6, 7, 8, 9, 10, 11, 12]))]⟩
noncomputable def T26_0 : List It := [.jn (nav [1, 1] C26)]
noncomputable def T26_1 : List It := [.lp (nav [1, 1, 0, 1, 4, 5] C26), .blk 0, .jn (nav [1, 1, 1] C26)]
noncomputable def T26_2 : List It := [.lp (nav [1, 1, 0, 1, 4, 5, 1, 0, 4, 1, 4, 5] C26), .blk 2, .blk 1, .jn (nav [1, 1, 0, 1, 4, 5, 1, 1] C26), .lp (nav [1, 1, 0, 1, 4, 5] C26), .blk 0, .jn (nav [1, 1, 1] C26)]
/-- rundale/rundaleref18.share, from a join on -/
def P26_0 (x5 x6 : Value) (w : World) (Q : Value → World → Prop) : Prop := Part Try.prog 26 T26_0 [5, 6] [x5, x6] w Q
/-- rundale/rundaleref18.share, from a loop's head on -/
def P26_1 (x5 x6 x7 : Value) (w : World) (Q : Value → World → Prop) : Prop := Part Try.prog 26 T26_1 [5, 6, 7] [x5, x6, x7] w Q
/-- rundale/rundaleref18.share, from a loop's head on -/
def P26_2 (x5 x6 x7 x8 : Value) (w : World) (Q : Value → World → Prop) : Prop := Part Try.prog 26 T26_2 [5, 6, 7, 8] [x5, x6, x7, x8] w Q
def F26 (a0 a1 : Value) (w : World) (Q : Value → World → Prop) : Prop :=
  effv Try.prog (Instr.box 34 a0) w fun t2 w =>
  effv Try.prog (Instr.box 34 a1) w fun t3 w =>
  ((((wpB (ldv Try.prog 34 t2 w.drew) fun t9 =>
  wpB (ldv Try.prog 34 t3 w.drew) fun t11 =>
  effv Try.prog (Instr.alloc 85 true (.tuple #[])) w.drew fun t5 w =>
  effv Try.prog (Instr.alloc 85 true (.tuple #[])) w fun t6 w =>
  CallR Try.prog 48 [t9] w fun t10 w =>
  CallR Try.prog 48 [t11] w fun t12 w =>
  effu Try.prog (Instr.storeAt 85 t5 t10) w fun w =>
  effu Try.prog (Instr.storeAt 85 t6 t12) w fun w =>
  P26_0 t5 t6 w Q) ∧
  ((wpB (ldv Try.prog 34 t2 w.drew) fun t9_1 =>
  wpB (ldv Try.prog 34 t3 w.drew) fun t11_1 =>
  effv Try.prog (Instr.alloc 85 true (.tuple #[])) w.drew fun t5_1 w =>
  CallR Try.prog 48 [t9_1] w fun t10_1 w =>
  effv Try.prog (Instr.alloc 85 true (.tuple #[])) w fun t6_1 w =>
  CallR Try.prog 48 [t11_1] w fun t12_1 w =>
  effu Try.prog (Instr.storeAt 85 t5_1 t10_1) w fun w =>
  effu Try.prog (Instr.storeAt 85 t6_1 t12_1) w fun w =>
  P26_0 t5_1 t6_1 w Q) ∧
  (wpB (ldv Try.prog 34 t2 w.drew) fun t9_2 =>
  wpB (ldv Try.prog 34 t3 w.drew) fun t11_2 =>
  effv Try.prog (Instr.alloc 85 true (.tuple #[])) w.drew fun t5_2 w =>
  CallR Try.prog 48 [t9_2] w fun t10_2 w =>
  CallR Try.prog 48 [t11_2] w fun t12_2 w =>
  effv Try.prog (Instr.alloc 85 true (.tuple #[])) w fun t6_2 w =>
  effu Try.prog (Instr.storeAt 85 t5_2 t10_2) w fun w =>
  effu Try.prog (Instr.storeAt 85 t6_2 t12_2) w fun w =>
  P26_0 t5_2 t6_2 w Q))) ∧
  (((wpB (ldv Try.prog 34 t2 w.drew) fun t9_3 =>
  wpB (ldv Try.prog 34 t3 w.drew) fun t11_3 =>
  CallR Try.prog 48 [t9_3] w.drew fun t10_3 w =>
  effv Try.prog (Instr.alloc 85 true (.tuple #[])) w fun t5_3 w =>
  effv Try.prog (Instr.alloc 85 true (.tuple #[])) w fun t6_3 w =>
  CallR Try.prog 48 [t11_3] w fun t12_3 w =>
  effu Try.prog (Instr.storeAt 85 t5_3 t10_3) w fun w =>
  effu Try.prog (Instr.storeAt 85 t6_3 t12_3) w fun w =>
  P26_0 t5_3 t6_3 w Q) ∧
  (wpB (ldv Try.prog 34 t2 w.drew) fun t9_4 =>
  wpB (ldv Try.prog 34 t3 w.drew) fun t11_4 =>
  CallR Try.prog 48 [t9_4] w.drew fun t10_4 w =>
  effv Try.prog (Instr.alloc 85 true (.tuple #[])) w fun t5_4 w =>
  CallR Try.prog 48 [t11_4] w fun t12_4 w =>
  effv Try.prog (Instr.alloc 85 true (.tuple #[])) w fun t6_4 w =>
  effu Try.prog (Instr.storeAt 85 t5_4 t10_4) w fun w =>
  effu Try.prog (Instr.storeAt 85 t6_4 t12_4) w fun w =>
  P26_0 t5_4 t6_4 w Q)) ∧
  (wpB (ldv Try.prog 34 t2 w.drew) fun t9_5 =>
  wpB (ldv Try.prog 34 t3 w.drew) fun t11_5 =>
  CallR Try.prog 48 [t9_5] w.drew fun t10_5 w =>
  CallR Try.prog 48 [t11_5] w fun t12_5 w =>
  effv Try.prog (Instr.alloc 85 true (.tuple #[])) w fun t5_5 w =>
  effv Try.prog (Instr.alloc 85 true (.tuple #[])) w fun t6_5 w =>
  effu Try.prog (Instr.storeAt 85 t5_5 t10_5) w fun w =>
  effu Try.prog (Instr.storeAt 85 t6_5 t12_5) w fun w =>
  P26_0 t5_5 t6_5 w Q))) ∧
  (((wpB (ldv Try.prog 34 t2 w.drew) fun t9_6 =>
  wpB (ldv Try.prog 34 t3 w.drew) fun t11_6 =>
  effv Try.prog (Instr.alloc 85 true (.tuple #[])) w.drew fun t6_6 w =>
  effv Try.prog (Instr.alloc 85 true (.tuple #[])) w fun t5_6 w =>
  CallR Try.prog 48 [t9_6] w fun t10_6 w =>
  CallR Try.prog 48 [t11_6] w fun t12_6 w =>
  effu Try.prog (Instr.storeAt 85 t5_6 t10_6) w fun w =>
  effu Try.prog (Instr.storeAt 85 t6_6 t12_6) w fun w =>
  P26_0 t5_6 t6_6 w Q) ∧
  ((wpB (ldv Try.prog 34 t2 w.drew) fun t9_7 =>
  wpB (ldv Try.prog 34 t3 w.drew) fun t11_7 =>
  effv Try.prog (Instr.alloc 85 true (.tuple #[])) w.drew fun t6_7 w =>
  CallR Try.prog 48 [t9_7] w fun t10_7 w =>
  effv Try.prog (Instr.alloc 85 true (.tuple #[])) w fun t5_7 w =>
  CallR Try.prog 48 [t11_7] w fun t12_7 w =>
  effu Try.prog (Instr.storeAt 85 t5_7 t10_7) w fun w =>
  effu Try.prog (Instr.storeAt 85 t6_7 t12_7) w fun w =>
  P26_0 t5_7 t6_7 w Q) ∧
  (wpB (ldv Try.prog 34 t2 w.drew) fun t9_8 =>
  wpB (ldv Try.prog 34 t3 w.drew) fun t11_8 =>
  effv Try.prog (Instr.alloc 85 true (.tuple #[])) w.drew fun t6_8 w =>
  CallR Try.prog 48 [t9_8] w fun t10_8 w =>
  CallR Try.prog 48 [t11_8] w fun t12_8 w =>
  effv Try.prog (Instr.alloc 85 true (.tuple #[])) w fun t5_8 w =>
  effu Try.prog (Instr.storeAt 85 t5_8 t10_8) w fun w =>
  effu Try.prog (Instr.storeAt 85 t6_8 t12_8) w fun w =>
  P26_0 t5_8 t6_8 w Q))) ∧
  (((wpB (ldv Try.prog 34 t2 w.drew) fun t9_9 =>
  wpB (ldv Try.prog 34 t3 w.drew) fun t11_9 =>
  CallR Try.prog 48 [t9_9] w.drew fun t10_9 w =>
  effv Try.prog (Instr.alloc 85 true (.tuple #[])) w fun t6_9 w =>
  effv Try.prog (Instr.alloc 85 true (.tuple #[])) w fun t5_9 w =>
  CallR Try.prog 48 [t11_9] w fun t12_9 w =>
  effu Try.prog (Instr.storeAt 85 t5_9 t10_9) w fun w =>
  effu Try.prog (Instr.storeAt 85 t6_9 t12_9) w fun w =>
  P26_0 t5_9 t6_9 w Q) ∧
  (wpB (ldv Try.prog 34 t2 w.drew) fun t9_10 =>
  wpB (ldv Try.prog 34 t3 w.drew) fun t11_10 =>
  CallR Try.prog 48 [t9_10] w.drew fun t10_10 w =>
  effv Try.prog (Instr.alloc 85 true (.tuple #[])) w fun t6_10 w =>
  CallR Try.prog 48 [t11_10] w fun t12_10 w =>
  effv Try.prog (Instr.alloc 85 true (.tuple #[])) w fun t5_10 w =>
  effu Try.prog (Instr.storeAt 85 t5_10 t10_10) w fun w =>
  effu Try.prog (Instr.storeAt 85 t6_10 t12_10) w fun w =>
  P26_0 t5_10 t6_10 w Q)) ∧
  (wpB (ldv Try.prog 34 t2 w.drew) fun t9_11 =>
  wpB (ldv Try.prog 34 t3 w.drew) fun t11_11 =>
  CallR Try.prog 48 [t9_11] w.drew fun t10_11 w =>
  CallR Try.prog 48 [t11_11] w fun t12_11 w =>
  effv Try.prog (Instr.alloc 85 true (.tuple #[])) w fun t6_11 w =>
  effv Try.prog (Instr.alloc 85 true (.tuple #[])) w fun t5_11 w =>
  effu Try.prog (Instr.storeAt 85 t5_11 t10_11) w fun w =>
  effu Try.prog (Instr.storeAt 85 t6_11 t12_11) w fun w =>
  P26_0 t5_11 t6_11 w Q)))) ∧
  ((((wpB (ldv Try.prog 34 t2 w.drew) fun t9_12 =>
  effv Try.prog (Instr.alloc 85 true (.tuple #[])) w.drew fun t5_12 w =>
  effv Try.prog (Instr.alloc 85 true (.tuple #[])) w fun t6_12 w =>
  CallR Try.prog 48 [t9_12] w fun t10_12 w =>
  wpB (ldv Try.prog 34 t3 w) fun t11_12 =>
  CallR Try.prog 48 [t11_12] w fun t12_12 w =>
  effu Try.prog (Instr.storeAt 85 t5_12 t10_12) w fun w =>
  effu Try.prog (Instr.storeAt 85 t6_12 t12_12) w fun w =>
  P26_0 t5_12 t6_12 w Q) ∧
  ((wpB (ldv Try.prog 34 t2 w.drew) fun t9_13 =>
  effv Try.prog (Instr.alloc 85 true (.tuple #[])) w.drew fun t5_13 w =>
  CallR Try.prog 48 [t9_13] w fun t10_13 w =>
  wpB (ldv Try.prog 34 t3 w) fun t11_13 =>
  effv Try.prog (Instr.alloc 85 true (.tuple #[])) w fun t6_13 w =>
  CallR Try.prog 48 [t11_13] w fun t12_13 w =>
  effu Try.prog (Instr.storeAt 85 t5_13 t10_13) w fun w =>
  effu Try.prog (Instr.storeAt 85 t6_13 t12_13) w fun w =>
  P26_0 t5_13 t6_13 w Q) ∧
  (wpB (ldv Try.prog 34 t2 w.drew) fun t9_14 =>
  effv Try.prog (Instr.alloc 85 true (.tuple #[])) w.drew fun t5_14 w =>
  CallR Try.prog 48 [t9_14] w fun t10_14 w =>
  wpB (ldv Try.prog 34 t3 w) fun t11_14 =>
  CallR Try.prog 48 [t11_14] w fun t12_14 w =>
  effv Try.prog (Instr.alloc 85 true (.tuple #[])) w fun t6_14 w =>
  effu Try.prog (Instr.storeAt 85 t5_14 t10_14) w fun w =>
  effu Try.prog (Instr.storeAt 85 t6_14 t12_14) w fun w =>
  P26_0 t5_14 t6_14 w Q))) ∧
  (((wpB (ldv Try.prog 34 t2 w.drew) fun t9_15 =>
  CallR Try.prog 48 [t9_15] w.drew fun t10_15 w =>
  wpB (ldv Try.prog 34 t3 w) fun t11_15 =>
  effv Try.prog (Instr.alloc 85 true (.tuple #[])) w fun t5_15 w =>
  effv Try.prog (Instr.alloc 85 true (.tuple #[])) w fun t6_15 w =>
  CallR Try.prog 48 [t11_15] w fun t12_15 w =>
  effu Try.prog (Instr.storeAt 85 t5_15 t10_15) w fun w =>
  effu Try.prog (Instr.storeAt 85 t6_15 t12_15) w fun w =>
  P26_0 t5_15 t6_15 w Q) ∧
  (wpB (ldv Try.prog 34 t2 w.drew) fun t9_16 =>
  CallR Try.prog 48 [t9_16] w.drew fun t10_16 w =>
  wpB (ldv Try.prog 34 t3 w) fun t11_16 =>
  effv Try.prog (Instr.alloc 85 true (.tuple #[])) w fun t5_16 w =>
  CallR Try.prog 48 [t11_16] w fun t12_16 w =>
  effv Try.prog (Instr.alloc 85 true (.tuple #[])) w fun t6_16 w =>
  effu Try.prog (Instr.storeAt 85 t5_16 t10_16) w fun w =>
  effu Try.prog (Instr.storeAt 85 t6_16 t12_16) w fun w =>
  P26_0 t5_16 t6_16 w Q)) ∧
  (wpB (ldv Try.prog 34 t2 w.drew) fun t9_17 =>
  CallR Try.prog 48 [t9_17] w.drew fun t10_17 w =>
  wpB (ldv Try.prog 34 t3 w) fun t11_17 =>
  CallR Try.prog 48 [t11_17] w fun t12_17 w =>
  effv Try.prog (Instr.alloc 85 true (.tuple #[])) w fun t5_17 w =>
  effv Try.prog (Instr.alloc 85 true (.tuple #[])) w fun t6_17 w =>
  effu Try.prog (Instr.storeAt 85 t5_17 t10_17) w fun w =>
  effu Try.prog (Instr.storeAt 85 t6_17 t12_17) w fun w =>
  P26_0 t5_17 t6_17 w Q))) ∧
  (((wpB (ldv Try.prog 34 t2 w.drew) fun t9_18 =>
  effv Try.prog (Instr.alloc 85 true (.tuple #[])) w.drew fun t6_18 w =>
  effv Try.prog (Instr.alloc 85 true (.tuple #[])) w fun t5_18 w =>
  CallR Try.prog 48 [t9_18] w fun t10_18 w =>
  wpB (ldv Try.prog 34 t3 w) fun t11_18 =>
  CallR Try.prog 48 [t11_18] w fun t12_18 w =>
  effu Try.prog (Instr.storeAt 85 t5_18 t10_18) w fun w =>
  effu Try.prog (Instr.storeAt 85 t6_18 t12_18) w fun w =>
  P26_0 t5_18 t6_18 w Q) ∧
  ((wpB (ldv Try.prog 34 t2 w.drew) fun t9_19 =>
  effv Try.prog (Instr.alloc 85 true (.tuple #[])) w.drew fun t6_19 w =>
  CallR Try.prog 48 [t9_19] w fun t10_19 w =>
  wpB (ldv Try.prog 34 t3 w) fun t11_19 =>
  effv Try.prog (Instr.alloc 85 true (.tuple #[])) w fun t5_19 w =>
  CallR Try.prog 48 [t11_19] w fun t12_19 w =>
  effu Try.prog (Instr.storeAt 85 t5_19 t10_19) w fun w =>
  effu Try.prog (Instr.storeAt 85 t6_19 t12_19) w fun w =>
  P26_0 t5_19 t6_19 w Q) ∧
  (wpB (ldv Try.prog 34 t2 w.drew) fun t9_20 =>
  effv Try.prog (Instr.alloc 85 true (.tuple #[])) w.drew fun t6_20 w =>
  CallR Try.prog 48 [t9_20] w fun t10_20 w =>
  wpB (ldv Try.prog 34 t3 w) fun t11_20 =>
  CallR Try.prog 48 [t11_20] w fun t12_20 w =>
  effv Try.prog (Instr.alloc 85 true (.tuple #[])) w fun t5_20 w =>
  effu Try.prog (Instr.storeAt 85 t5_20 t10_20) w fun w =>
  effu Try.prog (Instr.storeAt 85 t6_20 t12_20) w fun w =>
  P26_0 t5_20 t6_20 w Q))) ∧
  (((wpB (ldv Try.prog 34 t2 w.drew) fun t9_21 =>
  CallR Try.prog 48 [t9_21] w.drew fun t10_21 w =>
  wpB (ldv Try.prog 34 t3 w) fun t11_21 =>
  effv Try.prog (Instr.alloc 85 true (.tuple #[])) w fun t6_21 w =>
  effv Try.prog (Instr.alloc 85 true (.tuple #[])) w fun t5_21 w =>
  CallR Try.prog 48 [t11_21] w fun t12_21 w =>
  effu Try.prog (Instr.storeAt 85 t5_21 t10_21) w fun w =>
  effu Try.prog (Instr.storeAt 85 t6_21 t12_21) w fun w =>
  P26_0 t5_21 t6_21 w Q) ∧
  (wpB (ldv Try.prog 34 t2 w.drew) fun t9_22 =>
  CallR Try.prog 48 [t9_22] w.drew fun t10_22 w =>
  wpB (ldv Try.prog 34 t3 w) fun t11_22 =>
  effv Try.prog (Instr.alloc 85 true (.tuple #[])) w fun t6_22 w =>
  CallR Try.prog 48 [t11_22] w fun t12_22 w =>
  effv Try.prog (Instr.alloc 85 true (.tuple #[])) w fun t5_22 w =>
  effu Try.prog (Instr.storeAt 85 t5_22 t10_22) w fun w =>
  effu Try.prog (Instr.storeAt 85 t6_22 t12_22) w fun w =>
  P26_0 t5_22 t6_22 w Q)) ∧
  (wpB (ldv Try.prog 34 t2 w.drew) fun t9_23 =>
  CallR Try.prog 48 [t9_23] w.drew fun t10_23 w =>
  wpB (ldv Try.prog 34 t3 w) fun t11_23 =>
  CallR Try.prog 48 [t11_23] w fun t12_23 w =>
  effv Try.prog (Instr.alloc 85 true (.tuple #[])) w fun t6_23 w =>
  effv Try.prog (Instr.alloc 85 true (.tuple #[])) w fun t5_23 w =>
  effu Try.prog (Instr.storeAt 85 t5_23 t10_23) w fun w =>
  effu Try.prog (Instr.storeAt 85 t6_23 t12_23) w fun w =>
  P26_0 t5_23 t6_23 w Q))))
def L26_0 (x5 x6 : Value) (w : World) (Q : Value → World → Prop) : Prop :=
  P26_1 x5 x6 (.int .i64 0) w Q
def L26_1 (x5 x6 x7 : Value) (w : World) (Q : Value → World → Prop) : Prop :=
  wpB (bp Try.prog .lss 3 x7 (.int .i64 4)) fun t14 =>
  cnd t14
  (P26_2 x5 x6 x7 (.int .i64 0) w Q)
  (Q (.bool false) w)
def L26_2 (x5 x6 x7 x8 : Value) (w : World) (Q : Value → World → Prop) : Prop :=
  wpB (bp Try.prog .lss 3 x8 (.int .i64 4)) fun t18 =>
  cnd t18
  (wpB (pureRun Try.prog (Instr.indexAt 85 x5 x7)) fun t22 =>
  wpB (ldv Try.prog 3 t22 w.drew) fun t23 =>
  wpB (bp Try.prog .geq 3 t23 (.int .i64 0)) fun t24 =>
  wpB (gd t24 true (pureRun Try.prog (Instr.indexAt 85 x5 (gv t24 true x7)))) fun t27 =>
  wpB (gd t24 true (ldv Try.prog 3 t27 w.drew)) fun t28 =>
  wpB (gd t24 true (pureRun Try.prog (Instr.indexAt 85 x6 (gv t24 true x8)))) fun t30 =>
  wpB (gd t24 true (ldv Try.prog 3 t30 w.drew)) fun t31 =>
  wpB (gd t24 true (be Try.prog .eql 3 (.tmp 28) (.tmp 31) t28 t31)) fun t32 =>
  wpB (pickv t24 (some t32) (some (.bool false))) fun t33 =>
  cnd t33
  (Q (.bool true) w.drew)
  (wpB (bp Try.prog .add 3 x8 (.int .i64 1)) fun t20 =>
  P26_2 x5 x6 x7 t20 w.drew Q))
  (wpB (bp Try.prog .add 3 x7 (.int .i64 1)) fun t16 =>
  P26_1 x5 x6 t16 w Q)
theorem F26_ok {a0 a1 : Value} {w : World} {Q : Value → World → Prop} (h : F26 a0 a1 w Q) : CallR Try.prog 26 [a0, a1] w Q :=
  call_ofE mixed entOk Try.func26 (c := C26) rfl H26 (Nat.le_of_ble_eq_true rfl) (by kernel_rfl) h
theorem L26_0_ok {x5 x6 : Value} {w : World} {Q : Value → World → Prop} (h : L26_0 x5 x6 w Q) : P26_0 x5 x6 w Q :=
  part_jnE mixed entOk Try.func26 H26 (by kernel_rfl) h
theorem L26_1_ok {x5 x6 x7 : Value} {w : World} {Q : Value → World → Prop} (h : L26_1 x5 x6 x7 w Q) : P26_1 x5 x6 x7 w Q :=
  part_lpE mixed entOk Try.func26 H26 (by kernel_rfl) h
theorem L26_2_ok {x5 x6 x7 x8 : Value} {w : World} {Q : Value → World → Prop} (h : L26_2 x5 x6 x7 x8 w Q) : P26_2 x5 x6 x7 x8 w Q :=
  part_lpE mixed entOk Try.func26 H26 (by kernel_rfl) h

noncomputable def C27 : Code := (Try.f27.body).getD .skip
noncomputable def H27 : Hints := ⟨[], [], []⟩
def F27 (a0 a1 : Value) (w : World) (Q : Value → World → Prop) : Prop :=
  effv Try.prog (Instr.box 34 a0) w fun t2 w =>
  effv Try.prog (Instr.box 34 a1) w fun t3 w =>
  wpB (pureRun Try.prog (Instr.fieldAt 34 t2 6)) fun t5 =>
  wpB (ldv Try.prog 3 t5 w) fun t6 =>
  wpB (bp Try.prog .geq 3 t6 (.int .i64 0)) fun t7 =>
  wpB (gd t7 true (pureRun Try.prog (Instr.fieldAt 34 t2 6))) fun t9 =>
  wpB (gd t7 true (ldv Try.prog 3 t9 w)) fun t10 =>
  wpB (gd t7 true (pureRun Try.prog (Instr.fieldAt 34 t3 3))) fun t11 =>
  wpB (gd t7 true (ldv Try.prog 3 t11 w)) fun t12 =>
  wpB (gd t7 true (bp Try.prog .lss 3 t10 t12)) fun t13 =>
  wpB (pickv t7 (some t13) (some (.bool false))) fun t14 =>
  Q t14 w
theorem F27_ok {a0 a1 : Value} {w : World} {Q : Value → World → Prop} (h : F27 a0 a1 w Q) : CallR Try.prog 27 [a0, a1] w Q :=
  call_ofE mixed entOk Try.func27 (c := C27) rfl H27 (Nat.le_of_ble_eq_true rfl) (by kernel_rfl) h

noncomputable def C28 : Code := (Try.f28.body).getD .skip
noncomputable def H28 : Hints := ⟨[(6, [1, 6, 7, 8])], [], []⟩
noncomputable def T28_0 : List It := [.lp (nav [1, 1, 1, 1, 0, 1, 4, 5] C28), .blk 0, .jn (nav [1, 1, 1, 1, 1] C28)]
/-- rundale/rundaleref24.Check, from a loop's head on -/
def P28_0 (x1 x6 x7 x8 : Value) (w : World) (Q : Value → World → Prop) : Prop := Part Try.prog 28 T28_0 [1, 6, 7, 8] [x1, x6, x7, x8] w Q
def F28 (a0 a1 : Value) (w : World) (Q : Value → World → Prop) : Prop :=
  effv Try.prog (Instr.box 25 a0) w fun t2 w =>
  wpB (ldv Try.prog 25 t2 w) fun t11 =>
  CallR Try.prog 10 [t11] w fun t12 w =>
  wpB (pureRun Try.prog (Op.unary .not t12)) fun t13 =>
  gE t13 false (CallR Try.prog 11 [(gv t13 false a1)] w) (fun t16 w =>
  wpB (gd t13 false (pureRun Try.prog (Op.unary .not t16))) fun t17 =>
  wpB (pickv t13 (some (.bool true)) (some t17)) fun t18 =>
  cnd t18
  (Q (.tuple #[(.int .i64 0), (.bool false)]) w)
  (wpB (ldv Try.prog 25 t2 w) fun t19 =>
  CallR Try.prog 49 [t19, (.bool false)] w fun t20 w =>
  CallR Try.prog 29 [a1] w fun t22 w =>
  P28_0 a1 t20 t22 (.int .i64 0) w Q)) w
def L28_0 (x1 x6 x7 x8 : Value) (w : World) (Q : Value → World → Prop) : Prop :=
  wpB (pureRun Try.prog (Builtin.len_ #[65] 3 #[x7])) fun t25 =>
  wpB (bp Try.prog .lss 3 x8 t25) fun t26 =>
  cnd t26
  (wpB (pureRun Try.prog (Instr.indexAt 65 x7 x8)) fun t32 =>
  wpB (pureRun Try.prog (Instr.fieldAt 67 t32 1)) fun t33 =>
  wpB (ldv Try.prog 3 t33 w) fun t34 =>
  wpB (pureRun Try.prog (Instr.indexAt 35 x1 t34)) fun t35 =>
  wpB (ldv Try.prog 34 t35 w) fun t36 =>
  effv Try.prog (Instr.alloc 34 true (.tuple #[])) w fun t9 w =>
  effu Try.prog (Instr.storeAt 34 t9 t36) w fun w =>
  wpB (pureRun Try.prog (Instr.indexAt 65 x7 x8)) fun t40 =>
  wpB (pureRun Try.prog (Instr.fieldAt 67 t40 1)) fun t41 =>
  wpB (ldv Try.prog 3 t41 w) fun t42 =>
  CallR Try.prog 30 [x1, t42] w fun t43 w =>
  effv Try.prog (Instr.alloc 27 true (.tuple #[])) w fun t10 w =>
  effu Try.prog (Instr.storeAt 27 t10 t43) w fun w =>
  wpB (pureRun Try.prog (Instr.indexAt 65 x7 x8)) fun t46 =>
  wpB (pureRun Try.prog (Instr.fieldAt 67 t46 2)) fun t47 =>
  wpB (ldv Try.prog 4 t47 w) fun t48 =>
  wpB (gd t48 true (pureRun Try.prog (Instr.fieldAt 27 t10 0))) fun t51 =>
  wpB (gd t48 true (ldv Try.prog 3 t51 w)) fun t52 =>
  gE t48 true (CallR Try.prog 50 [(gv t48 true x6), t52] w) (fun t53 w =>
  wpB (gd t48 true (pureRun Try.prog (Op.unary .not t53))) fun t54 =>
  wpB (pickv t48 (some t54) (some (.bool false))) fun t55 =>
  wpB (gd t55 false (pureRun Try.prog (Instr.indexAt 65 (gv t55 false x7) (gv t55 false x8)))) fun t59 =>
  wpB (gd t55 false (pureRun Try.prog (Instr.fieldAt 67 t59 2))) fun t60 =>
  wpB (gd t55 false (ldv Try.prog 4 t60 w)) fun t61 =>
  wpB (gd t55 false (pureRun Try.prog (Op.unary .not t61))) fun t62 =>
  wpB (gd (gv t55 false t62) true (pureRun Try.prog (Instr.fieldAt 34 t9 0))) fun t65 =>
  wpB (gd (gv t55 false t62) true (ldv Try.prog 3 t65 w)) fun t66 =>
  wpB (gd (gv t55 false t62) true (pureRun Try.prog (Instr.fieldAt 34 t9 2))) fun t67 =>
  wpB (gd (gv t55 false t62) true (ldv Try.prog 29 t67 w)) fun t68 =>
  wpB (gd (gv t55 false t62) true (ldv Try.prog 27 t10 w)) fun t69 =>
  wpB (gd (gv t55 false t62) true (pureRun Try.prog (Instr.fieldAt 34 t9 7))) fun t70 =>
  wpB (gd (gv t55 false t62) true (ldv Try.prog 32 t70 w)) fun t71 =>
  gE (gv t55 false t62) true (CallR Try.prog 51 [(gv (gv t55 false t62) true x6), t66, t68, t69, t71] w) (fun t72 w =>
  wpB (gd (gv t55 false t62) true (pureRun Try.prog (Op.unary .not t72))) fun t73 =>
  wpB (gd t55 false (pickv (gv t55 false t62) (some t73) (some (.bool false)))) fun t74 =>
  wpB (pickv t55 (some (.bool true)) (some t74)) fun t75 =>
  cnd t75
  (wpB (pureRun Try.prog (Instr.indexAt 65 x7 x8)) fun t78 =>
  wpB (pureRun Try.prog (Instr.fieldAt 67 t78 1)) fun t79 =>
  wpB (ldv Try.prog 3 t79 w) fun t80 =>
  Q (.tuple #[t80, (.bool false)]) w)
  (wpB (bp Try.prog .add 3 x8 (.int .i64 1)) fun t28 =>
  P28_0 x1 x6 x7 t28 w Q)) w) w)
  (Q (.tuple #[(.int .i64 (-1)), (.bool true)]) w)
theorem F28_ok {a0 a1 : Value} {w : World} {Q : Value → World → Prop} (h : F28 a0 a1 w Q) : CallR Try.prog 28 [a0, a1] w Q :=
  call_ofE mixed entOk Try.func28 (c := C28) rfl H28 (Nat.le_of_ble_eq_true rfl) (by kernel_rfl) h
theorem L28_0_ok {x1 x6 x7 x8 : Value} {w : World} {Q : Value → World → Prop} (h : L28_0 x1 x6 x7 x8 w Q) : P28_0 x1 x6 x7 x8 w Q :=
  part_lpE mixed entOk Try.func28 H28 (by kernel_rfl) h

noncomputable def C29 : Code := (Try.f29.body).getD .skip
noncomputable def H29 : Hints := ⟨[(3, [0, 3, 4])], [(4, [0, 3, 4]), (7, [0, 3, 4])], []⟩
noncomputable def T29_0 : List It := [.lp (nav [1, 1, 0, 1, 4, 5] C29), .blk 0, .jn (nav [1, 1, 1] C29)]
noncomputable def T29_1 : List It := [.jn (nav [1, 1, 0, 1, 4, 5, 1, 0, 4, 1] C29), .blk 1, .jn (nav [1, 1, 0, 1, 4, 5, 1, 1] C29), .lp (nav [1, 1, 0, 1, 4, 5] C29), .blk 0, .jn (nav [1, 1, 1] C29)]
noncomputable def T29_2 : List It := [.jn (nav [1, 1, 0, 1, 4, 5, 1, 1] C29), .lp (nav [1, 1, 0, 1, 4, 5] C29), .blk 0, .jn (nav [1, 1, 1] C29)]
/-- rundale/rundaleref18.Sort, from a loop's head on -/
def P29_0 (x0 x3 x4 : Value) (w : World) (Q : Value → World → Prop) : Prop := Part Try.prog 29 T29_0 [0, 3, 4] [x0, x3, x4] w Q
/-- rundale/rundaleref18.Sort, from a join on -/
def P29_1 (x0 x3 x4 : Value) (w : World) (Q : Value → World → Prop) : Prop := Part Try.prog 29 T29_1 [0, 3, 4] [x0, x3, x4] w Q
/-- rundale/rundaleref18.Sort, from a join on -/
def P29_2 (x0 x3 x4 : Value) (w : World) (Q : Value → World → Prop) : Prop := Part Try.prog 29 T29_2 [0, 3, 4] [x0, x3, x4] w Q
def F29 (a0 : Value) (w : World) (Q : Value → World → Prop) : Prop :=
  P29_0 a0 (.slice none 0 0) (.int .i64 0) w Q
def L29_0 (x0 x3 x4 : Value) (w : World) (Q : Value → World → Prop) : Prop :=
  wpB (pureRun Try.prog (Builtin.len_ #[35] 3 #[x0])) fun t7 =>
  wpB (bp Try.prog .lss 3 x4 t7) fun t8 =>
  cnd t8
  (wpB (pureRun Try.prog (Instr.indexAt 35 x0 x4)) fun t13 =>
  wpB (pureRun Try.prog (Instr.fieldAt 34 t13 4)) fun t14 =>
  wpB (ldv Try.prog 3 t14 w) fun t15 =>
  wpB (bp Try.prog .geq 3 t15 (.int .i64 0)) fun t16 =>
  cnd t16
  (wpB (pureRun Try.prog (Instr.indexAt 35 x0 x4)) fun t20 =>
  wpB (pureRun Try.prog (Instr.fieldAt 34 t20 4)) fun t21 =>
  wpB (ldv Try.prog 3 t21 w) fun t22 =>
  wpB (pureRun Try.prog (Instr.build 67 #[(0, t22), (1, x4), (2, (.bool false))])) fun t24 =>
  CallR Try.prog 52 [x3, t24] w fun t25 w =>
  P29_1 x0 t25 x4 w Q)
  (P29_1 x0 x3 x4 w Q))
  (Q x3 w)
def L29_1 (x0 x3 x4 : Value) (w : World) (Q : Value → World → Prop) : Prop :=
  wpB (pureRun Try.prog (Instr.indexAt 35 x0 x4)) fun t28 =>
  wpB (pureRun Try.prog (Instr.fieldAt 34 t28 5)) fun t29 =>
  wpB (ldv Try.prog 3 t29 w) fun t30 =>
  wpB (bp Try.prog .geq 3 t30 (.int .i64 0)) fun t31 =>
  cnd t31
  (wpB (pureRun Try.prog (Instr.indexAt 35 x0 x4)) fun t35 =>
  wpB (pureRun Try.prog (Instr.fieldAt 34 t35 5)) fun t36 =>
  wpB (ldv Try.prog 3 t36 w) fun t37 =>
  wpB (pureRun Try.prog (Instr.build 67 #[(0, t37), (1, x4), (2, (.bool true))])) fun t39 =>
  CallR Try.prog 52 [x3, t39] w fun t40 w =>
  P29_2 x0 t40 x4 w Q)
  (P29_2 x0 x3 x4 w Q)
def L29_2 (x0 x3 x4 : Value) (w : World) (Q : Value → World → Prop) : Prop :=
  wpB (bp Try.prog .add 3 x4 (.int .i64 1)) fun t10 =>
  P29_0 x0 x3 t10 w Q
theorem F29_ok {a0 : Value} {w : World} {Q : Value → World → Prop} (h : F29 a0 w Q) : CallR Try.prog 29 [a0] w Q :=
  call_ofE mixed entOk Try.func29 (c := C29) rfl H29 (Nat.le_of_ble_eq_true rfl) (by kernel_rfl) h
theorem L29_0_ok {x0 x3 x4 : Value} {w : World} {Q : Value → World → Prop} (h : L29_0 x0 x3 x4 w Q) : P29_0 x0 x3 x4 w Q :=
  part_lpE mixed entOk Try.func29 H29 (by kernel_rfl) h
theorem L29_1_ok {x0 x3 x4 : Value} {w : World} {Q : Value → World → Prop} (h : L29_1 x0 x3 x4 w Q) : P29_1 x0 x3 x4 w Q :=
  part_jnE mixed entOk Try.func29 H29 (by kernel_rfl) h
theorem L29_2_ok {x0 x3 x4 : Value} {w : World} {Q : Value → World → Prop} (h : L29_2 x0 x3 x4 w Q) : P29_2 x0 x3 x4 w Q :=
  part_jnE mixed entOk Try.func29 H29 (by kernel_rfl) h

noncomputable def C30 : Code := (Try.f30.body).getD .skip
noncomputable def H30 : Hints := ⟨[(4, [0, 1, 4, 5])], [], [(7, (.leaf [0, 1, 2, 3, 4, 5, 6, 7, 8, 9, 10, 11, 12, 13, 14, 15, 16, 17, 18, 19, 20, 21, 22, 23, 24, 25, 26, 27, 28, 29, 30, 31, 32, 33, 34, 35, 36, 37, 38, 39, 40, 41, 42, 43, 44, 45]))]⟩
noncomputable def T30_0 : List It := [.lp (nav [1, 1, 0, 1, 4, 5] C30), .blk 0, .jn (nav [1, 1, 1] C30)]
/-- rundale/rundaleref18.Handle, from a loop's head on -/
def P30_0 (x0 x1 x4 x5 : Value) (w : World) (Q : Value → World → Prop) : Prop := Part Try.prog 30 T30_0 [0, 1, 4, 5] [x0, x1, x4, x5] w Q
def F30 (a0 a1 : Value) (w : World) (Q : Value → World → Prop) : Prop :=
  effv Try.prog (Instr.alloc 27 true (.tuple #[])) w fun t4 w =>
  wpB (bp Try.prog .lss 3 a1 (.int .i64 0)) fun t8 =>
  wpB (gd t8 false (pureRun Try.prog (Builtin.len_ #[35] 3 #[(gv t8 false a0)]))) fun t12 =>
  wpB (gd t8 false (bp Try.prog .geq 3 (gv t8 false a1) t12)) fun t13 =>
  wpB (pickv t8 (some (.bool true)) (some t13)) fun t14 =>
  wpB (gd t14 false (pureRun Try.prog (Instr.indexAt 35 (gv t14 false a0) (gv t14 false a1)))) fun t18 =>
  wpB (gd t14 false (pureRun Try.prog (Instr.fieldAt 34 t18 2))) fun t19 =>
  wpB (gd t14 false (pureRun Try.prog (Instr.fieldAt 29 t19 0))) fun t20 =>
  wpB (gd t14 false (ldv Try.prog 3 t20 w)) fun t21 =>
  gE t14 false (CallR Try.prog 53 [t21] w) (fun t22 w =>
  wpB (gd t14 false (be Try.prog .eql 3 (.tmp 22) (.const (.int .i64 0)) t22 (.int .i64 0))) fun t23 =>
  wpB (pickv t14 (some (.bool true)) (some t23)) fun t24 =>
  cnd t24
  (wpB (pureRun Try.prog (Instr.build 27 #[])) fun t25 =>
  effu Try.prog (Instr.storeAt 27 t4 t25) w fun w =>
  wpB (ldv Try.prog 27 t4 w) fun r4 => Q r4 w)
  (P30_0 a0 a1 t4 (.int .i64 0) w Q)) w
def L30_0 (x0 x1 x4 x5 : Value) (w : World) (Q : Value → World → Prop) : Prop :=
  wpB (pureRun Try.prog (Builtin.len_ #[35] 3 #[x0])) fun t28 =>
  wpB (bp Try.prog .lss 3 x5 t28) fun t29 =>
  cnd t29
  (wpB (pureRun Try.prog (Instr.indexAt 35 x0 x5)) fun t34 =>
  wpB (ldv Try.prog 34 t34 w) fun t35 =>
  effv Try.prog (Instr.alloc 34 true (.tuple #[])) w fun t6 w =>
  effu Try.prog (Instr.storeAt 34 t6 t35) w fun w =>
  wpB (pureRun Try.prog (Instr.fieldAt 34 t6 0)) fun t36 =>
  wpB (ldv Try.prog 3 t36 w.drew) fun t37 =>
  wpB (pureRun Try.prog (Instr.indexAt 35 x0 x1)) fun t40 =>
  wpB (pureRun Try.prog (Instr.fieldAt 34 t40 2)) fun t41 =>
  wpB (pureRun Try.prog (Instr.fieldAt 29 t41 1)) fun t42 =>
  wpB (ldv Try.prog 3 t42 w.drew) fun t43 =>
  wpB (be Try.prog .eql 3 (.tmp 37) (.tmp 43) t37 t43) fun t44 =>
  wpB (gd t44 true (pureRun Try.prog (Instr.fieldAt 34 t6 1))) fun t46 =>
  wpB (gd t44 true (ldv Try.prog 3 t46 w.drew)) fun t47 =>
  wpB (gd t44 true (pureRun Try.prog (Instr.indexAt 35 (gv t44 true x0) (gv t44 true x1)))) fun t50 =>
  wpB (gd t44 true (pureRun Try.prog (Instr.fieldAt 34 t50 2))) fun t51 =>
  wpB (gd t44 true (pureRun Try.prog (Instr.fieldAt 29 t51 2))) fun t52 =>
  wpB (gd t44 true (ldv Try.prog 3 t52 w.drew)) fun t53 =>
  wpB (gd t44 true (be Try.prog .eql 3 (.tmp 47) (.tmp 53) t47 t53)) fun t54 =>
  wpB (pickv t44 (some t54) (some (.bool false))) fun t55 =>
  wpB (gd t55 true (ldv Try.prog 34 t6 w.drew)) fun t57 =>
  wpB (gd t55 true (pureRun Try.prog (Instr.indexAt 35 (gv t55 true x0) (gv t55 true x1)))) fun t60 =>
  wpB (gd t55 true (ldv Try.prog 34 t60 w.drew)) fun t61 =>
  gE t55 true (CallR Try.prog 27 [t57, t61] w.drew) (fun t62 w =>
  wpB (pickv t55 (some t62) (some (.bool false))) fun t63 =>
  wpB (gd t63 true (pureRun Try.prog (Instr.fieldAt 34 t6 7))) fun t65 =>
  wpB (gd t63 true (pureRun Try.prog (Instr.fieldAt 32 t65 0))) fun t66 =>
  wpB (gd t63 true (ldv Try.prog 30 t66 w)) fun t67 =>
  wpB (gd t63 true (be Try.prog .eql 30 (.tmp 67) (.const (.int .i64 0)) t67 (.int .i64 0))) fun t68 =>
  wpB (pickv t63 (some t68) (some (.bool false))) fun t69 =>
  wpB (gd t69 true (pureRun Try.prog (Instr.fieldAt 34 t6 2))) fun t71 =>
  wpB (gd t69 true (pureRun Try.prog (Instr.fieldAt 29 t71 0))) fun t72 =>
  wpB (gd t69 true (ldv Try.prog 3 t72 w)) fun t73 =>
  wpB (gd t69 true (be Try.prog .eql 3 (.tmp 73) (.const (.int .i64 1)) t73 (.int .i64 1))) fun t74 =>
  wpB (gd (gv t69 true t74) false (pureRun Try.prog (Instr.fieldAt 34 t6 2))) fun t76 =>
  wpB (gd (gv t69 true t74) false (pureRun Try.prog (Instr.fieldAt 29 t76 0))) fun t77 =>
  wpB (gd (gv t69 true t74) false (ldv Try.prog 3 t77 w)) fun t78 =>
  wpB (gd (gv t69 true t74) false (be Try.prog .eql 3 (.tmp 78) (.const (.int .i64 2)) t78 (.int .i64 2))) fun t79 =>
  wpB (gd t69 true (pickv (gv t69 true t74) (some (.bool true)) (some t79))) fun t80 =>
  wpB (pickv t69 (some t80) (some (.bool false))) fun t81 =>
  cnd t81
  (wpB (pureRun Try.prog (Instr.fieldAt 34 t6 7)) fun t82 =>
  wpB (pureRun Try.prog (Instr.fieldAt 32 t82 1)) fun t83 =>
  wpB (ldv Try.prog 27 t83 w) fun t84 =>
  effu Try.prog (Instr.storeAt 27 x4 t84) w fun w =>
  wpB (ldv Try.prog 27 x4 w) fun r4 => Q r4 w)
  (wpB (bp Try.prog .add 3 x5 (.int .i64 1)) fun t31 =>
  P30_0 x0 x1 x4 t31 w Q)) w.drew)
  (wpB (pureRun Try.prog (Instr.build 27 #[])) fun t85 =>
  effu Try.prog (Instr.storeAt 27 x4 t85) w fun w =>
  wpB (ldv Try.prog 27 x4 w) fun r4_1 => Q r4_1 w)
theorem F30_ok {a0 a1 : Value} {w : World} {Q : Value → World → Prop} (h : F30 a0 a1 w Q) : CallR Try.prog 30 [a0, a1] w Q :=
  call_ofE mixed entOk Try.func30 (c := C30) rfl H30 (Nat.le_of_ble_eq_true rfl) (by kernel_rfl) h
theorem L30_0_ok {x0 x1 x4 x5 : Value} {w : World} {Q : Value → World → Prop} (h : L30_0 x0 x1 x4 x5 w Q) : P30_0 x0 x1 x4 x5 w Q :=
  part_lpE mixed entOk Try.func30 H30 (by kernel_rfl) h

noncomputable def C31 : Code := (Try.f31.body).getD .skip
noncomputable def H31 : Hints := ⟨[], [], []⟩
def F31 (a0 a1 a2 : Value) (w : World) (Q : Value → World → Prop) : Prop :=
  wpB (bp Try.prog .geq 3 a0 a1) fun t9 =>
  wpB (gd t9 true (bp Try.prog .leq 3 (gv t9 true a0) (gv t9 true a2))) fun t13 =>
  wpB (pickv t9 (some t13) (some (.bool false))) fun t14 =>
  Q t14 w
theorem F31_ok {a0 a1 a2 : Value} {w : World} {Q : Value → World → Prop} (h : F31 a0 a1 a2 w Q) : CallR Try.prog 31 [a0, a1, a2] w Q :=
  call_ofE mixed entOk Try.func31 (c := C31) rfl H31 (Nat.le_of_ble_eq_true rfl) (by kernel_rfl) h

noncomputable def C32 : Code := (Try.f32.body).getD .skip
noncomputable def H32 : Hints := ⟨[], [], []⟩
def F32 (a0 : Value) (w : World) (Q : Value → World → Prop) : Prop :=
  effv Try.prog (Instr.box 34 a0) w fun t1 w =>
  wpB (pureRun Try.prog (Instr.fieldAt 34 t1 0)) fun t3 =>
  wpB (ldv Try.prog 3 t3 w) fun t4 =>
  wpB (bp Try.prog .lss 3 t4 (.int .i64 0)) fun t5 =>
  wpB (gd t5 false (pureRun Try.prog (Instr.fieldAt 34 t1 0))) fun t7 =>
  wpB (gd t5 false (ldv Try.prog 3 t7 w)) fun t8 =>
  wpB (gd t5 false (bp Try.prog .geq 3 t8 (.int .i64 64))) fun t9 =>
  wpB (pickv t5 (some (.bool true)) (some t9)) fun t10 =>
  wpB (gd t10 false (pureRun Try.prog (Instr.fieldAt 34 t1 3))) fun t12 =>
  wpB (gd t10 false (ldv Try.prog 3 t12 w)) fun t13 =>
  wpB (gd t10 false (bp Try.prog .lss 3 t13 (.int .i64 0))) fun t14 =>
  wpB (pickv t10 (some (.bool true)) (some t14)) fun t15 =>
  wpB (gd t15 false (pureRun Try.prog (Instr.fieldAt 34 t1 4))) fun t17 =>
  wpB (gd t15 false (ldv Try.prog 3 t17 w)) fun t18 =>
  wpB (gd t15 false (be Try.prog .neq 3 (.tmp 18) (.const (.int .i64 (-1))) t18 (.int .i64 (-1)))) fun t19 =>
  wpB (gd (gv t15 false t19) true (pureRun Try.prog (Instr.fieldAt 34 t1 4))) fun t21 =>
  wpB (gd (gv t15 false t19) true (ldv Try.prog 3 t21 w)) fun t22 =>
  wpB (gd (gv t15 false t19) true (pureRun Try.prog (Instr.fieldAt 34 t1 3))) fun t23 =>
  wpB (gd (gv t15 false t19) true (ldv Try.prog 3 t23 w)) fun t24 =>
  wpB (gd (gv t15 false t19) true (bp Try.prog .lss 3 t22 t24)) fun t25 =>
  wpB (gd t15 false (pickv (gv t15 false t19) (some t25) (some (.bool false)))) fun t26 =>
  wpB (pickv t15 (some (.bool true)) (some t26)) fun t27 =>
  cnd t27
  (Q (.bool false) w)
  (wpB (pureRun Try.prog (Instr.fieldAt 34 t1 5)) fun t28 =>
  wpB (ldv Try.prog 3 t28 w) fun t29 =>
  wpB (be Try.prog .neq 3 (.tmp 29) (.const (.int .i64 (-1))) t29 (.int .i64 (-1))) fun t30 =>
  wpB (gd t30 true (pureRun Try.prog (Instr.fieldAt 34 t1 4))) fun t32 =>
  wpB (gd t30 true (ldv Try.prog 3 t32 w)) fun t33 =>
  wpB (gd t30 true (be Try.prog .eql 3 (.tmp 33) (.const (.int .i64 (-1))) t33 (.int .i64 (-1)))) fun t34 =>
  wpB (gd (gv t30 true t34) false (pureRun Try.prog (Instr.fieldAt 34 t1 5))) fun t36 =>
  wpB (gd (gv t30 true t34) false (ldv Try.prog 3 t36 w)) fun t37 =>
  wpB (gd (gv t30 true t34) false (pureRun Try.prog (Instr.fieldAt 34 t1 4))) fun t38 =>
  wpB (gd (gv t30 true t34) false (ldv Try.prog 3 t38 w)) fun t39 =>
  wpB (gd (gv t30 true t34) false (bp Try.prog .leq 3 t37 t39)) fun t40 =>
  wpB (gd t30 true (pickv (gv t30 true t34) (some (.bool true)) (some t40))) fun t41 =>
  wpB (pickv t30 (some t41) (some (.bool false))) fun t42 =>
  cnd t42
  (Q (.bool false) w)
  (wpB (pureRun Try.prog (Instr.fieldAt 34 t1 6)) fun t43 =>
  wpB (ldv Try.prog 3 t43 w) fun t44 =>
  wpB (be Try.prog .eql 3 (.tmp 44) (.const (.int .i64 (-1))) t44 (.int .i64 (-1))) fun t45 =>
  wpB (gd t45 false (pureRun Try.prog (Instr.fieldAt 34 t1 4))) fun t47 =>
  wpB (gd t45 false (ldv Try.prog 3 t47 w)) fun t48 =>
  wpB (gd t45 false (be Try.prog .neq 3 (.tmp 48) (.const (.int .i64 (-1))) t48 (.int .i64 (-1)))) fun t49 =>
  wpB (gd (gv t45 false t49) true (pureRun Try.prog (Instr.fieldAt 34 t1 6))) fun t51 =>
  wpB (gd (gv t45 false t49) true (ldv Try.prog 3 t51 w)) fun t52 =>
  wpB (gd (gv t45 false t49) true (pureRun Try.prog (Instr.fieldAt 34 t1 3))) fun t53 =>
  wpB (gd (gv t45 false t49) true (ldv Try.prog 3 t53 w)) fun t54 =>
  wpB (gd (gv t45 false t49) true (pureRun Try.prog (Instr.fieldAt 34 t1 4))) fun t55 =>
  wpB (gd (gv t45 false t49) true (ldv Try.prog 3 t55 w)) fun t56 =>
  wpB (gd (gv t45 false t49) true (pureRun Try.prog (Instr.fieldAt 34 t1 5))) fun t57 =>
  wpB (gd (gv t45 false t49) true (ldv Try.prog 3 t57 w)) fun t58 =>
  wpB (gd (gv t45 false t49) true (pureRun Try.prog (Builtin.max_ #[3, 3, 3] 3 #[t54, t56, t58]))) fun t59 =>
  wpB (gd (gv t45 false t49) true (bp Try.prog .geq 3 t52 t59)) fun t60 =>
  wpB (gd t45 false (pickv (gv t45 false t49) (some t60) (some (.bool false)))) fun t61 =>
  wpB (pickv t45 (some (.bool true)) (some t61)) fun t62 =>
  Q t62 w))
theorem F32_ok {a0 : Value} {w : World} {Q : Value → World → Prop} (h : F32 a0 w Q) : CallR Try.prog 32 [a0] w Q :=
  call_ofE mixed entOk Try.func32 (c := C32) rfl H32 (Nat.le_of_ble_eq_true rfl) (by kernel_rfl) h

noncomputable def C33 : Code := (Try.f33.body).getD .skip
noncomputable def H33 : Hints := ⟨[], [], []⟩
def F33 (a0 a1 : Value) (w : World) (Q : Value → World → Prop) : Prop :=
  effv Try.prog (Instr.box 34 a0) w fun t2 w =>
  effv Try.prog (Instr.box 34 a1) w fun t3 w =>
  wpB (pureRun Try.prog (Instr.fieldAt 34 t2 6)) fun t5 =>
  wpB (ldv Try.prog 3 t5 w) fun t6 =>
  wpB (bp Try.prog .geq 3 t6 (.int .i64 0)) fun t7 =>
  wpB (gd t7 true (pureRun Try.prog (Instr.fieldAt 34 t2 6))) fun t9 =>
  wpB (gd t7 true (ldv Try.prog 3 t9 w)) fun t10 =>
  wpB (gd t7 true (pureRun Try.prog (Instr.fieldAt 34 t3 3))) fun t11 =>
  wpB (gd t7 true (ldv Try.prog 3 t11 w)) fun t12 =>
  wpB (gd t7 true (bp Try.prog .lss 3 t10 t12)) fun t13 =>
  wpB (pickv t7 (some t13) (some (.bool false))) fun t14 =>
  Q t14 w
theorem F33_ok {a0 a1 : Value} {w : World} {Q : Value → World → Prop} (h : F33 a0 a1 w Q) : CallR Try.prog 33 [a0, a1] w Q :=
  call_ofE mixed entOk Try.func33 (c := C33) rfl H33 (Nat.le_of_ble_eq_true rfl) (by kernel_rfl) h

noncomputable def C34 : Code := (Try.f34.body).getD .skip
noncomputable def H34 : Hints := ⟨[(3, [5, 25, 26, 27])], [], []⟩
noncomputable def T34_0 : List It := [.lp (nav [1, 1, 0, 1, 4, 5] C34), .blk 0, .jn (nav [1, 1, 1] C34)]
/-- rundale/record.shared, from a loop's head on -/
def P34_0 (x5 x25 x26 x27 : Value) (w : World) (Q : Value → World → Prop) : Prop := Part Try.prog 34 T34_0 [5, 25, 26, 27] [x5, x25, x26, x27] w Q
def F34 (a0 a1 : Value) (w : World) (Q : Value → World → Prop) : Prop :=
  effv Try.prog (Instr.box 34 a0) w fun t2 w =>
  effv Try.prog (Instr.box 34 a1) w fun t3 w =>
  wpB (pureRun Try.prog (Instr.fieldAt 34 t2 3)) fun t8 =>
  wpB (ldv Try.prog 3 t8 w) fun t9 =>
  wpB (pureRun Try.prog (Instr.fieldAt 34 t2 4)) fun t10 =>
  wpB (ldv Try.prog 3 t10 w) fun t11 =>
  wpB (pureRun Try.prog (Instr.fieldAt 34 t2 5)) fun t12 =>
  wpB (ldv Try.prog 3 t12 w) fun t13 =>
  wpB (pureRun Try.prog (Instr.fieldAt 34 t2 6)) fun t14 =>
  wpB (ldv Try.prog 3 t14 w) fun t15 =>
  effv Try.prog (Instr.buildSlice 36 4 #[(0, t9), (1, t11), (2, t13), (3, t15)]) w fun t16 w =>
  wpB (pureRun Try.prog (Instr.fieldAt 34 t3 3)) fun t17 =>
  wpB (ldv Try.prog 3 t17 w) fun t18 =>
  wpB (pureRun Try.prog (Instr.fieldAt 34 t3 4)) fun t19 =>
  wpB (ldv Try.prog 3 t19 w) fun t20 =>
  wpB (pureRun Try.prog (Instr.fieldAt 34 t3 5)) fun t21 =>
  wpB (ldv Try.prog 3 t21 w) fun t22 =>
  wpB (pureRun Try.prog (Instr.fieldAt 34 t3 6)) fun t23 =>
  wpB (ldv Try.prog 3 t23 w) fun t24 =>
  effv Try.prog (Instr.buildSlice 36 4 #[(0, t18), (1, t20), (2, t22), (3, t24)]) w fun t25 w =>
  wpB (pureRun Try.prog (Builtin.len_ #[36] 3 #[t25])) fun t26 =>
  P34_0 t16 t25 t26 (.int .i64 0) w Q
def L34_0 (x5 x25 x26 x27 : Value) (w : World) (Q : Value → World → Prop) : Prop :=
  wpB (bp Try.prog .lss 3 x27 x26) fun t28 =>
  cnd t28
  (wpB (pureRun Try.prog (Instr.indexAt 36 x25 x27)) fun t29 =>
  wpB (ldv Try.prog 3 t29 w) fun t30 =>
  wpB (be Try.prog .neq 3 (.tmp 31) (.const (.int .i64 (-1))) t30 (.int .i64 (-1))) fun t32 =>
  gE t32 true (CallR Try.prog 54 [(gv t32 true x5), (gv t32 true t30)] w) (fun t36 w =>
  wpB (pickv t32 (some t36) (some (.bool false))) fun t37 =>
  cnd t37
  (Q (.bool true) w)
  (wpB (bp Try.prog .add 3 x27 (.int .i64 1)) fun t38 =>
  P34_0 x5 x25 x26 t38 w Q)) w)
  (Q (.bool false) w)
theorem F34_ok {a0 a1 : Value} {w : World} {Q : Value → World → Prop} (h : F34 a0 a1 w Q) : CallR Try.prog 34 [a0, a1] w Q :=
  call_ofE mixed entOk Try.func34 (c := C34) rfl H34 (Nat.le_of_ble_eq_true rfl) (by kernel_rfl) h
theorem L34_0_ok {x5 x25 x26 x27 : Value} {w : World} {Q : Value → World → Prop} (h : L34_0 x5 x25 x26 x27 w Q) : P34_0 x5 x25 x26 x27 w Q :=
  part_lpE mixed entOk Try.func34 H34 (by kernel_rfl) h

noncomputable def C37 : Code := (Try.f37.body).getD .skip
noncomputable def H37 : Hints := ⟨[], [(9, [0, 6, 7, 8, 10, 28, 29]), (12, [0, 6, 7, 8, 10, 28, 33]), (15, [8, 10, 55]), (18, [8, 10])], [(14, (.ask 8 4 (.leaf [0, 2, 7, 1, 3, 8, 4, 5, 6, 9]) (.leaf [0, 1, 2, 3, 4, 5, 6, 7, 8, 9])))]⟩
noncomputable def T37_0 : List It := [.jn (nav [1, 1, 1, 1, 0, 1, 4, 1] C37), .blk 0, .jn (nav [1, 1, 1, 1, 1] C37)]
noncomputable def T37_1 : List It := [.jn (nav [1, 1, 1, 1, 0, 1, 4, 1, 3, 1] C37), .blk 0, .jn (nav [1, 1, 1, 1, 1] C37)]
noncomputable def T37_2 : List It := [.jn (nav [1, 1, 1, 1, 1] C37)]
noncomputable def T37_3 : List It := [.jn (nav [1, 1, 1, 1, 0, 1, 4, 1, 3, 1, 3, 1, 2, 1] C37), .blk 0, .jn (nav [1, 1, 1, 1, 1] C37)]
/-- (*rundale/model.Model).Must, from a join on -/
def P37_0 (x0 x6 x7 x8 x10 x28 x29 : Value) (w : World) (Q : Value → World → Prop) : Prop := Part Try.prog 37 T37_0 [0, 6, 7, 8, 10, 28, 29] [x0, x6, x7, x8, x10, x28, x29] w Q
/-- (*rundale/model.Model).Must, from a join on -/
def P37_1 (x0 x6 x7 x8 x10 x28 x33 : Value) (w : World) (Q : Value → World → Prop) : Prop := Part Try.prog 37 T37_1 [0, 6, 7, 8, 10, 28, 33] [x0, x6, x7, x8, x10, x28, x33] w Q
/-- (*rundale/model.Model).Must, from a join on -/
def P37_2 (x8 x10 : Value) (w : World) (Q : Value → World → Prop) : Prop := Part Try.prog 37 T37_2 [8, 10] [x8, x10] w Q
/-- (*rundale/model.Model).Must, from a join on -/
def P37_3 (x8 x10 x55 : Value) (w : World) (Q : Value → World → Prop) : Prop := Part Try.prog 37 T37_3 [8, 10, 55] [x8, x10, x55] w Q
def F37 (a0 a1 a2 a3 : Value) (w : World) (Q : Value → World → Prop) : Prop :=
  effv Try.prog (Instr.box 29 a2) w fun t6 w =>
  effv Try.prog (Instr.box 27 a3) w fun t7 w =>
  effv Try.prog (Instr.alloc 32 true (.tuple #[])) w fun t8 w =>
  wpB (ldv Try.prog 29 t6 w) fun t13 =>
  CallR Try.prog 44 [a0, a1, t13] w fun t14 w =>
  wpB (pureRun Try.prog (Op.unary .not t14)) fun t15 =>
  cnd t15
  (wpB (pureRun Try.prog (Instr.build 32 #[])) fun t16 =>
  effu Try.prog (Instr.storeAt 32 t8 t16) w fun w =>
  wpB (ldv Try.prog 32 t8 w) fun r8 => Q (.tuple #[r8, (.bool false)]) w)
  (wpB (ldv Try.prog 29 t6 w) fun t19 =>
  wpB (ldv Try.prog 27 t7 w) fun t20 =>
  CallR Try.prog 56 [a0, a1, t19, t20] w fun t21 w =>
  wpB (pureRun Try.prog (Instr.build 32 #[(0, t21)])) fun t22 =>
  effv Try.prog (Instr.alloc 32 true (.tuple #[])) w fun t10 w =>
  effu Try.prog (Instr.storeAt 32 t10 t22) w fun w =>
  wpB (pureRun Try.prog (Instr.fieldAt 32 t10 0)) fun t23 =>
  wpB (ldv Try.prog 30 t23 w) fun t24 =>
  wpB (be Try.prog .neq 30 (.tmp 24) (.const (.int .i64 0)) t24 (.int .i64 0)) fun t25 =>
  cnd t25
  (wpB (ldv Try.prog 32 t10 w) fun t26 =>
  effu Try.prog (Instr.storeAt 32 t8 t26) w fun w =>
  wpB (ldv Try.prog 32 t8 w) fun r8_1 => Q (.tuple #[r8_1, (.bool true)]) w)
  (wpB (pureRun Try.prog (Instr.fieldAt 29 t6 0)) fun t27 =>
  wpB (ldv Try.prog 3 t27 w) fun t28 =>
  wpB (be Try.prog .eql 3 (.tmp 28) (.const (.int .i64 1)) t28 (.int .i64 1)) fun t30 =>
  cnd t30
  (P37_0 a0 t6 t7 t8 t10 t28 t30 w Q)
  (wpB (be Try.prog .eql 3 (.tmp 28) (.const (.int .i64 2)) t28 (.int .i64 2)) fun t31 =>
  P37_0 a0 t6 t7 t8 t10 t28 t31 w Q)))
def L37_0 (x0 x6 x7 x8 x10 x28 x29 : Value) (w : World) (Q : Value → World → Prop) : Prop :=
  cnd x29
  (wpB (pureRun Try.prog (Instr.build 32 #[])) fun t32 =>
  effu Try.prog (Instr.storeAt 32 x8 t32) w fun w =>
  wpB (ldv Try.prog 32 x8 w) fun r8 => Q (.tuple #[r8, (.bool false)]) w)
  (wpB (be Try.prog .eql 3 (.tmp 28) (.const (.int .i64 6)) x28 (.int .i64 6)) fun t34 =>
  cnd t34
  (P37_1 x0 x6 x7 x8 x10 x28 t34 w Q)
  (wpB (be Try.prog .eql 3 (.tmp 28) (.const (.int .i64 8)) x28 (.int .i64 8)) fun t35 =>
  P37_1 x0 x6 x7 x8 x10 x28 t35 w Q))
def L37_1 (x0 x6 x7 x8 x10 x28 x33 : Value) (w : World) (Q : Value → World → Prop) : Prop :=
  cnd x33
  (wpB (ldv Try.prog 27 x7 w) fun t37 =>
  wpB (pureRun Try.prog (Instr.fieldAt 29 x6 3)) fun t38 =>
  wpB (ldv Try.prog 3 t38 w) fun t39 =>
  CallR Try.prog 57 [x0, t37, t39] w fun t40 w =>
  wpB (nilv t40) fun t41 =>
  wpB (ldv Try.prog 22 t41 w) fun t42 =>
  wpB (pureRun Try.prog (Instr.fieldAt 32 x10 3)) fun t43 =>
  effu Try.prog (Instr.storeAt 22 t43 t42) w fun w =>
  P37_2 x8 x10 w Q)
  (wpB (be Try.prog .eql 3 (.tmp 28) (.const (.int .i64 9)) x28 (.int .i64 9)) fun t45 =>
  cnd t45
  ((wpB (pureRun Try.prog (Instr.fieldAt 29 x6 3)) fun t48 =>
  wpB (pureRun Try.prog (Instr.fieldAt 29 x6 4)) fun t53 =>
  wpB (ldv Try.prog 27 x7 w.drew) fun t47 =>
  wpB (ldv Try.prog 3 t48 w.drew) fun t49 =>
  wpB (ldv Try.prog 22 t53 w.drew) fun t54 =>
  CallR Try.prog 57 [x0, t47, t49] w.drew fun t50 w =>
  wpB (nilv t50) fun t51 =>
  wpB (ldv Try.prog 22 t51 w) fun t52 =>
  wpB (be Try.prog .eql 22 (.tmp 52) (.tmp 54) t52 t54) fun t55 =>
  P37_3 x8 x10 t55 w Q) ∧
  (wpB (ldv Try.prog 27 x7 w.drew) fun t47_1 =>
  wpB (pureRun Try.prog (Instr.fieldAt 29 x6 3)) fun t48_1 =>
  wpB (ldv Try.prog 3 t48_1 w.drew) fun t49_1 =>
  CallR Try.prog 57 [x0, t47_1, t49_1] w.drew fun t50_1 w =>
  wpB (nilv t50_1) fun t51_1 =>
  wpB (ldv Try.prog 22 t51_1 w) fun t52_1 =>
  wpB (pureRun Try.prog (Instr.fieldAt 29 x6 4)) fun t53_1 =>
  wpB (ldv Try.prog 22 t53_1 w) fun t54_1 =>
  wpB (be Try.prog .eql 22 (.tmp 52) (.tmp 54) t52_1 t54_1) fun t55_1 =>
  P37_3 x8 x10 t55_1 w Q))
  (wpB (be Try.prog .eql 3 (.tmp 28) (.const (.int .i64 12)) x28 (.int .i64 12)) fun t58 =>
  cnd t58
  (wpB (ldv Try.prog 27 x7 w) fun t60 =>
  CallR Try.prog 59 [t60] w fun t61 w =>
  CallR Try.prog 58 [x0, t61] w fun t62 w =>
  wpB (nilv t62) fun t63 =>
  wpB (pureRun Try.prog (Instr.fieldAt 98 t63 2)) fun t64 =>
  wpB (ldv Try.prog 3 t64 w) fun t65 =>
  wpB (pureRun Try.prog (Instr.fieldAt 32 x10 2)) fun t66 =>
  effu Try.prog (Instr.storeAt 3 t66 t65) w fun w =>
  P37_2 x8 x10 w Q)
  (P37_2 x8 x10 w Q)))
def L37_2 (x8 x10 : Value) (w : World) (Q : Value → World → Prop) : Prop :=
  wpB (ldv Try.prog 32 x10 w) fun t67 =>
  effu Try.prog (Instr.storeAt 32 x8 t67) w fun w =>
  wpB (ldv Try.prog 32 x8 w) fun r8 => Q (.tuple #[r8, (.bool true)]) w
def L37_3 (x8 x10 x55 : Value) (w : World) (Q : Value → World → Prop) : Prop :=
  cnd x55
  (wpB (pureRun Try.prog (Instr.fieldAt 32 x10 2)) fun t56 =>
  effu Try.prog (Instr.storeAt 3 t56 (.int .i64 1)) w fun w =>
  P37_2 x8 x10 w Q)
  (P37_2 x8 x10 w Q)
theorem F37_ok {a0 a1 a2 a3 : Value} {w : World} {Q : Value → World → Prop} (h : F37 a0 a1 a2 a3 w Q) : CallR Try.prog 37 [a0, a1, a2, a3] w Q :=
  call_ofE mixed entOk Try.func37 (c := C37) rfl H37 (Nat.le_of_ble_eq_true rfl) (by kernel_rfl) h
theorem L37_0_ok {x0 x6 x7 x8 x10 x28 x29 : Value} {w : World} {Q : Value → World → Prop} (h : L37_0 x0 x6 x7 x8 x10 x28 x29 w Q) : P37_0 x0 x6 x7 x8 x10 x28 x29 w Q :=
  part_jnE mixed entOk Try.func37 H37 (by kernel_rfl) h
theorem L37_1_ok {x0 x6 x7 x8 x10 x28 x33 : Value} {w : World} {Q : Value → World → Prop} (h : L37_1 x0 x6 x7 x8 x10 x28 x33 w Q) : P37_1 x0 x6 x7 x8 x10 x28 x33 w Q :=
  part_jnE mixed entOk Try.func37 H37 (by kernel_rfl) h
theorem L37_2_ok {x8 x10 : Value} {w : World} {Q : Value → World → Prop} (h : L37_2 x8 x10 w Q) : P37_2 x8 x10 w Q :=
  part_jnE mixed entOk Try.func37 H37 (by kernel_rfl) h
theorem L37_3_ok {x8 x10 x55 : Value} {w : World} {Q : Value → World → Prop} (h : L37_3 x8 x10 x55 w Q) : P37_3 x8 x10 x55 w Q :=
  part_jnE mixed entOk Try.func37 H37 (by kernel_rfl) h

noncomputable def C39 : Code := (Try.f39.body).getD .skip
noncomputable def H39 : Hints := ⟨[], [], []⟩
def F39 (a0 a1 : Value) (w : World) (Q : Value → World → Prop) : Prop :=
  wpB (pureRun Try.prog (Builtin.len_ #[56] 3 #[a0])) fun t6 =>
  CallR Try.prog 68 [a0, t6, a1] w fun t8 w =>
  Q (.tuple #[]) w
theorem F39_ok {a0 a1 : Value} {w : World} {Q : Value → World → Prop} (h : F39 a0 a1 w Q) : CallR Try.prog 39 [a0, a1] w Q :=
  call_ofE mixed entOk Try.func39 (c := C39) rfl H39 (Nat.le_of_ble_eq_true rfl) (by kernel_rfl) h

noncomputable def C40 : Code := (Try.f40.body).getD .skip
noncomputable def H40 : Hints := ⟨[], [], []⟩
def F40 (a0 a1 : Value) (w : World) (Q : Value → World → Prop) : Prop :=
  effv Try.prog (Instr.box 59 a0) w fun t2 w =>
  effv Try.prog (Instr.box 59 a1) w fun t3 w =>
  wpB (pureRun Try.prog (Instr.fieldAt 59 t2 0)) fun t5 =>
  wpB (ldv Try.prog 3 t5 w) fun t6 =>
  wpB (pureRun Try.prog (Instr.fieldAt 59 t3 0)) fun t7 =>
  wpB (ldv Try.prog 3 t7 w) fun t8 =>
  wpB (be Try.prog .neq 3 (.tmp 6) (.tmp 8) t6 t8) fun t9 =>
  cnd t9
  (wpB (pureRun Try.prog (Instr.fieldAt 59 t2 0)) fun t10 =>
  wpB (ldv Try.prog 3 t10 w) fun t11 =>
  wpB (pureRun Try.prog (Instr.fieldAt 59 t3 0)) fun t12 =>
  wpB (ldv Try.prog 3 t12 w) fun t13 =>
  CallR Try.prog 41 [t11, t13] w fun t14 w =>
  Q t14 w)
  (wpB (pureRun Try.prog (Instr.fieldAt 59 t2 2)) fun t16 =>
  wpB (ldv Try.prog 4 t16 w) fun t17 =>
  wpB (pureRun Try.prog (Instr.fieldAt 59 t3 2)) fun t18 =>
  wpB (ldv Try.prog 4 t18 w) fun t19 =>
  wpB (be Try.prog .eql 4 (.tmp 17) (.tmp 19) t17 t19) fun t20 =>
  cnd t20
  (Q (.int .i64 0) w)
  (wpB (pureRun Try.prog (Instr.fieldAt 59 t3 2)) fun t22 =>
  wpB (ldv Try.prog 4 t22 w) fun t23 =>
  cnd t23
  (Q (.int .i64 (-1)) w)
  (Q (.int .i64 1) w)))
theorem F40_ok {a0 a1 : Value} {w : World} {Q : Value → World → Prop} (h : F40 a0 a1 w Q) : CallR Try.prog 40 [a0, a1] w Q :=
  call_ofE mixed entOk Try.func40 (c := C40) rfl H40 (Nat.le_of_ble_eq_true rfl) (by kernel_rfl) h

noncomputable def C41 : Code := (Try.f41.body).getD .skip
noncomputable def H41 : Hints := ⟨[], [], []⟩
def F41 (a0 a1 : Value) (w : World) (Q : Value → World → Prop) : Prop :=
  CallR Try.prog 69 [a0] w fun t8 w =>
  CallR Try.prog 69 [a1] w fun t10 w =>
  cnd t8
  (cnd t10
  (Q (.int .i64 0) w)
  (Q (.int .i64 (-1)) w))
  (cnd t10
  (Q (.int .i64 1) w)
  (wpB (bp Try.prog .lss 3 a0 a1) fun t16 =>
  cnd t16
  (Q (.int .i64 (-1)) w)
  (wpB (bp Try.prog .gtr 3 a0 a1) fun t19 =>
  cnd t19
  (Q (.int .i64 1) w)
  (Q (.int .i64 0) w))))
theorem F41_ok {a0 a1 : Value} {w : World} {Q : Value → World → Prop} (h : F41 a0 a1 w Q) : CallR Try.prog 41 [a0, a1] w Q :=
  call_ofE mixed entOk Try.func41 (c := C41) rfl H41 (Nat.le_of_ble_eq_true rfl) (by kernel_rfl) h

noncomputable def C42 : Code := (Try.f42.body).getD .skip
noncomputable def H42 : Hints := ⟨[], [], []⟩
def F42 (a0 : Value) (w : World) (Q : Value → World → Prop) : Prop :=
  CallR Try.prog 70 [a0] w fun t4 w =>
  wpB (pureRun Try.prog (Instr.field 116 t4 1)) fun t5 =>
  Q t5 w
theorem F42_ok {a0 : Value} {w : World} {Q : Value → World → Prop} (h : F42 a0 w Q) : CallR Try.prog 42 [a0] w Q :=
  call_ofE mixed entOk Try.func42 (c := C42) rfl H42 (Nat.le_of_ble_eq_true rfl) (by kernel_rfl) h

noncomputable def C43 : Code := (Try.f43.body).getD .skip
noncomputable def H43 : Hints := ⟨[], [], []⟩
def F43 (a0 a1 : Value) (w : World) (Q : Value → World → Prop) : Prop :=
  wpB (bp Try.prog .geq 3 a1 (.int .i64 0)) fun t6 =>
  wpB (gd t6 true (nilv (gv t6 true a0))) fun t10 =>
  wpB (gd t6 true (pureRun Try.prog (Instr.fieldAt 72 t10 2))) fun t11 =>
  wpB (gd t6 true (ldv Try.prog 68 t11 w)) fun t12 =>
  wpB (gd t6 true (pureRun Try.prog (Builtin.len_ #[68] 3 #[t12]))) fun t13 =>
  wpB (gd t6 true (bp Try.prog .lss 3 (gv t6 true a1) t13)) fun t14 =>
  wpB (pickv t6 (some t14) (some (.bool false))) fun t15 =>
  Q t15 w
theorem F43_ok {a0 a1 : Value} {w : World} {Q : Value → World → Prop} (h : F43 a0 a1 w Q) : CallR Try.prog 43 [a0, a1] w Q :=
  call_ofE mixed entOk Try.func43 (c := C43) rfl H43 (Nat.le_of_ble_eq_true rfl) (by kernel_rfl) h

noncomputable def C44 : Code := (Try.f44.body).getD .skip
noncomputable def H44 : Hints := ⟨[], [], []⟩
def F44 (a0 a1 a2 : Value) (w : World) (Q : Value → World → Prop) : Prop :=
  effv Try.prog (Instr.box 29 a2) w fun t5 w =>
  wpB (bp Try.prog .geq 3 a1 (.int .i64 0)) fun t8 =>
  wpB (gd t8 true (nilv (gv t8 true a0))) fun t12 =>
  wpB (gd t8 true (pureRun Try.prog (Instr.fieldAt 72 t12 4))) fun t13 =>
  wpB (gd t8 true (ldv Try.prog 70 t13 w)) fun t14 =>
  wpB (gd t8 true (pureRun Try.prog (Builtin.len_ #[70] 3 #[t14]))) fun t15 =>
  wpB (gd t8 true (bp Try.prog .lss 3 (gv t8 true a1) t15)) fun t16 =>
  wpB (pickv t8 (some t16) (some (.bool false))) fun t17 =>
  wpB (gd t17 true (ldv Try.prog 29 t5 w)) fun t19 =>
  gE t17 true (CallR Try.prog 71 [t19] w) (fun t20 w =>
  wpB (pickv t17 (some t20) (some (.bool false))) fun t21 =>
  Q t21 w) w
theorem F44_ok {a0 a1 a2 : Value} {w : World} {Q : Value → World → Prop} (h : F44 a0 a1 a2 w Q) : CallR Try.prog 44 [a0, a1, a2] w Q :=
  call_ofE mixed entOk Try.func44 (c := C44) rfl H44 (Nat.le_of_ble_eq_true rfl) (by kernel_rfl) h

noncomputable def C45 : Code := (Try.f45.body).getD .skip
noncomputable def H45 : Hints := ⟨[], [(2, [0, 6, 7, 8, 9])], [(1, (.ask 3 7 (.ask 8 7 (.leaf [0, 1, 2, 4, 3, 5, 6, 8, 7, 9, 10]) (.leaf [0, 1, 2, 3, 4, 5, 6, 7, 8, 9, 10])) (.ask 8 7 (.leaf [0, 1, 2, 4, 6, 8, 7, 3, 5, 9, 10]) (.leaf [0, 1, 2, 4, 6, 7, 3, 5, 8, 9, 10])))), (10, (.leaf [0, 1, 2, 3, 4, 5, 6])), (11, (.leaf [0, 1, 2, 3, 4, 5, 6, 7, 8, 9, 10])), (13, (.ask 6 4 (.leaf [0, 2, 5, 1, 3, 6, 4, 7, 8]) (.leaf [0, 1, 2, 3, 4, 5, 6, 7, 8]))), (15, (.ask 8 4 (.leaf [0, 2, 7, 1, 3, 8, 4, 5, 6, 9, 10, 11]) (.leaf [0, 1, 2, 3, 4, 5, 6, 7, 8, 9, 10, 11]))), (18, (.leaf [0, 1, 2, 3, 4, 5])), (21, (.leaf [0, 1, 2, 3, 4, 5, 6, 7, 8])), (23, (.leaf [0, 1, 2, 3, 4, 5, 6, 7, 8]))]⟩
noncomputable def T45_0 : List It := [.jn (nav [1, 1] C45)]
/-- (*rundale/model.Model).does, from a join on -/
def P45_0 (x0 x6 x7 x8 x9 : Value) (w : World) (Q : Value → World → Prop) : Prop := Part Try.prog 45 T45_0 [0, 6, 7, 8, 9] [x0, x6, x7, x8, x9] w Q
def F45 (a0 a1 a2 a3 : Value) (w : World) (Q : Value → World → Prop) : Prop :=
  effv Try.prog (Instr.box 29 a2) w fun t6 w =>
  effv Try.prog (Instr.box 27 a3) w fun t7 w =>
  ((wpB (nilv a0) fun t12 =>
  wpB (pureRun Try.prog (Instr.fieldAt 72 t12 4)) fun t13 =>
  wpB (ldv Try.prog 70 t13 w.drew) fun t14 =>
  wpB (pureRun Try.prog (Instr.indexAt 70 t14 a1)) fun t16 =>
  wpB (ldv Try.prog 27 t7 w.drew) fun t17 =>
  effv Try.prog (Instr.alloc 95 true (.tuple #[])) w.drew fun t9 w =>
  CallR Try.prog 59 [t17] w fun t18 w =>
  effu Try.prog (Instr.storeAt 95 t9 t18) w fun w =>
  P45_0 a0 t6 t7 t16 t9 w Q) ∧
  (wpB (nilv a0) fun t12_1 =>
  wpB (pureRun Try.prog (Instr.fieldAt 72 t12_1 4)) fun t13_1 =>
  wpB (ldv Try.prog 70 t13_1 w.drew) fun t14_1 =>
  wpB (pureRun Try.prog (Instr.indexAt 70 t14_1 a1)) fun t16_1 =>
  wpB (ldv Try.prog 27 t7 w.drew) fun t17_1 =>
  CallR Try.prog 59 [t17_1] w.drew fun t18_1 w =>
  effv Try.prog (Instr.alloc 95 true (.tuple #[])) w fun t9_1 w =>
  effu Try.prog (Instr.storeAt 95 t9_1 t18_1) w fun w =>
  P45_0 a0 t6 t7 t16_1 t9_1 w Q)) ∧
  ((wpB (nilv a0) fun t12_2 =>
  wpB (pureRun Try.prog (Instr.fieldAt 72 t12_2 4)) fun t13_2 =>
  wpB (ldv Try.prog 27 t7 w.drew) fun t17_2 =>
  effv Try.prog (Instr.alloc 95 true (.tuple #[])) w.drew fun t9_2 w =>
  CallR Try.prog 59 [t17_2] w fun t18_2 w =>
  wpB (ldv Try.prog 70 t13_2 w) fun t14_2 =>
  wpB (pureRun Try.prog (Instr.indexAt 70 t14_2 a1)) fun t16_2 =>
  effu Try.prog (Instr.storeAt 95 t9_2 t18_2) w fun w =>
  P45_0 a0 t6 t7 t16_2 t9_2 w Q) ∧
  (wpB (nilv a0) fun t12_3 =>
  wpB (pureRun Try.prog (Instr.fieldAt 72 t12_3 4)) fun t13_3 =>
  wpB (ldv Try.prog 27 t7 w.drew) fun t17_3 =>
  CallR Try.prog 59 [t17_3] w.drew fun t18_3 w =>
  wpB (ldv Try.prog 70 t13_3 w) fun t14_3 =>
  wpB (pureRun Try.prog (Instr.indexAt 70 t14_3 a1)) fun t16_3 =>
  effv Try.prog (Instr.alloc 95 true (.tuple #[])) w fun t9_3 w =>
  effu Try.prog (Instr.storeAt 95 t9_3 t18_3) w fun w =>
  P45_0 a0 t6 t7 t16_3 t9_3 w Q))
def L45_0 (x0 x6 x7 x8 x9 : Value) (w : World) (Q : Value → World → Prop) : Prop :=
  wpB (pureRun Try.prog (Instr.fieldAt 29 x6 0)) fun t19 =>
  wpB (ldv Try.prog 3 t19 w) fun t20 =>
  wpB (be Try.prog .eql 3 (.tmp 20) (.const (.int .i64 3)) t20 (.int .i64 3)) fun t22 =>
  cnd t22
  (wpB (nilv x8) fun t24 =>
  wpB (pureRun Try.prog (Instr.fieldAt 106 t24 0)) fun t25 =>
  wpB (ldv Try.prog 3 t25 w) fun t26 =>
  wpB (bp Try.prog .add 3 t26 (.int .i64 1)) fun t27 =>
  wpB (nilv x8) fun t28 =>
  wpB (pureRun Try.prog (Instr.fieldAt 106 t28 0)) fun t29 =>
  effu Try.prog (Instr.storeAt 3 t29 t27) w fun w =>
  Q (.tuple #[]) w)
  (wpB (be Try.prog .eql 3 (.tmp 20) (.const (.int .i64 4)) t20 (.int .i64 4)) fun t31 =>
  cnd t31
  (wpB (nilv x8) fun t33 =>
  wpB (pureRun Try.prog (Instr.fieldAt 106 t33 0)) fun t34 =>
  wpB (ldv Try.prog 3 t34 w) fun t35 =>
  wpB (bp Try.prog .sub 3 t35 (.int .i64 1)) fun t36 =>
  wpB (nilv x8) fun t37 =>
  wpB (pureRun Try.prog (Instr.fieldAt 106 t37 0)) fun t38 =>
  effu Try.prog (Instr.storeAt 3 t38 t36) w fun w =>
  wpB (nilv x8) fun t40 =>
  wpB (pureRun Try.prog (Instr.fieldAt 106 t40 0)) fun t41 =>
  wpB (ldv Try.prog 3 t41 w) fun t42 =>
  wpB (be Try.prog .eql 3 (.tmp 42) (.const (.int .i64 0)) t42 (.int .i64 0)) fun t43 =>
  cnd t43
  (wpB (nilv x8) fun t45 =>
  wpB (pureRun Try.prog (Instr.fieldAt 106 t45 1)) fun t46 =>
  effu Try.prog (Instr.storeAt 104 t46 (.slice none 0 0)) w fun w =>
  Q (.tuple #[]) w)
  (Q (.tuple #[]) w))
  (wpB (be Try.prog .eql 3 (.tmp 20) (.const (.int .i64 5)) t20 (.int .i64 5)) fun t48 =>
  cnd t48
  (wpB (nilv x8) fun t50 =>
  wpB (pureRun Try.prog (Instr.fieldAt 106 t50 1)) fun t51 =>
  wpB (ldv Try.prog 104 t51 w.drew) fun t52 =>
  wpB (ldv Try.prog 95 x9 w.drew) fun t53 =>
  CallR Try.prog 72 [t52, t53] w.drew fun t54 w =>
  wpB (pureRun Try.prog (Op.unary .not t54)) fun t55 =>
  cnd t55
  (wpB (nilv x8) fun t58 =>
  wpB (pureRun Try.prog (Instr.fieldAt 106 t58 1)) fun t59 =>
  wpB (ldv Try.prog 104 t59 w.drew) fun t60 =>
  wpB (ldv Try.prog 95 x9 w.drew) fun t61 =>
  effv Try.prog (Instr.buildSlice 104 1 #[(0, t61)]) w.drew fun t62 w =>
  effv Try.prog (Builtin.append_ #[104, 104] 104 #[t60, t62]) w fun t63 w =>
  wpB (nilv x8) fun t64 =>
  wpB (pureRun Try.prog (Instr.fieldAt 106 t64 1)) fun t65 =>
  effu Try.prog (Instr.storeAt 104 t65 t63) w fun w =>
  Q (.tuple #[]) w)
  (Q (.tuple #[]) w))
  (wpB (be Try.prog .eql 3 (.tmp 20) (.const (.int .i64 7)) t20 (.int .i64 7)) fun t67 =>
  cnd t67
  ((wpB (pureRun Try.prog (Instr.fieldAt 29 x6 3)) fun t70 =>
  wpB (pureRun Try.prog (Instr.fieldAt 29 x6 4)) fun t73 =>
  wpB (ldv Try.prog 27 x7 w.drew) fun t69 =>
  wpB (ldv Try.prog 3 t70 w.drew) fun t71 =>
  wpB (ldv Try.prog 22 t73 w.drew) fun t74 =>
  CallR Try.prog 57 [x0, t69, t71] w.drew fun t72 w =>
  wpB (nilv t72) fun t75 =>
  effu Try.prog (Instr.storeAt 22 t75 t74) w fun w =>
  Q (.tuple #[]) w) ∧
  (wpB (ldv Try.prog 27 x7 w.drew) fun t69_1 =>
  wpB (pureRun Try.prog (Instr.fieldAt 29 x6 3)) fun t70_1 =>
  wpB (ldv Try.prog 3 t70_1 w.drew) fun t71_1 =>
  CallR Try.prog 57 [x0, t69_1, t71_1] w.drew fun t72_1 w =>
  wpB (pureRun Try.prog (Instr.fieldAt 29 x6 4)) fun t73_1 =>
  wpB (ldv Try.prog 22 t73_1 w) fun t74_1 =>
  wpB (nilv t72_1) fun t75_1 =>
  effu Try.prog (Instr.storeAt 22 t75_1 t74_1) w fun w =>
  Q (.tuple #[]) w))
  (wpB (be Try.prog .eql 3 (.tmp 20) (.const (.int .i64 8)) t20 (.int .i64 8)) fun t77 =>
  cnd t77
  ((wpB (pureRun Try.prog (Instr.fieldAt 29 x6 3)) fun t80 =>
  wpB (pureRun Try.prog (Instr.fieldAt 29 x6 4)) fun t85 =>
  wpB (ldv Try.prog 27 x7 w.drew) fun t79 =>
  wpB (ldv Try.prog 3 t80 w.drew) fun t81 =>
  wpB (ldv Try.prog 22 t85 w.drew) fun t86 =>
  CallR Try.prog 57 [x0, t79, t81] w.drew fun t82 w =>
  wpB (nilv t82) fun t83 =>
  wpB (ldv Try.prog 22 t83 w) fun t84 =>
  wpB (bp Try.prog .add 22 t84 t86) fun t87 =>
  wpB (nilv t82) fun t88 =>
  effu Try.prog (Instr.storeAt 22 t88 t87) w fun w =>
  Q (.tuple #[]) w) ∧
  (wpB (ldv Try.prog 27 x7 w.drew) fun t79_1 =>
  wpB (pureRun Try.prog (Instr.fieldAt 29 x6 3)) fun t80_1 =>
  wpB (ldv Try.prog 3 t80_1 w.drew) fun t81_1 =>
  CallR Try.prog 57 [x0, t79_1, t81_1] w.drew fun t82_1 w =>
  wpB (nilv t82_1) fun t83_1 =>
  wpB (ldv Try.prog 22 t83_1 w) fun t84_1 =>
  wpB (pureRun Try.prog (Instr.fieldAt 29 x6 4)) fun t85_1 =>
  wpB (ldv Try.prog 22 t85_1 w) fun t86_1 =>
  wpB (bp Try.prog .add 22 t84_1 t86_1) fun t87_1 =>
  wpB (nilv t82_1) fun t88_1 =>
  effu Try.prog (Instr.storeAt 22 t88_1 t87_1) w fun w =>
  Q (.tuple #[]) w))
  (wpB (be Try.prog .eql 3 (.tmp 20) (.const (.int .i64 9)) t20 (.int .i64 9)) fun t90 =>
  cnd t90
  (wpB (ldv Try.prog 27 x7 w) fun t92 =>
  wpB (pureRun Try.prog (Instr.fieldAt 29 x6 3)) fun t93 =>
  wpB (ldv Try.prog 3 t93 w) fun t94 =>
  CallR Try.prog 57 [x0, t92, t94] w fun t95 w =>
  wpB (nilv t95) fun t97 =>
  wpB (ldv Try.prog 22 t97 w.drew) fun t98 =>
  wpB (pureRun Try.prog (Instr.fieldAt 29 x6 4)) fun t99 =>
  wpB (ldv Try.prog 22 t99 w.drew) fun t100 =>
  wpB (be Try.prog .eql 22 (.tmp 98) (.tmp 100) t98 t100) fun t101 =>
  cnd t101
  (wpB (pureRun Try.prog (Instr.fieldAt 29 x6 5)) fun t103 =>
  wpB (ldv Try.prog 22 t103 w.drew) fun t104 =>
  wpB (nilv t95) fun t105 =>
  effu Try.prog (Instr.storeAt 22 t105 t104) w.drew fun w =>
  Q (.tuple #[]) w)
  (Q (.tuple #[]) w.drew))
  (wpB (be Try.prog .eql 3 (.tmp 20) (.const (.int .i64 10)) t20 (.int .i64 10)) fun t107 =>
  cnd t107
  (wpB (nilv x0) fun t109 =>
  wpB (pureRun Try.prog (Instr.fieldAt 72 t109 2)) fun t110 =>
  wpB (ldv Try.prog 68 t110 w.drew) fun t111 =>
  wpB (pureRun Try.prog (Instr.fieldAt 27 x7 0)) fun t112 =>
  wpB (ldv Try.prog 3 t112 w.drew) fun t113 =>
  wpB (pureRun Try.prog (Instr.indexAt 68 t111 t113)) fun t114 =>
  wpB (pureRun Try.prog (Instr.fieldAt 80 t114 0)) fun t115 =>
  effu Try.prog (Instr.storeAt 3 t115 (.int .i64 2)) w.drew fun w =>
  wpB (nilv x0) fun t117 =>
  wpB (pureRun Try.prog (Instr.fieldAt 72 t117 1)) fun t118 =>
  wpB (ldv Try.prog 4 t118 w) fun t119 =>
  cnd t119
  (wpB (nilv x0) fun t121 =>
  wpB (pureRun Try.prog (Instr.fieldAt 72 t121 2)) fun t122 =>
  wpB (ldv Try.prog 68 t122 w.drew) fun t123 =>
  wpB (pureRun Try.prog (Instr.fieldAt 27 x7 0)) fun t124 =>
  wpB (ldv Try.prog 3 t124 w.drew) fun t125 =>
  wpB (pureRun Try.prog (Instr.indexAt 68 t123 t125)) fun t126 =>
  wpB (pureRun Try.prog (Instr.fieldAt 80 t126 0)) fun t127 =>
  effu Try.prog (Instr.storeAt 3 t127 (.int .i64 0)) w.drew fun w =>
  Q (.tuple #[]) w)
  (Q (.tuple #[]) w))
  (Q (.tuple #[]) w)))))))
theorem F45_ok {a0 a1 a2 a3 : Value} {w : World} {Q : Value → World → Prop} (h : F45 a0 a1 a2 a3 w Q) : CallR Try.prog 45 [a0, a1, a2, a3] w Q :=
  call_ofE mixed entOk Try.func45 (c := C45) rfl H45 (Nat.le_of_ble_eq_true rfl) (by kernel_rfl) h
theorem L45_0_ok {x0 x6 x7 x8 x9 : Value} {w : World} {Q : Value → World → Prop} (h : L45_0 x0 x6 x7 x8 x9 w Q) : P45_0 x0 x6 x7 x8 x9 w Q :=
  part_jnE mixed entOk Try.func45 H45 (by kernel_rfl) h

noncomputable def C46 : Code := (Try.f46.body).getD .skip
noncomputable def H46 : Hints := ⟨[], [(9, [0, 1, 5, 7]), (13, [])], [(3, (.leaf [0, 1, 2, 3, 4, 5, 6, 7, 8, 9, 10, 11, 12, 13, 14, 15, 16, 17, 18])), (6, (.leaf [0, 1, 2, 3, 4, 5, 6, 7, 8, 9, 10])), (11, (.leaf [0, 1, 2, 3, 4, 5, 6, 7, 8, 9, 10])), (12, (.ask 4 7 (.leaf [0, 1, 2, 3, 4, 5, 6, 7, 8, 9, 10, 11, 12, 13, 14]) (.leaf [0, 1, 2, 3, 5, 8, 6, 7, 9, 4, 10, 11, 12, 13, 14])))]⟩
noncomputable def T46_0 : List It := [.jn (nav [1, 1, 1, 1, 1] C46)]
noncomputable def T46_1 : List It := [.jn (nav [1, 1, 1, 1, 1, 1, 1, 1] C46)]
/-- (*rundale/model.Model).creates, from a join on -/
def P46_0 (x0 x1 x5 x7 : Value) (w : World) (Q : Value → World → Prop) : Prop := Part Try.prog 46 T46_0 [0, 1, 5, 7] [x0, x1, x5, x7] w Q
/-- (*rundale/model.Model).creates, from a join on -/
def P46_1 (w : World) (Q : Value → World → Prop) : Prop := Part Try.prog 46 T46_1 [] [] w Q
def F46 (a0 a1 a2 : Value) (w : World) (Q : Value → World → Prop) : Prop :=
  effv Try.prog (Instr.box 32 a2) w fun t5 w =>
  wpB (ldv Try.prog 32 t5 w) fun t9 =>
  wpB (pureRun Try.prog (Instr.build 32 #[(0, (.int .i64 7))])) fun t10 =>
  wpB (be Try.prog .eql 32 (.tmp 9) (.tmp 10) t9 t10) fun t11 =>
  cnd t11
  (wpB (nilv a0) fun t13 =>
  wpB (pureRun Try.prog (Instr.fieldAt 72 t13 1)) fun t14 =>
  wpB (ldv Try.prog 4 t14 w) fun t15 =>
  gE t15 false (CallR Try.prog 73 [(gv t15 false a0)] w) (fun t18 w =>
  wpB (gd t15 false (be Try.prog .eql 3 (.tmp 18) (.const (.int .i64 0)) t18 (.int .i64 0))) fun t19 =>
  wpB (pickv t15 (some (.bool true)) (some t19)) fun t20 =>
  Q t20 w) w)
  (wpB (pureRun Try.prog (Instr.fieldAt 32 t5 1)) fun t22 =>
  wpB (pureRun Try.prog (Instr.fieldAt 27 t22 0)) fun t23 =>
  wpB (ldv Try.prog 3 t23 w.drew) fun t24 =>
  CallR Try.prog 43 [a0, t24] w.drew fun t25 w =>
  wpB (pureRun Try.prog (Op.unary .not t25)) fun t26 =>
  wpB (gd t26 false (nilv (gv t26 false a0))) fun t29 =>
  wpB (gd t26 false (pureRun Try.prog (Instr.fieldAt 72 t29 2))) fun t30 =>
  wpB (gd t26 false (ldv Try.prog 68 t30 w)) fun t31 =>
  wpB (gd t26 false (pureRun Try.prog (Instr.fieldAt 32 t5 1))) fun t32 =>
  wpB (gd t26 false (pureRun Try.prog (Instr.fieldAt 27 t32 0))) fun t33 =>
  wpB (gd t26 false (ldv Try.prog 3 t33 w)) fun t34 =>
  wpB (gd t26 false (pureRun Try.prog (Instr.indexAt 68 t31 t34))) fun t35 =>
  wpB (gd t26 false (pureRun Try.prog (Instr.fieldAt 80 t35 0))) fun t36 =>
  wpB (gd t26 false (ldv Try.prog 3 t36 w)) fun t37 =>
  wpB (gd t26 false (be Try.prog .neq 3 (.tmp 37) (.const (.int .i64 0)) t37 (.int .i64 0))) fun t38 =>
  wpB (pickv t26 (some (.bool true)) (some t38)) fun t39 =>
  cnd t39
  (Q (.bool false) w)
  (wpB (nilv a0) fun t41 =>
  wpB (pureRun Try.prog (Instr.fieldAt 72 t41 2)) fun t42 =>
  wpB (ldv Try.prog 68 t42 w.drew) fun t43 =>
  wpB (pureRun Try.prog (Instr.fieldAt 32 t5 1)) fun t44 =>
  wpB (pureRun Try.prog (Instr.fieldAt 27 t44 0)) fun t45 =>
  wpB (ldv Try.prog 3 t45 w.drew) fun t46 =>
  wpB (pureRun Try.prog (Instr.indexAt 68 t43 t46)) fun t47 =>
  wpB (pureRun Try.prog (Instr.fieldAt 80 t47 1)) fun t48 =>
  wpB (ldv Try.prog 3 t48 w.drew) fun t49 =>
  wpB (bp Try.prog .lss 3 t49 (.int .i64 4294967295)) fun t51 =>
  cnd t51
  (wpB (bp Try.prog .add 3 t49 (.int .i64 1)) fun t53 =>
  P46_0 a0 a1 t5 t53 w.drew Q)
  (P46_0 a0 a1 t5 (.int .i64 0) w.drew Q)))
def L46_0 (x0 x1 x5 x7 : Value) (w : World) (Q : Value → World → Prop) : Prop :=
  wpB (ldv Try.prog 32 x5 w) fun t54 =>
  wpB (pureRun Try.prog (Instr.fieldAt 32 x5 1)) fun t55 =>
  wpB (pureRun Try.prog (Instr.fieldAt 27 t55 0)) fun t56 =>
  wpB (ldv Try.prog 3 t56 w) fun t57 =>
  wpB (pureRun Try.prog (Instr.build 27 #[(0, t57), (1, x7)])) fun t59 =>
  wpB (pureRun Try.prog (Instr.build 32 #[(1, t59)])) fun t60 =>
  wpB (be Try.prog .neq 32 (.tmp 54) (.tmp 60) t54 t60) fun t61 =>
  cnd t61
  (Q (.bool false) w)
  (wpB (nilv x0) fun t63 =>
  wpB (pureRun Try.prog (Instr.fieldAt 72 t63 2)) fun t64 =>
  wpB (ldv Try.prog 68 t64 w.drew) fun t65 =>
  wpB (pureRun Try.prog (Instr.fieldAt 32 x5 1)) fun t66 =>
  wpB (pureRun Try.prog (Instr.fieldAt 27 t66 0)) fun t67 =>
  wpB (ldv Try.prog 3 t67 w.drew) fun t68 =>
  wpB (pureRun Try.prog (Instr.build 80 #[(0, (.int .i64 1)), (1, x7)])) fun t70 =>
  wpB (pureRun Try.prog (Instr.indexAt 68 t65 t68)) fun t71 =>
  effu Try.prog (Instr.storeAt 80 t71 t70) w.drew fun w =>
  (wpB (nilv x0) fun t74 =>
  wpB (pureRun Try.prog (Instr.fieldAt 72 t74 3)) fun t75 =>
  wpB (ldv Try.prog 69 t75 w.drew) fun t76 =>
  wpB (pureRun Try.prog (Instr.fieldAt 32 x5 1)) fun t77 =>
  wpB (ldv Try.prog 27 t77 w.drew) fun t78 =>
  CallR Try.prog 59 [t78] w.drew fun t79 w =>
  wpB (pureRun Try.prog (Instr.build 98 #[(0, t79), (1, x1)])) fun t81 =>
  effv Try.prog (Instr.buildSlice 69 1 #[(0, t81)]) w fun t82 w =>
  effv Try.prog (Builtin.append_ #[69, 69] 69 #[t76, t82]) w fun t83 w =>
  wpB (nilv x0) fun t84 =>
  wpB (pureRun Try.prog (Instr.fieldAt 72 t84 3)) fun t85 =>
  effu Try.prog (Instr.storeAt 69 t85 t83) w fun w =>
  P46_1 w Q) ∧
  (wpB (nilv x0) fun t74_1 =>
  wpB (pureRun Try.prog (Instr.fieldAt 72 t74_1 3)) fun t75_1 =>
  wpB (pureRun Try.prog (Instr.fieldAt 32 x5 1)) fun t77_1 =>
  wpB (ldv Try.prog 27 t77_1 w.drew) fun t78_1 =>
  CallR Try.prog 59 [t78_1] w.drew fun t79_1 w =>
  wpB (pureRun Try.prog (Instr.build 98 #[(0, t79_1), (1, x1)])) fun t81_1 =>
  wpB (ldv Try.prog 69 t75_1 w) fun t76_1 =>
  effv Try.prog (Instr.buildSlice 69 1 #[(0, t81_1)]) w fun t82_1 w =>
  effv Try.prog (Builtin.append_ #[69, 69] 69 #[t76_1, t82_1]) w fun t83_1 w =>
  wpB (nilv x0) fun t84_1 =>
  wpB (pureRun Try.prog (Instr.fieldAt 72 t84_1 3)) fun t85_1 =>
  effu Try.prog (Instr.storeAt 69 t85_1 t83_1) w fun w =>
  P46_1 w Q))
def L46_1 (w : World) (Q : Value → World → Prop) : Prop :=
  Q (.bool true) w
theorem F46_ok {a0 a1 a2 : Value} {w : World} {Q : Value → World → Prop} (h : F46 a0 a1 a2 w Q) : CallR Try.prog 46 [a0, a1, a2] w Q :=
  call_ofE mixed entOk Try.func46 (c := C46) rfl H46 (Nat.le_of_ble_eq_true rfl) (by kernel_rfl) h
theorem L46_0_ok {x0 x1 x5 x7 : Value} {w : World} {Q : Value → World → Prop} (h : L46_0 x0 x1 x5 x7 w Q) : P46_0 x0 x1 x5 x7 w Q :=
  part_jnE mixed entOk Try.func46 H46 (by kernel_rfl) h
theorem L46_1_ok {w : World} {Q : Value → World → Prop} (h : L46_1  w Q) : P46_1  w Q :=
  part_jnE mixed entOk Try.func46 H46 (by kernel_rfl) h

noncomputable def C47 : Code := (Try.f47.body).getD .skip
noncomputable def H47 : Hints := ⟨[], [(11, [0, 7, 9, 10, 11, 12]), (18, [9, 11])], [(6, (.ask 5 1 (.leaf [0, 2, 3, 4, 5, 1, 6, 7, 8, 9]) (.ask 5 7 (.leaf [0, 1, 2, 3, 4, 5, 6, 7, 8, 9]) (.leaf [0, 2, 3, 4, 1, 6, 7, 5, 8, 9])))), (9, (.leaf [0, 1, 2, 3, 4, 5, 6, 7, 8, 9, 10, 11, 12, 13, 14, 15, 16, 17, 18, 19])), (15, (.leaf [0, 1, 2, 3, 4, 5, 6, 7, 8, 9, 10, 11])), (16, (.leaf [0, 1, 2, 3, 4, 5, 6, 7, 8, 9, 10, 11, 12, 13, 14, 15])), (18, (.leaf [0, 1, 2, 3, 4, 5, 6, 7, 8, 9, 10]))]⟩
noncomputable def T47_0 : List It := [.jn (nav [1, 1, 1, 1, 1, 1] C47)]
noncomputable def T47_1 : List It := [.jn (nav [1, 1, 1, 1, 1, 1, 1, 1] C47)]
/-- (*rundale/model.Model).gives, from a join on -/
def P47_0 (x0 x7 x9 x10 x11 x12 : Value) (w : World) (Q : Value → World → Prop) : Prop := Part Try.prog 47 T47_0 [0, 7, 9, 10, 11, 12] [x0, x7, x9, x10, x11, x12] w Q
/-- (*rundale/model.Model).gives, from a join on -/
def P47_1 (x9 x11 : Value) (w : World) (Q : Value → World → Prop) : Prop := Part Try.prog 47 T47_1 [9, 11] [x9, x11] w Q
def F47 (a0 a1 a2 a3 : Value) (w : World) (Q : Value → World → Prop) : Prop :=
  effv Try.prog (Instr.box 27 a2) w fun t6 w =>
  effv Try.prog (Instr.box 32 a3) w fun t7 w =>
  wpB (ldv Try.prog 27 t6 w) fun t14 =>
  CallR Try.prog 59 [t14] w fun t15 w =>
  CallR Try.prog 58 [a0, t15] w fun t16 w =>
  wpB (nilv t16) fun t18 =>
  wpB (pureRun Try.prog (Instr.fieldAt 98 t18 1)) fun t19 =>
  wpB (ldv Try.prog 3 t19 w) fun t20 =>
  CallR Try.prog 74 [t20, a1] w fun t22 w =>
  wpB (pureRun Try.prog (Instr.fieldAt 27 t6 0)) fun t23 =>
  wpB (ldv Try.prog 3 t23 w) fun t24 =>
  wpB (pureRun Try.prog (Instr.fieldAt 27 t6 1)) fun t25 =>
  wpB (ldv Try.prog 3 t25 w) fun t26 =>
  wpB (pureRun Try.prog (Instr.fieldAt 32 t7 1)) fun t27 =>
  wpB (pureRun Try.prog (Instr.fieldAt 27 t27 2)) fun t28 =>
  wpB (ldv Try.prog 3 t28 w) fun t29 =>
  wpB (pureRun Try.prog (Instr.build 27 #[(0, t24), (1, t26), (2, t29), (4, a1)])) fun t31 =>
  effv Try.prog (Instr.alloc 27 true (.tuple #[])) w fun t11 w =>
  effu Try.prog (Instr.storeAt 27 t11 t31) w fun w =>
  wpB (nilv a0) fun t34 =>
  wpB (pureRun Try.prog (Instr.fieldAt 72 t34 0)) fun t35 =>
  wpB (pureRun Try.prog (Instr.fieldAt 25 t35 2)) fun t36 =>
  wpB (ldv Try.prog 3 t36 w) fun t37 =>
  CallR Try.prog 75 [t16, t37, t22] w fun t39 w =>
  cnd t39
  ((wpB (nilv t16) fun t45 =>
  wpB (pureRun Try.prog (Instr.fieldAt 98 t45 2)) fun t46 =>
  wpB (ldv Try.prog 3 t46 w.drew) fun t47 =>
  CallR Try.prog 76 [t16] w.drew fun t43 w =>
  wpB (pureRun Try.prog (Instr.fieldAt 27 t11 2)) fun t48 =>
  effu Try.prog (Instr.storeAt 3 t48 t43) w fun w =>
  wpB (pureRun Try.prog (Instr.fieldAt 27 t11 3)) fun t49 =>
  effu Try.prog (Instr.storeAt 3 t49 t47) w fun w =>
  P47_0 a0 t7 t16 t22 t11 t39 w Q) ∧
  ((CallR Try.prog 76 [t16] w.drew fun t43_1 w =>
  wpB (nilv t16) fun t45_1 =>
  wpB (pureRun Try.prog (Instr.fieldAt 98 t45_1 2)) fun t46_1 =>
  wpB (ldv Try.prog 3 t46_1 w) fun t47_1 =>
  wpB (pureRun Try.prog (Instr.fieldAt 27 t11 2)) fun t48_1 =>
  effu Try.prog (Instr.storeAt 3 t48_1 t43_1) w fun w =>
  wpB (pureRun Try.prog (Instr.fieldAt 27 t11 3)) fun t49_1 =>
  effu Try.prog (Instr.storeAt 3 t49_1 t47_1) w fun w =>
  P47_0 a0 t7 t16 t22 t11 t39 w Q) ∧
  (wpB (nilv t16) fun t45_2 =>
  wpB (pureRun Try.prog (Instr.fieldAt 98 t45_2 2)) fun t46_2 =>
  CallR Try.prog 76 [t16] w.drew fun t43_2 w =>
  wpB (pureRun Try.prog (Instr.fieldAt 27 t11 2)) fun t48_2 =>
  effu Try.prog (Instr.storeAt 3 t48_2 t43_2) w fun w =>
  wpB (ldv Try.prog 3 t46_2 w) fun t47_2 =>
  wpB (pureRun Try.prog (Instr.fieldAt 27 t11 3)) fun t49_2 =>
  effu Try.prog (Instr.storeAt 3 t49_2 t47_2) w fun w =>
  P47_0 a0 t7 t16 t22 t11 t39 w Q)))
  (wpB (ldv Try.prog 32 t7 w) fun t51 =>
  wpB (pureRun Try.prog (Instr.build 32 #[(0, (.int .i64 6))])) fun t52 =>
  wpB (be Try.prog .eql 32 (.tmp 51) (.tmp 52) t51 t52) fun t53 =>
  cnd t53
  (Q (.bool true) w)
  (wpB (pureRun Try.prog (Instr.fieldAt 27 t11 2)) fun t55 =>
  wpB (ldv Try.prog 3 t55 w.drew) fun t56 =>
  wpB (bp Try.prog .lss 3 t56 (.int .i64 0)) fun t57 =>
  wpB (gd t57 false (pureRun Try.prog (Instr.fieldAt 27 t11 2))) fun t59 =>
  wpB (gd t57 false (ldv Try.prog 3 t59 w.drew)) fun t60 =>
  wpB (gd t57 false (nilv (gv t57 false a0))) fun t62 =>
  wpB (gd t57 false (pureRun Try.prog (Instr.fieldAt 72 t62 0))) fun t63 =>
  wpB (gd t57 false (pureRun Try.prog (Instr.fieldAt 25 t63 1))) fun t64 =>
  wpB (gd t57 false (ldv Try.prog 3 t64 w.drew)) fun t65 =>
  wpB (gd t57 false (bp Try.prog .geq 3 t60 t65)) fun t66 =>
  wpB (pickv t57 (some (.bool true)) (some t66)) fun t67 =>
  wpB (gd t67 false (pureRun Try.prog (Instr.fieldAt 27 t11 2))) fun t70 =>
  wpB (gd t67 false (ldv Try.prog 3 t70 w.drew)) fun t71 =>
  gE t67 false (CallR Try.prog 77 [(gv t67 false a0), t71] w.drew) (fun t72 w =>
  wpB (pickv t67 (some (.bool true)) (some t72)) fun t73 =>
  cnd t73
  (Q (.bool false) w)
  (P47_0 a0 t7 t16 t22 t11 t39 w Q)) w.drew))
def L47_0 (x0 x7 x9 x10 x11 x12 : Value) (w : World) (Q : Value → World → Prop) : Prop :=
  wpB (ldv Try.prog 32 x7 w) fun t74 =>
  wpB (ldv Try.prog 27 x11 w) fun t75 =>
  wpB (pureRun Try.prog (Instr.build 32 #[(1, t75)])) fun t76 =>
  wpB (be Try.prog .neq 32 (.tmp 74) (.tmp 76) t74 t76) fun t77 =>
  cnd t77
  (Q (.bool false) w)
  (cnd x12
  (wpB (nilv x9) fun t80 =>
  wpB (pureRun Try.prog (Instr.fieldAt 98 t80 2)) fun t81 =>
  wpB (ldv Try.prog 3 t81 w) fun t82 =>
  wpB (bp Try.prog .add 3 t82 x10) fun t84 =>
  wpB (nilv x9) fun t85 =>
  wpB (pureRun Try.prog (Instr.fieldAt 98 t85 2)) fun t86 =>
  effu Try.prog (Instr.storeAt 3 t86 t84) w fun w =>
  P47_1 x9 x11 w Q)
  (wpB (nilv x9) fun t89 =>
  wpB (pureRun Try.prog (Instr.fieldAt 98 t89 3)) fun t90 =>
  wpB (ldv Try.prog 36 t90 w.drew) fun t91 =>
  wpB (pureRun Try.prog (Instr.fieldAt 27 x11 2)) fun t92 =>
  wpB (ldv Try.prog 3 t92 w.drew) fun t93 =>
  effv Try.prog (Instr.buildSlice 36 1 #[(0, t93)]) w.drew fun t94 w =>
  effv Try.prog (Builtin.append_ #[36, 36] 36 #[t91, t94]) w fun t95 w =>
  wpB (nilv x9) fun t96 =>
  wpB (pureRun Try.prog (Instr.fieldAt 98 t96 3)) fun t97 =>
  effu Try.prog (Instr.storeAt 36 t97 t95) w fun w =>
  wpB (nilv x9) fun t100 =>
  wpB (pureRun Try.prog (Instr.fieldAt 98 t100 4)) fun t101 =>
  wpB (ldv Try.prog 96 t101 w.drew) fun t102 =>
  wpB (nilv x0) fun t104 =>
  wpB (pureRun Try.prog (Instr.fieldAt 72 t104 0)) fun t105 =>
  wpB (pureRun Try.prog (Instr.fieldAt 25 t105 2)) fun t106 =>
  wpB (ldv Try.prog 3 t106 w.drew) fun t107 =>
  effv Try.prog (Instr.makeSlice 112 t107 t107) w.drew fun t108 w =>
  effv Try.prog (Instr.buildSlice 96 1 #[(0, t108)]) w fun t109 w =>
  effv Try.prog (Builtin.append_ #[96, 96] 96 #[t102, t109]) w fun t110 w =>
  wpB (nilv x9) fun t111 =>
  wpB (pureRun Try.prog (Instr.fieldAt 98 t111 4)) fun t112 =>
  effu Try.prog (Instr.storeAt 96 t112 t110) w fun w =>
  wpB (nilv x0) fun t115 =>
  wpB (pureRun Try.prog (Instr.fieldAt 72 t115 0)) fun t116 =>
  wpB (pureRun Try.prog (Instr.fieldAt 25 t116 2)) fun t117 =>
  wpB (ldv Try.prog 3 t117 w) fun t118 =>
  CallR Try.prog 78 [t118, x10] w fun t120 w =>
  wpB (nilv x9) fun t121 =>
  wpB (pureRun Try.prog (Instr.fieldAt 98 t121 2)) fun t122 =>
  effu Try.prog (Instr.storeAt 3 t122 t120) w fun w =>
  P47_1 x9 x11 w Q))
def L47_1 (x9 x11 : Value) (w : World) (Q : Value → World → Prop) : Prop :=
  wpB (nilv x9) fun t125 =>
  wpB (pureRun Try.prog (Instr.fieldAt 98 t125 5)) fun t126 =>
  wpB (ldv Try.prog 48 t126 w.drew) fun t127 =>
  wpB (ldv Try.prog 27 x11 w.drew) fun t128 =>
  effv Try.prog (Instr.buildSlice 48 1 #[(0, t128)]) w.drew fun t129 w =>
  effv Try.prog (Builtin.append_ #[48, 48] 48 #[t127, t129]) w fun t130 w =>
  wpB (nilv x9) fun t131 =>
  wpB (pureRun Try.prog (Instr.fieldAt 98 t131 5)) fun t132 =>
  effu Try.prog (Instr.storeAt 48 t132 t130) w fun w =>
  Q (.bool true) w
theorem F47_ok {a0 a1 a2 a3 : Value} {w : World} {Q : Value → World → Prop} (h : F47 a0 a1 a2 a3 w Q) : CallR Try.prog 47 [a0, a1, a2, a3] w Q :=
  call_ofE mixed entOk Try.func47 (c := C47) rfl H47 (Nat.le_of_ble_eq_true rfl) (by kernel_rfl) h
theorem L47_0_ok {x0 x7 x9 x10 x11 x12 : Value} {w : World} {Q : Value → World → Prop} (h : L47_0 x0 x7 x9 x10 x11 x12 w Q) : P47_0 x0 x7 x9 x10 x11 x12 w Q :=
  part_jnE mixed entOk Try.func47 H47 (by kernel_rfl) h
theorem L47_1_ok {x9 x11 : Value} {w : World} {Q : Value → World → Prop} (h : L47_1 x9 x11 w Q) : P47_1 x9 x11 w Q :=
  part_jnE mixed entOk Try.func47 H47 (by kernel_rfl) h

noncomputable def C48 : Code := (Try.f48.body).getD .skip
noncomputable def H48 : Hints := ⟨[], [], []⟩
def F48 (a0 : Value) (w : World) (Q : Value → World → Prop) : Prop :=
  effv Try.prog (Instr.box 34 a0) w fun t1 w =>
  effv Try.prog (Instr.alloc 85 true (.tuple #[])) w fun t2 w =>
  wpB (pureRun Try.prog (Instr.fieldAt 34 t1 3)) fun t3 =>
  wpB (ldv Try.prog 3 t3 w) fun t4 =>
  wpB (pureRun Try.prog (Instr.fieldAt 34 t1 4)) fun t5 =>
  wpB (ldv Try.prog 3 t5 w) fun t6 =>
  wpB (pureRun Try.prog (Instr.fieldAt 34 t1 5)) fun t7 =>
  wpB (ldv Try.prog 3 t7 w) fun t8 =>
  wpB (pureRun Try.prog (Instr.fieldAt 34 t1 6)) fun t9 =>
  wpB (ldv Try.prog 3 t9 w) fun t10 =>
  wpB (pureRun Try.prog (Instr.build 85 #[(0, t4), (1, t6), (2, t8), (3, t10)])) fun t11 =>
  effu Try.prog (Instr.storeAt 85 t2 t11) w fun w =>
  wpB (ldv Try.prog 85 t2 w) fun r2 => Q r2 w
theorem F48_ok {a0 : Value} {w : World} {Q : Value → World → Prop} (h : F48 a0 w Q) : CallR Try.prog 48 [a0] w Q :=
  call_ofE mixed entOk Try.func48 (c := C48) rfl H48 (Nat.le_of_ble_eq_true rfl) (by kernel_rfl) h

noncomputable def C49 : Code := (Try.f49.body).getD .skip
noncomputable def H49 : Hints := ⟨[], [], [(1, (.ask 4 7 (.ask 4 10 (.ask 4 13 (.ask 7 10 (.ask 7 13 (.ask 10 13 (.leaf [1, 2, 5, 8, 11, 0, 3, 6, 9, 12, 4, 7, 10, 13, 14, 15, 16]) (.leaf [1, 2, 5, 8, 11, 0, 3, 6, 9, 12, 4, 7, 13, 10, 14, 15, 16])) (.leaf [1, 2, 5, 8, 11, 0, 3, 6, 9, 12, 4, 13, 7, 10, 14, 15, 16])) (.ask 10 13 (.ask 7 13 (.leaf [1, 2, 5, 8, 11, 0, 3, 6, 9, 12, 4, 10, 7, 13, 14, 15, 16]) (.leaf [1, 2, 5, 8, 11, 0, 3, 6, 9, 12, 4, 10, 13, 7, 14, 15, 16])) (.leaf [1, 2, 5, 8, 11, 0, 3, 6, 9, 12, 4, 13, 10, 7, 14, 15, 16]))) (.ask 7 10 (.leaf [1, 2, 5, 8, 11, 0, 3, 6, 9, 12, 13, 4, 7, 10, 14, 15, 16]) (.leaf [1, 2, 5, 8, 11, 0, 3, 6, 9, 12, 13, 4, 10, 7, 14, 15, 16]))) (.ask 10 13 (.ask 4 13 (.ask 7 13 (.leaf [1, 2, 5, 8, 11, 0, 3, 6, 9, 12, 10, 4, 7, 13, 14, 15, 16]) (.leaf [1, 2, 5, 8, 11, 0, 3, 6, 9, 12, 10, 4, 13, 7, 14, 15, 16])) (.leaf [1, 2, 5, 8, 11, 0, 3, 6, 9, 12, 10, 13, 4, 7, 14, 15, 16])) (.leaf [1, 2, 5, 8, 11, 0, 3, 6, 9, 12, 13, 10, 4, 7, 14, 15, 16]))) (.ask 7 10 (.ask 7 13 (.ask 4 10 (.ask 4 13 (.ask 10 13 (.leaf [1, 2, 5, 8, 11, 0, 3, 6, 9, 12, 7, 4, 10, 13, 14, 15, 16]) (.leaf [1, 2, 5, 8, 11, 0, 3, 6, 9, 12, 7, 4, 13, 10, 14, 15, 16])) (.leaf [1, 2, 5, 8, 11, 0, 3, 6, 9, 12, 7, 13, 4, 10, 14, 15, 16])) (.ask 10 13 (.ask 4 13 (.leaf [1, 2, 5, 8, 11, 0, 3, 6, 9, 12, 7, 10, 4, 13, 14, 15, 16]) (.leaf [1, 2, 5, 8, 11, 0, 3, 6, 9, 12, 7, 10, 13, 4, 14, 15, 16])) (.leaf [1, 2, 5, 8, 11, 0, 3, 6, 9, 12, 7, 13, 10, 4, 14, 15, 16]))) (.ask 4 10 (.leaf [1, 2, 5, 8, 11, 0, 3, 6, 9, 12, 13, 7, 4, 10, 14, 15, 16]) (.leaf [1, 2, 5, 8, 11, 0, 3, 6, 9, 12, 13, 7, 10, 4, 14, 15, 16]))) (.ask 10 13 (.ask 7 13 (.ask 4 13 (.leaf [1, 2, 5, 8, 11, 0, 3, 6, 9, 12, 10, 7, 4, 13, 14, 15, 16]) (.leaf [1, 2, 5, 8, 11, 0, 3, 6, 9, 12, 10, 7, 13, 4, 14, 15, 16])) (.leaf [1, 2, 5, 8, 11, 0, 3, 6, 9, 12, 10, 13, 7, 4, 14, 15, 16])) (.leaf [1, 2, 5, 8, 11, 0, 3, 6, 9, 12, 13, 10, 7, 4, 14, 15, 16])))))]⟩
def F49 (a0 a1 : Value) (w : World) (Q : Value → World → Prop) : Prop :=
  effv Try.prog (Instr.box 25 a0) w fun t2 w =>
  ((((((wpB (pureRun Try.prog (Instr.fieldAt 25 t2 3)) fun t7 =>
  wpB (pureRun Try.prog (Instr.fieldAt 25 t2 3)) fun t10 =>
  wpB (pureRun Try.prog (Instr.fieldAt 25 t2 0)) fun t13 =>
  wpB (pureRun Try.prog (Instr.fieldAt 25 t2 0)) fun t16 =>
  wpB (ldv Try.prog 25 t2 w.drew) fun t5 =>
  wpB (ldv Try.prog 3 t7 w.drew) fun t8 =>
  wpB (ldv Try.prog 3 t10 w.drew) fun t11 =>
  wpB (ldv Try.prog 3 t13 w.drew) fun t14 =>
  wpB (ldv Try.prog 3 t16 w.drew) fun t17 =>
  effv Try.prog (Instr.makeSlice 36 t8 t8) w.drew fun t9 w =>
  effv Try.prog (Instr.makeSlice 36 t11 t11) w fun t12 w =>
  effv Try.prog (Instr.makeSlice 36 t14 t14) w fun t15 w =>
  effv Try.prog (Instr.makeSlice 123 t17 t17) w fun t18 w =>
  wpB (pureRun Try.prog (Instr.build 126 #[(0, t5), (1, a1), (2, t9), (3, t12), (5, t15), (6, t18)])) fun t19 =>
  effv Try.prog (Instr.box 126 t19) w fun t20 w =>
  Q t20 w) ∧
  (wpB (pureRun Try.prog (Instr.fieldAt 25 t2 3)) fun t7_1 =>
  wpB (pureRun Try.prog (Instr.fieldAt 25 t2 3)) fun t10_1 =>
  wpB (pureRun Try.prog (Instr.fieldAt 25 t2 0)) fun t13_1 =>
  wpB (pureRun Try.prog (Instr.fieldAt 25 t2 0)) fun t16_1 =>
  wpB (ldv Try.prog 25 t2 w.drew) fun t5_1 =>
  wpB (ldv Try.prog 3 t7_1 w.drew) fun t8_1 =>
  wpB (ldv Try.prog 3 t10_1 w.drew) fun t11_1 =>
  wpB (ldv Try.prog 3 t13_1 w.drew) fun t14_1 =>
  wpB (ldv Try.prog 3 t16_1 w.drew) fun t17_1 =>
  effv Try.prog (Instr.makeSlice 36 t8_1 t8_1) w.drew fun t9_1 w =>
  effv Try.prog (Instr.makeSlice 36 t11_1 t11_1) w fun t12_1 w =>
  effv Try.prog (Instr.makeSlice 123 t17_1 t17_1) w fun t18_1 w =>
  effv Try.prog (Instr.makeSlice 36 t14_1 t14_1) w fun t15_1 w =>
  wpB (pureRun Try.prog (Instr.build 126 #[(0, t5_1), (1, a1), (2, t9_1), (3, t12_1), (5, t15_1), (6, t18_1)])) fun t19_1 =>
  effv Try.prog (Instr.box 126 t19_1) w fun t20_1 w =>
  Q t20_1 w)) ∧
  (wpB (pureRun Try.prog (Instr.fieldAt 25 t2 3)) fun t7_2 =>
  wpB (pureRun Try.prog (Instr.fieldAt 25 t2 3)) fun t10_2 =>
  wpB (pureRun Try.prog (Instr.fieldAt 25 t2 0)) fun t13_2 =>
  wpB (pureRun Try.prog (Instr.fieldAt 25 t2 0)) fun t16_2 =>
  wpB (ldv Try.prog 25 t2 w.drew) fun t5_2 =>
  wpB (ldv Try.prog 3 t7_2 w.drew) fun t8_2 =>
  wpB (ldv Try.prog 3 t10_2 w.drew) fun t11_2 =>
  wpB (ldv Try.prog 3 t13_2 w.drew) fun t14_2 =>
  wpB (ldv Try.prog 3 t16_2 w.drew) fun t17_2 =>
  effv Try.prog (Instr.makeSlice 36 t8_2 t8_2) w.drew fun t9_2 w =>
  effv Try.prog (Instr.makeSlice 123 t17_2 t17_2) w fun t18_2 w =>
  effv Try.prog (Instr.makeSlice 36 t11_2 t11_2) w fun t12_2 w =>
  effv Try.prog (Instr.makeSlice 36 t14_2 t14_2) w fun t15_2 w =>
  wpB (pureRun Try.prog (Instr.build 126 #[(0, t5_2), (1, a1), (2, t9_2), (3, t12_2), (5, t15_2), (6, t18_2)])) fun t19_2 =>
  effv Try.prog (Instr.box 126 t19_2) w fun t20_2 w =>
  Q t20_2 w)) ∧
  (((wpB (pureRun Try.prog (Instr.fieldAt 25 t2 3)) fun t7_3 =>
  wpB (pureRun Try.prog (Instr.fieldAt 25 t2 3)) fun t10_3 =>
  wpB (pureRun Try.prog (Instr.fieldAt 25 t2 0)) fun t13_3 =>
  wpB (pureRun Try.prog (Instr.fieldAt 25 t2 0)) fun t16_3 =>
  wpB (ldv Try.prog 25 t2 w.drew) fun t5_3 =>
  wpB (ldv Try.prog 3 t7_3 w.drew) fun t8_3 =>
  wpB (ldv Try.prog 3 t10_3 w.drew) fun t11_3 =>
  wpB (ldv Try.prog 3 t13_3 w.drew) fun t14_3 =>
  wpB (ldv Try.prog 3 t16_3 w.drew) fun t17_3 =>
  effv Try.prog (Instr.makeSlice 36 t8_3 t8_3) w.drew fun t9_3 w =>
  effv Try.prog (Instr.makeSlice 36 t14_3 t14_3) w fun t15_3 w =>
  effv Try.prog (Instr.makeSlice 36 t11_3 t11_3) w fun t12_3 w =>
  effv Try.prog (Instr.makeSlice 123 t17_3 t17_3) w fun t18_3 w =>
  wpB (pureRun Try.prog (Instr.build 126 #[(0, t5_3), (1, a1), (2, t9_3), (3, t12_3), (5, t15_3), (6, t18_3)])) fun t19_3 =>
  effv Try.prog (Instr.box 126 t19_3) w fun t20_3 w =>
  Q t20_3 w) ∧
  (wpB (pureRun Try.prog (Instr.fieldAt 25 t2 3)) fun t7_4 =>
  wpB (pureRun Try.prog (Instr.fieldAt 25 t2 3)) fun t10_4 =>
  wpB (pureRun Try.prog (Instr.fieldAt 25 t2 0)) fun t13_4 =>
  wpB (pureRun Try.prog (Instr.fieldAt 25 t2 0)) fun t16_4 =>
  wpB (ldv Try.prog 25 t2 w.drew) fun t5_4 =>
  wpB (ldv Try.prog 3 t7_4 w.drew) fun t8_4 =>
  wpB (ldv Try.prog 3 t10_4 w.drew) fun t11_4 =>
  wpB (ldv Try.prog 3 t13_4 w.drew) fun t14_4 =>
  wpB (ldv Try.prog 3 t16_4 w.drew) fun t17_4 =>
  effv Try.prog (Instr.makeSlice 36 t8_4 t8_4) w.drew fun t9_4 w =>
  effv Try.prog (Instr.makeSlice 36 t14_4 t14_4) w fun t15_4 w =>
  effv Try.prog (Instr.makeSlice 123 t17_4 t17_4) w fun t18_4 w =>
  effv Try.prog (Instr.makeSlice 36 t11_4 t11_4) w fun t12_4 w =>
  wpB (pureRun Try.prog (Instr.build 126 #[(0, t5_4), (1, a1), (2, t9_4), (3, t12_4), (5, t15_4), (6, t18_4)])) fun t19_4 =>
  effv Try.prog (Instr.box 126 t19_4) w fun t20_4 w =>
  Q t20_4 w)) ∧
  (wpB (pureRun Try.prog (Instr.fieldAt 25 t2 3)) fun t7_5 =>
  wpB (pureRun Try.prog (Instr.fieldAt 25 t2 3)) fun t10_5 =>
  wpB (pureRun Try.prog (Instr.fieldAt 25 t2 0)) fun t13_5 =>
  wpB (pureRun Try.prog (Instr.fieldAt 25 t2 0)) fun t16_5 =>
  wpB (ldv Try.prog 25 t2 w.drew) fun t5_5 =>
  wpB (ldv Try.prog 3 t7_5 w.drew) fun t8_5 =>
  wpB (ldv Try.prog 3 t10_5 w.drew) fun t11_5 =>
  wpB (ldv Try.prog 3 t13_5 w.drew) fun t14_5 =>
  wpB (ldv Try.prog 3 t16_5 w.drew) fun t17_5 =>
  effv Try.prog (Instr.makeSlice 36 t8_5 t8_5) w.drew fun t9_5 w =>
  effv Try.prog (Instr.makeSlice 123 t17_5 t17_5) w fun t18_5 w =>
  effv Try.prog (Instr.makeSlice 36 t14_5 t14_5) w fun t15_5 w =>
  effv Try.prog (Instr.makeSlice 36 t11_5 t11_5) w fun t12_5 w =>
  wpB (pureRun Try.prog (Instr.build 126 #[(0, t5_5), (1, a1), (2, t9_5), (3, t12_5), (5, t15_5), (6, t18_5)])) fun t19_5 =>
  effv Try.prog (Instr.box 126 t19_5) w fun t20_5 w =>
  Q t20_5 w))) ∧
  ((wpB (pureRun Try.prog (Instr.fieldAt 25 t2 3)) fun t7_6 =>
  wpB (pureRun Try.prog (Instr.fieldAt 25 t2 3)) fun t10_6 =>
  wpB (pureRun Try.prog (Instr.fieldAt 25 t2 0)) fun t13_6 =>
  wpB (pureRun Try.prog (Instr.fieldAt 25 t2 0)) fun t16_6 =>
  wpB (ldv Try.prog 25 t2 w.drew) fun t5_6 =>
  wpB (ldv Try.prog 3 t7_6 w.drew) fun t8_6 =>
  wpB (ldv Try.prog 3 t10_6 w.drew) fun t11_6 =>
  wpB (ldv Try.prog 3 t13_6 w.drew) fun t14_6 =>
  wpB (ldv Try.prog 3 t16_6 w.drew) fun t17_6 =>
  effv Try.prog (Instr.makeSlice 123 t17_6 t17_6) w.drew fun t18_6 w =>
  effv Try.prog (Instr.makeSlice 36 t8_6 t8_6) w fun t9_6 w =>
  effv Try.prog (Instr.makeSlice 36 t11_6 t11_6) w fun t12_6 w =>
  effv Try.prog (Instr.makeSlice 36 t14_6 t14_6) w fun t15_6 w =>
  wpB (pureRun Try.prog (Instr.build 126 #[(0, t5_6), (1, a1), (2, t9_6), (3, t12_6), (5, t15_6), (6, t18_6)])) fun t19_6 =>
  effv Try.prog (Instr.box 126 t19_6) w fun t20_6 w =>
  Q t20_6 w) ∧
  (wpB (pureRun Try.prog (Instr.fieldAt 25 t2 3)) fun t7_7 =>
  wpB (pureRun Try.prog (Instr.fieldAt 25 t2 3)) fun t10_7 =>
  wpB (pureRun Try.prog (Instr.fieldAt 25 t2 0)) fun t13_7 =>
  wpB (pureRun Try.prog (Instr.fieldAt 25 t2 0)) fun t16_7 =>
  wpB (ldv Try.prog 25 t2 w.drew) fun t5_7 =>
  wpB (ldv Try.prog 3 t7_7 w.drew) fun t8_7 =>
  wpB (ldv Try.prog 3 t10_7 w.drew) fun t11_7 =>
  wpB (ldv Try.prog 3 t13_7 w.drew) fun t14_7 =>
  wpB (ldv Try.prog 3 t16_7 w.drew) fun t17_7 =>
  effv Try.prog (Instr.makeSlice 123 t17_7 t17_7) w.drew fun t18_7 w =>
  effv Try.prog (Instr.makeSlice 36 t8_7 t8_7) w fun t9_7 w =>
  effv Try.prog (Instr.makeSlice 36 t14_7 t14_7) w fun t15_7 w =>
  effv Try.prog (Instr.makeSlice 36 t11_7 t11_7) w fun t12_7 w =>
  wpB (pureRun Try.prog (Instr.build 126 #[(0, t5_7), (1, a1), (2, t9_7), (3, t12_7), (5, t15_7), (6, t18_7)])) fun t19_7 =>
  effv Try.prog (Instr.box 126 t19_7) w fun t20_7 w =>
  Q t20_7 w))) ∧
  ((((wpB (pureRun Try.prog (Instr.fieldAt 25 t2 3)) fun t7_8 =>
  wpB (pureRun Try.prog (Instr.fieldAt 25 t2 3)) fun t10_8 =>
  wpB (pureRun Try.prog (Instr.fieldAt 25 t2 0)) fun t13_8 =>
  wpB (pureRun Try.prog (Instr.fieldAt 25 t2 0)) fun t16_8 =>
  wpB (ldv Try.prog 25 t2 w.drew) fun t5_8 =>
  wpB (ldv Try.prog 3 t7_8 w.drew) fun t8_8 =>
  wpB (ldv Try.prog 3 t10_8 w.drew) fun t11_8 =>
  wpB (ldv Try.prog 3 t13_8 w.drew) fun t14_8 =>
  wpB (ldv Try.prog 3 t16_8 w.drew) fun t17_8 =>
  effv Try.prog (Instr.makeSlice 36 t14_8 t14_8) w.drew fun t15_8 w =>
  effv Try.prog (Instr.makeSlice 36 t8_8 t8_8) w fun t9_8 w =>
  effv Try.prog (Instr.makeSlice 36 t11_8 t11_8) w fun t12_8 w =>
  effv Try.prog (Instr.makeSlice 123 t17_8 t17_8) w fun t18_8 w =>
  wpB (pureRun Try.prog (Instr.build 126 #[(0, t5_8), (1, a1), (2, t9_8), (3, t12_8), (5, t15_8), (6, t18_8)])) fun t19_8 =>
  effv Try.prog (Instr.box 126 t19_8) w fun t20_8 w =>
  Q t20_8 w) ∧
  (wpB (pureRun Try.prog (Instr.fieldAt 25 t2 3)) fun t7_9 =>
  wpB (pureRun Try.prog (Instr.fieldAt 25 t2 3)) fun t10_9 =>
  wpB (pureRun Try.prog (Instr.fieldAt 25 t2 0)) fun t13_9 =>
  wpB (pureRun Try.prog (Instr.fieldAt 25 t2 0)) fun t16_9 =>
  wpB (ldv Try.prog 25 t2 w.drew) fun t5_9 =>
  wpB (ldv Try.prog 3 t7_9 w.drew) fun t8_9 =>
  wpB (ldv Try.prog 3 t10_9 w.drew) fun t11_9 =>
  wpB (ldv Try.prog 3 t13_9 w.drew) fun t14_9 =>
  wpB (ldv Try.prog 3 t16_9 w.drew) fun t17_9 =>
  effv Try.prog (Instr.makeSlice 36 t14_9 t14_9) w.drew fun t15_9 w =>
  effv Try.prog (Instr.makeSlice 36 t8_9 t8_9) w fun t9_9 w =>
  effv Try.prog (Instr.makeSlice 123 t17_9 t17_9) w fun t18_9 w =>
  effv Try.prog (Instr.makeSlice 36 t11_9 t11_9) w fun t12_9 w =>
  wpB (pureRun Try.prog (Instr.build 126 #[(0, t5_9), (1, a1), (2, t9_9), (3, t12_9), (5, t15_9), (6, t18_9)])) fun t19_9 =>
  effv Try.prog (Instr.box 126 t19_9) w fun t20_9 w =>
  Q t20_9 w)) ∧
  (wpB (pureRun Try.prog (Instr.fieldAt 25 t2 3)) fun t7_10 =>
  wpB (pureRun Try.prog (Instr.fieldAt 25 t2 3)) fun t10_10 =>
  wpB (pureRun Try.prog (Instr.fieldAt 25 t2 0)) fun t13_10 =>
  wpB (pureRun Try.prog (Instr.fieldAt 25 t2 0)) fun t16_10 =>
  wpB (ldv Try.prog 25 t2 w.drew) fun t5_10 =>
  wpB (ldv Try.prog 3 t7_10 w.drew) fun t8_10 =>
  wpB (ldv Try.prog 3 t10_10 w.drew) fun t11_10 =>
  wpB (ldv Try.prog 3 t13_10 w.drew) fun t14_10 =>
  wpB (ldv Try.prog 3 t16_10 w.drew) fun t17_10 =>
  effv Try.prog (Instr.makeSlice 36 t14_10 t14_10) w.drew fun t15_10 w =>
  effv Try.prog (Instr.makeSlice 123 t17_10 t17_10) w fun t18_10 w =>
  effv Try.prog (Instr.makeSlice 36 t8_10 t8_10) w fun t9_10 w =>
  effv Try.prog (Instr.makeSlice 36 t11_10 t11_10) w fun t12_10 w =>
  wpB (pureRun Try.prog (Instr.build 126 #[(0, t5_10), (1, a1), (2, t9_10), (3, t12_10), (5, t15_10), (6, t18_10)])) fun t19_10 =>
  effv Try.prog (Instr.box 126 t19_10) w fun t20_10 w =>
  Q t20_10 w)) ∧
  (wpB (pureRun Try.prog (Instr.fieldAt 25 t2 3)) fun t7_11 =>
  wpB (pureRun Try.prog (Instr.fieldAt 25 t2 3)) fun t10_11 =>
  wpB (pureRun Try.prog (Instr.fieldAt 25 t2 0)) fun t13_11 =>
  wpB (pureRun Try.prog (Instr.fieldAt 25 t2 0)) fun t16_11 =>
  wpB (ldv Try.prog 25 t2 w.drew) fun t5_11 =>
  wpB (ldv Try.prog 3 t7_11 w.drew) fun t8_11 =>
  wpB (ldv Try.prog 3 t10_11 w.drew) fun t11_11 =>
  wpB (ldv Try.prog 3 t13_11 w.drew) fun t14_11 =>
  wpB (ldv Try.prog 3 t16_11 w.drew) fun t17_11 =>
  effv Try.prog (Instr.makeSlice 123 t17_11 t17_11) w.drew fun t18_11 w =>
  effv Try.prog (Instr.makeSlice 36 t14_11 t14_11) w fun t15_11 w =>
  effv Try.prog (Instr.makeSlice 36 t8_11 t8_11) w fun t9_11 w =>
  effv Try.prog (Instr.makeSlice 36 t11_11 t11_11) w fun t12_11 w =>
  wpB (pureRun Try.prog (Instr.build 126 #[(0, t5_11), (1, a1), (2, t9_11), (3, t12_11), (5, t15_11), (6, t18_11)])) fun t19_11 =>
  effv Try.prog (Instr.box 126 t19_11) w fun t20_11 w =>
  Q t20_11 w))) ∧
  ((((((wpB (pureRun Try.prog (Instr.fieldAt 25 t2 3)) fun t7_12 =>
  wpB (pureRun Try.prog (Instr.fieldAt 25 t2 3)) fun t10_12 =>
  wpB (pureRun Try.prog (Instr.fieldAt 25 t2 0)) fun t13_12 =>
  wpB (pureRun Try.prog (Instr.fieldAt 25 t2 0)) fun t16_12 =>
  wpB (ldv Try.prog 25 t2 w.drew) fun t5_12 =>
  wpB (ldv Try.prog 3 t7_12 w.drew) fun t8_12 =>
  wpB (ldv Try.prog 3 t10_12 w.drew) fun t11_12 =>
  wpB (ldv Try.prog 3 t13_12 w.drew) fun t14_12 =>
  wpB (ldv Try.prog 3 t16_12 w.drew) fun t17_12 =>
  effv Try.prog (Instr.makeSlice 36 t11_12 t11_12) w.drew fun t12_12 w =>
  effv Try.prog (Instr.makeSlice 36 t8_12 t8_12) w fun t9_12 w =>
  effv Try.prog (Instr.makeSlice 36 t14_12 t14_12) w fun t15_12 w =>
  effv Try.prog (Instr.makeSlice 123 t17_12 t17_12) w fun t18_12 w =>
  wpB (pureRun Try.prog (Instr.build 126 #[(0, t5_12), (1, a1), (2, t9_12), (3, t12_12), (5, t15_12), (6, t18_12)])) fun t19_12 =>
  effv Try.prog (Instr.box 126 t19_12) w fun t20_12 w =>
  Q t20_12 w) ∧
  (wpB (pureRun Try.prog (Instr.fieldAt 25 t2 3)) fun t7_13 =>
  wpB (pureRun Try.prog (Instr.fieldAt 25 t2 3)) fun t10_13 =>
  wpB (pureRun Try.prog (Instr.fieldAt 25 t2 0)) fun t13_13 =>
  wpB (pureRun Try.prog (Instr.fieldAt 25 t2 0)) fun t16_13 =>
  wpB (ldv Try.prog 25 t2 w.drew) fun t5_13 =>
  wpB (ldv Try.prog 3 t7_13 w.drew) fun t8_13 =>
  wpB (ldv Try.prog 3 t10_13 w.drew) fun t11_13 =>
  wpB (ldv Try.prog 3 t13_13 w.drew) fun t14_13 =>
  wpB (ldv Try.prog 3 t16_13 w.drew) fun t17_13 =>
  effv Try.prog (Instr.makeSlice 36 t11_13 t11_13) w.drew fun t12_13 w =>
  effv Try.prog (Instr.makeSlice 36 t8_13 t8_13) w fun t9_13 w =>
  effv Try.prog (Instr.makeSlice 123 t17_13 t17_13) w fun t18_13 w =>
  effv Try.prog (Instr.makeSlice 36 t14_13 t14_13) w fun t15_13 w =>
  wpB (pureRun Try.prog (Instr.build 126 #[(0, t5_13), (1, a1), (2, t9_13), (3, t12_13), (5, t15_13), (6, t18_13)])) fun t19_13 =>
  effv Try.prog (Instr.box 126 t19_13) w fun t20_13 w =>
  Q t20_13 w)) ∧
  (wpB (pureRun Try.prog (Instr.fieldAt 25 t2 3)) fun t7_14 =>
  wpB (pureRun Try.prog (Instr.fieldAt 25 t2 3)) fun t10_14 =>
  wpB (pureRun Try.prog (Instr.fieldAt 25 t2 0)) fun t13_14 =>
  wpB (pureRun Try.prog (Instr.fieldAt 25 t2 0)) fun t16_14 =>
  wpB (ldv Try.prog 25 t2 w.drew) fun t5_14 =>
  wpB (ldv Try.prog 3 t7_14 w.drew) fun t8_14 =>
  wpB (ldv Try.prog 3 t10_14 w.drew) fun t11_14 =>
  wpB (ldv Try.prog 3 t13_14 w.drew) fun t14_14 =>
  wpB (ldv Try.prog 3 t16_14 w.drew) fun t17_14 =>
  effv Try.prog (Instr.makeSlice 36 t11_14 t11_14) w.drew fun t12_14 w =>
  effv Try.prog (Instr.makeSlice 123 t17_14 t17_14) w fun t18_14 w =>
  effv Try.prog (Instr.makeSlice 36 t8_14 t8_14) w fun t9_14 w =>
  effv Try.prog (Instr.makeSlice 36 t14_14 t14_14) w fun t15_14 w =>
  wpB (pureRun Try.prog (Instr.build 126 #[(0, t5_14), (1, a1), (2, t9_14), (3, t12_14), (5, t15_14), (6, t18_14)])) fun t19_14 =>
  effv Try.prog (Instr.box 126 t19_14) w fun t20_14 w =>
  Q t20_14 w)) ∧
  (((wpB (pureRun Try.prog (Instr.fieldAt 25 t2 3)) fun t7_15 =>
  wpB (pureRun Try.prog (Instr.fieldAt 25 t2 3)) fun t10_15 =>
  wpB (pureRun Try.prog (Instr.fieldAt 25 t2 0)) fun t13_15 =>
  wpB (pureRun Try.prog (Instr.fieldAt 25 t2 0)) fun t16_15 =>
  wpB (ldv Try.prog 25 t2 w.drew) fun t5_15 =>
  wpB (ldv Try.prog 3 t7_15 w.drew) fun t8_15 =>
  wpB (ldv Try.prog 3 t10_15 w.drew) fun t11_15 =>
  wpB (ldv Try.prog 3 t13_15 w.drew) fun t14_15 =>
  wpB (ldv Try.prog 3 t16_15 w.drew) fun t17_15 =>
  effv Try.prog (Instr.makeSlice 36 t11_15 t11_15) w.drew fun t12_15 w =>
  effv Try.prog (Instr.makeSlice 36 t14_15 t14_15) w fun t15_15 w =>
  effv Try.prog (Instr.makeSlice 36 t8_15 t8_15) w fun t9_15 w =>
  effv Try.prog (Instr.makeSlice 123 t17_15 t17_15) w fun t18_15 w =>
  wpB (pureRun Try.prog (Instr.build 126 #[(0, t5_15), (1, a1), (2, t9_15), (3, t12_15), (5, t15_15), (6, t18_15)])) fun t19_15 =>
  effv Try.prog (Instr.box 126 t19_15) w fun t20_15 w =>
  Q t20_15 w) ∧
  (wpB (pureRun Try.prog (Instr.fieldAt 25 t2 3)) fun t7_16 =>
  wpB (pureRun Try.prog (Instr.fieldAt 25 t2 3)) fun t10_16 =>
  wpB (pureRun Try.prog (Instr.fieldAt 25 t2 0)) fun t13_16 =>
  wpB (pureRun Try.prog (Instr.fieldAt 25 t2 0)) fun t16_16 =>
  wpB (ldv Try.prog 25 t2 w.drew) fun t5_16 =>
  wpB (ldv Try.prog 3 t7_16 w.drew) fun t8_16 =>
  wpB (ldv Try.prog 3 t10_16 w.drew) fun t11_16 =>
  wpB (ldv Try.prog 3 t13_16 w.drew) fun t14_16 =>
  wpB (ldv Try.prog 3 t16_16 w.drew) fun t17_16 =>
  effv Try.prog (Instr.makeSlice 36 t11_16 t11_16) w.drew fun t12_16 w =>
  effv Try.prog (Instr.makeSlice 36 t14_16 t14_16) w fun t15_16 w =>
  effv Try.prog (Instr.makeSlice 123 t17_16 t17_16) w fun t18_16 w =>
  effv Try.prog (Instr.makeSlice 36 t8_16 t8_16) w fun t9_16 w =>
  wpB (pureRun Try.prog (Instr.build 126 #[(0, t5_16), (1, a1), (2, t9_16), (3, t12_16), (5, t15_16), (6, t18_16)])) fun t19_16 =>
  effv Try.prog (Instr.box 126 t19_16) w fun t20_16 w =>
  Q t20_16 w)) ∧
  (wpB (pureRun Try.prog (Instr.fieldAt 25 t2 3)) fun t7_17 =>
  wpB (pureRun Try.prog (Instr.fieldAt 25 t2 3)) fun t10_17 =>
  wpB (pureRun Try.prog (Instr.fieldAt 25 t2 0)) fun t13_17 =>
  wpB (pureRun Try.prog (Instr.fieldAt 25 t2 0)) fun t16_17 =>
  wpB (ldv Try.prog 25 t2 w.drew) fun t5_17 =>
  wpB (ldv Try.prog 3 t7_17 w.drew) fun t8_17 =>
  wpB (ldv Try.prog 3 t10_17 w.drew) fun t11_17 =>
  wpB (ldv Try.prog 3 t13_17 w.drew) fun t14_17 =>
  wpB (ldv Try.prog 3 t16_17 w.drew) fun t17_17 =>
  effv Try.prog (Instr.makeSlice 36 t11_17 t11_17) w.drew fun t12_17 w =>
  effv Try.prog (Instr.makeSlice 123 t17_17 t17_17) w fun t18_17 w =>
  effv Try.prog (Instr.makeSlice 36 t14_17 t14_17) w fun t15_17 w =>
  effv Try.prog (Instr.makeSlice 36 t8_17 t8_17) w fun t9_17 w =>
  wpB (pureRun Try.prog (Instr.build 126 #[(0, t5_17), (1, a1), (2, t9_17), (3, t12_17), (5, t15_17), (6, t18_17)])) fun t19_17 =>
  effv Try.prog (Instr.box 126 t19_17) w fun t20_17 w =>
  Q t20_17 w))) ∧
  ((wpB (pureRun Try.prog (Instr.fieldAt 25 t2 3)) fun t7_18 =>
  wpB (pureRun Try.prog (Instr.fieldAt 25 t2 3)) fun t10_18 =>
  wpB (pureRun Try.prog (Instr.fieldAt 25 t2 0)) fun t13_18 =>
  wpB (pureRun Try.prog (Instr.fieldAt 25 t2 0)) fun t16_18 =>
  wpB (ldv Try.prog 25 t2 w.drew) fun t5_18 =>
  wpB (ldv Try.prog 3 t7_18 w.drew) fun t8_18 =>
  wpB (ldv Try.prog 3 t10_18 w.drew) fun t11_18 =>
  wpB (ldv Try.prog 3 t13_18 w.drew) fun t14_18 =>
  wpB (ldv Try.prog 3 t16_18 w.drew) fun t17_18 =>
  effv Try.prog (Instr.makeSlice 123 t17_18 t17_18) w.drew fun t18_18 w =>
  effv Try.prog (Instr.makeSlice 36 t11_18 t11_18) w fun t12_18 w =>
  effv Try.prog (Instr.makeSlice 36 t8_18 t8_18) w fun t9_18 w =>
  effv Try.prog (Instr.makeSlice 36 t14_18 t14_18) w fun t15_18 w =>
  wpB (pureRun Try.prog (Instr.build 126 #[(0, t5_18), (1, a1), (2, t9_18), (3, t12_18), (5, t15_18), (6, t18_18)])) fun t19_18 =>
  effv Try.prog (Instr.box 126 t19_18) w fun t20_18 w =>
  Q t20_18 w) ∧
  (wpB (pureRun Try.prog (Instr.fieldAt 25 t2 3)) fun t7_19 =>
  wpB (pureRun Try.prog (Instr.fieldAt 25 t2 3)) fun t10_19 =>
  wpB (pureRun Try.prog (Instr.fieldAt 25 t2 0)) fun t13_19 =>
  wpB (pureRun Try.prog (Instr.fieldAt 25 t2 0)) fun t16_19 =>
  wpB (ldv Try.prog 25 t2 w.drew) fun t5_19 =>
  wpB (ldv Try.prog 3 t7_19 w.drew) fun t8_19 =>
  wpB (ldv Try.prog 3 t10_19 w.drew) fun t11_19 =>
  wpB (ldv Try.prog 3 t13_19 w.drew) fun t14_19 =>
  wpB (ldv Try.prog 3 t16_19 w.drew) fun t17_19 =>
  effv Try.prog (Instr.makeSlice 123 t17_19 t17_19) w.drew fun t18_19 w =>
  effv Try.prog (Instr.makeSlice 36 t11_19 t11_19) w fun t12_19 w =>
  effv Try.prog (Instr.makeSlice 36 t14_19 t14_19) w fun t15_19 w =>
  effv Try.prog (Instr.makeSlice 36 t8_19 t8_19) w fun t9_19 w =>
  wpB (pureRun Try.prog (Instr.build 126 #[(0, t5_19), (1, a1), (2, t9_19), (3, t12_19), (5, t15_19), (6, t18_19)])) fun t19_19 =>
  effv Try.prog (Instr.box 126 t19_19) w fun t20_19 w =>
  Q t20_19 w))) ∧
  ((((wpB (pureRun Try.prog (Instr.fieldAt 25 t2 3)) fun t7_20 =>
  wpB (pureRun Try.prog (Instr.fieldAt 25 t2 3)) fun t10_20 =>
  wpB (pureRun Try.prog (Instr.fieldAt 25 t2 0)) fun t13_20 =>
  wpB (pureRun Try.prog (Instr.fieldAt 25 t2 0)) fun t16_20 =>
  wpB (ldv Try.prog 25 t2 w.drew) fun t5_20 =>
  wpB (ldv Try.prog 3 t7_20 w.drew) fun t8_20 =>
  wpB (ldv Try.prog 3 t10_20 w.drew) fun t11_20 =>
  wpB (ldv Try.prog 3 t13_20 w.drew) fun t14_20 =>
  wpB (ldv Try.prog 3 t16_20 w.drew) fun t17_20 =>
  effv Try.prog (Instr.makeSlice 36 t14_20 t14_20) w.drew fun t15_20 w =>
  effv Try.prog (Instr.makeSlice 36 t11_20 t11_20) w fun t12_20 w =>
  effv Try.prog (Instr.makeSlice 36 t8_20 t8_20) w fun t9_20 w =>
  effv Try.prog (Instr.makeSlice 123 t17_20 t17_20) w fun t18_20 w =>
  wpB (pureRun Try.prog (Instr.build 126 #[(0, t5_20), (1, a1), (2, t9_20), (3, t12_20), (5, t15_20), (6, t18_20)])) fun t19_20 =>
  effv Try.prog (Instr.box 126 t19_20) w fun t20_20 w =>
  Q t20_20 w) ∧
  (wpB (pureRun Try.prog (Instr.fieldAt 25 t2 3)) fun t7_21 =>
  wpB (pureRun Try.prog (Instr.fieldAt 25 t2 3)) fun t10_21 =>
  wpB (pureRun Try.prog (Instr.fieldAt 25 t2 0)) fun t13_21 =>
  wpB (pureRun Try.prog (Instr.fieldAt 25 t2 0)) fun t16_21 =>
  wpB (ldv Try.prog 25 t2 w.drew) fun t5_21 =>
  wpB (ldv Try.prog 3 t7_21 w.drew) fun t8_21 =>
  wpB (ldv Try.prog 3 t10_21 w.drew) fun t11_21 =>
  wpB (ldv Try.prog 3 t13_21 w.drew) fun t14_21 =>
  wpB (ldv Try.prog 3 t16_21 w.drew) fun t17_21 =>
  effv Try.prog (Instr.makeSlice 36 t14_21 t14_21) w.drew fun t15_21 w =>
  effv Try.prog (Instr.makeSlice 36 t11_21 t11_21) w fun t12_21 w =>
  effv Try.prog (Instr.makeSlice 123 t17_21 t17_21) w fun t18_21 w =>
  effv Try.prog (Instr.makeSlice 36 t8_21 t8_21) w fun t9_21 w =>
  wpB (pureRun Try.prog (Instr.build 126 #[(0, t5_21), (1, a1), (2, t9_21), (3, t12_21), (5, t15_21), (6, t18_21)])) fun t19_21 =>
  effv Try.prog (Instr.box 126 t19_21) w fun t20_21 w =>
  Q t20_21 w)) ∧
  (wpB (pureRun Try.prog (Instr.fieldAt 25 t2 3)) fun t7_22 =>
  wpB (pureRun Try.prog (Instr.fieldAt 25 t2 3)) fun t10_22 =>
  wpB (pureRun Try.prog (Instr.fieldAt 25 t2 0)) fun t13_22 =>
  wpB (pureRun Try.prog (Instr.fieldAt 25 t2 0)) fun t16_22 =>
  wpB (ldv Try.prog 25 t2 w.drew) fun t5_22 =>
  wpB (ldv Try.prog 3 t7_22 w.drew) fun t8_22 =>
  wpB (ldv Try.prog 3 t10_22 w.drew) fun t11_22 =>
  wpB (ldv Try.prog 3 t13_22 w.drew) fun t14_22 =>
  wpB (ldv Try.prog 3 t16_22 w.drew) fun t17_22 =>
  effv Try.prog (Instr.makeSlice 36 t14_22 t14_22) w.drew fun t15_22 w =>
  effv Try.prog (Instr.makeSlice 123 t17_22 t17_22) w fun t18_22 w =>
  effv Try.prog (Instr.makeSlice 36 t11_22 t11_22) w fun t12_22 w =>
  effv Try.prog (Instr.makeSlice 36 t8_22 t8_22) w fun t9_22 w =>
  wpB (pureRun Try.prog (Instr.build 126 #[(0, t5_22), (1, a1), (2, t9_22), (3, t12_22), (5, t15_22), (6, t18_22)])) fun t19_22 =>
  effv Try.prog (Instr.box 126 t19_22) w fun t20_22 w =>
  Q t20_22 w)) ∧
  (wpB (pureRun Try.prog (Instr.fieldAt 25 t2 3)) fun t7_23 =>
  wpB (pureRun Try.prog (Instr.fieldAt 25 t2 3)) fun t10_23 =>
  wpB (pureRun Try.prog (Instr.fieldAt 25 t2 0)) fun t13_23 =>
  wpB (pureRun Try.prog (Instr.fieldAt 25 t2 0)) fun t16_23 =>
  wpB (ldv Try.prog 25 t2 w.drew) fun t5_23 =>
  wpB (ldv Try.prog 3 t7_23 w.drew) fun t8_23 =>
  wpB (ldv Try.prog 3 t10_23 w.drew) fun t11_23 =>
  wpB (ldv Try.prog 3 t13_23 w.drew) fun t14_23 =>
  wpB (ldv Try.prog 3 t16_23 w.drew) fun t17_23 =>
  effv Try.prog (Instr.makeSlice 123 t17_23 t17_23) w.drew fun t18_23 w =>
  effv Try.prog (Instr.makeSlice 36 t14_23 t14_23) w fun t15_23 w =>
  effv Try.prog (Instr.makeSlice 36 t11_23 t11_23) w fun t12_23 w =>
  effv Try.prog (Instr.makeSlice 36 t8_23 t8_23) w fun t9_23 w =>
  wpB (pureRun Try.prog (Instr.build 126 #[(0, t5_23), (1, a1), (2, t9_23), (3, t12_23), (5, t15_23), (6, t18_23)])) fun t19_23 =>
  effv Try.prog (Instr.box 126 t19_23) w fun t20_23 w =>
  Q t20_23 w)))
theorem F49_ok {a0 a1 : Value} {w : World} {Q : Value → World → Prop} (h : F49 a0 a1 w Q) : CallR Try.prog 49 [a0, a1] w Q :=
  call_ofE mixed entOk Try.func49 (c := C49) rfl H49 (Nat.le_of_ble_eq_true rfl) (by kernel_rfl) h

noncomputable def C50 : Code := (Try.f50.body).getD .skip
noncomputable def H50 : Hints := ⟨[], [], []⟩
def F50 (a0 a1 : Value) (w : World) (Q : Value → World → Prop) : Prop :=
  wpB (bp Try.prog .lss 3 a1 (.int .i64 0)) fun t6 =>
  wpB (gd t6 false (nilv (gv t6 false a0))) fun t10 =>
  wpB (gd t6 false (pureRun Try.prog (Instr.fieldAt 126 t10 0))) fun t11 =>
  wpB (gd t6 false (pureRun Try.prog (Instr.fieldAt 25 t11 3))) fun t12 =>
  wpB (gd t6 false (ldv Try.prog 3 t12 w)) fun t13 =>
  wpB (gd t6 false (bp Try.prog .geq 3 (gv t6 false a1) t13)) fun t14 =>
  wpB (pickv t6 (some (.bool true)) (some t14)) fun t15 =>
  wpB (gd t15 false (nilv (gv t15 false a0))) fun t18 =>
  wpB (gd t15 false (pureRun Try.prog (Instr.fieldAt 126 t18 2))) fun t19 =>
  wpB (gd t15 false (ldv Try.prog 36 t19 w)) fun t20 =>
  wpB (gd t15 false (pureRun Try.prog (Instr.indexAt 36 t20 (gv t15 false a1)))) fun t22 =>
  wpB (gd t15 false (ldv Try.prog 3 t22 w)) fun t23 =>
  wpB (gd t15 false (be Try.prog .neq 3 (.tmp 23) (.const (.int .i64 2)) t23 (.int .i64 2))) fun t24 =>
  wpB (pickv t15 (some (.bool true)) (some t24)) fun t25 =>
  cnd t25
  (Q (.bool false) w)
  (wpB (nilv a0) fun t27 =>
  wpB (pureRun Try.prog (Instr.fieldAt 126 t27 2)) fun t28 =>
  wpB (ldv Try.prog 36 t28 w) fun t29 =>
  wpB (pureRun Try.prog (Instr.indexAt 36 t29 a1)) fun t31 =>
  effu Try.prog (Instr.storeAt 3 t31 (.int .i64 0)) w fun w =>
  Q (.bool true) w)
theorem F50_ok {a0 a1 : Value} {w : World} {Q : Value → World → Prop} (h : F50 a0 a1 w Q) : CallR Try.prog 50 [a0, a1] w Q :=
  call_ofE mixed entOk Try.func50 (c := C50) rfl H50 (Nat.le_of_ble_eq_true rfl) (by kernel_rfl) h

noncomputable def C51 : Code := (Try.f51.body).getD .skip
noncomputable def H51 : Hints := ⟨[], [(9, [])], []⟩
noncomputable def T51_0 : List It := [.jn (nav [1, 1, 1, 0, 4, 1, 2, 1, 1] C51), .blk 0, .jn (nav [1, 1, 1, 1] C51)]
/-- (*rundale/rundaleref24.Model).Do, from a join on -/
def P51_0 (w : World) (Q : Value → World → Prop) : Prop := Part Try.prog 51 T51_0 [] [] w Q
end Go.Proofs.Yteapggpkgfiacaa

