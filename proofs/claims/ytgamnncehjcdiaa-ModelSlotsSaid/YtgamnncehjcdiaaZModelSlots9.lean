/- Parts of the proof of ModelSlots, one behind the other. Conditions: none. -/
import Derived.Test.YtgamnncehjcdiaaChecked
import Derived.Eval
import Derived.Laws.Tables
import Derived.Test.YtgamnncehjcdiaaZModelSlots8
namespace Go.Proofs.Ytgamnncehjcdiaa
open Go Ev
set_option linter.unusedVariables false
set_option maxRecDepth 100000
variable {w : World} {K : Value → World → Prop} {L : World → Prop}
@[simp] theorem fa_25_0 {b o : Nat} : pureRun Try.prog (Instr.fieldAt 25 (.pointer (some ⟨b, o, none⟩)) 0) = some (.pointer (some ⟨b, o + 0, none⟩)) := pr_fieldAt (g := false) (z := 1) (by kernel_rfl) (by decide)
@[simp] theorem fa_25_1 {b o : Nat} : pureRun Try.prog (Instr.fieldAt 25 (.pointer (some ⟨b, o, none⟩)) 1) = some (.pointer (some ⟨b, o + 1, none⟩)) := pr_fieldAt (g := false) (z := 1) (by kernel_rfl) (by decide)
@[simp] theorem fa_40_0 {b o : Nat} : pureRun Try.prog (Instr.fieldAt 40 (.pointer (some ⟨b, o, none⟩)) 0) = some (.pointer (some ⟨b, o + 0, none⟩)) := pr_fieldAt (g := false) (z := 1) (by kernel_rfl) (by decide)
@[simp] theorem fa_40_1 {b o : Nat} : pureRun Try.prog (Instr.fieldAt 40 (.pointer (some ⟨b, o, none⟩)) 1) = some (.pointer (some ⟨b, o + 1, none⟩)) := pr_fieldAt (g := false) (z := 1) (by kernel_rfl) (by decide)
@[simp] theorem fa_40_2 {b o : Nat} : pureRun Try.prog (Instr.fieldAt 40 (.pointer (some ⟨b, o, none⟩)) 2) = some (.pointer (some ⟨b, o + 2, none⟩)) := pr_fieldAt (g := false) (z := 1) (by kernel_rfl) (by decide)
@[simp] theorem fa_40_3 {b o : Nat} : pureRun Try.prog (Instr.fieldAt 40 (.pointer (some ⟨b, o, none⟩)) 3) = some (.pointer (some ⟨b, o + 3, none⟩)) := pr_fieldAt (g := false) (z := 1) (by kernel_rfl) (by decide)
@[simp] theorem fa_40_4 {b o : Nat} : pureRun Try.prog (Instr.fieldAt 40 (.pointer (some ⟨b, o, none⟩)) 4) = some (.pointer (some ⟨b, o + 4, none⟩)) := pr_fieldAt (g := false) (z := 1) (by kernel_rfl) (by decide)
@[simp] theorem fa_40_5 {b o : Nat} : pureRun Try.prog (Instr.fieldAt 40 (.pointer (some ⟨b, o, none⟩)) 5) = some (.pointer (some ⟨b, o + 5, none⟩)) := pr_fieldAt (g := false) (z := 1) (by kernel_rfl) (by decide)
@[simp] theorem fa_51_0 {b o : Nat} : pureRun Try.prog (Instr.fieldAt 51 (.pointer (some ⟨b, o, none⟩)) 0) = some (.pointer (some ⟨b, o + 0, none⟩)) := pr_fieldAt (g := false) (z := 1) (by kernel_rfl) (by decide)
@[simp] theorem fa_51_1 {b o : Nat} : pureRun Try.prog (Instr.fieldAt 51 (.pointer (some ⟨b, o, none⟩)) 1) = some (.pointer (some ⟨b, o + 1, none⟩)) := pr_fieldAt (g := false) (z := 1) (by kernel_rfl) (by decide)
@[simp] theorem fa_51_2 {b o : Nat} : pureRun Try.prog (Instr.fieldAt 51 (.pointer (some ⟨b, o, none⟩)) 2) = some (.pointer (some ⟨b, o + 2, none⟩)) := pr_fieldAt (g := false) (z := 1) (by kernel_rfl) (by decide)
@[simp] theorem fa_51_3 {b o : Nat} : pureRun Try.prog (Instr.fieldAt 51 (.pointer (some ⟨b, o, none⟩)) 3) = some (.pointer (some ⟨b, o + 3, none⟩)) := pr_fieldAt (g := false) (z := 1) (by kernel_rfl) (by decide)
@[simp] theorem fa_51_4 {b o : Nat} : pureRun Try.prog (Instr.fieldAt 51 (.pointer (some ⟨b, o, none⟩)) 4) = some (.pointer (some ⟨b, o + 4, none⟩)) := pr_fieldAt (g := false) (z := 1) (by kernel_rfl) (by decide)
@[simp] theorem fa_53_0 {b o : Nat} : pureRun Try.prog (Instr.fieldAt 53 (.pointer (some ⟨b, o, none⟩)) 0) = some (.pointer (some ⟨b, o + 0, none⟩)) := pr_fieldAt (g := false) (z := 1) (by kernel_rfl) (by decide)
@[simp] theorem fa_53_1 {b o : Nat} : pureRun Try.prog (Instr.fieldAt 53 (.pointer (some ⟨b, o, none⟩)) 1) = some (.pointer (some ⟨b, o + 1, none⟩)) := pr_fieldAt (g := true) (z := 5) (by kernel_rfl) (by decide)
@[simp] theorem fa_53_2 {b o : Nat} : pureRun Try.prog (Instr.fieldAt 53 (.pointer (some ⟨b, o, none⟩)) 2) = some (.pointer (some ⟨b, o + 6, none⟩)) := pr_fieldAt (g := false) (z := 1) (by kernel_rfl) (by decide)
@[simp] theorem fa_53_3 {b o : Nat} : pureRun Try.prog (Instr.fieldAt 53 (.pointer (some ⟨b, o, none⟩)) 3) = some (.pointer (some ⟨b, o + 7, none⟩)) := pr_fieldAt (g := false) (z := 1) (by kernel_rfl) (by decide)
@[simp] theorem fa_58_0 {b o : Nat} : pureRun Try.prog (Instr.fieldAt 58 (.pointer (some ⟨b, o, none⟩)) 0) = some (.pointer (some ⟨b, o + 0, none⟩)) := pr_fieldAt (g := false) (z := 1) (by kernel_rfl) (by decide)
@[simp] theorem fa_58_1 {b o : Nat} : pureRun Try.prog (Instr.fieldAt 58 (.pointer (some ⟨b, o, none⟩)) 1) = some (.pointer (some ⟨b, o + 1, none⟩)) := pr_fieldAt (g := false) (z := 1) (by kernel_rfl) (by decide)
@[simp] theorem fa_58_3 {b o : Nat} : pureRun Try.prog (Instr.fieldAt 58 (.pointer (some ⟨b, o, none⟩)) 3) = some (.pointer (some ⟨b, o + 8, none⟩)) := pr_fieldAt (g := false) (z := 1) (by kernel_rfl) (by decide)
@[simp] theorem fa_58_4 {b o : Nat} : pureRun Try.prog (Instr.fieldAt 58 (.pointer (some ⟨b, o, none⟩)) 4) = some (.pointer (some ⟨b, o + 9, none⟩)) := pr_fieldAt (g := false) (z := 1) (by kernel_rfl) (by decide)
@[simp] theorem fa_58_5 {b o : Nat} : pureRun Try.prog (Instr.fieldAt 58 (.pointer (some ⟨b, o, none⟩)) 5) = some (.pointer (some ⟨b, o + 10, none⟩)) := pr_fieldAt (g := false) (z := 1) (by kernel_rfl) (by decide)
@[simp] theorem fa_58_6 {b o : Nat} : pureRun Try.prog (Instr.fieldAt 58 (.pointer (some ⟨b, o, none⟩)) 6) = some (.pointer (some ⟨b, o + 11, none⟩)) := pr_fieldAt (g := false) (z := 1) (by kernel_rfl) (by decide)
@[simp] theorem fa_58_7 {b o : Nat} : pureRun Try.prog (Instr.fieldAt 58 (.pointer (some ⟨b, o, none⟩)) 7) = some (.pointer (some ⟨b, o + 12, none⟩)) := pr_fieldAt (g := true) (z := 8) (by kernel_rfl) (by decide)
@[simp] theorem fa_65_0 {b o : Nat} : pureRun Try.prog (Instr.fieldAt 65 (.pointer (some ⟨b, o, none⟩)) 0) = some (.pointer (some ⟨b, o + 0, none⟩)) := pr_fieldAt (g := false) (z := 1) (by kernel_rfl) (by decide)
@[simp] theorem fa_65_1 {b o : Nat} : pureRun Try.prog (Instr.fieldAt 65 (.pointer (some ⟨b, o, none⟩)) 1) = some (.pointer (some ⟨b, o + 1, none⟩)) := pr_fieldAt (g := false) (z := 1) (by kernel_rfl) (by decide)
@[simp] theorem fa_65_2 {b o : Nat} : pureRun Try.prog (Instr.fieldAt 65 (.pointer (some ⟨b, o, none⟩)) 2) = some (.pointer (some ⟨b, o + 2, none⟩)) := pr_fieldAt (g := false) (z := 1) (by kernel_rfl) (by decide)
@[simp] theorem fa_65_3 {b o : Nat} : pureRun Try.prog (Instr.fieldAt 65 (.pointer (some ⟨b, o, none⟩)) 3) = some (.pointer (some ⟨b, o + 3, none⟩)) := pr_fieldAt (g := false) (z := 1) (by kernel_rfl) (by decide)
@[simp] theorem fa_65_4 {b o : Nat} : pureRun Try.prog (Instr.fieldAt 65 (.pointer (some ⟨b, o, none⟩)) 4) = some (.pointer (some ⟨b, o + 4, none⟩)) := pr_fieldAt (g := false) (z := 1) (by kernel_rfl) (by decide)
@[simp] theorem fa_65_5 {b o : Nat} : pureRun Try.prog (Instr.fieldAt 65 (.pointer (some ⟨b, o, none⟩)) 5) = some (.pointer (some ⟨b, o + 5, none⟩)) := pr_fieldAt (g := true) (z := 6) (by kernel_rfl) (by decide)
@[simp] theorem fa_65_6 {b o : Nat} : pureRun Try.prog (Instr.fieldAt 65 (.pointer (some ⟨b, o, none⟩)) 6) = some (.pointer (some ⟨b, o + 11, none⟩)) := pr_fieldAt (g := true) (z := 8) (by kernel_rfl) (by decide)
@[simp] theorem fa_67_0 {b o : Nat} : pureRun Try.prog (Instr.fieldAt 67 (.pointer (some ⟨b, o, none⟩)) 0) = some (.pointer (some ⟨b, o + 0, none⟩)) := pr_fieldAt (g := false) (z := 1) (by kernel_rfl) (by decide)
@[simp] theorem fa_67_1 {b o : Nat} : pureRun Try.prog (Instr.fieldAt 67 (.pointer (some ⟨b, o, none⟩)) 1) = some (.pointer (some ⟨b, o + 1, none⟩)) := pr_fieldAt (g := false) (z := 1) (by kernel_rfl) (by decide)
@[simp] theorem fa_67_2 {b o : Nat} : pureRun Try.prog (Instr.fieldAt 67 (.pointer (some ⟨b, o, none⟩)) 2) = some (.pointer (some ⟨b, o + 2, none⟩)) := pr_fieldAt (g := false) (z := 1) (by kernel_rfl) (by decide)
@[simp] theorem fa_74_0 {b o : Nat} : pureRun Try.prog (Instr.fieldAt 74 (.pointer (some ⟨b, o, none⟩)) 0) = some (.pointer (some ⟨b, o + 0, none⟩)) := pr_fieldAt (g := false) (z := 1) (by kernel_rfl) (by decide)
@[simp] theorem fa_74_1 {b o : Nat} : pureRun Try.prog (Instr.fieldAt 74 (.pointer (some ⟨b, o, none⟩)) 1) = some (.pointer (some ⟨b, o + 1, none⟩)) := pr_fieldAt (g := false) (z := 1) (by kernel_rfl) (by decide)
@[simp] theorem fa_74_2 {b o : Nat} : pureRun Try.prog (Instr.fieldAt 74 (.pointer (some ⟨b, o, none⟩)) 2) = some (.pointer (some ⟨b, o + 2, none⟩)) := pr_fieldAt (g := false) (z := 1) (by kernel_rfl) (by decide)
@[simp] theorem fa_74_3 {b o : Nat} : pureRun Try.prog (Instr.fieldAt 74 (.pointer (some ⟨b, o, none⟩)) 3) = some (.pointer (some ⟨b, o + 3, none⟩)) := pr_fieldAt (g := false) (z := 1) (by kernel_rfl) (by decide)
@[simp] theorem fa_74_4 {b o : Nat} : pureRun Try.prog (Instr.fieldAt 74 (.pointer (some ⟨b, o, none⟩)) 4) = some (.pointer (some ⟨b, o + 4, none⟩)) := pr_fieldAt (g := false) (z := 1) (by kernel_rfl) (by decide)
@[simp] theorem fa_74_5 {b o : Nat} : pureRun Try.prog (Instr.fieldAt 74 (.pointer (some ⟨b, o, none⟩)) 5) = some (.pointer (some ⟨b, o + 5, none⟩)) := pr_fieldAt (g := false) (z := 1) (by kernel_rfl) (by decide)
@[simp] theorem fa_92_0 {b o : Nat} : pureRun Try.prog (Instr.fieldAt 92 (.pointer (some ⟨b, o, none⟩)) 0) = some (.pointer (some ⟨b, o + 0, none⟩)) := pr_fieldAt (g := true) (z := 6) (by kernel_rfl) (by decide)
@[simp] theorem fa_92_1 {b o : Nat} : pureRun Try.prog (Instr.fieldAt 92 (.pointer (some ⟨b, o, none⟩)) 1) = some (.pointer (some ⟨b, o + 6, none⟩)) := pr_fieldAt (g := false) (z := 1) (by kernel_rfl) (by decide)
@[simp] theorem fa_92_2 {b o : Nat} : pureRun Try.prog (Instr.fieldAt 92 (.pointer (some ⟨b, o, none⟩)) 2) = some (.pointer (some ⟨b, o + 7, none⟩)) := pr_fieldAt (g := false) (z := 1) (by kernel_rfl) (by decide)
@[simp] theorem fa_92_3 {b o : Nat} : pureRun Try.prog (Instr.fieldAt 92 (.pointer (some ⟨b, o, none⟩)) 3) = some (.pointer (some ⟨b, o + 8, none⟩)) := pr_fieldAt (g := false) (z := 1) (by kernel_rfl) (by decide)
@[simp] theorem fa_100_0 {b o : Nat} : pureRun Try.prog (Instr.fieldAt 100 (.pointer (some ⟨b, o, none⟩)) 0) = some (.pointer (some ⟨b, o + 0, none⟩)) := pr_fieldAt (g := false) (z := 1) (by kernel_rfl) (by decide)
@[simp] theorem fa_100_1 {b o : Nat} : pureRun Try.prog (Instr.fieldAt 100 (.pointer (some ⟨b, o, none⟩)) 1) = some (.pointer (some ⟨b, o + 1, none⟩)) := pr_fieldAt (g := false) (z := 1) (by kernel_rfl) (by decide)
@[simp] theorem fa_115_0 {b o : Nat} : pureRun Try.prog (Instr.fieldAt 115 (.pointer (some ⟨b, o, none⟩)) 0) = some (.pointer (some ⟨b, o + 0, none⟩)) := pr_fieldAt (g := false) (z := 1) (by kernel_rfl) (by decide)
@[simp] theorem fa_115_1 {b o : Nat} : pureRun Try.prog (Instr.fieldAt 115 (.pointer (some ⟨b, o, none⟩)) 1) = some (.pointer (some ⟨b, o + 1, none⟩)) := pr_fieldAt (g := false) (z := 1) (by kernel_rfl) (by decide)
@[simp] theorem fa_121_0 {b o : Nat} : pureRun Try.prog (Instr.fieldAt 121 (.pointer (some ⟨b, o, none⟩)) 0) = some (.pointer (some ⟨b, o + 0, none⟩)) := pr_fieldAt (g := false) (z := 1) (by kernel_rfl) (by decide)
@[simp] theorem fa_121_1 {b o : Nat} : pureRun Try.prog (Instr.fieldAt 121 (.pointer (some ⟨b, o, none⟩)) 1) = some (.pointer (some ⟨b, o + 1, none⟩)) := pr_fieldAt (g := false) (z := 1) (by kernel_rfl) (by decide)
@[simp] theorem fa_121_2 {b o : Nat} : pureRun Try.prog (Instr.fieldAt 121 (.pointer (some ⟨b, o, none⟩)) 2) = some (.pointer (some ⟨b, o + 2, none⟩)) := pr_fieldAt (g := false) (z := 1) (by kernel_rfl) (by decide)
@[simp] theorem fa_132_0 {b o : Nat} : pureRun Try.prog (Instr.fieldAt 132 (.pointer (some ⟨b, o, none⟩)) 0) = some (.pointer (some ⟨b, o + 0, none⟩)) := pr_fieldAt (g := true) (z := 6) (by kernel_rfl) (by decide)
@[simp] theorem fa_132_1 {b o : Nat} : pureRun Try.prog (Instr.fieldAt 132 (.pointer (some ⟨b, o, none⟩)) 1) = some (.pointer (some ⟨b, o + 6, none⟩)) := pr_fieldAt (g := false) (z := 1) (by kernel_rfl) (by decide)
@[simp] theorem fa_132_2 {b o : Nat} : pureRun Try.prog (Instr.fieldAt 132 (.pointer (some ⟨b, o, none⟩)) 2) = some (.pointer (some ⟨b, o + 7, none⟩)) := pr_fieldAt (g := false) (z := 1) (by kernel_rfl) (by decide)
@[simp] theorem fa_132_3 {b o : Nat} : pureRun Try.prog (Instr.fieldAt 132 (.pointer (some ⟨b, o, none⟩)) 3) = some (.pointer (some ⟨b, o + 8, none⟩)) := pr_fieldAt (g := false) (z := 1) (by kernel_rfl) (by decide)
@[simp] theorem fa_132_4 {b o : Nat} : pureRun Try.prog (Instr.fieldAt 132 (.pointer (some ⟨b, o, none⟩)) 4) = some (.pointer (some ⟨b, o + 9, none⟩)) := pr_fieldAt (g := false) (z := 1) (by kernel_rfl) (by decide)
@[simp] theorem fa_137_0 {b o : Nat} : pureRun Try.prog (Instr.fieldAt 137 (.pointer (some ⟨b, o, none⟩)) 0) = some (.pointer (some ⟨b, o + 0, none⟩)) := pr_fieldAt (g := false) (z := 1) (by kernel_rfl) (by decide)
@[simp] theorem fa_137_1 {b o : Nat} : pureRun Try.prog (Instr.fieldAt 137 (.pointer (some ⟨b, o, none⟩)) 1) = some (.pointer (some ⟨b, o + 1, none⟩)) := pr_fieldAt (g := false) (z := 1) (by kernel_rfl) (by decide)
@[simp] theorem fa_141_0 {b o : Nat} : pureRun Try.prog (Instr.fieldAt 141 (.pointer (some ⟨b, o, none⟩)) 0) = some (.pointer (some ⟨b, o + 0, none⟩)) := pr_fieldAt (g := false) (z := 1) (by kernel_rfl) (by decide)
@[simp] theorem fa_141_1 {b o : Nat} : pureRun Try.prog (Instr.fieldAt 141 (.pointer (some ⟨b, o, none⟩)) 1) = some (.pointer (some ⟨b, o + 1, none⟩)) := pr_fieldAt (g := false) (z := 1) (by kernel_rfl) (by decide)
@[simp] theorem fa_144_0 {b o : Nat} : pureRun Try.prog (Instr.fieldAt 144 (.pointer (some ⟨b, o, none⟩)) 0) = some (.pointer (some ⟨b, o + 0, none⟩)) := pr_fieldAt (g := true) (z := 2) (by kernel_rfl) (by decide)
@[simp] theorem fa_144_1 {b o : Nat} : pureRun Try.prog (Instr.fieldAt 144 (.pointer (some ⟨b, o, none⟩)) 1) = some (.pointer (some ⟨b, o + 2, none⟩)) := pr_fieldAt (g := false) (z := 1) (by kernel_rfl) (by decide)
@[simp] theorem fa_144_2 {b o : Nat} : pureRun Try.prog (Instr.fieldAt 144 (.pointer (some ⟨b, o, none⟩)) 2) = some (.pointer (some ⟨b, o + 3, none⟩)) := pr_fieldAt (g := false) (z := 1) (by kernel_rfl) (by decide)
@[simp] theorem fa_144_3 {b o : Nat} : pureRun Try.prog (Instr.fieldAt 144 (.pointer (some ⟨b, o, none⟩)) 3) = some (.pointer (some ⟨b, o + 4, none⟩)) := pr_fieldAt (g := false) (z := 1) (by kernel_rfl) (by decide)
@[simp] theorem fa_144_4 {b o : Nat} : pureRun Try.prog (Instr.fieldAt 144 (.pointer (some ⟨b, o, none⟩)) 4) = some (.pointer (some ⟨b, o + 5, none⟩)) := pr_fieldAt (g := false) (z := 1) (by kernel_rfl) (by decide)
@[simp] theorem fa_144_5 {b o : Nat} : pureRun Try.prog (Instr.fieldAt 144 (.pointer (some ⟨b, o, none⟩)) 5) = some (.pointer (some ⟨b, o + 6, none⟩)) := pr_fieldAt (g := false) (z := 1) (by kernel_rfl) (by decide)
@[simp] theorem fa_150_0 {b o : Nat} : pureRun Try.prog (Instr.fieldAt 150 (.pointer (some ⟨b, o, none⟩)) 0) = some (.pointer (some ⟨b, o + 0, none⟩)) := pr_fieldAt (g := false) (z := 1) (by kernel_rfl) (by decide)
@[simp] theorem fa_150_1 {b o : Nat} : pureRun Try.prog (Instr.fieldAt 150 (.pointer (some ⟨b, o, none⟩)) 1) = some (.pointer (some ⟨b, o + 1, none⟩)) := pr_fieldAt (g := false) (z := 1) (by kernel_rfl) (by decide)
@[simp] theorem fa_154_0 {b o : Nat} : pureRun Try.prog (Instr.fieldAt 154 (.pointer (some ⟨b, o, none⟩)) 0) = some (.pointer (some ⟨b, o + 0, none⟩)) := pr_fieldAt (g := true) (z := 6) (by kernel_rfl) (by decide)
@[simp] theorem fa_154_1 {b o : Nat} : pureRun Try.prog (Instr.fieldAt 154 (.pointer (some ⟨b, o, none⟩)) 1) = some (.pointer (some ⟨b, o + 6, none⟩)) := pr_fieldAt (g := false) (z := 1) (by kernel_rfl) (by decide)
@[simp] theorem fa_154_2 {b o : Nat} : pureRun Try.prog (Instr.fieldAt 154 (.pointer (some ⟨b, o, none⟩)) 2) = some (.pointer (some ⟨b, o + 7, none⟩)) := pr_fieldAt (g := false) (z := 1) (by kernel_rfl) (by decide)
@[simp] theorem fa_154_3 {b o : Nat} : pureRun Try.prog (Instr.fieldAt 154 (.pointer (some ⟨b, o, none⟩)) 3) = some (.pointer (some ⟨b, o + 8, none⟩)) := pr_fieldAt (g := false) (z := 1) (by kernel_rfl) (by decide)
@[simp] theorem fa_154_4 {b o : Nat} : pureRun Try.prog (Instr.fieldAt 154 (.pointer (some ⟨b, o, none⟩)) 4) = some (.pointer (some ⟨b, o + 9, none⟩)) := pr_fieldAt (g := false) (z := 1) (by kernel_rfl) (by decide)
@[simp] theorem fa_154_5 {b o : Nat} : pureRun Try.prog (Instr.fieldAt 154 (.pointer (some ⟨b, o, none⟩)) 5) = some (.pointer (some ⟨b, o + 10, none⟩)) := pr_fieldAt (g := false) (z := 1) (by kernel_rfl) (by decide)
@[simp] theorem fa_154_6 {b o : Nat} : pureRun Try.prog (Instr.fieldAt 154 (.pointer (some ⟨b, o, none⟩)) 6) = some (.pointer (some ⟨b, o + 11, none⟩)) := pr_fieldAt (g := false) (z := 1) (by kernel_rfl) (by decide)
@[simp] theorem fa_158_0 {b o : Nat} : pureRun Try.prog (Instr.fieldAt 158 (.pointer (some ⟨b, o, none⟩)) 0) = some (.pointer (some ⟨b, o + 0, none⟩)) := pr_fieldAt (g := false) (z := 1) (by kernel_rfl) (by decide)
@[simp] theorem fa_158_1 {b o : Nat} : pureRun Try.prog (Instr.fieldAt 158 (.pointer (some ⟨b, o, none⟩)) 1) = some (.pointer (some ⟨b, o + 1, none⟩)) := pr_fieldAt (g := false) (z := 1) (by kernel_rfl) (by decide)
@[simp] theorem fa_158_2 {b o : Nat} : pureRun Try.prog (Instr.fieldAt 158 (.pointer (some ⟨b, o, none⟩)) 2) = some (.pointer (some ⟨b, o + 2, none⟩)) := pr_fieldAt (g := false) (z := 1) (by kernel_rfl) (by decide)
@[simp] theorem fa_158_3 {b o : Nat} : pureRun Try.prog (Instr.fieldAt 158 (.pointer (some ⟨b, o, none⟩)) 3) = some (.pointer (some ⟨b, o + 3, none⟩)) := pr_fieldAt (g := false) (z := 1) (by kernel_rfl) (by decide)
@[simp] theorem fa_158_4 {b o : Nat} : pureRun Try.prog (Instr.fieldAt 158 (.pointer (some ⟨b, o, none⟩)) 4) = some (.pointer (some ⟨b, o + 4, none⟩)) := pr_fieldAt (g := false) (z := 1) (by kernel_rfl) (by decide)
@[simp] theorem fa_158_5 {b o : Nat} : pureRun Try.prog (Instr.fieldAt 158 (.pointer (some ⟨b, o, none⟩)) 5) = some (.pointer (some ⟨b, o + 5, none⟩)) := pr_fieldAt (g := false) (z := 1) (by kernel_rfl) (by decide)
@[simp] theorem fa_158_6 {b o : Nat} : pureRun Try.prog (Instr.fieldAt 158 (.pointer (some ⟨b, o, none⟩)) 6) = some (.pointer (some ⟨b, o + 6, none⟩)) := pr_fieldAt (g := false) (z := 1) (by kernel_rfl) (by decide)
@[simp] theorem fa_158_7 {b o : Nat} : pureRun Try.prog (Instr.fieldAt 158 (.pointer (some ⟨b, o, none⟩)) 7) = some (.pointer (some ⟨b, o + 7, none⟩)) := pr_fieldAt (g := false) (z := 1) (by kernel_rfl) (by decide)
@[simp] theorem fa_170_0 {b o : Nat} : pureRun Try.prog (Instr.fieldAt 170 (.pointer (some ⟨b, o, none⟩)) 0) = some (.pointer (some ⟨b, o + 0, none⟩)) := pr_fieldAt (g := false) (z := 1) (by kernel_rfl) (by decide)
@[simp] theorem fa_170_1 {b o : Nat} : pureRun Try.prog (Instr.fieldAt 170 (.pointer (some ⟨b, o, none⟩)) 1) = some (.pointer (some ⟨b, o + 1, none⟩)) := pr_fieldAt (g := false) (z := 1) (by kernel_rfl) (by decide)
@[simp] theorem fa_170_2 {b o : Nat} : pureRun Try.prog (Instr.fieldAt 170 (.pointer (some ⟨b, o, none⟩)) 2) = some (.pointer (some ⟨b, o + 2, none⟩)) := pr_fieldAt (g := false) (z := 1) (by kernel_rfl) (by decide)
@[simp] theorem fa_170_3 {b o : Nat} : pureRun Try.prog (Instr.fieldAt 170 (.pointer (some ⟨b, o, none⟩)) 3) = some (.pointer (some ⟨b, o + 3, none⟩)) := pr_fieldAt (g := false) (z := 1) (by kernel_rfl) (by decide)
@[simp] theorem fa_170_4 {b o : Nat} : pureRun Try.prog (Instr.fieldAt 170 (.pointer (some ⟨b, o, none⟩)) 4) = some (.pointer (some ⟨b, o + 4, none⟩)) := pr_fieldAt (g := false) (z := 1) (by kernel_rfl) (by decide)
@[simp] theorem fi_170_1 {x0 x1 x2 x3 x4 : Value} : pureRun Try.prog (Instr.field 170 (.agg #[x0, x1, x2, x3, x4]) 1) = some x1 := pr_field1 (off := 1) (z := 1) (by kernel_rfl) rfl
theorem sz_3 : (Try.prog.info? 3).map (·.size) = some 1 := by kernel_rfl
theorem ag_3 : (Try.prog.underlying 3).map isAggD = some false := by kernel_rfl
@[simp] theorem ld_3 {b o : Nat} : ldv Try.prog 3 (.pointer (some ⟨b, o, none⟩)) w = ldC (hp w b) o := ldv_blk ag_3
theorem sz_4 : (Try.prog.info? 4).map (·.size) = some 1 := by kernel_rfl
theorem ag_4 : (Try.prog.underlying 4).map isAggD = some false := by kernel_rfl
@[simp] theorem ld_4 {b o : Nat} : ldv Try.prog 4 (.pointer (some ⟨b, o, none⟩)) w = ldC (hp w b) o := ldv_blk ag_4
theorem sz_5 : (Try.prog.info? 5).map (·.size) = some 1 := by kernel_rfl
theorem ag_5 : (Try.prog.underlying 5).map isAggD = some false := by kernel_rfl
@[simp] theorem ld_5 {b o : Nat} : ldv Try.prog 5 (.pointer (some ⟨b, o, none⟩)) w = ldC (hp w b) o := ldv_blk ag_5
theorem ag_9 : (Try.prog.underlying 9).map isAggD = some false := by kernel_rfl
@[simp] theorem ld_9 {b o : Nat} : ldv Try.prog 9 (.pointer (some ⟨b, o, none⟩)) w = ldC (hp w b) o := ldv_blk ag_9
theorem ag_22 : (Try.prog.underlying 22).map isAggD = some false := by kernel_rfl
@[simp] theorem ld_22 {b o : Nat} : ldv Try.prog 22 (.pointer (some ⟨b, o, none⟩)) w = ldC (hp w b) o := ldv_blk ag_22
theorem sz_23 : (Try.prog.info? 23).map (·.size) = some 1 := by kernel_rfl
theorem ag_23 : (Try.prog.underlying 23).map isAggD = some false := by kernel_rfl
@[simp] theorem ld_23 {b o : Nat} : ldv Try.prog 23 (.pointer (some ⟨b, o, none⟩)) w = ldC (hp w b) o := ldv_blk ag_23
theorem ag_27 : (Try.prog.underlying 27).map isAggD = some false := by kernel_rfl
@[simp] theorem ld_27 {b o : Nat} : ldv Try.prog 27 (.pointer (some ⟨b, o, none⟩)) w = ldC (hp w b) o := ldv_blk ag_27
theorem sz_28 : (Try.prog.info? 28).map (·.size) = some 1 := by kernel_rfl
theorem ag_28 : (Try.prog.underlying 28).map isAggD = some false := by kernel_rfl
@[simp] theorem ld_28 {b o : Nat} : ldv Try.prog 28 (.pointer (some ⟨b, o, none⟩)) w = ldC (hp w b) o := ldv_blk ag_28
theorem sz_29 : (Try.prog.info? 29).map (·.size) = some 1 := by kernel_rfl
theorem ag_29 : (Try.prog.underlying 29).map isAggD = some false := by kernel_rfl
@[simp] theorem ld_29 {b o : Nat} : ldv Try.prog 29 (.pointer (some ⟨b, o, none⟩)) w = ldC (hp w b) o := ldv_blk ag_29
theorem sz_38 : (Try.prog.info? 38).map (·.size) = some 1 := by kernel_rfl
theorem ag_38 : (Try.prog.underlying 38).map isAggD = some false := by kernel_rfl
@[simp] theorem ld_38 {b o : Nat} : ldv Try.prog 38 (.pointer (some ⟨b, o, none⟩)) w = ldC (hp w b) o := ldv_blk ag_38
theorem sz_40 : (Try.prog.info? 40).map (·.size) = some 6 := by kernel_rfl
theorem ag_40 : (Try.prog.underlying 40).map isAggD = some true := by kernel_rfl
theorem ld_40 {b o : Nat} : ldv Try.prog 40 (.pointer (some ⟨b, o, none⟩)) w = (ldL (hp w b) o 6).map fun l => .agg l.toArray := ldv_L ag_40 sz_40
theorem sz_51 : (Try.prog.info? 51).map (·.size) = some 5 := by kernel_rfl
theorem ag_51 : (Try.prog.underlying 51).map isAggD = some true := by kernel_rfl
theorem ld_51 {b o : Nat} : ldv Try.prog 51 (.pointer (some ⟨b, o, none⟩)) w = (ldL (hp w b) o 5).map fun l => .agg l.toArray := ldv_L ag_51 sz_51
theorem sz_53 : (Try.prog.info? 53).map (·.size) = some 8 := by kernel_rfl
theorem ag_53 : (Try.prog.underlying 53).map isAggD = some true := by kernel_rfl
theorem ag_54 : (Try.prog.underlying 54).map isAggD = some false := by kernel_rfl
@[simp] theorem ld_54 {b o : Nat} : ldv Try.prog 54 (.pointer (some ⟨b, o, none⟩)) w = ldC (hp w b) o := ldv_blk ag_54
theorem sz_74 : (Try.prog.info? 74).map (·.size) = some 6 := by kernel_rfl
theorem ag_74 : (Try.prog.underlying 74).map isAggD = some true := by kernel_rfl
theorem ag_75 : (Try.prog.underlying 75).map isAggD = some false := by kernel_rfl
@[simp] theorem ld_75 {b o : Nat} : ldv Try.prog 75 (.pointer (some ⟨b, o, none⟩)) w = ldC (hp w b) o := ldv_blk ag_75
theorem ag_89 : (Try.prog.underlying 89).map isAggD = some false := by kernel_rfl
@[simp] theorem ld_89 {b o : Nat} : ldv Try.prog 89 (.pointer (some ⟨b, o, none⟩)) w = ldC (hp w b) o := ldv_blk ag_89
theorem sz_90 : (Try.prog.info? 90).map (·.size) = some 1 := by kernel_rfl
theorem ag_90 : (Try.prog.underlying 90).map isAggD = some false := by kernel_rfl
@[simp] theorem ld_90 {b o : Nat} : ldv Try.prog 90 (.pointer (some ⟨b, o, none⟩)) w = ldC (hp w b) o := ldv_blk ag_90
theorem ag_128 : (Try.prog.underlying 128).map isAggD = some false := by kernel_rfl
@[simp] theorem ld_128 {b o : Nat} : ldv Try.prog 128 (.pointer (some ⟨b, o, none⟩)) w = ldC (hp w b) o := ldv_blk ag_128
theorem ag_129 : (Try.prog.underlying 129).map isAggD = some false := by kernel_rfl
@[simp] theorem ld_129 {b o : Nat} : ldv Try.prog 129 (.pointer (some ⟨b, o, none⟩)) w = ldC (hp w b) o := ldv_blk ag_129
theorem sz_130 : (Try.prog.info? 130).map (·.size) = some 1 := by kernel_rfl
theorem ag_130 : (Try.prog.underlying 130).map isAggD = some false := by kernel_rfl
@[simp] theorem ld_130 {b o : Nat} : ldv Try.prog 130 (.pointer (some ⟨b, o, none⟩)) w = ldC (hp w b) o := ldv_blk ag_130
theorem sz_135 : (Try.prog.info? 135).map (·.size) = some 1 := by kernel_rfl
theorem ag_135 : (Try.prog.underlying 135).map isAggD = some false := by kernel_rfl
@[simp] theorem ld_135 {b o : Nat} : ldv Try.prog 135 (.pointer (some ⟨b, o, none⟩)) w = ldC (hp w b) o := ldv_blk ag_135
theorem sz_141 : (Try.prog.info? 141).map (·.size) = some 2 := by kernel_rfl
theorem ag_141 : (Try.prog.underlying 141).map isAggD = some true := by kernel_rfl
theorem ld_141 {b o : Nat} : ldv Try.prog 141 (.pointer (some ⟨b, o, none⟩)) w = (ldL (hp w b) o 2).map fun l => .agg l.toArray := ldv_L ag_141 sz_141
theorem sz_142 : (Try.prog.info? 142).map (·.size) = some 1 := by kernel_rfl
theorem ag_142 : (Try.prog.underlying 142).map isAggD = some false := by kernel_rfl
@[simp] theorem ld_142 {b o : Nat} : ldv Try.prog 142 (.pointer (some ⟨b, o, none⟩)) w = ldC (hp w b) o := ldv_blk ag_142
theorem sz_144 : (Try.prog.info? 144).map (·.size) = some 7 := by kernel_rfl
theorem ag_144 : (Try.prog.underlying 144).map isAggD = some true := by kernel_rfl
theorem ld_144 {b o : Nat} : ldv Try.prog 144 (.pointer (some ⟨b, o, none⟩)) w = (ldL (hp w b) o 7).map fun l => .agg l.toArray := ldv_L ag_144 sz_144
theorem sz_150 : (Try.prog.info? 150).map (·.size) = some 2 := by kernel_rfl
theorem ag_150 : (Try.prog.underlying 150).map isAggD = some true := by kernel_rfl
theorem ld_150 {b o : Nat} : ldv Try.prog 150 (.pointer (some ⟨b, o, none⟩)) w = (ldL (hp w b) o 2).map fun l => .agg l.toArray := ldv_L ag_150 sz_150
theorem ag_151 : (Try.prog.underlying 151).map isAggD = some false := by kernel_rfl
@[simp] theorem ld_151 {b o : Nat} : ldv Try.prog 151 (.pointer (some ⟨b, o, none⟩)) w = ldC (hp w b) o := ldv_blk ag_151
theorem ag_152 : (Try.prog.underlying 152).map isAggD = some false := by kernel_rfl
@[simp] theorem ld_152 {b o : Nat} : ldv Try.prog 152 (.pointer (some ⟨b, o, none⟩)) w = ldC (hp w b) o := ldv_blk ag_152
theorem ag_159 : (Try.prog.underlying 159).map isAggD = some false := by kernel_rfl
@[simp] theorem ld_159 {b o : Nat} : ldv Try.prog 159 (.pointer (some ⟨b, o, none⟩)) w = ldC (hp w b) o := ldv_blk ag_159
theorem sz_170 : (Try.prog.info? 170).map (·.size) = some 5 := by kernel_rfl
theorem ag_170 : (Try.prog.underlying 170).map isAggD = some true := by kernel_rfl
theorem ld_170 {b o : Nat} : ldv Try.prog 170 (.pointer (some ⟨b, o, none⟩)) w = (ldL (hp w b) o 5).map fun l => .agg l.toArray := ldv_L ag_170 sz_170
theorem ag_177 : (Try.prog.underlying 177).map isAggD = some false := by kernel_rfl
@[simp] theorem ld_177 {b o : Nat} : ldv Try.prog 177 (.pointer (some ⟨b, o, none⟩)) w = ldC (hp w b) o := ldv_blk ag_177
theorem st_3 {b o : Nat} {v : Value} (hv : v.cells = #[v]) (h1 : v.oneCell' = true) (h : okC (hp w b) (o + 1) = true) : effu Try.prog (Instr.storeAt 3 (.pointer (some ⟨b, o, none⟩)) v) w L = L (put w b ((getC (hp w b)).setIfInBounds o v) (getE (hp w b))) := effu_store1 sz_3 hv h1 h
theorem st_4 {b o : Nat} {v : Value} (hv : v.cells = #[v]) (h1 : v.oneCell' = true) (h : okC (hp w b) (o + 1) = true) : effu Try.prog (Instr.storeAt 4 (.pointer (some ⟨b, o, none⟩)) v) w L = L (put w b ((getC (hp w b)).setIfInBounds o v) (getE (hp w b))) := effu_store1 sz_4 hv h1 h
theorem st_23 {b o : Nat} {v : Value} (hv : v.cells = #[v]) (h1 : v.oneCell' = true) (h : okC (hp w b) (o + 1) = true) : effu Try.prog (Instr.storeAt 23 (.pointer (some ⟨b, o, none⟩)) v) w L = L (put w b ((getC (hp w b)).setIfInBounds o v) (getE (hp w b))) := effu_store1 sz_23 hv h1 h
theorem st_28 {b o : Nat} {v : Value} (hv : v.cells = #[v]) (h1 : v.oneCell' = true) (h : okC (hp w b) (o + 1) = true) : effu Try.prog (Instr.storeAt 28 (.pointer (some ⟨b, o, none⟩)) v) w L = L (put w b ((getC (hp w b)).setIfInBounds o v) (getE (hp w b))) := effu_store1 sz_28 hv h1 h
theorem st_29 {b o : Nat} {v : Value} (hv : v.cells = #[v]) (h1 : v.oneCell' = true) (h : okC (hp w b) (o + 1) = true) : effu Try.prog (Instr.storeAt 29 (.pointer (some ⟨b, o, none⟩)) v) w L = L (put w b ((getC (hp w b)).setIfInBounds o v) (getE (hp w b))) := effu_store1 sz_29 hv h1 h
theorem st_38 {b o : Nat} {v : Value} (hv : v.cells = #[v]) (h1 : v.oneCell' = true) (h : okC (hp w b) (o + 1) = true) : effu Try.prog (Instr.storeAt 38 (.pointer (some ⟨b, o, none⟩)) v) w L = L (put w b ((getC (hp w b)).setIfInBounds o v) (getE (hp w b))) := effu_store1 sz_38 hv h1 h
theorem st_40 {b : Nat} {c : Array Value} (hc : c.size = 6) (h1 : c.toList.all (·.oneCell') = true) (h : okC (hp w b) 6 = true) (hs : (getC (hp w b)).size = 6) : effu Try.prog (Instr.storeAt 40 (.pointer (some ⟨b, 0, none⟩)) (.agg c)) w L = L (put w b c (getE (hp w b))) := effu_storeW sz_40 hc h1 (by decide) h hs
theorem st_51 {b : Nat} {c : Array Value} (hc : c.size = 5) (h1 : c.toList.all (·.oneCell') = true) (h : okC (hp w b) 5 = true) (hs : (getC (hp w b)).size = 5) : effu Try.prog (Instr.storeAt 51 (.pointer (some ⟨b, 0, none⟩)) (.agg c)) w L = L (put w b c (getE (hp w b))) := effu_storeW sz_51 hc h1 (by decide) h hs
theorem st_53 {b : Nat} {c : Array Value} (hc : c.size = 8) (h1 : c.toList.all (·.oneCell') = true) (h : okC (hp w b) 8 = true) (hs : (getC (hp w b)).size = 8) : effu Try.prog (Instr.storeAt 53 (.pointer (some ⟨b, 0, none⟩)) (.agg c)) w L = L (put w b c (getE (hp w b))) := effu_storeW sz_53 hc h1 (by decide) h hs
theorem st_74 {b : Nat} {c : Array Value} (hc : c.size = 6) (h1 : c.toList.all (·.oneCell') = true) (h : okC (hp w b) 6 = true) (hs : (getC (hp w b)).size = 6) : effu Try.prog (Instr.storeAt 74 (.pointer (some ⟨b, 0, none⟩)) (.agg c)) w L = L (put w b c (getE (hp w b))) := effu_storeW sz_74 hc h1 (by decide) h hs
theorem st_90 {b o : Nat} {v : Value} (hv : v.cells = #[v]) (h1 : v.oneCell' = true) (h : okC (hp w b) (o + 1) = true) : effu Try.prog (Instr.storeAt 90 (.pointer (some ⟨b, o, none⟩)) v) w L = L (put w b ((getC (hp w b)).setIfInBounds o v) (getE (hp w b))) := effu_store1 sz_90 hv h1 h
theorem st_130 {b o : Nat} {v : Value} (hv : v.cells = #[v]) (h1 : v.oneCell' = true) (h : okC (hp w b) (o + 1) = true) : effu Try.prog (Instr.storeAt 130 (.pointer (some ⟨b, o, none⟩)) v) w L = L (put w b ((getC (hp w b)).setIfInBounds o v) (getE (hp w b))) := effu_store1 sz_130 hv h1 h
theorem st_135 {b o : Nat} {v : Value} (hv : v.cells = #[v]) (h1 : v.oneCell' = true) (h : okC (hp w b) (o + 1) = true) : effu Try.prog (Instr.storeAt 135 (.pointer (some ⟨b, o, none⟩)) v) w L = L (put w b ((getC (hp w b)).setIfInBounds o v) (getE (hp w b))) := effu_store1 sz_135 hv h1 h
theorem st_141 {b : Nat} {c : Array Value} (hc : c.size = 2) (h1 : c.toList.all (·.oneCell') = true) (h : okC (hp w b) 2 = true) (hs : (getC (hp w b)).size = 2) : effu Try.prog (Instr.storeAt 141 (.pointer (some ⟨b, 0, none⟩)) (.agg c)) w L = L (put w b c (getE (hp w b))) := effu_storeW sz_141 hc h1 (by decide) h hs
theorem st_142 {b o : Nat} {v : Value} (hv : v.cells = #[v]) (h1 : v.oneCell' = true) (h : okC (hp w b) (o + 1) = true) : effu Try.prog (Instr.storeAt 142 (.pointer (some ⟨b, o, none⟩)) v) w L = L (put w b ((getC (hp w b)).setIfInBounds o v) (getE (hp w b))) := effu_store1 sz_142 hv h1 h
theorem st_144 {b : Nat} {c : Array Value} (hc : c.size = 7) (h1 : c.toList.all (·.oneCell') = true) (h : okC (hp w b) 7 = true) (hs : (getC (hp w b)).size = 7) : effu Try.prog (Instr.storeAt 144 (.pointer (some ⟨b, 0, none⟩)) (.agg c)) w L = L (put w b c (getE (hp w b))) := effu_storeW sz_144 hc h1 (by decide) h hs
theorem st_150 {b : Nat} {c : Array Value} (hc : c.size = 2) (h1 : c.toList.all (·.oneCell') = true) (h : okC (hp w b) 2 = true) (hs : (getC (hp w b)).size = 2) : effu Try.prog (Instr.storeAt 150 (.pointer (some ⟨b, 0, none⟩)) (.agg c)) w L = L (put w b c (getE (hp w b))) := effu_storeW sz_150 hc h1 (by decide) h hs
theorem st_170 {b : Nat} {c : Array Value} (hc : c.size = 5) (h1 : c.toList.all (·.oneCell') = true) (h : okC (hp w b) 5 = true) (hs : (getC (hp w b)).size = 5) : effu Try.prog (Instr.storeAt 170 (.pointer (some ⟨b, 0, none⟩)) (.agg c)) w L = L (put w b c (getE (hp w b))) := effu_storeW sz_170 hc h1 (by decide) h hs
@[simp] theorem al_25 {x : Value} : effv Try.prog (Instr.alloc 25 true x) w K = K (.pointer (some ⟨w.heap.size, 0, none⟩)) (w.alloc (.cells #[Go.Value.slice none 0 0, Go.Value.slice none 0 0] 25)) := effv_alloc (z := (Go.Value.agg #[Go.Value.slice none 0 0, Go.Value.slice none 0 0])) (by kernel_rfl)
@[simp] theorem al_40 {x : Value} : effv Try.prog (Instr.alloc 40 true x) w K = K (.pointer (some ⟨w.heap.size, 0, none⟩)) (w.alloc (.cells #[Go.Value.int Go.IntKind.i64 0, Go.Value.int Go.IntKind.i64 0, Go.Value.int Go.IntKind.i64 0, Go.Value.int Go.IntKind.i64 0, Go.Value.int Go.IntKind.u64 0, Go.Value.int Go.IntKind.u64 0] 40)) := effv_alloc (z := (Go.Value.agg #[Go.Value.int Go.IntKind.i64 0, Go.Value.int Go.IntKind.i64 0, Go.Value.int Go.IntKind.i64 0, Go.Value.int Go.IntKind.i64 0, Go.Value.int Go.IntKind.u64 0, Go.Value.int Go.IntKind.u64 0])) (by kernel_rfl)
@[simp] theorem al_45 {x : Value} : effv Try.prog (Instr.alloc 45 true x) w K = K (.pointer (some ⟨w.heap.size, 0, none⟩)) (w.alloc (.cells #[Go.Value.int Go.IntKind.i64 0, Go.Value.int Go.IntKind.i64 0, Go.Value.int Go.IntKind.i64 0] 45)) := effv_alloc (z := (Go.Value.agg #[Go.Value.int Go.IntKind.i64 0, Go.Value.int Go.IntKind.i64 0, Go.Value.int Go.IntKind.i64 0])) (by kernel_rfl)
@[simp] theorem al_51 {x : Value} : effv Try.prog (Instr.alloc 51 true x) w K = K (.pointer (some ⟨w.heap.size, 0, none⟩)) (w.alloc (.cells #[Go.Value.int Go.IntKind.i64 0, Go.Value.int Go.IntKind.i64 0, Go.Value.int Go.IntKind.i64 0, Go.Value.int Go.IntKind.i64 0, Go.Value.int Go.IntKind.i64 0] 51)) := effv_alloc (z := (Go.Value.agg #[Go.Value.int Go.IntKind.i64 0, Go.Value.int Go.IntKind.i64 0, Go.Value.int Go.IntKind.i64 0, Go.Value.int Go.IntKind.i64 0, Go.Value.int Go.IntKind.i64 0])) (by kernel_rfl)
@[simp] theorem al_53 {x : Value} : effv Try.prog (Instr.alloc 53 true x) w K = K (.pointer (some ⟨w.heap.size, 0, none⟩)) (w.alloc (.cells #[Go.Value.int Go.IntKind.i64 0, Go.Value.int Go.IntKind.i64 0, Go.Value.int Go.IntKind.i64 0, Go.Value.int Go.IntKind.i64 0, Go.Value.int Go.IntKind.i64 0, Go.Value.int Go.IntKind.i64 0, Go.Value.int Go.IntKind.i64 0, Go.Value.int Go.IntKind.u64 0] 53)) := effv_alloc (z := (Go.Value.agg #[Go.Value.int Go.IntKind.i64 0, Go.Value.int Go.IntKind.i64 0, Go.Value.int Go.IntKind.i64 0, Go.Value.int Go.IntKind.i64 0, Go.Value.int Go.IntKind.i64 0, Go.Value.int Go.IntKind.i64 0, Go.Value.int Go.IntKind.i64 0, Go.Value.int Go.IntKind.u64 0])) (by kernel_rfl)
@[simp] theorem al_58 {x : Value} : effv Try.prog (Instr.alloc 58 true x) w K = K (.pointer (some ⟨w.heap.size, 0, none⟩)) (w.alloc (.cells #[Go.Value.int Go.IntKind.i64 0, Go.Value.int Go.IntKind.i64 0, Go.Value.int Go.IntKind.i64 0, Go.Value.int Go.IntKind.i64 0, Go.Value.int Go.IntKind.i64 0, Go.Value.int Go.IntKind.i64 0, Go.Value.int Go.IntKind.u64 0, Go.Value.int Go.IntKind.u64 0, Go.Value.int Go.IntKind.i64 0, Go.Value.int Go.IntKind.i64 0, Go.Value.int Go.IntKind.i64 0, Go.Value.int Go.IntKind.i64 0, Go.Value.int Go.IntKind.i64 0, Go.Value.int Go.IntKind.i64 0, Go.Value.int Go.IntKind.i64 0, Go.Value.int Go.IntKind.i64 0, Go.Value.int Go.IntKind.i64 0, Go.Value.int Go.IntKind.i64 0, Go.Value.int Go.IntKind.i64 0, Go.Value.int Go.IntKind.u64 0] 58)) := effv_alloc (z := (Go.Value.agg #[Go.Value.int Go.IntKind.i64 0, Go.Value.int Go.IntKind.i64 0, Go.Value.int Go.IntKind.i64 0, Go.Value.int Go.IntKind.i64 0, Go.Value.int Go.IntKind.i64 0, Go.Value.int Go.IntKind.i64 0, Go.Value.int Go.IntKind.u64 0, Go.Value.int Go.IntKind.u64 0, Go.Value.int Go.IntKind.i64 0, Go.Value.int Go.IntKind.i64 0, Go.Value.int Go.IntKind.i64 0, Go.Value.int Go.IntKind.i64 0, Go.Value.int Go.IntKind.i64 0, Go.Value.int Go.IntKind.i64 0, Go.Value.int Go.IntKind.i64 0, Go.Value.int Go.IntKind.i64 0, Go.Value.int Go.IntKind.i64 0, Go.Value.int Go.IntKind.i64 0, Go.Value.int Go.IntKind.i64 0, Go.Value.int Go.IntKind.u64 0])) (by kernel_rfl)
@[simp] theorem al_65 {x : Value} : effv Try.prog (Instr.alloc 65 true x) w K = K (.pointer (some ⟨w.heap.size, 0, none⟩)) (w.alloc (.cells #[Go.Value.int Go.IntKind.i64 0, Go.Value.int Go.IntKind.i64 0, Go.Value.int Go.IntKind.i64 0, Go.Value.int Go.IntKind.i64 0, Go.Value.int Go.IntKind.i64 0, Go.Value.int Go.IntKind.i64 0, Go.Value.int Go.IntKind.i64 0, Go.Value.int Go.IntKind.i64 0, Go.Value.int Go.IntKind.i64 0, Go.Value.int Go.IntKind.u64 0, Go.Value.int Go.IntKind.u64 0, Go.Value.int Go.IntKind.i64 0, Go.Value.int Go.IntKind.i64 0, Go.Value.int Go.IntKind.i64 0, Go.Value.int Go.IntKind.i64 0, Go.Value.int Go.IntKind.i64 0, Go.Value.int Go.IntKind.i64 0, Go.Value.int Go.IntKind.i64 0, Go.Value.int Go.IntKind.u64 0] 65)) := effv_alloc (z := (Go.Value.agg #[Go.Value.int Go.IntKind.i64 0, Go.Value.int Go.IntKind.i64 0, Go.Value.int Go.IntKind.i64 0, Go.Value.int Go.IntKind.i64 0, Go.Value.int Go.IntKind.i64 0, Go.Value.int Go.IntKind.i64 0, Go.Value.int Go.IntKind.i64 0, Go.Value.int Go.IntKind.i64 0, Go.Value.int Go.IntKind.i64 0, Go.Value.int Go.IntKind.u64 0, Go.Value.int Go.IntKind.u64 0, Go.Value.int Go.IntKind.i64 0, Go.Value.int Go.IntKind.i64 0, Go.Value.int Go.IntKind.i64 0, Go.Value.int Go.IntKind.i64 0, Go.Value.int Go.IntKind.i64 0, Go.Value.int Go.IntKind.i64 0, Go.Value.int Go.IntKind.i64 0, Go.Value.int Go.IntKind.u64 0])) (by kernel_rfl)
@[simp] theorem al_74 {x : Value} : effv Try.prog (Instr.alloc 74 true x) w K = K (.pointer (some ⟨w.heap.size, 0, none⟩)) (w.alloc (.cells #[Go.Value.int Go.IntKind.i64 0, Go.Value.int Go.IntKind.i64 0, Go.Value.int Go.IntKind.i64 0, Go.Value.int Go.IntKind.i64 0, Go.Value.int Go.IntKind.i64 0, Go.Value.int Go.IntKind.i64 0] 74)) := effv_alloc (z := (Go.Value.agg #[Go.Value.int Go.IntKind.i64 0, Go.Value.int Go.IntKind.i64 0, Go.Value.int Go.IntKind.i64 0, Go.Value.int Go.IntKind.i64 0, Go.Value.int Go.IntKind.i64 0, Go.Value.int Go.IntKind.i64 0])) (by kernel_rfl)
@[simp] theorem al_79 {x : Value} : effv Try.prog (Instr.alloc 79 true x) w K = K (.pointer (some ⟨w.heap.size, 0, none⟩)) (w.alloc (.cells #[Go.Value.int Go.IntKind.u64 0, Go.Value.int Go.IntKind.u64 0, Go.Value.int Go.IntKind.u64 0, Go.Value.int Go.IntKind.u64 0, Go.Value.int Go.IntKind.u64 0, Go.Value.int Go.IntKind.u64 0, Go.Value.int Go.IntKind.u64 0, Go.Value.int Go.IntKind.u64 0, Go.Value.int Go.IntKind.u64 0, Go.Value.int Go.IntKind.u64 0, Go.Value.int Go.IntKind.u64 0, Go.Value.int Go.IntKind.u64 0, Go.Value.int Go.IntKind.u64 0, Go.Value.int Go.IntKind.u64 0, Go.Value.int Go.IntKind.u64 0, Go.Value.int Go.IntKind.u64 0] 79)) := effv_alloc (z := (Go.Value.agg #[Go.Value.int Go.IntKind.u64 0, Go.Value.int Go.IntKind.u64 0, Go.Value.int Go.IntKind.u64 0, Go.Value.int Go.IntKind.u64 0, Go.Value.int Go.IntKind.u64 0, Go.Value.int Go.IntKind.u64 0, Go.Value.int Go.IntKind.u64 0, Go.Value.int Go.IntKind.u64 0, Go.Value.int Go.IntKind.u64 0, Go.Value.int Go.IntKind.u64 0, Go.Value.int Go.IntKind.u64 0, Go.Value.int Go.IntKind.u64 0, Go.Value.int Go.IntKind.u64 0, Go.Value.int Go.IntKind.u64 0, Go.Value.int Go.IntKind.u64 0, Go.Value.int Go.IntKind.u64 0])) (by kernel_rfl)
@[simp] theorem al_93 {x : Value} : effv Try.prog (Instr.alloc 93 true x) w K = K (.pointer (some ⟨w.heap.size, 0, none⟩)) (w.alloc (.cells #[Go.Value.int Go.IntKind.i64 0, Go.Value.int Go.IntKind.i64 0, Go.Value.int Go.IntKind.i64 0, Go.Value.int Go.IntKind.i64 0] 93)) := effv_alloc (z := (Go.Value.agg #[Go.Value.int Go.IntKind.i64 0, Go.Value.int Go.IntKind.i64 0, Go.Value.int Go.IntKind.i64 0, Go.Value.int Go.IntKind.i64 0])) (by kernel_rfl)
@[simp] theorem al_141 {x : Value} : effv Try.prog (Instr.alloc 141 true x) w K = K (.pointer (some ⟨w.heap.size, 0, none⟩)) (w.alloc (.cells #[Go.Value.int Go.IntKind.i64 0, Go.Value.int Go.IntKind.i64 0] 141)) := effv_alloc (z := (Go.Value.agg #[Go.Value.int Go.IntKind.i64 0, Go.Value.int Go.IntKind.i64 0])) (by kernel_rfl)
@[simp] theorem al_144 {x : Value} : effv Try.prog (Instr.alloc 144 true x) w K = K (.pointer (some ⟨w.heap.size, 0, none⟩)) (w.alloc (.cells #[Go.Value.int Go.IntKind.i64 0, Go.Value.int Go.IntKind.i64 0, Go.Value.int Go.IntKind.i64 0, Go.Value.int Go.IntKind.i64 0, Go.Value.slice none 0 0, Go.Value.slice none 0 0, Go.Value.slice none 0 0] 144)) := effv_alloc (z := (Go.Value.agg #[Go.Value.int Go.IntKind.i64 0, Go.Value.int Go.IntKind.i64 0, Go.Value.int Go.IntKind.i64 0, Go.Value.int Go.IntKind.i64 0, Go.Value.slice none 0 0, Go.Value.slice none 0 0, Go.Value.slice none 0 0])) (by kernel_rfl)
@[simp] theorem al_150 {x : Value} : effv Try.prog (Instr.alloc 150 true x) w K = K (.pointer (some ⟨w.heap.size, 0, none⟩)) (w.alloc (.cells #[Go.Value.int Go.IntKind.i64 0, Go.Value.int Go.IntKind.i64 0] 150)) := effv_alloc (z := (Go.Value.agg #[Go.Value.int Go.IntKind.i64 0, Go.Value.int Go.IntKind.i64 0])) (by kernel_rfl)
@[simp] theorem al_158 {x : Value} : effv Try.prog (Instr.alloc 158 true x) w K = K (.pointer (some ⟨w.heap.size, 0, none⟩)) (w.alloc (.cells #[Go.Value.int Go.IntKind.i64 0, Go.Value.int Go.IntKind.i64 0, Go.Value.int Go.IntKind.i64 0, Go.Value.int Go.IntKind.i64 0, Go.Value.bool false, Go.Value.slice none 0 0, Go.Value.slice none 0 0, Go.Value.slice none 0 0] 158)) := effv_alloc (z := (Go.Value.agg #[Go.Value.int Go.IntKind.i64 0, Go.Value.int Go.IntKind.i64 0, Go.Value.int Go.IntKind.i64 0, Go.Value.int Go.IntKind.i64 0, Go.Value.bool false, Go.Value.slice none 0 0, Go.Value.slice none 0 0, Go.Value.slice none 0 0])) (by kernel_rfl)
@[simp] theorem al_170 {x : Value} : effv Try.prog (Instr.alloc 170 true x) w K = K (.pointer (some ⟨w.heap.size, 0, none⟩)) (w.alloc (.cells #[Go.Value.string { data := #[] }, Go.Value.int Go.IntKind.i64 0, Go.Value.bool false, Go.Value.bool false, Go.Value.bool false] 170)) := effv_alloc (z := (Go.Value.agg #[Go.Value.string { data := #[] }, Go.Value.int Go.IntKind.i64 0, Go.Value.bool false, Go.Value.bool false, Go.Value.bool false])) (by kernel_rfl)
@[simp] theorem bd_25_0 {x0 : Option Addr} {y0 z0 : Nat} : pureRun Try.prog (Instr.build 25 #[(0, (.slice x0 y0 z0))]) = some (.agg #[(.slice x0 y0 z0), (Go.Value.slice none 0 0)]) := pureRun_of fun w => run_build w 25 _ _ (by kernel_rfl)
@[simp] theorem bd_40_  : pureRun Try.prog (Instr.build 40 #[]) = some (.agg #[(Go.Value.int Go.IntKind.i64 0), (Go.Value.int Go.IntKind.i64 0), (Go.Value.int Go.IntKind.i64 0), (Go.Value.int Go.IntKind.i64 0), (Go.Value.int Go.IntKind.u64 0), (Go.Value.int Go.IntKind.u64 0)]) := pureRun_of fun w => run_build w 40 _ _ (by kernel_rfl)
@[simp] theorem bd_40_0 {x0 : Int} : pureRun Try.prog (Instr.build 40 #[(0, (.int .i64 x0))]) = some (.agg #[(.int .i64 x0), (Go.Value.int Go.IntKind.i64 0), (Go.Value.int Go.IntKind.i64 0), (Go.Value.int Go.IntKind.i64 0), (Go.Value.int Go.IntKind.u64 0), (Go.Value.int Go.IntKind.u64 0)]) := pureRun_of fun w => run_build w 40 _ _ (by kernel_rfl)
@[simp] theorem bd_40_0_3_4_5 {x0 : Int} {x3 : Int} {x4 : Int} {x5 : Int} : pureRun Try.prog (Instr.build 40 #[(0, (.int .i64 x0)), (3, (.int .i64 x3)), (4, (.int .u64 x4)), (5, (.int .u64 x5))]) = some (.agg #[(.int .i64 x0), (Go.Value.int Go.IntKind.i64 0), (Go.Value.int Go.IntKind.i64 0), (.int .i64 x3), (.int .u64 x4), (.int .u64 x5)]) := pureRun_of fun w => run_build w 40 _ _ (by kernel_rfl)
@[simp] theorem bd_40_1_2 {x1 : Int} {x2 : Int} : pureRun Try.prog (Instr.build 40 #[(1, (.int .i64 x1)), (2, (.int .i64 x2))]) = some (.agg #[(Go.Value.int Go.IntKind.i64 0), (.int .i64 x1), (.int .i64 x2), (Go.Value.int Go.IntKind.i64 0), (Go.Value.int Go.IntKind.u64 0), (Go.Value.int Go.IntKind.u64 0)]) := pureRun_of fun w => run_build w 40 _ _ (by kernel_rfl)
@[simp] theorem bd_51_  : pureRun Try.prog (Instr.build 51 #[]) = some (.agg #[(Go.Value.int Go.IntKind.i64 0), (Go.Value.int Go.IntKind.i64 0), (Go.Value.int Go.IntKind.i64 0), (Go.Value.int Go.IntKind.i64 0), (Go.Value.int Go.IntKind.i64 0)]) := pureRun_of fun w => run_build w 51 _ _ (by kernel_rfl)
@[simp] theorem bd_51_0_1 {x0 : Int} {x1 : Int} : pureRun Try.prog (Instr.build 51 #[(0, (.int .i64 x0)), (1, (.int .i64 x1))]) = some (.agg #[(.int .i64 x0), (.int .i64 x1), (Go.Value.int Go.IntKind.i64 0), (Go.Value.int Go.IntKind.i64 0), (Go.Value.int Go.IntKind.i64 0)]) := pureRun_of fun w => run_build w 51 _ _ (by kernel_rfl)
@[simp] theorem bd_51_0_1_2_3_4 {x0 : Int} {x1 : Int} {x2 : Int} {x3 : Int} {x4 : Int} : pureRun Try.prog (Instr.build 51 #[(0, (.int .i64 x0)), (1, (.int .i64 x1)), (2, (.int .i64 x2)), (3, (.int .i64 x3)), (4, (.int .i64 x4))]) = some (.agg #[(.int .i64 x0), (.int .i64 x1), (.int .i64 x2), (.int .i64 x3), (.int .i64 x4)]) := pureRun_of fun w => run_build w 51 _ _ (by kernel_rfl)
@[simp] theorem bd_51_0_1_2_4 {x0 : Int} {x1 : Int} {x2 : Int} {x4 : Int} : pureRun Try.prog (Instr.build 51 #[(0, (.int .i64 x0)), (1, (.int .i64 x1)), (2, (.int .i64 x2)), (4, (.int .i64 x4))]) = some (.agg #[(.int .i64 x0), (.int .i64 x1), (.int .i64 x2), (Go.Value.int Go.IntKind.i64 0), (.int .i64 x4)]) := pureRun_of fun w => run_build w 51 _ _ (by kernel_rfl)
@[simp] theorem bd_51_0_1_4 {x0 : Int} {x1 : Int} {x4 : Int} : pureRun Try.prog (Instr.build 51 #[(0, (.int .i64 x0)), (1, (.int .i64 x1)), (4, (.int .i64 x4))]) = some (.agg #[(.int .i64 x0), (.int .i64 x1), (Go.Value.int Go.IntKind.i64 0), (Go.Value.int Go.IntKind.i64 0), (.int .i64 x4)]) := pureRun_of fun w => run_build w 51 _ _ (by kernel_rfl)
@[simp] theorem bd_51_1 {x1 : Int} : pureRun Try.prog (Instr.build 51 #[(1, (.int .i64 x1))]) = some (.agg #[(Go.Value.int Go.IntKind.i64 0), (.int .i64 x1), (Go.Value.int Go.IntKind.i64 0), (Go.Value.int Go.IntKind.i64 0), (Go.Value.int Go.IntKind.i64 0)]) := pureRun_of fun w => run_build w 51 _ _ (by kernel_rfl)
@[simp] theorem bd_51_1_4 {x1 : Int} {x4 : Int} : pureRun Try.prog (Instr.build 51 #[(1, (.int .i64 x1)), (4, (.int .i64 x4))]) = some (.agg #[(Go.Value.int Go.IntKind.i64 0), (.int .i64 x1), (Go.Value.int Go.IntKind.i64 0), (Go.Value.int Go.IntKind.i64 0), (.int .i64 x4)]) := pureRun_of fun w => run_build w 51 _ _ (by kernel_rfl)
@[simp] theorem bd_53_  : pureRun Try.prog (Instr.build 53 #[]) = some (.agg #[(Go.Value.int Go.IntKind.i64 0), (Go.Value.int Go.IntKind.i64 0), (Go.Value.int Go.IntKind.i64 0), (Go.Value.int Go.IntKind.i64 0), (Go.Value.int Go.IntKind.i64 0), (Go.Value.int Go.IntKind.i64 0), (Go.Value.int Go.IntKind.i64 0), (Go.Value.int Go.IntKind.u64 0)]) := pureRun_of fun w => run_build w 53 _ _ (by kernel_rfl)
@[simp] theorem bd_53_0 {x0 : Int} : pureRun Try.prog (Instr.build 53 #[(0, (.int .i64 x0))]) = some (.agg #[(.int .i64 x0), (Go.Value.int Go.IntKind.i64 0), (Go.Value.int Go.IntKind.i64 0), (Go.Value.int Go.IntKind.i64 0), (Go.Value.int Go.IntKind.i64 0), (Go.Value.int Go.IntKind.i64 0), (Go.Value.int Go.IntKind.i64 0), (Go.Value.int Go.IntKind.u64 0)]) := pureRun_of fun w => run_build w 53 _ _ (by kernel_rfl)
@[simp] theorem bd_53_0_2_3 {x0 : Int} {x2 : Int} {x3 : Int} : pureRun Try.prog (Instr.build 53 #[(0, (.int .i64 x0)), (2, (.int .i64 x2)), (3, (.int .u64 x3))]) = some (.agg #[(.int .i64 x0), (Go.Value.int Go.IntKind.i64 0), (Go.Value.int Go.IntKind.i64 0), (Go.Value.int Go.IntKind.i64 0), (Go.Value.int Go.IntKind.i64 0), (Go.Value.int Go.IntKind.i64 0), (.int .i64 x2), (.int .u64 x3)]) := pureRun_of fun w => run_build w 53 _ _ (by kernel_rfl)
@[simp] theorem bd_53_1 {x1_0 x1_1 x1_2 x1_3 x1_4 : Value} : pureRun Try.prog (Instr.build 53 #[(1, (.agg #[x1_0, x1_1, x1_2, x1_3, x1_4]))]) = some (.agg #[(Go.Value.int Go.IntKind.i64 0), x1_0, x1_1, x1_2, x1_3, x1_4, (Go.Value.int Go.IntKind.i64 0), (Go.Value.int Go.IntKind.u64 0)]) := pureRun_of fun w => run_build w 53 _ _ (by kernel_rfl)
@[simp] theorem bd_53_2 {x2 : Int} : pureRun Try.prog (Instr.build 53 #[(2, (.int .i64 x2))]) = some (.agg #[(Go.Value.int Go.IntKind.i64 0), (Go.Value.int Go.IntKind.i64 0), (Go.Value.int Go.IntKind.i64 0), (Go.Value.int Go.IntKind.i64 0), (Go.Value.int Go.IntKind.i64 0), (Go.Value.int Go.IntKind.i64 0), (.int .i64 x2), (Go.Value.int Go.IntKind.u64 0)]) := pureRun_of fun w => run_build w 53 _ _ (by kernel_rfl)
@[simp] theorem bd_53_3 {x3 : Int} : pureRun Try.prog (Instr.build 53 #[(3, (.int .u64 x3))]) = some (.agg #[(Go.Value.int Go.IntKind.i64 0), (Go.Value.int Go.IntKind.i64 0), (Go.Value.int Go.IntKind.i64 0), (Go.Value.int Go.IntKind.i64 0), (Go.Value.int Go.IntKind.i64 0), (Go.Value.int Go.IntKind.i64 0), (Go.Value.int Go.IntKind.i64 0), (.int .u64 x3)]) := pureRun_of fun w => run_build w 53 _ _ (by kernel_rfl)
@[simp] theorem bd_58_0_1_2_3_4_5_6 {x0 : Int} {x1 : Int} {x2_0 x2_1 x2_2 x2_3 x2_4 x2_5 : Value} {x3 : Int} {x4 : Int} {x5 : Int} {x6 : Int} : pureRun Try.prog (Instr.build 58 #[(0, (.int .i64 x0)), (1, (.int .i64 x1)), (2, (.agg #[x2_0, x2_1, x2_2, x2_3, x2_4, x2_5])), (3, (.int .i64 x3)), (4, (.int .i64 x4)), (5, (.int .i64 x5)), (6, (.int .i64 x6))]) = some (.agg #[(.int .i64 x0), (.int .i64 x1), x2_0, x2_1, x2_2, x2_3, x2_4, x2_5, (.int .i64 x3), (.int .i64 x4), (.int .i64 x5), (.int .i64 x6), (Go.Value.int Go.IntKind.i64 0), (Go.Value.int Go.IntKind.i64 0), (Go.Value.int Go.IntKind.i64 0), (Go.Value.int Go.IntKind.i64 0), (Go.Value.int Go.IntKind.i64 0), (Go.Value.int Go.IntKind.i64 0), (Go.Value.int Go.IntKind.i64 0), (Go.Value.int Go.IntKind.u64 0)]) := pureRun_of fun w => run_build w 58 _ _ (by kernel_rfl)
@[simp] theorem bd_67_0 {x0 : Int} : pureRun Try.prog (Instr.build 67 #[(0, (.int .i64 x0))]) = some (.agg #[(.int .i64 x0), (Go.Value.int Go.IntKind.i64 0), (Go.Value.slice none 0 0)]) := pureRun_of fun w => run_build w 67 _ _ (by kernel_rfl)
@[simp] theorem bd_74_0_1_2_3_4_5 {x0 : Int} {x1 : Int} {x2 : Int} {x3 : Int} {x4 : Int} {x5 : Int} : pureRun Try.prog (Instr.build 74 #[(0, (.int .i64 x0)), (1, (.int .i64 x1)), (2, (.int .i64 x2)), (3, (.int .i64 x3)), (4, (.int .i64 x4)), (5, (.int .i64 x5))]) = some (.agg #[(.int .i64 x0), (.int .i64 x1), (.int .i64 x2), (.int .i64 x3), (.int .i64 x4), (.int .i64 x5)]) := pureRun_of fun w => run_build w 74 _ _ (by kernel_rfl)
@[simp] theorem bd_74_0_1_2_3_5 {x0 : Int} {x1 : Int} {x2 : Int} {x3 : Int} {x5 : Int} : pureRun Try.prog (Instr.build 74 #[(0, (.int .i64 x0)), (1, (.int .i64 x1)), (2, (.int .i64 x2)), (3, (.int .i64 x3)), (5, (.int .i64 x5))]) = some (.agg #[(.int .i64 x0), (.int .i64 x1), (.int .i64 x2), (.int .i64 x3), (Go.Value.int Go.IntKind.i64 0), (.int .i64 x5)]) := pureRun_of fun w => run_build w 74 _ _ (by kernel_rfl)
@[simp] theorem bd_92_0_1_2 {x0_0 x0_1 x0_2 x0_3 x0_4 x0_5 : Value} {x1 : Option Addr} {x2 : Option Addr} : pureRun Try.prog (Instr.build 92 #[(0, (.agg #[x0_0, x0_1, x0_2, x0_3, x0_4, x0_5])), (1, (.pointer x1)), (2, (.pointer x2))]) = some (.agg #[x0_0, x0_1, x0_2, x0_3, x0_4, x0_5, (.pointer x1), (.pointer x2), (Go.Value.slice none 0 0)]) := pureRun_of fun w => run_build w 92 _ _ (by kernel_rfl)
@[simp] theorem bd_100_0 {x0 : Option Addr} {y0 z0 : Nat} : pureRun Try.prog (Instr.build 100 #[(0, (.slice x0 y0 z0))]) = some (.agg #[(.slice x0 y0 z0), (Go.Value.int Go.IntKind.i64 0)]) := pureRun_of fun w => run_build w 100 _ _ (by kernel_rfl)
@[simp] theorem bd_115_0 {x0 : Option Addr} {y0 z0 : Nat} : pureRun Try.prog (Instr.build 115 #[(0, (.slice x0 y0 z0))]) = some (.agg #[(.slice x0 y0 z0), (Go.Value.bool false)]) := pureRun_of fun w => run_build w 115 _ _ (by kernel_rfl)
@[simp] theorem bd_121_1 {x1 : Option Addr} {y1 z1 : Nat} : pureRun Try.prog (Instr.build 121 #[(1, (.slice x1 y1 z1))]) = some (.agg #[(Go.Value.slice none 0 0), (.slice x1 y1 z1), (Go.Value.int Go.IntKind.i64 0)]) := pureRun_of fun w => run_build w 121 _ _ (by kernel_rfl)
@[simp] theorem bd_132_0_2_4 {x0_0 x0_1 x0_2 x0_3 x0_4 x0_5 : Value} {x2 : Option Addr} {y2 z2 : Nat} {x4 : Option Addr} {y4 z4 : Nat} : pureRun Try.prog (Instr.build 132 #[(0, (.agg #[x0_0, x0_1, x0_2, x0_3, x0_4, x0_5])), (2, (.slice x2 y2 z2)), (4, (.slice x4 y4 z4))]) = some (.agg #[x0_0, x0_1, x0_2, x0_3, x0_4, x0_5, (Go.Value.bool false), (.slice x2 y2 z2), (Go.Value.slice none 0 0), (.slice x4 y4 z4)]) := pureRun_of fun w => run_build w 132 _ _ (by kernel_rfl)
@[simp] theorem bd_141_0_1 {x0 : Int} {x1 : Int} : pureRun Try.prog (Instr.build 141 #[(0, (.int .i64 x0)), (1, (.int .i64 x1))]) = some (.agg #[(.int .i64 x0), (.int .i64 x1)]) := pureRun_of fun w => run_build w 141 _ _ (by kernel_rfl)
@[simp] theorem bd_144_0_1 {x0_0 x0_1 : Value} {x1 : Int} : pureRun Try.prog (Instr.build 144 #[(0, (.agg #[x0_0, x0_1])), (1, (.int .i64 x1))]) = some (.agg #[x0_0, x0_1, (.int .i64 x1), (Go.Value.int Go.IntKind.i64 0), (Go.Value.slice none 0 0), (Go.Value.slice none 0 0), (Go.Value.slice none 0 0)]) := pureRun_of fun w => run_build w 144 _ _ (by kernel_rfl)
@[simp] theorem bd_150_0_1 {x0 : Int} {x1 : Int} : pureRun Try.prog (Instr.build 150 #[(0, (.int .i64 x0)), (1, (.int .i64 x1))]) = some (.agg #[(.int .i64 x0), (.int .i64 x1)]) := pureRun_of fun w => run_build w 150 _ _ (by kernel_rfl)
@[simp] theorem bd_154_0_1_2_3_5_6 {x0_0 x0_1 x0_2 x0_3 x0_4 x0_5 : Value} {x1 : Bool} {x2 : Option Addr} {y2 z2 : Nat} {x3 : Option Addr} {y3 z3 : Nat} {x5 : Option Addr} {y5 z5 : Nat} {x6 : Option Addr} {y6 z6 : Nat} : pureRun Try.prog (Instr.build 154 #[(0, (.agg #[x0_0, x0_1, x0_2, x0_3, x0_4, x0_5])), (1, (.bool x1)), (2, (.slice x2 y2 z2)), (3, (.slice x3 y3 z3)), (5, (.slice x5 y5 z5)), (6, (.slice x6 y6 z6))]) = some (.agg #[x0_0, x0_1, x0_2, x0_3, x0_4, x0_5, (.bool x1), (.slice x2 y2 z2), (.slice x3 y3 z3), (Go.Value.slice none 0 0), (.slice x5 y5 z5), (.slice x6 y6 z6)]) := pureRun_of fun w => run_build w 154 _ _ (by kernel_rfl)
@[simp] theorem bd_158_0_1_2_4 {x0 : Int} {x1 : Int} {x2 : Int} {x4 : Bool} : pureRun Try.prog (Instr.build 158 #[(0, (.int .i64 x0)), (1, (.int .i64 x1)), (2, (.int .i64 x2)), (4, (.bool x4))]) = some (.agg #[(.int .i64 x0), (.int .i64 x1), (.int .i64 x2), (Go.Value.int Go.IntKind.i64 0), (.bool x4), (Go.Value.slice none 0 0), (Go.Value.slice none 0 0), (Go.Value.slice none 0 0)]) := pureRun_of fun w => run_build w 158 _ _ (by kernel_rfl)
@[simp] theorem bd_170_  : pureRun Try.prog (Instr.build 170 #[]) = some (.agg #[(Go.Value.string { data := #[] }), (Go.Value.int Go.IntKind.i64 0), (Go.Value.bool false), (Go.Value.bool false), (Go.Value.bool false)]) := pureRun_of fun w => run_build w 170 _ _ (by kernel_rfl)
@[simp] theorem bd_170_0 {x0 : ByteArray} : pureRun Try.prog (Instr.build 170 #[(0, (.string x0))]) = some (.agg #[(.string x0), (Go.Value.int Go.IntKind.i64 0), (Go.Value.bool false), (Go.Value.bool false), (Go.Value.bool false)]) := pureRun_of fun w => run_build w 170 _ _ (by kernel_rfl)
@[simp] theorem bd_170_0_1 {x0 : ByteArray} {x1 : Int} : pureRun Try.prog (Instr.build 170 #[(0, (.string x0)), (1, (.int .i64 x1))]) = some (.agg #[(.string x0), (.int .i64 x1), (Go.Value.bool false), (Go.Value.bool false), (Go.Value.bool false)]) := pureRun_of fun w => run_build w 170 _ _ (by kernel_rfl)
@[simp] theorem bd_170_0_1_2 {x0 : ByteArray} {x1 : Int} {x2 : Bool} : pureRun Try.prog (Instr.build 170 #[(0, (.string x0)), (1, (.int .i64 x1)), (2, (.bool x2))]) = some (.agg #[(.string x0), (.int .i64 x1), (.bool x2), (Go.Value.bool false), (Go.Value.bool false)]) := pureRun_of fun w => run_build w 170 _ _ (by kernel_rfl)
@[simp] theorem bd_170_0_1_2_3 {x0 : ByteArray} {x1 : Int} {x2 : Bool} {x3 : Bool} : pureRun Try.prog (Instr.build 170 #[(0, (.string x0)), (1, (.int .i64 x1)), (2, (.bool x2)), (3, (.bool x3))]) = some (.agg #[(.string x0), (.int .i64 x1), (.bool x2), (.bool x3), (Go.Value.bool false)]) := pureRun_of fun w => run_build w 170 _ _ (by kernel_rfl)
@[simp] theorem bd_170_0_1_2_3_4 {x0 : ByteArray} {x1 : Int} {x2 : Bool} {x3 : Bool} {x4 : Bool} : pureRun Try.prog (Instr.build 170 #[(0, (.string x0)), (1, (.int .i64 x1)), (2, (.bool x2)), (3, (.bool x3)), (4, (.bool x4))]) = some (.agg #[(.string x0), (.int .i64 x1), (.bool x2), (.bool x3), (.bool x4)]) := pureRun_of fun w => run_build w 170 _ _ (by kernel_rfl)
@[simp] theorem bd_170_0_2 {x0 : ByteArray} {x2 : Bool} : pureRun Try.prog (Instr.build 170 #[(0, (.string x0)), (2, (.bool x2))]) = some (.agg #[(.string x0), (Go.Value.int Go.IntKind.i64 0), (.bool x2), (Go.Value.bool false), (Go.Value.bool false)]) := pureRun_of fun w => run_build w 170 _ _ (by kernel_rfl)
@[simp] theorem bd_187_0_1 {x0 : Int} {x1 : Int} : pureRun Try.prog (Instr.build 187 #[(0, (.int .i64 x0)), (1, (.int .i64 x1))]) = some (.agg #[(.int .i64 x0), (.int .i64 x1)]) := pureRun_of fun w => run_build w 187 _ _ (by kernel_rfl)
theorem inf_3 : ∃ i, Try.prog.info? 3 = some i ∧ i.zero = some (Go.Value.int Go.IntKind.i64 0) ∧ i.size = 1 ∧ i.bytes = 8 := ⟨Try.t3, by kernel_rfl, rfl, rfl, rfl⟩
theorem inf_40 : ∃ i, Try.prog.info? 40 = some i ∧ i.zero = some (Go.Value.agg #[Go.Value.int Go.IntKind.i64 0, Go.Value.int Go.IntKind.i64 0, Go.Value.int Go.IntKind.i64 0, Go.Value.int Go.IntKind.i64 0, Go.Value.int Go.IntKind.u64 0, Go.Value.int Go.IntKind.u64 0]) ∧ i.size = 6 ∧ i.bytes = 48 := ⟨Try.t40, by kernel_rfl, rfl, rfl, rfl⟩
theorem inf_5 : ∃ i, Try.prog.info? 5 = some i ∧ i.zero = some (Go.Value.int Go.IntKind.u8 0) ∧ i.size = 1 ∧ i.bytes = 1 := ⟨Try.t5, by kernel_rfl, rfl, rfl, rfl⟩
theorem inf_58 : ∃ i, Try.prog.info? 58 = some i ∧ i.zero = some (Go.Value.agg #[Go.Value.int Go.IntKind.i64 0, Go.Value.int Go.IntKind.i64 0, Go.Value.int Go.IntKind.i64 0, Go.Value.int Go.IntKind.i64 0, Go.Value.int Go.IntKind.i64 0, Go.Value.int Go.IntKind.i64 0, Go.Value.int Go.IntKind.u64 0, Go.Value.int Go.IntKind.u64 0, Go.Value.int Go.IntKind.i64 0, Go.Value.int Go.IntKind.i64 0, Go.Value.int Go.IntKind.i64 0, Go.Value.int Go.IntKind.i64 0, Go.Value.int Go.IntKind.i64 0, Go.Value.int Go.IntKind.i64 0, Go.Value.int Go.IntKind.i64 0, Go.Value.int Go.IntKind.i64 0, Go.Value.int Go.IntKind.i64 0, Go.Value.int Go.IntKind.i64 0, Go.Value.int Go.IntKind.i64 0, Go.Value.int Go.IntKind.u64 0]) ∧ i.size = 20 ∧ i.bytes = 160 := ⟨Try.t58, by kernel_rfl, rfl, rfl, rfl⟩
theorem inf_51 : ∃ i, Try.prog.info? 51 = some i ∧ i.zero = some (Go.Value.agg #[Go.Value.int Go.IntKind.i64 0, Go.Value.int Go.IntKind.i64 0, Go.Value.int Go.IntKind.i64 0, Go.Value.int Go.IntKind.i64 0, Go.Value.int Go.IntKind.i64 0]) ∧ i.size = 5 ∧ i.bytes = 40 := ⟨Try.t51, by kernel_rfl, rfl, rfl, rfl⟩
theorem inf_150 : ∃ i, Try.prog.info? 150 = some i ∧ i.zero = some (Go.Value.agg #[Go.Value.int Go.IntKind.i64 0, Go.Value.int Go.IntKind.i64 0]) ∧ i.size = 2 ∧ i.bytes = 16 := ⟨Try.t150, by kernel_rfl, rfl, rfl, rfl⟩
theorem inf_137 : ∃ i, Try.prog.info? 137 = some i ∧ i.zero = some (Go.Value.agg #[Go.Value.int Go.IntKind.i64 0, Go.Value.slice none 0 0]) ∧ i.size = 2 ∧ i.bytes = 32 := ⟨Try.t137, by kernel_rfl, rfl, rfl, rfl⟩
theorem inf_144 : ∃ i, Try.prog.info? 144 = some i ∧ i.zero = some (Go.Value.agg #[Go.Value.int Go.IntKind.i64 0, Go.Value.int Go.IntKind.i64 0, Go.Value.int Go.IntKind.i64 0, Go.Value.int Go.IntKind.i64 0, Go.Value.slice none 0 0, Go.Value.slice none 0 0, Go.Value.slice none 0 0]) ∧ i.size = 7 ∧ i.bytes = 104 := ⟨Try.t144, by kernel_rfl, rfl, rfl, rfl⟩
theorem inf_141 : ∃ i, Try.prog.info? 141 = some i ∧ i.zero = some (Go.Value.agg #[Go.Value.int Go.IntKind.i64 0, Go.Value.int Go.IntKind.i64 0]) ∧ i.size = 2 ∧ i.bytes = 16 := ⟨Try.t141, by kernel_rfl, rfl, rfl, rfl⟩
theorem inf_177 : ∃ i, Try.prog.info? 177 = some i ∧ i.zero = some (Go.Value.slice none 0 0) ∧ i.size = 1 ∧ i.bytes = 24 := ⟨Try.t177, by kernel_rfl, rfl, rfl, rfl⟩
theorem inf_158 : ∃ i, Try.prog.info? 158 = some i ∧ i.zero = some (Go.Value.agg #[Go.Value.int Go.IntKind.i64 0, Go.Value.int Go.IntKind.i64 0, Go.Value.int Go.IntKind.i64 0, Go.Value.int Go.IntKind.i64 0, Go.Value.bool false, Go.Value.slice none 0 0, Go.Value.slice none 0 0, Go.Value.slice none 0 0]) ∧ i.size = 8 ∧ i.bytes = 112 := ⟨Try.t158, by kernel_rfl, rfl, rfl, rfl⟩
theorem inf_159 : ∃ i, Try.prog.info? 159 = some i ∧ i.zero = some (Go.Value.slice none 0 0) ∧ i.size = 1 ∧ i.bytes = 24 := ⟨Try.t159, by kernel_rfl, rfl, rfl, rfl⟩
theorem inf_187 : ∃ i, Try.prog.info? 187 = some i ∧ i.zero = some (Go.Value.agg #[Go.Value.int Go.IntKind.i64 0, Go.Value.int Go.IntKind.i64 0]) ∧ i.size = 2 ∧ i.bytes = 16 := ⟨Try.t187, by kernel_rfl, rfl, rfl, rfl⟩
theorem inf_38 : ∃ i, Try.prog.info? 38 = some i ∧ i.zero = some (Go.Value.int Go.IntKind.u64 0) ∧ i.size = 1 ∧ i.bytes = 8 := ⟨Try.t38, by kernel_rfl, rfl, rfl, rfl⟩
theorem ps_23 {x0 : Int} {x : Value} {base n : Nat} {xs : List Value} (h1 : ∀ u ∈ ([(.int .i64 x0)] : List Value), u.oneCell' = true) (hown : w.ownsRow base 3 1 x n xs) (hn : n + 1 ≤ 1048577) (hbase : base ≤ w.heap.size) (hk : ∀ x' w', w'.ownsRow base 3 1 x' (n + 1) (xs ++ [(.int .i64 x0)]) → w.grownBy w' x.ownBlock → NewB w x x' → K x' w') :
    effv Try.prog (Instr.buildSlice 23 1 #[(0, (.int .i64 x0))]) w fun y w1 => effv Try.prog (Builtin.append_ #[23, 23] 23 #[x, y]) w1 K := by
  obtain ⟨i, hi, hz, hs, hb⟩ := inf_3
  exact eff_pushN (cs := [(.int .i64 x0)]) Try.underlying23 hi hz hs rfl (by decide) (by decide) (by kernel_rfl) rfl h1 hown (by unfold maxLen; omega) (by rw [hb]; omega) hbase hk
@[simp] theorem bs_23_1 {x0 : Int} : effv Try.prog (Instr.buildSlice 23 1 #[(0, (.int .i64 x0))]) w K = K (.slice (some ⟨w.heap.size, 0, none⟩) 1 1) (w.alloc (.cells #[(.int .i64 x0)] 3)) := by
  obtain ⟨i, hi, hz, hs, hb⟩ := inf_3
  exact effv_buildSlice (z := 1) Try.underlying23 hi hz hs (by decide) (by decide) (by kernel_rfl)
@[simp] theorem bs_23_2 {x0 : Int} {x1 : Int} : effv Try.prog (Instr.buildSlice 23 2 #[(0, (.int .i64 x0)), (1, (.int .i64 x1))]) w K = K (.slice (some ⟨w.heap.size, 0, none⟩) 2 2) (w.alloc (.cells #[(.int .i64 x0), (.int .i64 x1)] 3)) := by
  obtain ⟨i, hi, hz, hs, hb⟩ := inf_3
  exact effv_buildSlice (z := 1) Try.underlying23 hi hz hs (by decide) (by decide) (by kernel_rfl)
@[simp] theorem bs_23_4 {x0 : Int} {x1 : Int} {x2 : Int} {x3 : Int} : effv Try.prog (Instr.buildSlice 23 4 #[(0, (.int .i64 x0)), (1, (.int .i64 x1)), (2, (.int .i64 x2)), (3, (.int .i64 x3))]) w K = K (.slice (some ⟨w.heap.size, 0, none⟩) 4 4) (w.alloc (.cells #[(.int .i64 x0), (.int .i64 x1), (.int .i64 x2), (.int .i64 x3)] 3)) := by
  obtain ⟨i, hi, hz, hs, hb⟩ := inf_3
  exact effv_buildSlice (z := 1) Try.underlying23 hi hz hs (by decide) (by decide) (by kernel_rfl)
@[simp] theorem bs_23_6 {x0 : Int} {x1 : Int} {x2 : Int} {x3 : Int} {x4 : Int} {x5 : Int} : effv Try.prog (Instr.buildSlice 23 6 #[(0, (.int .i64 x0)), (1, (.int .i64 x1)), (2, (.int .i64 x2)), (3, (.int .i64 x3)), (4, (.int .i64 x4)), (5, (.int .i64 x5))]) w K = K (.slice (some ⟨w.heap.size, 0, none⟩) 6 6) (w.alloc (.cells #[(.int .i64 x0), (.int .i64 x1), (.int .i64 x2), (.int .i64 x3), (.int .i64 x4), (.int .i64 x5)] 3)) := by
  obtain ⟨i, hi, hz, hs, hb⟩ := inf_3
  exact effv_buildSlice (z := 1) Try.underlying23 hi hz hs (by decide) (by decide) (by kernel_rfl)
@[simp] theorem bs_23_9 {x0 : Int} {x1 : Int} {x2 : Int} {x3 : Int} {x4 : Int} {x5 : Int} {x6 : Int} {x7 : Int} {x8 : Int} : effv Try.prog (Instr.buildSlice 23 9 #[(0, (.int .i64 x0)), (1, (.int .i64 x1)), (2, (.int .i64 x2)), (3, (.int .i64 x3)), (4, (.int .i64 x4)), (5, (.int .i64 x5)), (6, (.int .i64 x6)), (7, (.int .i64 x7)), (8, (.int .i64 x8))]) w K = K (.slice (some ⟨w.heap.size, 0, none⟩) 9 9) (w.alloc (.cells #[(.int .i64 x0), (.int .i64 x1), (.int .i64 x2), (.int .i64 x3), (.int .i64 x4), (.int .i64 x5), (.int .i64 x6), (.int .i64 x7), (.int .i64 x8)] 3)) := by
  obtain ⟨i, hi, hz, hs, hb⟩ := inf_3
  exact effv_buildSlice (z := 1) Try.underlying23 hi hz hs (by decide) (by decide) (by kernel_rfl)
@[simp] theorem bs_23_23 {x0 : Int} {x1 : Int} {x2 : Int} {x3 : Int} {x4 : Int} {x5 : Int} {x6 : Int} {x7 : Int} {x8 : Int} {x9 : Int} {x10 : Int} {x11 : Int} {x12 : Int} {x13 : Int} {x14 : Int} {x15 : Int} {x16 : Int} {x17 : Int} {x18 : Int} {x19 : Int} {x20 : Int} {x21 : Int} {x22 : Int} : effv Try.prog (Instr.buildSlice 23 23 #[(0, (.int .i64 x0)), (1, (.int .i64 x1)), (2, (.int .i64 x2)), (3, (.int .i64 x3)), (4, (.int .i64 x4)), (5, (.int .i64 x5)), (6, (.int .i64 x6)), (7, (.int .i64 x7)), (8, (.int .i64 x8)), (9, (.int .i64 x9)), (10, (.int .i64 x10)), (11, (.int .i64 x11)), (12, (.int .i64 x12)), (13, (.int .i64 x13)), (14, (.int .i64 x14)), (15, (.int .i64 x15)), (16, (.int .i64 x16)), (17, (.int .i64 x17)), (18, (.int .i64 x18)), (19, (.int .i64 x19)), (20, (.int .i64 x20)), (21, (.int .i64 x21)), (22, (.int .i64 x22))]) w K = K (.slice (some ⟨w.heap.size, 0, none⟩) 23 23) (w.alloc (.cells #[(.int .i64 x0), (.int .i64 x1), (.int .i64 x2), (.int .i64 x3), (.int .i64 x4), (.int .i64 x5), (.int .i64 x6), (.int .i64 x7), (.int .i64 x8), (.int .i64 x9), (.int .i64 x10), (.int .i64 x11), (.int .i64 x12), (.int .i64 x13), (.int .i64 x14), (.int .i64 x15), (.int .i64 x16), (.int .i64 x17), (.int .i64 x18), (.int .i64 x19), (.int .i64 x20), (.int .i64 x21), (.int .i64 x22)] 3)) := by
  obtain ⟨i, hi, hz, hs, hb⟩ := inf_3
  exact effv_buildSlice (z := 1) Try.underlying23 hi hz hs (by decide) (by decide) (by kernel_rfl)
@[simp] theorem bs_27_1 {x0_0 x0_1 x0_2 x0_3 x0_4 x0_5 : Value} : effv Try.prog (Instr.buildSlice 27 1 #[(0, (.agg #[x0_0, x0_1, x0_2, x0_3, x0_4, x0_5]))]) w K = K (.slice (some ⟨w.heap.size, 0, none⟩) 1 1) (w.alloc (.cells #[x0_0, x0_1, x0_2, x0_3, x0_4, x0_5] 40)) := by
  obtain ⟨i, hi, hz, hs, hb⟩ := inf_40
  exact effv_buildSlice (z := 6) Try.underlying27 hi hz hs (by decide) (by decide) (by kernel_rfl)
@[simp] theorem bs_28_1 {x0 : Int} : effv Try.prog (Instr.buildSlice 28 1 #[(0, (.int .u8 x0))]) w K = K (.slice (some ⟨w.heap.size, 0, none⟩) 1 1) (w.alloc (.cells #[(.int .u8 x0)] 5)) := by
  obtain ⟨i, hi, hz, hs, hb⟩ := inf_5
  exact effv_buildSlice (z := 1) Try.underlying28 hi hz hs (by decide) (by decide) (by kernel_rfl)
@[simp] theorem bs_28_2 {x0 : Int} {x1 : Int} : effv Try.prog (Instr.buildSlice 28 2 #[(0, (.int .u8 x0)), (1, (.int .u8 x1))]) w K = K (.slice (some ⟨w.heap.size, 0, none⟩) 2 2) (w.alloc (.cells #[(.int .u8 x0), (.int .u8 x1)] 5)) := by
  obtain ⟨i, hi, hz, hs, hb⟩ := inf_5
  exact effv_buildSlice (z := 1) Try.underlying28 hi hz hs (by decide) (by decide) (by kernel_rfl)
@[simp] theorem bs_28_3 {x0 : Int} {x1 : Int} {x2 : Int} : effv Try.prog (Instr.buildSlice 28 3 #[(0, (.int .u8 x0)), (1, (.int .u8 x1)), (2, (.int .u8 x2))]) w K = K (.slice (some ⟨w.heap.size, 0, none⟩) 3 3) (w.alloc (.cells #[(.int .u8 x0), (.int .u8 x1), (.int .u8 x2)] 5)) := by
  obtain ⟨i, hi, hz, hs, hb⟩ := inf_5
  exact effv_buildSlice (z := 1) Try.underlying28 hi hz hs (by decide) (by decide) (by kernel_rfl)
@[simp] theorem bs_28_6 {x0 : Int} {x1 : Int} {x2 : Int} {x3 : Int} {x4 : Int} {x5 : Int} : effv Try.prog (Instr.buildSlice 28 6 #[(0, (.int .u8 x0)), (1, (.int .u8 x1)), (2, (.int .u8 x2)), (3, (.int .u8 x3)), (4, (.int .u8 x4)), (5, (.int .u8 x5))]) w K = K (.slice (some ⟨w.heap.size, 0, none⟩) 6 6) (w.alloc (.cells #[(.int .u8 x0), (.int .u8 x1), (.int .u8 x2), (.int .u8 x3), (.int .u8 x4), (.int .u8 x5)] 5)) := by
  obtain ⟨i, hi, hz, hs, hb⟩ := inf_5
  exact effv_buildSlice (z := 1) Try.underlying28 hi hz hs (by decide) (by decide) (by kernel_rfl)
@[simp] theorem bs_54_1 {x0_0 x0_1 x0_2 x0_3 x0_4 x0_5 x0_6 x0_7 x0_8 x0_9 x0_10 x0_11 x0_12 x0_13 x0_14 x0_15 x0_16 x0_17 x0_18 x0_19 : Value} : effv Try.prog (Instr.buildSlice 54 1 #[(0, (.agg #[x0_0, x0_1, x0_2, x0_3, x0_4, x0_5, x0_6, x0_7, x0_8, x0_9, x0_10, x0_11, x0_12, x0_13, x0_14, x0_15, x0_16, x0_17, x0_18, x0_19]))]) w K = K (.slice (some ⟨w.heap.size, 0, none⟩) 1 1) (w.alloc (.cells #[x0_0, x0_1, x0_2, x0_3, x0_4, x0_5, x0_6, x0_7, x0_8, x0_9, x0_10, x0_11, x0_12, x0_13, x0_14, x0_15, x0_16, x0_17, x0_18, x0_19] 58)) := by
  obtain ⟨i, hi, hz, hs, hb⟩ := inf_58
  exact effv_buildSlice (z := 20) Try.underlying54 hi hz hs (by decide) (by decide) (by kernel_rfl)
theorem ps_90 {x0_0 x0_1 x0_2 x0_3 x0_4 : Value} {x : Value} {base n : Nat} {xs : List Value} (h1 : ∀ u ∈ ([x0_0, x0_1, x0_2, x0_3, x0_4] : List Value), u.oneCell' = true) (hown : w.ownsRow base 51 5 x n xs) (hn : n + 1 ≤ 1048577) (hbase : base ≤ w.heap.size) (hk : ∀ x' w', w'.ownsRow base 51 5 x' (n + 1) (xs ++ [x0_0, x0_1, x0_2, x0_3, x0_4]) → w.grownBy w' x.ownBlock → NewB w x x' → K x' w') :
    effv Try.prog (Instr.buildSlice 90 1 #[(0, (.agg #[x0_0, x0_1, x0_2, x0_3, x0_4]))]) w fun y w1 => effv Try.prog (Builtin.append_ #[90, 90] 90 #[x, y]) w1 K := by
  obtain ⟨i, hi, hz, hs, hb⟩ := inf_51
  exact eff_pushN (cs := [x0_0, x0_1, x0_2, x0_3, x0_4]) Try.underlying90 hi hz hs rfl (by decide) (by decide) (by kernel_rfl) rfl h1 hown (by unfold maxLen; omega) (by rw [hb]; omega) hbase hk
@[simp] theorem bs_90_1 {x0_0 x0_1 x0_2 x0_3 x0_4 : Value} : effv Try.prog (Instr.buildSlice 90 1 #[(0, (.agg #[x0_0, x0_1, x0_2, x0_3, x0_4]))]) w K = K (.slice (some ⟨w.heap.size, 0, none⟩) 1 1) (w.alloc (.cells #[x0_0, x0_1, x0_2, x0_3, x0_4] 51)) := by
  obtain ⟨i, hi, hz, hs, hb⟩ := inf_51
  exact effv_buildSlice (z := 5) Try.underlying90 hi hz hs (by decide) (by decide) (by kernel_rfl)
theorem ps_130 {x0_0 x0_1 x0_2 x0_3 x0_4 x0_5 x0_6 : Value} {x : Value} {base n : Nat} {xs : List Value} (h1 : ∀ u ∈ ([x0_0, x0_1, x0_2, x0_3, x0_4, x0_5, x0_6] : List Value), u.oneCell' = true) (hown : w.ownsRow base 144 7 x n xs) (hn : n + 1 ≤ 1048577) (hbase : base ≤ w.heap.size) (hk : ∀ x' w', w'.ownsRow base 144 7 x' (n + 1) (xs ++ [x0_0, x0_1, x0_2, x0_3, x0_4, x0_5, x0_6]) → w.grownBy w' x.ownBlock → NewB w x x' → K x' w') :
    effv Try.prog (Instr.buildSlice 130 1 #[(0, (.agg #[x0_0, x0_1, x0_2, x0_3, x0_4, x0_5, x0_6]))]) w fun y w1 => effv Try.prog (Builtin.append_ #[130, 130] 130 #[x, y]) w1 K := by
  obtain ⟨i, hi, hz, hs, hb⟩ := inf_144
  exact eff_pushN (cs := [x0_0, x0_1, x0_2, x0_3, x0_4, x0_5, x0_6]) Try.underlying130 hi hz hs rfl (by decide) (by decide) (by kernel_rfl) rfl h1 hown (by unfold maxLen; omega) (by rw [hb]; omega) hbase hk
@[simp] theorem bs_130_1 {x0_0 x0_1 x0_2 x0_3 x0_4 x0_5 x0_6 : Value} : effv Try.prog (Instr.buildSlice 130 1 #[(0, (.agg #[x0_0, x0_1, x0_2, x0_3, x0_4, x0_5, x0_6]))]) w K = K (.slice (some ⟨w.heap.size, 0, none⟩) 1 1) (w.alloc (.cells #[x0_0, x0_1, x0_2, x0_3, x0_4, x0_5, x0_6] 144)) := by
  obtain ⟨i, hi, hz, hs, hb⟩ := inf_144
  exact effv_buildSlice (z := 7) Try.underlying130 hi hz hs (by decide) (by decide) (by kernel_rfl)
theorem ps_135 {x0_0 x0_1 : Value} {x : Value} {base n : Nat} {xs : List Value} (h1 : ∀ u ∈ ([x0_0, x0_1] : List Value), u.oneCell' = true) (hown : w.ownsRow base 141 2 x n xs) (hn : n + 1 ≤ 1048577) (hbase : base ≤ w.heap.size) (hk : ∀ x' w', w'.ownsRow base 141 2 x' (n + 1) (xs ++ [x0_0, x0_1]) → w.grownBy w' x.ownBlock → NewB w x x' → K x' w') :
    effv Try.prog (Instr.buildSlice 135 1 #[(0, (.agg #[x0_0, x0_1]))]) w fun y w1 => effv Try.prog (Builtin.append_ #[135, 135] 135 #[x, y]) w1 K := by
  obtain ⟨i, hi, hz, hs, hb⟩ := inf_141
  exact eff_pushN (cs := [x0_0, x0_1]) Try.underlying135 hi hz hs rfl (by decide) (by decide) (by kernel_rfl) rfl h1 hown (by unfold maxLen; omega) (by rw [hb]; omega) hbase hk
@[simp] theorem bs_135_1 {x0_0 x0_1 : Value} : effv Try.prog (Instr.buildSlice 135 1 #[(0, (.agg #[x0_0, x0_1]))]) w K = K (.slice (some ⟨w.heap.size, 0, none⟩) 1 1) (w.alloc (.cells #[x0_0, x0_1] 141)) := by
  obtain ⟨i, hi, hz, hs, hb⟩ := inf_141
  exact effv_buildSlice (z := 2) Try.underlying135 hi hz hs (by decide) (by decide) (by kernel_rfl)
theorem ps_142 {x0 : Option Addr} {y0 z0 : Nat} {x : Value} {base n : Nat} {xs : List Value} (h1 : ∀ u ∈ ([(.slice x0 y0 z0)] : List Value), u.oneCell' = true) (hown : w.ownsRow base 177 1 x n xs) (hn : n + 1 ≤ 1048577) (hbase : base ≤ w.heap.size) (hk : ∀ x' w', w'.ownsRow base 177 1 x' (n + 1) (xs ++ [(.slice x0 y0 z0)]) → w.grownBy w' x.ownBlock → NewB w x x' → K x' w') :
    effv Try.prog (Instr.buildSlice 142 1 #[(0, (.slice x0 y0 z0))]) w fun y w1 => effv Try.prog (Builtin.append_ #[142, 142] 142 #[x, y]) w1 K := by
  obtain ⟨i, hi, hz, hs, hb⟩ := inf_177
  exact eff_pushN (cs := [(.slice x0 y0 z0)]) Try.underlying142 hi hz hs rfl (by decide) (by decide) (by kernel_rfl) rfl h1 hown (by unfold maxLen; omega) (by rw [hb]; omega) hbase hk
@[simp] theorem bs_142_1 {x0 : Option Addr} {y0 z0 : Nat} : effv Try.prog (Instr.buildSlice 142 1 #[(0, (.slice x0 y0 z0))]) w K = K (.slice (some ⟨w.heap.size, 0, none⟩) 1 1) (w.alloc (.cells #[(.slice x0 y0 z0)] 177)) := by
  obtain ⟨i, hi, hz, hs, hb⟩ := inf_177
  exact effv_buildSlice (z := 1) Try.underlying142 hi hz hs (by decide) (by decide) (by kernel_rfl)
@[simp] theorem bs_151_1 {x0_0 x0_1 x0_2 x0_3 x0_4 x0_5 x0_6 x0_7 : Value} : effv Try.prog (Instr.buildSlice 151 1 #[(0, (.agg #[x0_0, x0_1, x0_2, x0_3, x0_4, x0_5, x0_6, x0_7]))]) w K = K (.slice (some ⟨w.heap.size, 0, none⟩) 1 1) (w.alloc (.cells #[x0_0, x0_1, x0_2, x0_3, x0_4, x0_5, x0_6, x0_7] 158)) := by
  obtain ⟨i, hi, hz, hs, hb⟩ := inf_158
  exact effv_buildSlice (z := 8) Try.underlying151 hi hz hs (by decide) (by decide) (by kernel_rfl)
@[simp] theorem bs_159_1 {x0_0 x0_1 : Value} : effv Try.prog (Instr.buildSlice 159 1 #[(0, (.agg #[x0_0, x0_1]))]) w K = K (.slice (some ⟨w.heap.size, 0, none⟩) 1 1) (w.alloc (.cells #[x0_0, x0_1] 187)) := by
  obtain ⟨i, hi, hz, hs, hb⟩ := inf_187
  exact effv_buildSlice (z := 2) Try.underlying159 hi hz hs (by decide) (by decide) (by kernel_rfl)
theorem inf_29 : ∃ i, Try.prog.info? 29 = some i ∧ i.zero = some (Go.Value.int Go.IntKind.i64 0) ∧ i.size = 1 ∧ i.bytes = 8 := ⟨Try.t29, by kernel_rfl, rfl, rfl, rfl⟩
@[simp] theorem bs_161_6 {x0 : Int} {x1 : Int} {x2 : Int} {x3 : Int} {x4 : Int} {x5 : Int} : effv Try.prog (Instr.buildSlice 161 6 #[(0, (.int .i64 x0)), (1, (.int .i64 x1)), (2, (.int .i64 x2)), (3, (.int .i64 x3)), (4, (.int .i64 x4)), (5, (.int .i64 x5))]) w K = K (.slice (some ⟨w.heap.size, 0, none⟩) 6 6) (w.alloc (.cells #[(.int .i64 x0), (.int .i64 x1), (.int .i64 x2), (.int .i64 x3), (.int .i64 x4), (.int .i64 x5)] 29)) := by
  obtain ⟨i, hi, hz, hs, hb⟩ := inf_29
  exact effv_buildSlice (z := 1) Try.underlying161 hi hz hs (by decide) (by decide) (by kernel_rfl)
theorem inf_170 : ∃ i, Try.prog.info? 170 = some i ∧ i.zero = some (Go.Value.agg #[Go.Value.string { data := #[] }, Go.Value.int Go.IntKind.i64 0, Go.Value.bool false, Go.Value.bool false, Go.Value.bool false]) ∧ i.size = 5 ∧ i.bytes = 32 := ⟨Try.t170, by kernel_rfl, rfl, rfl, rfl⟩
@[simp] theorem bs_189_13 {x0_0 x0_1 x0_2 x0_3 x0_4 : Value} {x1_0 x1_1 x1_2 x1_3 x1_4 : Value} {x2_0 x2_1 x2_2 x2_3 x2_4 : Value} {x3_0 x3_1 x3_2 x3_3 x3_4 : Value} {x4_0 x4_1 x4_2 x4_3 x4_4 : Value} {x5_0 x5_1 x5_2 x5_3 x5_4 : Value} {x6_0 x6_1 x6_2 x6_3 x6_4 : Value} {x7_0 x7_1 x7_2 x7_3 x7_4 : Value} {x8_0 x8_1 x8_2 x8_3 x8_4 : Value} {x9_0 x9_1 x9_2 x9_3 x9_4 : Value} {x10_0 x10_1 x10_2 x10_3 x10_4 : Value} {x11_0 x11_1 x11_2 x11_3 x11_4 : Value} {x12_0 x12_1 x12_2 x12_3 x12_4 : Value} : effv Try.prog (Instr.buildSlice 189 13 #[(0, (.agg #[x0_0, x0_1, x0_2, x0_3, x0_4])), (1, (.agg #[x1_0, x1_1, x1_2, x1_3, x1_4])), (2, (.agg #[x2_0, x2_1, x2_2, x2_3, x2_4])), (3, (.agg #[x3_0, x3_1, x3_2, x3_3, x3_4])), (4, (.agg #[x4_0, x4_1, x4_2, x4_3, x4_4])), (5, (.agg #[x5_0, x5_1, x5_2, x5_3, x5_4])), (6, (.agg #[x6_0, x6_1, x6_2, x6_3, x6_4])), (7, (.agg #[x7_0, x7_1, x7_2, x7_3, x7_4])), (8, (.agg #[x8_0, x8_1, x8_2, x8_3, x8_4])), (9, (.agg #[x9_0, x9_1, x9_2, x9_3, x9_4])), (10, (.agg #[x10_0, x10_1, x10_2, x10_3, x10_4])), (11, (.agg #[x11_0, x11_1, x11_2, x11_3, x11_4])), (12, (.agg #[x12_0, x12_1, x12_2, x12_3, x12_4]))]) w K = K (.slice (some ⟨w.heap.size, 0, none⟩) 13 13) (w.alloc (.cells #[x0_0, x0_1, x0_2, x0_3, x0_4, x1_0, x1_1, x1_2, x1_3, x1_4, x2_0, x2_1, x2_2, x2_3, x2_4, x3_0, x3_1, x3_2, x3_3, x3_4, x4_0, x4_1, x4_2, x4_3, x4_4, x5_0, x5_1, x5_2, x5_3, x5_4, x6_0, x6_1, x6_2, x6_3, x6_4, x7_0, x7_1, x7_2, x7_3, x7_4, x8_0, x8_1, x8_2, x8_3, x8_4, x9_0, x9_1, x9_2, x9_3, x9_4, x10_0, x10_1, x10_2, x10_3, x10_4, x11_0, x11_1, x11_2, x11_3, x11_4, x12_0, x12_1, x12_2, x12_3, x12_4] 170)) := by
  obtain ⟨i, hi, hz, hs, hb⟩ := inf_170
  exact effv_buildSlice (z := 5) Try.underlying189 hi hz hs (by decide) (by decide) (by kernel_rfl)
@[simp] theorem len_22 {A : Option Addr} {n c : Nat} : pureRun Try.prog (Builtin.len_ #[22] 3 #[.slice A n c]) = some (.int .i64 n) := pr_len Try.underlying22
@[simp] theorem len_23 {A : Option Addr} {n c : Nat} : pureRun Try.prog (Builtin.len_ #[23] 3 #[.slice A n c]) = some (.int .i64 n) := pr_len Try.underlying23
@[simp] theorem len_27 {A : Option Addr} {n c : Nat} : pureRun Try.prog (Builtin.len_ #[27] 3 #[.slice A n c]) = some (.int .i64 n) := pr_len Try.underlying27
@[simp] theorem len_28 {A : Option Addr} {n c : Nat} : pureRun Try.prog (Builtin.len_ #[28] 3 #[.slice A n c]) = some (.int .i64 n) := pr_len Try.underlying28
@[simp] theorem len_54 {A : Option Addr} {n c : Nat} : pureRun Try.prog (Builtin.len_ #[54] 3 #[.slice A n c]) = some (.int .i64 n) := pr_len Try.underlying54
@[simp] theorem len_61 {A : Option Addr} {n c : Nat} : pureRun Try.prog (Builtin.len_ #[61] 3 #[.slice A n c]) = some (.int .i64 n) := pr_len Try.underlying61
@[simp] theorem len_72 {A : Option Addr} {n c : Nat} : pureRun Try.prog (Builtin.len_ #[72] 3 #[.slice A n c]) = some (.int .i64 n) := pr_len Try.underlying72
@[simp] theorem len_90 {A : Option Addr} {n c : Nat} : pureRun Try.prog (Builtin.len_ #[90] 3 #[.slice A n c]) = some (.int .i64 n) := pr_len Try.underlying90
@[simp] theorem len_128 {A : Option Addr} {n c : Nat} : pureRun Try.prog (Builtin.len_ #[128] 3 #[.slice A n c]) = some (.int .i64 n) := pr_len Try.underlying128
@[simp] theorem len_129 {A : Option Addr} {n c : Nat} : pureRun Try.prog (Builtin.len_ #[129] 3 #[.slice A n c]) = some (.int .i64 n) := pr_len Try.underlying129
@[simp] theorem len_130 {A : Option Addr} {n c : Nat} : pureRun Try.prog (Builtin.len_ #[130] 3 #[.slice A n c]) = some (.int .i64 n) := pr_len Try.underlying130
@[simp] theorem len_135 {A : Option Addr} {n c : Nat} : pureRun Try.prog (Builtin.len_ #[135] 3 #[.slice A n c]) = some (.int .i64 n) := pr_len Try.underlying135
@[simp] theorem len_151 {A : Option Addr} {n c : Nat} : pureRun Try.prog (Builtin.len_ #[151] 3 #[.slice A n c]) = some (.int .i64 n) := pr_len Try.underlying151
@[simp] theorem len_159 {A : Option Addr} {n c : Nat} : pureRun Try.prog (Builtin.len_ #[159] 3 #[.slice A n c]) = some (.int .i64 n) := pr_len Try.underlying159
@[simp] theorem len_189 {A : Option Addr} {n c : Nat} : pureRun Try.prog (Builtin.len_ #[189] 3 #[.slice A n c]) = some (.int .i64 n) := pr_len Try.underlying189
@[simp] theorem cv_3_5 {a : Int} : pureRun Try.prog (convert 3 5 (.int .i64 a)) = some (.int .u8 ((IntKind.u8).wrap a)) := pr_conv Try.underlying3 Try.underlying5
@[simp] theorem cv_3_38 {a : Int} : pureRun Try.prog (convert 3 38 (.int .i64 a)) = some (.int .u64 ((IntKind.u64).wrap a)) := pr_conv Try.underlying3 Try.underlying38
@[simp] theorem cv_3_172 {a : Int} : pureRun Try.prog (convert 3 172 (.int .i64 a)) = some (.int .u64 ((IntKind.u64).wrap a)) := pr_conv Try.underlying3 Try.underlying172
@[simp] theorem cv_5_3 {a : Int} : pureRun Try.prog (convert 5 3 (.int .u8 a)) = some (.int .i64 ((IntKind.i64).wrap a)) := pr_conv Try.underlying5 Try.underlying3
@[simp] theorem cv_5_38 {a : Int} : pureRun Try.prog (convert 5 38 (.int .u8 a)) = some (.int .u64 ((IntKind.u64).wrap a)) := pr_conv Try.underlying5 Try.underlying38
@[simp] theorem cv_38_3 {a : Int} : pureRun Try.prog (convert 38 3 (.int .u64 a)) = some (.int .i64 ((IntKind.i64).wrap a)) := pr_conv Try.underlying38 Try.underlying3
@[simp] theorem cv_38_5 {a : Int} : pureRun Try.prog (convert 38 5 (.int .u64 a)) = some (.int .u8 ((IntKind.u8).wrap a)) := pr_conv Try.underlying38 Try.underlying5
@[simp] theorem cv_38_190 {a : Int} : pureRun Try.prog (convert 38 190 (.int .u64 a)) = some (.int .u32 ((IntKind.u32).wrap a)) := pr_conv Try.underlying38 Try.underlying190
@[simp] theorem cv_172_3 {a : Int} : pureRun Try.prog (convert 172 3 (.int .u64 a)) = some (.int .i64 ((IntKind.i64).wrap a)) := pr_conv Try.underlying172 Try.underlying3
@[simp] theorem cv_172_190 {a : Int} : pureRun Try.prog (convert 172 190 (.int .u64 a)) = some (.int .u32 ((IntKind.u32).wrap a)) := pr_conv Try.underlying172 Try.underlying190
@[simp] theorem cv_190_38 {a : Int} : pureRun Try.prog (convert 190 38 (.int .u32 a)) = some (.int .u64 ((IntKind.u64).wrap a)) := pr_conv Try.underlying190 Try.underlying38
@[simp] theorem cv_190_172 {a : Int} : pureRun Try.prog (convert 190 172 (.int .u32 a)) = some (.int .u64 ((IntKind.u64).wrap a)) := pr_conv Try.underlying190 Try.underlying172
theorem ia_128 {b p n c : Nat} {j : IntKind} {i : Int} (h0 : 0 ≤ i) (h1 : i < n) : pureRun Try.prog (Instr.indexAt 128 (.slice (some ⟨b, p, none⟩) n c) (.int j i)) = some (.pointer (some ⟨b, p + i.toNat * 2, none⟩)) := by rw [← addr_add]; exact pr_index (z := 2) Try.underlying128 (by kernel_rfl) h0 h1
theorem ia_129 {b p n c : Nat} {j : IntKind} {i : Int} (h0 : 0 ≤ i) (h1 : i < n) : pureRun Try.prog (Instr.indexAt 129 (.slice (some ⟨b, p, none⟩) n c) (.int j i)) = some (.pointer (some ⟨b, p + i.toNat * 2, none⟩)) := by rw [← addr_add]; exact pr_index (z := 2) Try.underlying129 (by kernel_rfl) h0 h1
theorem ia_130 {b p n c : Nat} {j : IntKind} {i : Int} (h0 : 0 ≤ i) (h1 : i < n) : pureRun Try.prog (Instr.indexAt 130 (.slice (some ⟨b, p, none⟩) n c) (.int j i)) = some (.pointer (some ⟨b, p + i.toNat * 7, none⟩)) := by rw [← addr_add]; exact pr_index (z := 7) Try.underlying130 (by kernel_rfl) h0 h1
theorem ia_142 {b p n c : Nat} {j : IntKind} {i : Int} (h0 : 0 ≤ i) (h1 : i < n) : pureRun Try.prog (Instr.indexAt 142 (.slice (some ⟨b, p, none⟩) n c) (.int j i)) = some (.pointer (some ⟨b, p + i.toNat * 1, none⟩)) := by rw [← addr_add]; exact pr_index (z := 1) Try.underlying142 (by kernel_rfl) h0 h1
theorem ia_177 {b p n c : Nat} {j : IntKind} {i : Int} (h0 : 0 ≤ i) (h1 : i < n) : pureRun Try.prog (Instr.indexAt 177 (.slice (some ⟨b, p, none⟩) n c) (.int j i)) = some (.pointer (some ⟨b, p + i.toNat * 1, none⟩)) := by rw [← addr_add]; exact pr_index (z := 1) Try.underlying177 (by kernel_rfl) h0 h1
theorem ia_189 {b p n c : Nat} {j : IntKind} {i : Int} (h0 : 0 ≤ i) (h1 : i < n) : pureRun Try.prog (Instr.indexAt 189 (.slice (some ⟨b, p, none⟩) n c) (.int j i)) = some (.pointer (some ⟨b, p + i.toNat * 5, none⟩)) := by rw [← addr_add]; exact pr_index (z := 5) Try.underlying189 (by kernel_rfl) h0 h1
theorem ei_40 {d : Nat} {x0 y0 : Int} {x1 y1 : Int} {x2 y2 : Int} {x3 y3 : Int} {x4 y4 : Int} {x5 y5 : Int} : (Op.equalIn (d + 2) 40 (.agg #[(.int .i64 x0), (.int .i64 x1), (.int .i64 x2), (.int .i64 x3), (.int .u64 x4), (.int .u64 x5)]) (.agg #[(.int .i64 y0), (.int .i64 y1), (.int .i64 y2), (.int .i64 y3), (.int .u64 y4), (.int .u64 y5)])).run Try.prog w = .ok ((x0 == y0) && ((x1 == y1) && ((x2 == y2) && ((x3 == y3) && ((x4 == y4) && ((x5 == y5) && (true))))))) w :=
  eqIn_struct (d := d + 1) (fs := [(true, 3, 0), (true, 3, 1), (true, 3, 2), (true, 3, 3), (true, 38, 4), (true, 38, 5)]) (by kernel_rfl) (by kernel_rfl) (by kernel_rfl) (eqF_cons (part_sc (by kernel_rfl) rfl) (part_sc (by kernel_rfl) rfl) (eqIn_int Try.underlying3) (eqF_cons (part_sc (by kernel_rfl) rfl) (part_sc (by kernel_rfl) rfl) (eqIn_int Try.underlying3) (eqF_cons (part_sc (by kernel_rfl) rfl) (part_sc (by kernel_rfl) rfl) (eqIn_int Try.underlying3) (eqF_cons (part_sc (by kernel_rfl) rfl) (part_sc (by kernel_rfl) rfl) (eqIn_int Try.underlying3) (eqF_cons (part_sc (by kernel_rfl) rfl) (part_sc (by kernel_rfl) rfl) (eqIn_int Try.underlying38) (eqF_cons (part_sc (by kernel_rfl) rfl) (part_sc (by kernel_rfl) rfl) (eqIn_int Try.underlying38) eqF_nil))))))
@[simp] theorem be_eql_40 {x y : Operand} {x0 y0 : Int} {x1 y1 : Int} {x2 y2 : Int} {x3 y3 : Int} {x4 y4 : Int} {x5 y5 : Int} : be Try.prog .eql 40 x y (.agg #[(.int .i64 x0), (.int .i64 x1), (.int .i64 x2), (.int .i64 x3), (.int .u64 x4), (.int .u64 x5)]) (.agg #[(.int .i64 y0), (.int .i64 y1), (.int .i64 y2), (.int .i64 y3), (.int .u64 y4), (.int .u64 y5)]) = some (.bool (((x0 == y0) && ((x1 == y1) && ((x2 == y2) && ((x3 == y3) && ((x4 == y4) && ((x5 == y5) && (true))))))))) := be_eqls (by kernel_rfl) fun w => ei_40 (d := 9998)
@[simp] theorem be_neq_40 {x y : Operand} {x0 y0 : Int} {x1 y1 : Int} {x2 y2 : Int} {x3 y3 : Int} {x4 y4 : Int} {x5 y5 : Int} : be Try.prog .neq 40 x y (.agg #[(.int .i64 x0), (.int .i64 x1), (.int .i64 x2), (.int .i64 x3), (.int .u64 x4), (.int .u64 x5)]) (.agg #[(.int .i64 y0), (.int .i64 y1), (.int .i64 y2), (.int .i64 y3), (.int .u64 y4), (.int .u64 y5)]) = some (.bool (!((x0 == y0) && ((x1 == y1) && ((x2 == y2) && ((x3 == y3) && ((x4 == y4) && ((x5 == y5) && (true))))))))) := be_neqs (by kernel_rfl) fun w => ei_40 (d := 9998)
theorem ei_51 {d : Nat} {x0 y0 : Int} {x1 y1 : Int} {x2 y2 : Int} {x3 y3 : Int} {x4 y4 : Int} : (Op.equalIn (d + 2) 51 (.agg #[(.int .i64 x0), (.int .i64 x1), (.int .i64 x2), (.int .i64 x3), (.int .i64 x4)]) (.agg #[(.int .i64 y0), (.int .i64 y1), (.int .i64 y2), (.int .i64 y3), (.int .i64 y4)])).run Try.prog w = .ok ((x0 == y0) && ((x1 == y1) && ((x2 == y2) && ((x3 == y3) && ((x4 == y4) && (true)))))) w :=
  eqIn_struct (d := d + 1) (fs := [(true, 3, 0), (true, 3, 1), (true, 3, 2), (true, 3, 3), (true, 3, 4)]) (by kernel_rfl) (by kernel_rfl) (by kernel_rfl) (eqF_cons (part_sc (by kernel_rfl) rfl) (part_sc (by kernel_rfl) rfl) (eqIn_int Try.underlying3) (eqF_cons (part_sc (by kernel_rfl) rfl) (part_sc (by kernel_rfl) rfl) (eqIn_int Try.underlying3) (eqF_cons (part_sc (by kernel_rfl) rfl) (part_sc (by kernel_rfl) rfl) (eqIn_int Try.underlying3) (eqF_cons (part_sc (by kernel_rfl) rfl) (part_sc (by kernel_rfl) rfl) (eqIn_int Try.underlying3) (eqF_cons (part_sc (by kernel_rfl) rfl) (part_sc (by kernel_rfl) rfl) (eqIn_int Try.underlying3) eqF_nil)))))
@[simp] theorem be_eql_51 {x y : Operand} {x0 y0 : Int} {x1 y1 : Int} {x2 y2 : Int} {x3 y3 : Int} {x4 y4 : Int} : be Try.prog .eql 51 x y (.agg #[(.int .i64 x0), (.int .i64 x1), (.int .i64 x2), (.int .i64 x3), (.int .i64 x4)]) (.agg #[(.int .i64 y0), (.int .i64 y1), (.int .i64 y2), (.int .i64 y3), (.int .i64 y4)]) = some (.bool (((x0 == y0) && ((x1 == y1) && ((x2 == y2) && ((x3 == y3) && ((x4 == y4) && (true)))))))) := be_eqls (by kernel_rfl) fun w => ei_51 (d := 9998)
@[simp] theorem be_neq_51 {x y : Operand} {x0 y0 : Int} {x1 y1 : Int} {x2 y2 : Int} {x3 y3 : Int} {x4 y4 : Int} : be Try.prog .neq 51 x y (.agg #[(.int .i64 x0), (.int .i64 x1), (.int .i64 x2), (.int .i64 x3), (.int .i64 x4)]) (.agg #[(.int .i64 y0), (.int .i64 y1), (.int .i64 y2), (.int .i64 y3), (.int .i64 y4)]) = some (.bool (!((x0 == y0) && ((x1 == y1) && ((x2 == y2) && ((x3 == y3) && ((x4 == y4) && (true)))))))) := be_neqs (by kernel_rfl) fun w => ei_51 (d := 9998)
theorem ei_53 {d : Nat} {x0 y0 : Int} {x1 y1 : Int} {x2 y2 : Int} {x3 y3 : Int} {x4 y4 : Int} {x5 y5 : Int} {x6 y6 : Int} {x7 y7 : Int} : (Op.equalIn (d + 3) 53 (.agg #[(.int .i64 x0), (.int .i64 x1), (.int .i64 x2), (.int .i64 x3), (.int .i64 x4), (.int .i64 x5), (.int .i64 x6), (.int .u64 x7)]) (.agg #[(.int .i64 y0), (.int .i64 y1), (.int .i64 y2), (.int .i64 y3), (.int .i64 y4), (.int .i64 y5), (.int .i64 y6), (.int .u64 y7)])).run Try.prog w = .ok ((x0 == y0) && (((x1 == y1) && ((x2 == y2) && ((x3 == y3) && ((x4 == y4) && ((x5 == y5) && (true)))))) && ((x6 == y6) && ((x7 == y7) && (true))))) w :=
  eqIn_struct (d := d + 2) (fs := [(true, 29, 0), (true, 51, 1), (true, 3, 6), (true, 38, 7)]) (by kernel_rfl) (by kernel_rfl) (by kernel_rfl) (eqF_cons (part_sc (by kernel_rfl) rfl) (part_sc (by kernel_rfl) rfl) (eqIn_int Try.underlying29) (eqF_cons (part_ag (n := 5) (by kernel_rfl) (by kernel_rfl)) (part_ag (n := 5) (by kernel_rfl) (by kernel_rfl)) (ei_51 (d := d + 0)) (eqF_cons (part_sc (by kernel_rfl) rfl) (part_sc (by kernel_rfl) rfl) (eqIn_int Try.underlying3) (eqF_cons (part_sc (by kernel_rfl) rfl) (part_sc (by kernel_rfl) rfl) (eqIn_int Try.underlying38) eqF_nil))))
@[simp] theorem be_eql_53 {x y : Operand} {x0 y0 : Int} {x1 y1 : Int} {x2 y2 : Int} {x3 y3 : Int} {x4 y4 : Int} {x5 y5 : Int} {x6 y6 : Int} {x7 y7 : Int} : be Try.prog .eql 53 x y (.agg #[(.int .i64 x0), (.int .i64 x1), (.int .i64 x2), (.int .i64 x3), (.int .i64 x4), (.int .i64 x5), (.int .i64 x6), (.int .u64 x7)]) (.agg #[(.int .i64 y0), (.int .i64 y1), (.int .i64 y2), (.int .i64 y3), (.int .i64 y4), (.int .i64 y5), (.int .i64 y6), (.int .u64 y7)]) = some (.bool (((x0 == y0) && (((x1 == y1) && ((x2 == y2) && ((x3 == y3) && ((x4 == y4) && ((x5 == y5) && (true)))))) && ((x6 == y6) && ((x7 == y7) && (true))))))) := be_eqls (by kernel_rfl) fun w => ei_53 (d := 9997)
@[simp] theorem be_neq_53 {x y : Operand} {x0 y0 : Int} {x1 y1 : Int} {x2 y2 : Int} {x3 y3 : Int} {x4 y4 : Int} {x5 y5 : Int} {x6 y6 : Int} {x7 y7 : Int} : be Try.prog .neq 53 x y (.agg #[(.int .i64 x0), (.int .i64 x1), (.int .i64 x2), (.int .i64 x3), (.int .i64 x4), (.int .i64 x5), (.int .i64 x6), (.int .u64 x7)]) (.agg #[(.int .i64 y0), (.int .i64 y1), (.int .i64 y2), (.int .i64 y3), (.int .i64 y4), (.int .i64 y5), (.int .i64 y6), (.int .u64 y7)]) = some (.bool (!((x0 == y0) && (((x1 == y1) && ((x2 == y2) && ((x3 == y3) && ((x4 == y4) && ((x5 == y5) && (true)))))) && ((x6 == y6) && ((x7 == y7) && (true))))))) := be_neqs (by kernel_rfl) fun w => ei_53 (d := 9997)
theorem ei_58 {d : Nat} {x0 y0 : Int} {x1 y1 : Int} {x2 y2 : Int} {x3 y3 : Int} {x4 y4 : Int} {x5 y5 : Int} {x6 y6 : Int} {x7 y7 : Int} {x8 y8 : Int} {x9 y9 : Int} {x10 y10 : Int} {x11 y11 : Int} {x12 y12 : Int} {x13 y13 : Int} {x14 y14 : Int} {x15 y15 : Int} {x16 y16 : Int} {x17 y17 : Int} {x18 y18 : Int} {x19 y19 : Int} : (Op.equalIn (d + 4) 58 (.agg #[(.int .i64 x0), (.int .i64 x1), (.int .i64 x2), (.int .i64 x3), (.int .i64 x4), (.int .i64 x5), (.int .u64 x6), (.int .u64 x7), (.int .i64 x8), (.int .i64 x9), (.int .i64 x10), (.int .i64 x11), (.int .i64 x12), (.int .i64 x13), (.int .i64 x14), (.int .i64 x15), (.int .i64 x16), (.int .i64 x17), (.int .i64 x18), (.int .u64 x19)]) (.agg #[(.int .i64 y0), (.int .i64 y1), (.int .i64 y2), (.int .i64 y3), (.int .i64 y4), (.int .i64 y5), (.int .u64 y6), (.int .u64 y7), (.int .i64 y8), (.int .i64 y9), (.int .i64 y10), (.int .i64 y11), (.int .i64 y12), (.int .i64 y13), (.int .i64 y14), (.int .i64 y15), (.int .i64 y16), (.int .i64 y17), (.int .i64 y18), (.int .u64 y19)])).run Try.prog w = .ok ((x0 == y0) && ((x1 == y1) && (((x2 == y2) && ((x3 == y3) && ((x4 == y4) && ((x5 == y5) && ((x6 == y6) && ((x7 == y7) && (true))))))) && ((x8 == y8) && ((x9 == y9) && ((x10 == y10) && ((x11 == y11) && (((x12 == y12) && (((x13 == y13) && ((x14 == y14) && ((x15 == y15) && ((x16 == y16) && ((x17 == y17) && (true)))))) && ((x18 == y18) && ((x19 == y19) && (true))))) && (true))))))))) w :=
  eqIn_struct (d := d + 3) (fs := [(true, 3, 0), (true, 3, 1), (true, 40, 2), (true, 3, 8), (true, 3, 9), (true, 3, 10), (true, 3, 11), (true, 53, 12)]) (by kernel_rfl) (by kernel_rfl) (by kernel_rfl) (eqF_cons (part_sc (by kernel_rfl) rfl) (part_sc (by kernel_rfl) rfl) (eqIn_int Try.underlying3) (eqF_cons (part_sc (by kernel_rfl) rfl) (part_sc (by kernel_rfl) rfl) (eqIn_int Try.underlying3) (eqF_cons (part_ag (n := 6) (by kernel_rfl) (by kernel_rfl)) (part_ag (n := 6) (by kernel_rfl) (by kernel_rfl)) (ei_40 (d := d + 1)) (eqF_cons (part_sc (by kernel_rfl) rfl) (part_sc (by kernel_rfl) rfl) (eqIn_int Try.underlying3) (eqF_cons (part_sc (by kernel_rfl) rfl) (part_sc (by kernel_rfl) rfl) (eqIn_int Try.underlying3) (eqF_cons (part_sc (by kernel_rfl) rfl) (part_sc (by kernel_rfl) rfl) (eqIn_int Try.underlying3) (eqF_cons (part_sc (by kernel_rfl) rfl) (part_sc (by kernel_rfl) rfl) (eqIn_int Try.underlying3) (eqF_cons (part_ag (n := 8) (by kernel_rfl) (by kernel_rfl)) (part_ag (n := 8) (by kernel_rfl) (by kernel_rfl)) (ei_53 (d := d + 0)) eqF_nil))))))))
@[simp] theorem be_eql_58 {x y : Operand} {x0 y0 : Int} {x1 y1 : Int} {x2 y2 : Int} {x3 y3 : Int} {x4 y4 : Int} {x5 y5 : Int} {x6 y6 : Int} {x7 y7 : Int} {x8 y8 : Int} {x9 y9 : Int} {x10 y10 : Int} {x11 y11 : Int} {x12 y12 : Int} {x13 y13 : Int} {x14 y14 : Int} {x15 y15 : Int} {x16 y16 : Int} {x17 y17 : Int} {x18 y18 : Int} {x19 y19 : Int} : be Try.prog .eql 58 x y (.agg #[(.int .i64 x0), (.int .i64 x1), (.int .i64 x2), (.int .i64 x3), (.int .i64 x4), (.int .i64 x5), (.int .u64 x6), (.int .u64 x7), (.int .i64 x8), (.int .i64 x9), (.int .i64 x10), (.int .i64 x11), (.int .i64 x12), (.int .i64 x13), (.int .i64 x14), (.int .i64 x15), (.int .i64 x16), (.int .i64 x17), (.int .i64 x18), (.int .u64 x19)]) (.agg #[(.int .i64 y0), (.int .i64 y1), (.int .i64 y2), (.int .i64 y3), (.int .i64 y4), (.int .i64 y5), (.int .u64 y6), (.int .u64 y7), (.int .i64 y8), (.int .i64 y9), (.int .i64 y10), (.int .i64 y11), (.int .i64 y12), (.int .i64 y13), (.int .i64 y14), (.int .i64 y15), (.int .i64 y16), (.int .i64 y17), (.int .i64 y18), (.int .u64 y19)]) = some (.bool (((x0 == y0) && ((x1 == y1) && (((x2 == y2) && ((x3 == y3) && ((x4 == y4) && ((x5 == y5) && ((x6 == y6) && ((x7 == y7) && (true))))))) && ((x8 == y8) && ((x9 == y9) && ((x10 == y10) && ((x11 == y11) && (((x12 == y12) && (((x13 == y13) && ((x14 == y14) && ((x15 == y15) && ((x16 == y16) && ((x17 == y17) && (true)))))) && ((x18 == y18) && ((x19 == y19) && (true))))) && (true))))))))))) := be_eqls (by kernel_rfl) fun w => ei_58 (d := 9996)
@[simp] theorem be_neq_58 {x y : Operand} {x0 y0 : Int} {x1 y1 : Int} {x2 y2 : Int} {x3 y3 : Int} {x4 y4 : Int} {x5 y5 : Int} {x6 y6 : Int} {x7 y7 : Int} {x8 y8 : Int} {x9 y9 : Int} {x10 y10 : Int} {x11 y11 : Int} {x12 y12 : Int} {x13 y13 : Int} {x14 y14 : Int} {x15 y15 : Int} {x16 y16 : Int} {x17 y17 : Int} {x18 y18 : Int} {x19 y19 : Int} : be Try.prog .neq 58 x y (.agg #[(.int .i64 x0), (.int .i64 x1), (.int .i64 x2), (.int .i64 x3), (.int .i64 x4), (.int .i64 x5), (.int .u64 x6), (.int .u64 x7), (.int .i64 x8), (.int .i64 x9), (.int .i64 x10), (.int .i64 x11), (.int .i64 x12), (.int .i64 x13), (.int .i64 x14), (.int .i64 x15), (.int .i64 x16), (.int .i64 x17), (.int .i64 x18), (.int .u64 x19)]) (.agg #[(.int .i64 y0), (.int .i64 y1), (.int .i64 y2), (.int .i64 y3), (.int .i64 y4), (.int .i64 y5), (.int .u64 y6), (.int .u64 y7), (.int .i64 y8), (.int .i64 y9), (.int .i64 y10), (.int .i64 y11), (.int .i64 y12), (.int .i64 y13), (.int .i64 y14), (.int .i64 y15), (.int .i64 y16), (.int .i64 y17), (.int .i64 y18), (.int .u64 y19)]) = some (.bool (!((x0 == y0) && ((x1 == y1) && (((x2 == y2) && ((x3 == y3) && ((x4 == y4) && ((x5 == y5) && ((x6 == y6) && ((x7 == y7) && (true))))))) && ((x8 == y8) && ((x9 == y9) && ((x10 == y10) && ((x11 == y11) && (((x12 == y12) && (((x13 == y13) && ((x14 == y14) && ((x15 == y15) && ((x16 == y16) && ((x17 == y17) && (true)))))) && ((x18 == y18) && ((x19 == y19) && (true))))) && (true))))))))))) := be_neqs (by kernel_rfl) fun w => ei_58 (d := 9996)
theorem ei_141 {d : Nat} {x0 y0 : Int} {x1 y1 : Int} : (Op.equalIn (d + 2) 141 (.agg #[(.int .i64 x0), (.int .i64 x1)]) (.agg #[(.int .i64 y0), (.int .i64 y1)])).run Try.prog w = .ok ((x0 == y0) && ((x1 == y1) && (true))) w :=
  eqIn_struct (d := d + 1) (fs := [(true, 3, 0), (true, 3, 1)]) (by kernel_rfl) (by kernel_rfl) (by kernel_rfl) (eqF_cons (part_sc (by kernel_rfl) rfl) (part_sc (by kernel_rfl) rfl) (eqIn_int Try.underlying3) (eqF_cons (part_sc (by kernel_rfl) rfl) (part_sc (by kernel_rfl) rfl) (eqIn_int Try.underlying3) eqF_nil))
@[simp] theorem be_eql_141 {x y : Operand} {x0 y0 : Int} {x1 y1 : Int} : be Try.prog .eql 141 x y (.agg #[(.int .i64 x0), (.int .i64 x1)]) (.agg #[(.int .i64 y0), (.int .i64 y1)]) = some (.bool (((x0 == y0) && ((x1 == y1) && (true))))) := be_eqls (by kernel_rfl) fun w => ei_141 (d := 9998)
@[simp] theorem be_neq_141 {x y : Operand} {x0 y0 : Int} {x1 y1 : Int} : be Try.prog .neq 141 x y (.agg #[(.int .i64 x0), (.int .i64 x1)]) (.agg #[(.int .i64 y0), (.int .i64 y1)]) = some (.bool (!((x0 == y0) && ((x1 == y1) && (true))))) := be_neqs (by kernel_rfl) fun w => ei_141 (d := 9998)
theorem ei_150 {d : Nat} {x0 y0 : Int} {x1 y1 : Int} : (Op.equalIn (d + 2) 150 (.agg #[(.int .i64 x0), (.int .i64 x1)]) (.agg #[(.int .i64 y0), (.int .i64 y1)])).run Try.prog w = .ok ((x0 == y0) && ((x1 == y1) && (true))) w :=
  eqIn_struct (d := d + 1) (fs := [(true, 3, 0), (true, 3, 1)]) (by kernel_rfl) (by kernel_rfl) (by kernel_rfl) (eqF_cons (part_sc (by kernel_rfl) rfl) (part_sc (by kernel_rfl) rfl) (eqIn_int Try.underlying3) (eqF_cons (part_sc (by kernel_rfl) rfl) (part_sc (by kernel_rfl) rfl) (eqIn_int Try.underlying3) eqF_nil))
@[simp] theorem be_eql_150 {x y : Operand} {x0 y0 : Int} {x1 y1 : Int} : be Try.prog .eql 150 x y (.agg #[(.int .i64 x0), (.int .i64 x1)]) (.agg #[(.int .i64 y0), (.int .i64 y1)]) = some (.bool (((x0 == y0) && ((x1 == y1) && (true))))) := be_eqls (by kernel_rfl) fun w => ei_150 (d := 9998)
@[simp] theorem be_neq_150 {x y : Operand} {x0 y0 : Int} {x1 y1 : Int} : be Try.prog .neq 150 x y (.agg #[(.int .i64 x0), (.int .i64 x1)]) (.agg #[(.int .i64 y0), (.int .i64 y1)]) = some (.bool (!((x0 == y0) && ((x1 == y1) && (true))))) := be_neqs (by kernel_rfl) fun w => ei_150 (d := 9998)
theorem ei_187 {d : Nat} {x0 y0 : Int} {x1 y1 : Int} : (Op.equalIn (d + 2) 187 (.agg #[(.int .i64 x0), (.int .i64 x1)]) (.agg #[(.int .i64 y0), (.int .i64 y1)])).run Try.prog w = .ok ((x0 == y0) && ((x1 == y1) && (true))) w :=
  eqIn_struct (d := d + 1) (fs := [(true, 3, 0), (true, 3, 1)]) (by kernel_rfl) (by kernel_rfl) (by kernel_rfl) (eqF_cons (part_sc (by kernel_rfl) rfl) (part_sc (by kernel_rfl) rfl) (eqIn_int Try.underlying3) (eqF_cons (part_sc (by kernel_rfl) rfl) (part_sc (by kernel_rfl) rfl) (eqIn_int Try.underlying3) eqF_nil))
@[simp] theorem be_eql_187 {x y : Operand} {x0 y0 : Int} {x1 y1 : Int} : be Try.prog .eql 187 x y (.agg #[(.int .i64 x0), (.int .i64 x1)]) (.agg #[(.int .i64 y0), (.int .i64 y1)]) = some (.bool (((x0 == y0) && ((x1 == y1) && (true))))) := be_eqls (by kernel_rfl) fun w => ei_187 (d := 9998)
@[simp] theorem be_neq_187 {x y : Operand} {x0 y0 : Int} {x1 y1 : Int} : be Try.prog .neq 187 x y (.agg #[(.int .i64 x0), (.int .i64 x1)]) (.agg #[(.int .i64 y0), (.int .i64 y1)]) = some (.bool (!((x0 == y0) && ((x1 == y1) && (true))))) := be_neqs (by kernel_rfl) fun w => ei_187 (d := 9998)
end Go.Proofs.Ytgamnncehjcdiaa

namespace Go.Proofs.Ytgamnncehjcdiaa
open Go Ev
set_option linter.unusedVariables false
set_option maxRecDepth 100000
theorem mixed : Try.prog.follows .mixedOrders = true := Checked.mixed Try.checked
theorem entOk : EntOk Try.prog (entR 3 143) := entOk_of (by kernel_rfl)
noncomputable def C3 : Code := (Try.f3.body).getD .skip
noncomputable def T3_0 : List It := [.lp (nav [1, 1, 1, 1, 0, 1, 4, 5] C3), .blk 0, .jn (nav [1, 1, 1, 1, 1] C3)]
/-- rundale/rundalelaw20.ScriptPuts, from a loop's head on -/
def P3_0 (x1 x3 x4 x5 : Value) (w : World) (Q : Value → World → Prop) : Prop := Part Try.prog 3 T3_0 [1, 3, 4, 5] [x1, x3, x4, x5] w Q
def F3 (a0 : Value) (w : World) (Q : Value → World → Prop) : Prop :=
  effv Try.prog (Instr.box 25 a0) w fun t1 w =>
  CallR Try.prog 14 [] w fun t10 w =>
  wpB (pureRun Try.prog (Op.unary .not t10)) fun t12 =>
  cnd t12
  (Q (Go.Value.bool false) w)
  (P3_0 t1 t10 (Go.Value.int Go.IntKind.i64 0) (Go.Value.int Go.IntKind.i64 0) w Q)
def F4 (a0 a1 a2 a3 a4 : Value) (w : World) (Q : Value → World → Prop) : Prop :=
  CallR Try.prog 14 [] w fun t21 w =>
  wpB (pureRun Try.prog (Op.unary .not t21)) fun t23 =>
  cnd t23
  (Q (Go.Value.bool false) w)
  (wpB (pureRun Try.prog (Builtin.len_ #[23] 3 #[a0])) fun t25 =>
  wpB (bp Try.prog .gtr 3 t25 (Go.Value.int Go.IntKind.i64 200)) fun t26 =>
  wpB (gd t26 false (pureRun Try.prog (Builtin.len_ #[23] 3 #[(gv t26 false a1)]))) fun t29 =>
  wpB (gd t26 false (bp Try.prog .gtr 3 t29 (Go.Value.int Go.IntKind.i64 200))) fun t30 =>
  wpB (pickv t26 (some (Go.Value.bool true)) (some t30)) fun t31 =>
  wpB (gd t31 false (pureRun Try.prog (Builtin.len_ #[23] 3 #[(gv t31 false a2)]))) fun t34 =>
  wpB (gd t31 false (bp Try.prog .gtr 3 t34 (Go.Value.int Go.IntKind.i64 200))) fun t35 =>
  wpB (pickv t31 (some (Go.Value.bool true)) (some t35)) fun t36 =>
  wpB (gd t36 false (pureRun Try.prog (Builtin.len_ #[23] 3 #[(gv t36 false a3)]))) fun t39 =>
  wpB (gd t36 false (bp Try.prog .gtr 3 t39 (Go.Value.int Go.IntKind.i64 200))) fun t40 =>
  wpB (pickv t36 (some (Go.Value.bool true)) (some t40)) fun t41 =>
  cnd t41
  (Q t21 w)
  (CallR Try.prog 21 [a0, a1, a4] w fun t46 w =>
  CallR Try.prog 21 [a2, a3, a4] w fun t50 w =>
  effv Try.prog (Instr.alloc 25 true (.tuple #[])) w fun t12 w =>
  effv Try.prog (Instr.alloc 25 true (.tuple #[])) w fun t13 w =>
  effu Try.prog (Instr.storeAt 25 t12 t46) w fun w =>
  effu Try.prog (Instr.storeAt 25 t13 t50) w fun w =>
  wpB (ldv Try.prog 25 t12 w) fun t52 =>
  CallR Try.prog 15 [t52] w fun t53 w =>
  wpB (pureRun Try.prog (Instr.extract t53 0)) fun t54 =>
  wpB (pureRun Try.prog (Instr.extract t53 1)) fun t55 =>
  wpB (ldv Try.prog 25 t13 w) fun t57 =>
  CallR Try.prog 15 [t57] w fun t58 w =>
  wpB (pureRun Try.prog (Instr.extract t58 0)) fun t59 =>
  wpB (pureRun Try.prog (Instr.extract t58 1)) fun t60 =>
  wpB (be Try.prog .neq 29 (.tmp 61) (.const (Go.Value.int Go.IntKind.i64 0)) t55 (Go.Value.int Go.IntKind.i64 0)) fun t62 =>
  wpB (gd t62 false (be Try.prog .neq 29 (.tmp 64) (.const (Go.Value.int Go.IntKind.i64 0)) (gv t62 false t60) (Go.Value.int Go.IntKind.i64 0))) fun t65 =>
  wpB (pickv t62 (some (Go.Value.bool true)) (some t65)) fun t66 =>
  cnd t66
  (Q (Go.Value.bool false) w)
  (CallR Try.prog 20 [t54] w fun t68 w =>
  effv Try.prog (Instr.alloc 25 true (.tuple #[])) w fun t18 w =>
  effu Try.prog (Instr.storeAt 25 t18 t68) w fun w =>
  wpB (ldv Try.prog 25 t18 w) fun t70 =>
  CallR Try.prog 15 [t70] w fun t71 w =>
  wpB (pureRun Try.prog (Instr.extract t71 0)) fun t72 =>
  wpB (pureRun Try.prog (Instr.extract t71 1)) fun t73 =>
  ((((((((wpB (gd t21 true (be Try.prog .eql 29 (.tmp 76) (.const (Go.Value.int Go.IntKind.i64 0)) (gv t21 true t73) (Go.Value.int Go.IntKind.i64 0))) fun t77 =>
  wpB (pickv t21 (some t77) (some (Go.Value.bool false))) fun t78 =>
  gE t78 true (effv Try.prog (convert 28 9 (gv t78 true t72)) w.drew) (fun t81 w =>
  gE t78 true (effv Try.prog (convert 28 9 (gv t78 true t54)) w) (fun t83 w =>
  wpB (gd t78 true (be Try.prog .eql 9 (.tmp 81) (.tmp 83) t81 t83)) fun t84 =>
  wpB (pickv t78 (some t84) (some (Go.Value.bool false))) fun t85 =>
  wpB (gd t85 true (ldv Try.prog 25 t18 w)) fun t87 =>
  wpB (gd t85 true (ldv Try.prog 25 t12 w)) fun t88 =>
  gE t85 true (CallR Try.prog 19 [t87, t88] w) (fun t89 w =>
  wpB (pickv t85 (some t89) (some (Go.Value.bool false))) fun t90 =>
  wpB (gd t90 true (ldv Try.prog 25 t12 w)) fun t97 =>
  wpB (gd t90 true (ldv Try.prog 25 t13 w)) fun t98 =>
  gE t90 true (effv Try.prog (convert 28 9 (gv t90 true t54)) w) (fun t93 w =>
  gE t90 true (effv Try.prog (convert 28 9 (gv t90 true t59)) w) (fun t95 w =>
  wpB (gd t90 true (be Try.prog .eql 9 (.tmp 93) (.tmp 95) t93 t95)) fun t96 =>
  gE t90 true (CallR Try.prog 19 [t97, t98] w) (fun t99 w =>
  wpB (gd t90 true (be Try.prog .eql 4 (.tmp 96) (.tmp 99) t96 t99)) fun t100 =>
  wpB (pickv t90 (some t100) (some (Go.Value.bool false))) fun t101 =>
  Q t101 w) w) w) w) w) w) w.drew) ∧
  (wpB (gd t21 true (be Try.prog .eql 29 (.tmp 76) (.const (Go.Value.int Go.IntKind.i64 0)) (gv t21 true t73) (Go.Value.int Go.IntKind.i64 0))) fun t77_1 =>
  wpB (pickv t21 (some t77_1) (some (Go.Value.bool false))) fun t78_1 =>
  gE t78_1 true (effv Try.prog (convert 28 9 (gv t78_1 true t72)) w.drew) (fun t81_1 w =>
  gE t78_1 true (effv Try.prog (convert 28 9 (gv t78_1 true t54)) w) (fun t83_1 w =>
  wpB (gd t78_1 true (be Try.prog .eql 9 (.tmp 81) (.tmp 83) t81_1 t83_1)) fun t84_1 =>
  wpB (pickv t78_1 (some t84_1) (some (Go.Value.bool false))) fun t85_1 =>
  wpB (gd t85_1 true (ldv Try.prog 25 t18 w)) fun t87_1 =>
  wpB (gd t85_1 true (ldv Try.prog 25 t12 w)) fun t88_1 =>
  gE t85_1 true (CallR Try.prog 19 [t87_1, t88_1] w) (fun t89_1 w =>
  wpB (pickv t85_1 (some t89_1) (some (Go.Value.bool false))) fun t90_1 =>
  wpB (gd t90_1 true (ldv Try.prog 25 t12 w)) fun t97_1 =>
  wpB (gd t90_1 true (ldv Try.prog 25 t13 w)) fun t98_1 =>
  gE t90_1 true (effv Try.prog (convert 28 9 (gv t90_1 true t54)) w) (fun t93_1 w =>
  gE t90_1 true (CallR Try.prog 19 [t97_1, t98_1] w) (fun t99_1 w =>
  gE t90_1 true (effv Try.prog (convert 28 9 (gv t90_1 true t59)) w) (fun t95_1 w =>
  wpB (gd t90_1 true (be Try.prog .eql 9 (.tmp 93) (.tmp 95) t93_1 t95_1)) fun t96_1 =>
  wpB (gd t90_1 true (be Try.prog .eql 4 (.tmp 96) (.tmp 99) t96_1 t99_1)) fun t100_1 =>
  wpB (pickv t90_1 (some t100_1) (some (Go.Value.bool false))) fun t101_1 =>
  Q t101_1 w) w) w) w) w) w) w.drew)) ∧
  (wpB (gd t21 true (be Try.prog .eql 29 (.tmp 76) (.const (Go.Value.int Go.IntKind.i64 0)) (gv t21 true t73) (Go.Value.int Go.IntKind.i64 0))) fun t77_2 =>
  wpB (pickv t21 (some t77_2) (some (Go.Value.bool false))) fun t78_2 =>
  gE t78_2 true (effv Try.prog (convert 28 9 (gv t78_2 true t72)) w.drew) (fun t81_2 w =>
  gE t78_2 true (effv Try.prog (convert 28 9 (gv t78_2 true t54)) w) (fun t83_2 w =>
  wpB (gd t78_2 true (be Try.prog .eql 9 (.tmp 81) (.tmp 83) t81_2 t83_2)) fun t84_2 =>
  wpB (pickv t78_2 (some t84_2) (some (Go.Value.bool false))) fun t85_2 =>
  wpB (gd t85_2 true (ldv Try.prog 25 t18 w)) fun t87_2 =>
  wpB (gd t85_2 true (ldv Try.prog 25 t12 w)) fun t88_2 =>
  gE t85_2 true (CallR Try.prog 19 [t87_2, t88_2] w) (fun t89_2 w =>
  wpB (pickv t85_2 (some t89_2) (some (Go.Value.bool false))) fun t90_2 =>
  wpB (gd t90_2 true (ldv Try.prog 25 t12 w)) fun t97_2 =>
  wpB (gd t90_2 true (ldv Try.prog 25 t13 w)) fun t98_2 =>
  gE t90_2 true (CallR Try.prog 19 [t97_2, t98_2] w) (fun t99_2 w =>
  gE t90_2 true (effv Try.prog (convert 28 9 (gv t90_2 true t54)) w) (fun t93_2 w =>
  gE t90_2 true (effv Try.prog (convert 28 9 (gv t90_2 true t59)) w) (fun t95_2 w =>
  wpB (gd t90_2 true (be Try.prog .eql 9 (.tmp 93) (.tmp 95) t93_2 t95_2)) fun t96_2 =>
  wpB (gd t90_2 true (be Try.prog .eql 4 (.tmp 96) (.tmp 99) t96_2 t99_2)) fun t100_2 =>
  wpB (pickv t90_2 (some t100_2) (some (Go.Value.bool false))) fun t101_2 =>
  Q t101_2 w) w) w) w) w) w) w.drew)) ∧
  (((wpB (gd t21 true (be Try.prog .eql 29 (.tmp 76) (.const (Go.Value.int Go.IntKind.i64 0)) (gv t21 true t73) (Go.Value.int Go.IntKind.i64 0))) fun t77_3 =>
  wpB (pickv t21 (some t77_3) (some (Go.Value.bool false))) fun t78_3 =>
  gE t78_3 true (effv Try.prog (convert 28 9 (gv t78_3 true t72)) w.drew) (fun t81_3 w =>
  gE t78_3 true (effv Try.prog (convert 28 9 (gv t78_3 true t54)) w) (fun t83_3 w =>
  wpB (gd t78_3 true (be Try.prog .eql 9 (.tmp 81) (.tmp 83) t81_3 t83_3)) fun t84_3 =>
  wpB (pickv t78_3 (some t84_3) (some (Go.Value.bool false))) fun t85_3 =>
  wpB (gd t85_3 true (ldv Try.prog 25 t18 w)) fun t87_3 =>
  wpB (gd t85_3 true (ldv Try.prog 25 t12 w)) fun t88_3 =>
  gE t85_3 true (CallR Try.prog 19 [t87_3, t88_3] w) (fun t89_3 w =>
  wpB (pickv t85_3 (some t89_3) (some (Go.Value.bool false))) fun t90_3 =>
  wpB (gd t90_3 true (ldv Try.prog 25 t12 w)) fun t97_3 =>
  wpB (gd t90_3 true (ldv Try.prog 25 t13 w)) fun t98_3 =>
  gE t90_3 true (effv Try.prog (convert 28 9 (gv t90_3 true t59)) w) (fun t95_3 w =>
  gE t90_3 true (effv Try.prog (convert 28 9 (gv t90_3 true t54)) w) (fun t93_3 w =>
  wpB (gd t90_3 true (be Try.prog .eql 9 (.tmp 93) (.tmp 95) t93_3 t95_3)) fun t96_3 =>
  gE t90_3 true (CallR Try.prog 19 [t97_3, t98_3] w) (fun t99_3 w =>
  wpB (gd t90_3 true (be Try.prog .eql 4 (.tmp 96) (.tmp 99) t96_3 t99_3)) fun t100_3 =>
  wpB (pickv t90_3 (some t100_3) (some (Go.Value.bool false))) fun t101_3 =>
  Q t101_3 w) w) w) w) w) w) w.drew) ∧
  (wpB (gd t21 true (be Try.prog .eql 29 (.tmp 76) (.const (Go.Value.int Go.IntKind.i64 0)) (gv t21 true t73) (Go.Value.int Go.IntKind.i64 0))) fun t77_4 =>
  wpB (pickv t21 (some t77_4) (some (Go.Value.bool false))) fun t78_4 =>
  gE t78_4 true (effv Try.prog (convert 28 9 (gv t78_4 true t72)) w.drew) (fun t81_4 w =>
  gE t78_4 true (effv Try.prog (convert 28 9 (gv t78_4 true t54)) w) (fun t83_4 w =>
  wpB (gd t78_4 true (be Try.prog .eql 9 (.tmp 81) (.tmp 83) t81_4 t83_4)) fun t84_4 =>
  wpB (pickv t78_4 (some t84_4) (some (Go.Value.bool false))) fun t85_4 =>
  wpB (gd t85_4 true (ldv Try.prog 25 t18 w)) fun t87_4 =>
  wpB (gd t85_4 true (ldv Try.prog 25 t12 w)) fun t88_4 =>
  gE t85_4 true (CallR Try.prog 19 [t87_4, t88_4] w) (fun t89_4 w =>
  wpB (pickv t85_4 (some t89_4) (some (Go.Value.bool false))) fun t90_4 =>
  wpB (gd t90_4 true (ldv Try.prog 25 t12 w)) fun t97_4 =>
  wpB (gd t90_4 true (ldv Try.prog 25 t13 w)) fun t98_4 =>
  gE t90_4 true (effv Try.prog (convert 28 9 (gv t90_4 true t59)) w) (fun t95_4 w =>
  gE t90_4 true (CallR Try.prog 19 [t97_4, t98_4] w) (fun t99_4 w =>
  gE t90_4 true (effv Try.prog (convert 28 9 (gv t90_4 true t54)) w) (fun t93_4 w =>
  wpB (gd t90_4 true (be Try.prog .eql 9 (.tmp 93) (.tmp 95) t93_4 t95_4)) fun t96_4 =>
  wpB (gd t90_4 true (be Try.prog .eql 4 (.tmp 96) (.tmp 99) t96_4 t99_4)) fun t100_4 =>
  wpB (pickv t90_4 (some t100_4) (some (Go.Value.bool false))) fun t101_4 =>
  Q t101_4 w) w) w) w) w) w) w.drew)) ∧
  (wpB (gd t21 true (be Try.prog .eql 29 (.tmp 76) (.const (Go.Value.int Go.IntKind.i64 0)) (gv t21 true t73) (Go.Value.int Go.IntKind.i64 0))) fun t77_5 =>
  wpB (pickv t21 (some t77_5) (some (Go.Value.bool false))) fun t78_5 =>
  gE t78_5 true (effv Try.prog (convert 28 9 (gv t78_5 true t72)) w.drew) (fun t81_5 w =>
  gE t78_5 true (effv Try.prog (convert 28 9 (gv t78_5 true t54)) w) (fun t83_5 w =>
  wpB (gd t78_5 true (be Try.prog .eql 9 (.tmp 81) (.tmp 83) t81_5 t83_5)) fun t84_5 =>
  wpB (pickv t78_5 (some t84_5) (some (Go.Value.bool false))) fun t85_5 =>
  wpB (gd t85_5 true (ldv Try.prog 25 t18 w)) fun t87_5 =>
  wpB (gd t85_5 true (ldv Try.prog 25 t12 w)) fun t88_5 =>
  gE t85_5 true (CallR Try.prog 19 [t87_5, t88_5] w) (fun t89_5 w =>
  wpB (pickv t85_5 (some t89_5) (some (Go.Value.bool false))) fun t90_5 =>
  wpB (gd t90_5 true (ldv Try.prog 25 t12 w)) fun t97_5 =>
  wpB (gd t90_5 true (ldv Try.prog 25 t13 w)) fun t98_5 =>
  gE t90_5 true (CallR Try.prog 19 [t97_5, t98_5] w) (fun t99_5 w =>
  gE t90_5 true (effv Try.prog (convert 28 9 (gv t90_5 true t59)) w) (fun t95_5 w =>
  gE t90_5 true (effv Try.prog (convert 28 9 (gv t90_5 true t54)) w) (fun t93_5 w =>
  wpB (gd t90_5 true (be Try.prog .eql 9 (.tmp 93) (.tmp 95) t93_5 t95_5)) fun t96_5 =>
  wpB (gd t90_5 true (be Try.prog .eql 4 (.tmp 96) (.tmp 99) t96_5 t99_5)) fun t100_5 =>
  wpB (pickv t90_5 (some t100_5) (some (Go.Value.bool false))) fun t101_5 =>
  Q t101_5 w) w) w) w) w) w) w.drew))) ∧
  ((wpB (gd t21 true (be Try.prog .eql 29 (.tmp 76) (.const (Go.Value.int Go.IntKind.i64 0)) (gv t21 true t73) (Go.Value.int Go.IntKind.i64 0))) fun t77_6 =>
  wpB (pickv t21 (some t77_6) (some (Go.Value.bool false))) fun t78_6 =>
  gE t78_6 true (effv Try.prog (convert 28 9 (gv t78_6 true t72)) w.drew) (fun t81_6 w =>
  gE t78_6 true (effv Try.prog (convert 28 9 (gv t78_6 true t54)) w) (fun t83_6 w =>
  wpB (gd t78_6 true (be Try.prog .eql 9 (.tmp 81) (.tmp 83) t81_6 t83_6)) fun t84_6 =>
  wpB (pickv t78_6 (some t84_6) (some (Go.Value.bool false))) fun t85_6 =>
  wpB (gd t85_6 true (ldv Try.prog 25 t18 w)) fun t87_6 =>
  wpB (gd t85_6 true (ldv Try.prog 25 t12 w)) fun t88_6 =>
  gE t85_6 true (CallR Try.prog 19 [t87_6, t88_6] w) (fun t89_6 w =>
  wpB (pickv t85_6 (some t89_6) (some (Go.Value.bool false))) fun t90_6 =>
  wpB (gd t90_6 true (ldv Try.prog 25 t12 w)) fun t97_6 =>
  gE t90_6 true (effv Try.prog (convert 28 9 (gv t90_6 true t59)) w) (fun t95_6 w =>
  wpB (gd t90_6 true (ldv Try.prog 25 t13 w)) fun t98_6 =>
  gE t90_6 true (effv Try.prog (convert 28 9 (gv t90_6 true t54)) w) (fun t93_6 w =>
  wpB (gd t90_6 true (be Try.prog .eql 9 (.tmp 93) (.tmp 95) t93_6 t95_6)) fun t96_6 =>
  gE t90_6 true (CallR Try.prog 19 [t97_6, t98_6] w) (fun t99_6 w =>
  wpB (gd t90_6 true (be Try.prog .eql 4 (.tmp 96) (.tmp 99) t96_6 t99_6)) fun t100_6 =>
  wpB (pickv t90_6 (some t100_6) (some (Go.Value.bool false))) fun t101_6 =>
  Q t101_6 w) w) w) w) w) w) w.drew) ∧
  (wpB (gd t21 true (be Try.prog .eql 29 (.tmp 76) (.const (Go.Value.int Go.IntKind.i64 0)) (gv t21 true t73) (Go.Value.int Go.IntKind.i64 0))) fun t77_7 =>
  wpB (pickv t21 (some t77_7) (some (Go.Value.bool false))) fun t78_7 =>
  gE t78_7 true (effv Try.prog (convert 28 9 (gv t78_7 true t72)) w.drew) (fun t81_7 w =>
  gE t78_7 true (effv Try.prog (convert 28 9 (gv t78_7 true t54)) w) (fun t83_7 w =>
  wpB (gd t78_7 true (be Try.prog .eql 9 (.tmp 81) (.tmp 83) t81_7 t83_7)) fun t84_7 =>
  wpB (pickv t78_7 (some t84_7) (some (Go.Value.bool false))) fun t85_7 =>
  wpB (gd t85_7 true (ldv Try.prog 25 t18 w)) fun t87_7 =>
  wpB (gd t85_7 true (ldv Try.prog 25 t12 w)) fun t88_7 =>
  gE t85_7 true (CallR Try.prog 19 [t87_7, t88_7] w) (fun t89_7 w =>
  wpB (pickv t85_7 (some t89_7) (some (Go.Value.bool false))) fun t90_7 =>
  wpB (gd t90_7 true (ldv Try.prog 25 t12 w)) fun t97_7 =>
  gE t90_7 true (effv Try.prog (convert 28 9 (gv t90_7 true t59)) w) (fun t95_7 w =>
  wpB (gd t90_7 true (ldv Try.prog 25 t13 w)) fun t98_7 =>
  gE t90_7 true (CallR Try.prog 19 [t97_7, t98_7] w) (fun t99_7 w =>
  gE t90_7 true (effv Try.prog (convert 28 9 (gv t90_7 true t54)) w) (fun t93_7 w =>
  wpB (gd t90_7 true (be Try.prog .eql 9 (.tmp 93) (.tmp 95) t93_7 t95_7)) fun t96_7 =>
  wpB (gd t90_7 true (be Try.prog .eql 4 (.tmp 96) (.tmp 99) t96_7 t99_7)) fun t100_7 =>
  wpB (pickv t90_7 (some t100_7) (some (Go.Value.bool false))) fun t101_7 =>
  Q t101_7 w) w) w) w) w) w) w.drew))) ∧
  ((((wpB (gd t21 true (be Try.prog .eql 29 (.tmp 76) (.const (Go.Value.int Go.IntKind.i64 0)) (gv t21 true t73) (Go.Value.int Go.IntKind.i64 0))) fun t77_8 =>
  wpB (pickv t21 (some t77_8) (some (Go.Value.bool false))) fun t78_8 =>
  gE t78_8 true (effv Try.prog (convert 28 9 (gv t78_8 true t72)) w.drew) (fun t81_8 w =>
  gE t78_8 true (effv Try.prog (convert 28 9 (gv t78_8 true t54)) w) (fun t83_8 w =>
  wpB (gd t78_8 true (be Try.prog .eql 9 (.tmp 81) (.tmp 83) t81_8 t83_8)) fun t84_8 =>
  wpB (pickv t78_8 (some t84_8) (some (Go.Value.bool false))) fun t85_8 =>
  wpB (gd t85_8 true (ldv Try.prog 25 t18 w)) fun t87_8 =>
  wpB (gd t85_8 true (ldv Try.prog 25 t12 w)) fun t88_8 =>
  gE t85_8 true (CallR Try.prog 19 [t87_8, t88_8] w) (fun t89_8 w =>
  wpB (pickv t85_8 (some t89_8) (some (Go.Value.bool false))) fun t90_8 =>
  wpB (gd t90_8 true (ldv Try.prog 25 t12 w)) fun t97_8 =>
  gE t90_8 true (effv Try.prog (convert 28 9 (gv t90_8 true t54)) w) (fun t93_8 w =>
  wpB (gd t90_8 true (ldv Try.prog 25 t13 w)) fun t98_8 =>
  gE t90_8 true (effv Try.prog (convert 28 9 (gv t90_8 true t59)) w) (fun t95_8 w =>
  wpB (gd t90_8 true (be Try.prog .eql 9 (.tmp 93) (.tmp 95) t93_8 t95_8)) fun t96_8 =>
  gE t90_8 true (CallR Try.prog 19 [t97_8, t98_8] w) (fun t99_8 w =>
  wpB (gd t90_8 true (be Try.prog .eql 4 (.tmp 96) (.tmp 99) t96_8 t99_8)) fun t100_8 =>
  wpB (pickv t90_8 (some t100_8) (some (Go.Value.bool false))) fun t101_8 =>
  Q t101_8 w) w) w) w) w) w) w.drew) ∧
  (wpB (gd t21 true (be Try.prog .eql 29 (.tmp 76) (.const (Go.Value.int Go.IntKind.i64 0)) (gv t21 true t73) (Go.Value.int Go.IntKind.i64 0))) fun t77_9 =>
  wpB (pickv t21 (some t77_9) (some (Go.Value.bool false))) fun t78_9 =>
  gE t78_9 true (effv Try.prog (convert 28 9 (gv t78_9 true t72)) w.drew) (fun t81_9 w =>
  gE t78_9 true (effv Try.prog (convert 28 9 (gv t78_9 true t54)) w) (fun t83_9 w =>
  wpB (gd t78_9 true (be Try.prog .eql 9 (.tmp 81) (.tmp 83) t81_9 t83_9)) fun t84_9 =>
  wpB (pickv t78_9 (some t84_9) (some (Go.Value.bool false))) fun t85_9 =>
  wpB (gd t85_9 true (ldv Try.prog 25 t18 w)) fun t87_9 =>
  wpB (gd t85_9 true (ldv Try.prog 25 t12 w)) fun t88_9 =>
  gE t85_9 true (CallR Try.prog 19 [t87_9, t88_9] w) (fun t89_9 w =>
  wpB (pickv t85_9 (some t89_9) (some (Go.Value.bool false))) fun t90_9 =>
  wpB (gd t90_9 true (ldv Try.prog 25 t12 w)) fun t97_9 =>
  gE t90_9 true (effv Try.prog (convert 28 9 (gv t90_9 true t54)) w) (fun t93_9 w =>
  wpB (gd t90_9 true (ldv Try.prog 25 t13 w)) fun t98_9 =>
  gE t90_9 true (CallR Try.prog 19 [t97_9, t98_9] w) (fun t99_9 w =>
  gE t90_9 true (effv Try.prog (convert 28 9 (gv t90_9 true t59)) w) (fun t95_9 w =>
  wpB (gd t90_9 true (be Try.prog .eql 9 (.tmp 93) (.tmp 95) t93_9 t95_9)) fun t96_9 =>
  wpB (gd t90_9 true (be Try.prog .eql 4 (.tmp 96) (.tmp 99) t96_9 t99_9)) fun t100_9 =>
  wpB (pickv t90_9 (some t100_9) (some (Go.Value.bool false))) fun t101_9 =>
  Q t101_9 w) w) w) w) w) w) w.drew)) ∧
  (wpB (gd t21 true (be Try.prog .eql 29 (.tmp 76) (.const (Go.Value.int Go.IntKind.i64 0)) (gv t21 true t73) (Go.Value.int Go.IntKind.i64 0))) fun t77_10 =>
  wpB (pickv t21 (some t77_10) (some (Go.Value.bool false))) fun t78_10 =>
  gE t78_10 true (effv Try.prog (convert 28 9 (gv t78_10 true t72)) w.drew) (fun t81_10 w =>
  gE t78_10 true (effv Try.prog (convert 28 9 (gv t78_10 true t54)) w) (fun t83_10 w =>
  wpB (gd t78_10 true (be Try.prog .eql 9 (.tmp 81) (.tmp 83) t81_10 t83_10)) fun t84_10 =>
  wpB (pickv t78_10 (some t84_10) (some (Go.Value.bool false))) fun t85_10 =>
  wpB (gd t85_10 true (ldv Try.prog 25 t18 w)) fun t87_10 =>
  wpB (gd t85_10 true (ldv Try.prog 25 t12 w)) fun t88_10 =>
  gE t85_10 true (CallR Try.prog 19 [t87_10, t88_10] w) (fun t89_10 w =>
  wpB (pickv t85_10 (some t89_10) (some (Go.Value.bool false))) fun t90_10 =>
  wpB (gd t90_10 true (ldv Try.prog 25 t12 w)) fun t97_10 =>
  gE t90_10 true (effv Try.prog (convert 28 9 (gv t90_10 true t54)) w) (fun t93_10 w =>
  gE t90_10 true (effv Try.prog (convert 28 9 (gv t90_10 true t59)) w) (fun t95_10 w =>
  wpB (gd t90_10 true (be Try.prog .eql 9 (.tmp 93) (.tmp 95) t93_10 t95_10)) fun t96_10 =>
  wpB (gd t90_10 true (ldv Try.prog 25 t13 w)) fun t98_10 =>
  gE t90_10 true (CallR Try.prog 19 [t97_10, t98_10] w) (fun t99_10 w =>
  wpB (gd t90_10 true (be Try.prog .eql 4 (.tmp 96) (.tmp 99) t96_10 t99_10)) fun t100_10 =>
  wpB (pickv t90_10 (some t100_10) (some (Go.Value.bool false))) fun t101_10 =>
  Q t101_10 w) w) w) w) w) w) w.drew)) ∧
  (wpB (gd t21 true (be Try.prog .eql 29 (.tmp 76) (.const (Go.Value.int Go.IntKind.i64 0)) (gv t21 true t73) (Go.Value.int Go.IntKind.i64 0))) fun t77_11 =>
  wpB (pickv t21 (some t77_11) (some (Go.Value.bool false))) fun t78_11 =>
  gE t78_11 true (effv Try.prog (convert 28 9 (gv t78_11 true t72)) w.drew) (fun t81_11 w =>
  gE t78_11 true (effv Try.prog (convert 28 9 (gv t78_11 true t54)) w) (fun t83_11 w =>
  wpB (gd t78_11 true (be Try.prog .eql 9 (.tmp 81) (.tmp 83) t81_11 t83_11)) fun t84_11 =>
  wpB (pickv t78_11 (some t84_11) (some (Go.Value.bool false))) fun t85_11 =>
  wpB (gd t85_11 true (ldv Try.prog 25 t18 w)) fun t87_11 =>
  wpB (gd t85_11 true (ldv Try.prog 25 t12 w)) fun t88_11 =>
  gE t85_11 true (CallR Try.prog 19 [t87_11, t88_11] w) (fun t89_11 w =>
  wpB (pickv t85_11 (some t89_11) (some (Go.Value.bool false))) fun t90_11 =>
  wpB (gd t90_11 true (ldv Try.prog 25 t12 w)) fun t97_11 =>
  gE t90_11 true (effv Try.prog (convert 28 9 (gv t90_11 true t59)) w) (fun t95_11 w =>
  gE t90_11 true (effv Try.prog (convert 28 9 (gv t90_11 true t54)) w) (fun t93_11 w =>
  wpB (gd t90_11 true (be Try.prog .eql 9 (.tmp 93) (.tmp 95) t93_11 t95_11)) fun t96_11 =>
  wpB (gd t90_11 true (ldv Try.prog 25 t13 w)) fun t98_11 =>
  gE t90_11 true (CallR Try.prog 19 [t97_11, t98_11] w) (fun t99_11 w =>
  wpB (gd t90_11 true (be Try.prog .eql 4 (.tmp 96) (.tmp 99) t96_11 t99_11)) fun t100_11 =>
  wpB (pickv t90_11 (some t100_11) (some (Go.Value.bool false))) fun t101_11 =>
  Q t101_11 w) w) w) w) w) w) w.drew))) ∧
  (((wpB (gd t21 true (be Try.prog .eql 29 (.tmp 76) (.const (Go.Value.int Go.IntKind.i64 0)) (gv t21 true t73) (Go.Value.int Go.IntKind.i64 0))) fun t77_12 =>
  wpB (pickv t21 (some t77_12) (some (Go.Value.bool false))) fun t78_12 =>
  gE t78_12 true (effv Try.prog (convert 28 9 (gv t78_12 true t72)) w.drew) (fun t81_12 w =>
  gE t78_12 true (effv Try.prog (convert 28 9 (gv t78_12 true t54)) w) (fun t83_12 w =>
  wpB (gd t78_12 true (be Try.prog .eql 9 (.tmp 81) (.tmp 83) t81_12 t83_12)) fun t84_12 =>
  wpB (pickv t78_12 (some t84_12) (some (Go.Value.bool false))) fun t85_12 =>
  wpB (gd t85_12 true (ldv Try.prog 25 t18 w)) fun t87_12 =>
  wpB (gd t85_12 true (ldv Try.prog 25 t12 w)) fun t88_12 =>
  gE t85_12 true (CallR Try.prog 19 [t87_12, t88_12] w) (fun t89_12 w =>
  wpB (pickv t85_12 (some t89_12) (some (Go.Value.bool false))) fun t90_12 =>
  wpB (gd t90_12 true (ldv Try.prog 25 t13 w)) fun t98_12 =>
  gE t90_12 true (effv Try.prog (convert 28 9 (gv t90_12 true t59)) w) (fun t95_12 w =>
  wpB (gd t90_12 true (ldv Try.prog 25 t12 w)) fun t97_12 =>
  gE t90_12 true (effv Try.prog (convert 28 9 (gv t90_12 true t54)) w) (fun t93_12 w =>
  wpB (gd t90_12 true (be Try.prog .eql 9 (.tmp 93) (.tmp 95) t93_12 t95_12)) fun t96_12 =>
  gE t90_12 true (CallR Try.prog 19 [t97_12, t98_12] w) (fun t99_12 w =>
  wpB (gd t90_12 true (be Try.prog .eql 4 (.tmp 96) (.tmp 99) t96_12 t99_12)) fun t100_12 =>
  wpB (pickv t90_12 (some t100_12) (some (Go.Value.bool false))) fun t101_12 =>
  Q t101_12 w) w) w) w) w) w) w.drew) ∧
  (wpB (gd t21 true (be Try.prog .eql 29 (.tmp 76) (.const (Go.Value.int Go.IntKind.i64 0)) (gv t21 true t73) (Go.Value.int Go.IntKind.i64 0))) fun t77_13 =>
  wpB (pickv t21 (some t77_13) (some (Go.Value.bool false))) fun t78_13 =>
  gE t78_13 true (effv Try.prog (convert 28 9 (gv t78_13 true t72)) w.drew) (fun t81_13 w =>
  gE t78_13 true (effv Try.prog (convert 28 9 (gv t78_13 true t54)) w) (fun t83_13 w =>
  wpB (gd t78_13 true (be Try.prog .eql 9 (.tmp 81) (.tmp 83) t81_13 t83_13)) fun t84_13 =>
  wpB (pickv t78_13 (some t84_13) (some (Go.Value.bool false))) fun t85_13 =>
  wpB (gd t85_13 true (ldv Try.prog 25 t18 w)) fun t87_13 =>
  wpB (gd t85_13 true (ldv Try.prog 25 t12 w)) fun t88_13 =>
  gE t85_13 true (CallR Try.prog 19 [t87_13, t88_13] w) (fun t89_13 w =>
  wpB (pickv t85_13 (some t89_13) (some (Go.Value.bool false))) fun t90_13 =>
  wpB (gd t90_13 true (ldv Try.prog 25 t13 w)) fun t98_13 =>
  gE t90_13 true (effv Try.prog (convert 28 9 (gv t90_13 true t59)) w) (fun t95_13 w =>
  wpB (gd t90_13 true (ldv Try.prog 25 t12 w)) fun t97_13 =>
  gE t90_13 true (CallR Try.prog 19 [t97_13, t98_13] w) (fun t99_13 w =>
  gE t90_13 true (effv Try.prog (convert 28 9 (gv t90_13 true t54)) w) (fun t93_13 w =>
  wpB (gd t90_13 true (be Try.prog .eql 9 (.tmp 93) (.tmp 95) t93_13 t95_13)) fun t96_13 =>
  wpB (gd t90_13 true (be Try.prog .eql 4 (.tmp 96) (.tmp 99) t96_13 t99_13)) fun t100_13 =>
  wpB (pickv t90_13 (some t100_13) (some (Go.Value.bool false))) fun t101_13 =>
  Q t101_13 w) w) w) w) w) w) w.drew)) ∧
  (((wpB (gd t21 true (be Try.prog .eql 29 (.tmp 76) (.const (Go.Value.int Go.IntKind.i64 0)) (gv t21 true t73) (Go.Value.int Go.IntKind.i64 0))) fun t77_14 =>
  wpB (pickv t21 (some t77_14) (some (Go.Value.bool false))) fun t78_14 =>
  gE t78_14 true (effv Try.prog (convert 28 9 (gv t78_14 true t72)) w.drew) (fun t81_14 w =>
  gE t78_14 true (effv Try.prog (convert 28 9 (gv t78_14 true t54)) w) (fun t83_14 w =>
  wpB (gd t78_14 true (be Try.prog .eql 9 (.tmp 81) (.tmp 83) t81_14 t83_14)) fun t84_14 =>
  wpB (pickv t78_14 (some t84_14) (some (Go.Value.bool false))) fun t85_14 =>
  wpB (gd t85_14 true (ldv Try.prog 25 t18 w)) fun t87_14 =>
  wpB (gd t85_14 true (ldv Try.prog 25 t12 w)) fun t88_14 =>
  gE t85_14 true (CallR Try.prog 19 [t87_14, t88_14] w) (fun t89_14 w =>
  wpB (pickv t85_14 (some t89_14) (some (Go.Value.bool false))) fun t90_14 =>
  gE t90_14 true (effv Try.prog (convert 28 9 (gv t90_14 true t59)) w) (fun t95_14 w =>
  wpB (gd t90_14 true (ldv Try.prog 25 t12 w)) fun t97_14 =>
  wpB (gd t90_14 true (ldv Try.prog 25 t13 w)) fun t98_14 =>
  gE t90_14 true (effv Try.prog (convert 28 9 (gv t90_14 true t54)) w) (fun t93_14 w =>
  wpB (gd t90_14 true (be Try.prog .eql 9 (.tmp 93) (.tmp 95) t93_14 t95_14)) fun t96_14 =>
  gE t90_14 true (CallR Try.prog 19 [t97_14, t98_14] w) (fun t99_14 w =>
  wpB (gd t90_14 true (be Try.prog .eql 4 (.tmp 96) (.tmp 99) t96_14 t99_14)) fun t100_14 =>
  wpB (pickv t90_14 (some t100_14) (some (Go.Value.bool false))) fun t101_14 =>
  Q t101_14 w) w) w) w) w) w) w.drew) ∧
  (wpB (gd t21 true (be Try.prog .eql 29 (.tmp 76) (.const (Go.Value.int Go.IntKind.i64 0)) (gv t21 true t73) (Go.Value.int Go.IntKind.i64 0))) fun t77_15 =>
  wpB (pickv t21 (some t77_15) (some (Go.Value.bool false))) fun t78_15 =>
  gE t78_15 true (effv Try.prog (convert 28 9 (gv t78_15 true t72)) w.drew) (fun t81_15 w =>
  gE t78_15 true (effv Try.prog (convert 28 9 (gv t78_15 true t54)) w) (fun t83_15 w =>
  wpB (gd t78_15 true (be Try.prog .eql 9 (.tmp 81) (.tmp 83) t81_15 t83_15)) fun t84_15 =>
  wpB (pickv t78_15 (some t84_15) (some (Go.Value.bool false))) fun t85_15 =>
  wpB (gd t85_15 true (ldv Try.prog 25 t18 w)) fun t87_15 =>
  wpB (gd t85_15 true (ldv Try.prog 25 t12 w)) fun t88_15 =>
  gE t85_15 true (CallR Try.prog 19 [t87_15, t88_15] w) (fun t89_15 w =>
  wpB (pickv t85_15 (some t89_15) (some (Go.Value.bool false))) fun t90_15 =>
  gE t90_15 true (effv Try.prog (convert 28 9 (gv t90_15 true t59)) w) (fun t95_15 w =>
  wpB (gd t90_15 true (ldv Try.prog 25 t12 w)) fun t97_15 =>
  wpB (gd t90_15 true (ldv Try.prog 25 t13 w)) fun t98_15 =>
  gE t90_15 true (CallR Try.prog 19 [t97_15, t98_15] w) (fun t99_15 w =>
  gE t90_15 true (effv Try.prog (convert 28 9 (gv t90_15 true t54)) w) (fun t93_15 w =>
  wpB (gd t90_15 true (be Try.prog .eql 9 (.tmp 93) (.tmp 95) t93_15 t95_15)) fun t96_15 =>
  wpB (gd t90_15 true (be Try.prog .eql 4 (.tmp 96) (.tmp 99) t96_15 t99_15)) fun t100_15 =>
  wpB (pickv t90_15 (some t100_15) (some (Go.Value.bool false))) fun t101_15 =>
  Q t101_15 w) w) w) w) w) w) w.drew)) ∧
  (wpB (gd t21 true (be Try.prog .eql 29 (.tmp 76) (.const (Go.Value.int Go.IntKind.i64 0)) (gv t21 true t73) (Go.Value.int Go.IntKind.i64 0))) fun t77_16 =>
  wpB (pickv t21 (some t77_16) (some (Go.Value.bool false))) fun t78_16 =>
  gE t78_16 true (effv Try.prog (convert 28 9 (gv t78_16 true t72)) w.drew) (fun t81_16 w =>
  gE t78_16 true (effv Try.prog (convert 28 9 (gv t78_16 true t54)) w) (fun t83_16 w =>
  wpB (gd t78_16 true (be Try.prog .eql 9 (.tmp 81) (.tmp 83) t81_16 t83_16)) fun t84_16 =>
  wpB (pickv t78_16 (some t84_16) (some (Go.Value.bool false))) fun t85_16 =>
  wpB (gd t85_16 true (ldv Try.prog 25 t18 w)) fun t87_16 =>
  wpB (gd t85_16 true (ldv Try.prog 25 t12 w)) fun t88_16 =>
  gE t85_16 true (CallR Try.prog 19 [t87_16, t88_16] w) (fun t89_16 w =>
  wpB (pickv t85_16 (some t89_16) (some (Go.Value.bool false))) fun t90_16 =>
  gE t90_16 true (effv Try.prog (convert 28 9 (gv t90_16 true t59)) w) (fun t95_16 w =>
  wpB (gd t90_16 true (ldv Try.prog 25 t12 w)) fun t97_16 =>
  gE t90_16 true (effv Try.prog (convert 28 9 (gv t90_16 true t54)) w) (fun t93_16 w =>
  wpB (gd t90_16 true (be Try.prog .eql 9 (.tmp 93) (.tmp 95) t93_16 t95_16)) fun t96_16 =>
  wpB (gd t90_16 true (ldv Try.prog 25 t13 w)) fun t98_16 =>
  gE t90_16 true (CallR Try.prog 19 [t97_16, t98_16] w) (fun t99_16 w =>
  wpB (gd t90_16 true (be Try.prog .eql 4 (.tmp 96) (.tmp 99) t96_16 t99_16)) fun t100_16 =>
  wpB (pickv t90_16 (some t100_16) (some (Go.Value.bool false))) fun t101_16 =>
  Q t101_16 w) w) w) w) w) w) w.drew)))) ∧
  ((((((wpB (gd t21 true (be Try.prog .eql 29 (.tmp 76) (.const (Go.Value.int Go.IntKind.i64 0)) (gv t21 true t73) (Go.Value.int Go.IntKind.i64 0))) fun t77_17 =>
  wpB (pickv t21 (some t77_17) (some (Go.Value.bool false))) fun t78_17 =>
  gE t78_17 true (effv Try.prog (convert 28 9 (gv t78_17 true t72)) w.drew) (fun t81_17 w =>
  gE t78_17 true (effv Try.prog (convert 28 9 (gv t78_17 true t54)) w) (fun t83_17 w =>
  wpB (gd t78_17 true (be Try.prog .eql 9 (.tmp 81) (.tmp 83) t81_17 t83_17)) fun t84_17 =>
  wpB (pickv t78_17 (some t84_17) (some (Go.Value.bool false))) fun t85_17 =>
  wpB (gd t85_17 true (ldv Try.prog 25 t18 w)) fun t87_17 =>
  wpB (gd t85_17 true (ldv Try.prog 25 t12 w)) fun t88_17 =>
  gE t85_17 true (CallR Try.prog 19 [t87_17, t88_17] w) (fun t89_17 w =>
  wpB (pickv t85_17 (some t89_17) (some (Go.Value.bool false))) fun t90_17 =>
  wpB (gd t90_17 true (ldv Try.prog 25 t13 w)) fun t98_17 =>
  gE t90_17 true (effv Try.prog (convert 28 9 (gv t90_17 true t54)) w) (fun t93_17 w =>
  wpB (gd t90_17 true (ldv Try.prog 25 t12 w)) fun t97_17 =>
  gE t90_17 true (effv Try.prog (convert 28 9 (gv t90_17 true t59)) w) (fun t95_17 w =>
  wpB (gd t90_17 true (be Try.prog .eql 9 (.tmp 93) (.tmp 95) t93_17 t95_17)) fun t96_17 =>
  gE t90_17 true (CallR Try.prog 19 [t97_17, t98_17] w) (fun t99_17 w =>
  wpB (gd t90_17 true (be Try.prog .eql 4 (.tmp 96) (.tmp 99) t96_17 t99_17)) fun t100_17 =>
  wpB (pickv t90_17 (some t100_17) (some (Go.Value.bool false))) fun t101_17 =>
  Q t101_17 w) w) w) w) w) w) w.drew) ∧
  (wpB (gd t21 true (be Try.prog .eql 29 (.tmp 76) (.const (Go.Value.int Go.IntKind.i64 0)) (gv t21 true t73) (Go.Value.int Go.IntKind.i64 0))) fun t77_18 =>
  wpB (pickv t21 (some t77_18) (some (Go.Value.bool false))) fun t78_18 =>
  gE t78_18 true (effv Try.prog (convert 28 9 (gv t78_18 true t72)) w.drew) (fun t81_18 w =>
  gE t78_18 true (effv Try.prog (convert 28 9 (gv t78_18 true t54)) w) (fun t83_18 w =>
  wpB (gd t78_18 true (be Try.prog .eql 9 (.tmp 81) (.tmp 83) t81_18 t83_18)) fun t84_18 =>
  wpB (pickv t78_18 (some t84_18) (some (Go.Value.bool false))) fun t85_18 =>
  wpB (gd t85_18 true (ldv Try.prog 25 t18 w)) fun t87_18 =>
  wpB (gd t85_18 true (ldv Try.prog 25 t12 w)) fun t88_18 =>
  gE t85_18 true (CallR Try.prog 19 [t87_18, t88_18] w) (fun t89_18 w =>
  wpB (pickv t85_18 (some t89_18) (some (Go.Value.bool false))) fun t90_18 =>
  wpB (gd t90_18 true (ldv Try.prog 25 t13 w)) fun t98_18 =>
  gE t90_18 true (effv Try.prog (convert 28 9 (gv t90_18 true t54)) w) (fun t93_18 w =>
  wpB (gd t90_18 true (ldv Try.prog 25 t12 w)) fun t97_18 =>
  gE t90_18 true (CallR Try.prog 19 [t97_18, t98_18] w) (fun t99_18 w =>
  gE t90_18 true (effv Try.prog (convert 28 9 (gv t90_18 true t59)) w) (fun t95_18 w =>
  wpB (gd t90_18 true (be Try.prog .eql 9 (.tmp 93) (.tmp 95) t93_18 t95_18)) fun t96_18 =>
  wpB (gd t90_18 true (be Try.prog .eql 4 (.tmp 96) (.tmp 99) t96_18 t99_18)) fun t100_18 =>
  wpB (pickv t90_18 (some t100_18) (some (Go.Value.bool false))) fun t101_18 =>
  Q t101_18 w) w) w) w) w) w) w.drew)) ∧
  (wpB (gd t21 true (be Try.prog .eql 29 (.tmp 76) (.const (Go.Value.int Go.IntKind.i64 0)) (gv t21 true t73) (Go.Value.int Go.IntKind.i64 0))) fun t77_19 =>
  wpB (pickv t21 (some t77_19) (some (Go.Value.bool false))) fun t78_19 =>
  gE t78_19 true (effv Try.prog (convert 28 9 (gv t78_19 true t72)) w.drew) (fun t81_19 w =>
  gE t78_19 true (effv Try.prog (convert 28 9 (gv t78_19 true t54)) w) (fun t83_19 w =>
  wpB (gd t78_19 true (be Try.prog .eql 9 (.tmp 81) (.tmp 83) t81_19 t83_19)) fun t84_19 =>
  wpB (pickv t78_19 (some t84_19) (some (Go.Value.bool false))) fun t85_19 =>
  wpB (gd t85_19 true (ldv Try.prog 25 t18 w)) fun t87_19 =>
  wpB (gd t85_19 true (ldv Try.prog 25 t12 w)) fun t88_19 =>
  gE t85_19 true (CallR Try.prog 19 [t87_19, t88_19] w) (fun t89_19 w =>
  wpB (pickv t85_19 (some t89_19) (some (Go.Value.bool false))) fun t90_19 =>
  wpB (gd t90_19 true (ldv Try.prog 25 t13 w)) fun t98_19 =>
  gE t90_19 true (effv Try.prog (convert 28 9 (gv t90_19 true t54)) w) (fun t93_19 w =>
  gE t90_19 true (effv Try.prog (convert 28 9 (gv t90_19 true t59)) w) (fun t95_19 w =>
  wpB (gd t90_19 true (be Try.prog .eql 9 (.tmp 93) (.tmp 95) t93_19 t95_19)) fun t96_19 =>
  wpB (gd t90_19 true (ldv Try.prog 25 t12 w)) fun t97_19 =>
  gE t90_19 true (CallR Try.prog 19 [t97_19, t98_19] w) (fun t99_19 w =>
  wpB (gd t90_19 true (be Try.prog .eql 4 (.tmp 96) (.tmp 99) t96_19 t99_19)) fun t100_19 =>
  wpB (pickv t90_19 (some t100_19) (some (Go.Value.bool false))) fun t101_19 =>
  Q t101_19 w) w) w) w) w) w) w.drew)) ∧
  (wpB (gd t21 true (be Try.prog .eql 29 (.tmp 76) (.const (Go.Value.int Go.IntKind.i64 0)) (gv t21 true t73) (Go.Value.int Go.IntKind.i64 0))) fun t77_20 =>
  wpB (pickv t21 (some t77_20) (some (Go.Value.bool false))) fun t78_20 =>
  gE t78_20 true (effv Try.prog (convert 28 9 (gv t78_20 true t72)) w.drew) (fun t81_20 w =>
  gE t78_20 true (effv Try.prog (convert 28 9 (gv t78_20 true t54)) w) (fun t83_20 w =>
  wpB (gd t78_20 true (be Try.prog .eql 9 (.tmp 81) (.tmp 83) t81_20 t83_20)) fun t84_20 =>
  wpB (pickv t78_20 (some t84_20) (some (Go.Value.bool false))) fun t85_20 =>
  wpB (gd t85_20 true (ldv Try.prog 25 t18 w)) fun t87_20 =>
  wpB (gd t85_20 true (ldv Try.prog 25 t12 w)) fun t88_20 =>
  gE t85_20 true (CallR Try.prog 19 [t87_20, t88_20] w) (fun t89_20 w =>
  wpB (pickv t85_20 (some t89_20) (some (Go.Value.bool false))) fun t90_20 =>
  wpB (gd t90_20 true (ldv Try.prog 25 t13 w)) fun t98_20 =>
  gE t90_20 true (effv Try.prog (convert 28 9 (gv t90_20 true t59)) w) (fun t95_20 w =>
  gE t90_20 true (effv Try.prog (convert 28 9 (gv t90_20 true t54)) w) (fun t93_20 w =>
  wpB (gd t90_20 true (be Try.prog .eql 9 (.tmp 93) (.tmp 95) t93_20 t95_20)) fun t96_20 =>
  wpB (gd t90_20 true (ldv Try.prog 25 t12 w)) fun t97_20 =>
  gE t90_20 true (CallR Try.prog 19 [t97_20, t98_20] w) (fun t99_20 w =>
  wpB (gd t90_20 true (be Try.prog .eql 4 (.tmp 96) (.tmp 99) t96_20 t99_20)) fun t100_20 =>
  wpB (pickv t90_20 (some t100_20) (some (Go.Value.bool false))) fun t101_20 =>
  Q t101_20 w) w) w) w) w) w) w.drew)) ∧
  (wpB (gd t21 true (be Try.prog .eql 29 (.tmp 76) (.const (Go.Value.int Go.IntKind.i64 0)) (gv t21 true t73) (Go.Value.int Go.IntKind.i64 0))) fun t77_21 =>
  wpB (pickv t21 (some t77_21) (some (Go.Value.bool false))) fun t78_21 =>
  gE t78_21 true (effv Try.prog (convert 28 9 (gv t78_21 true t72)) w.drew) (fun t81_21 w =>
  gE t78_21 true (effv Try.prog (convert 28 9 (gv t78_21 true t54)) w) (fun t83_21 w =>
  wpB (gd t78_21 true (be Try.prog .eql 9 (.tmp 81) (.tmp 83) t81_21 t83_21)) fun t84_21 =>
  wpB (pickv t78_21 (some t84_21) (some (Go.Value.bool false))) fun t85_21 =>
  wpB (gd t85_21 true (ldv Try.prog 25 t18 w)) fun t87_21 =>
  wpB (gd t85_21 true (ldv Try.prog 25 t12 w)) fun t88_21 =>
  gE t85_21 true (CallR Try.prog 19 [t87_21, t88_21] w) (fun t89_21 w =>
  wpB (pickv t85_21 (some t89_21) (some (Go.Value.bool false))) fun t90_21 =>
  gE t90_21 true (effv Try.prog (convert 28 9 (gv t90_21 true t59)) w) (fun t95_21 w =>
  wpB (gd t90_21 true (ldv Try.prog 25 t13 w)) fun t98_21 =>
  gE t90_21 true (effv Try.prog (convert 28 9 (gv t90_21 true t54)) w) (fun t93_21 w =>
  wpB (gd t90_21 true (be Try.prog .eql 9 (.tmp 93) (.tmp 95) t93_21 t95_21)) fun t96_21 =>
  wpB (gd t90_21 true (ldv Try.prog 25 t12 w)) fun t97_21 =>
  gE t90_21 true (CallR Try.prog 19 [t97_21, t98_21] w) (fun t99_21 w =>
  wpB (gd t90_21 true (be Try.prog .eql 4 (.tmp 96) (.tmp 99) t96_21 t99_21)) fun t100_21 =>
  wpB (pickv t90_21 (some t100_21) (some (Go.Value.bool false))) fun t101_21 =>
  Q t101_21 w) w) w) w) w) w) w.drew)) ∧
  (((((wpB (gd t21 true (be Try.prog .eql 29 (.tmp 76) (.const (Go.Value.int Go.IntKind.i64 0)) (gv t21 true t73) (Go.Value.int Go.IntKind.i64 0))) fun t77_22 =>
  wpB (pickv t21 (some t77_22) (some (Go.Value.bool false))) fun t78_22 =>
  gE t78_22 true (effv Try.prog (convert 28 9 (gv t78_22 true t72)) w.drew) (fun t81_22 w =>
  gE t78_22 true (effv Try.prog (convert 28 9 (gv t78_22 true t54)) w) (fun t83_22 w =>
  wpB (gd t78_22 true (be Try.prog .eql 9 (.tmp 81) (.tmp 83) t81_22 t83_22)) fun t84_22 =>
  wpB (pickv t78_22 (some t84_22) (some (Go.Value.bool false))) fun t85_22 =>
  wpB (gd t85_22 true (ldv Try.prog 25 t18 w)) fun t87_22 =>
  wpB (gd t85_22 true (ldv Try.prog 25 t12 w)) fun t88_22 =>
  gE t85_22 true (CallR Try.prog 19 [t87_22, t88_22] w) (fun t89_22 w =>
  wpB (pickv t85_22 (some t89_22) (some (Go.Value.bool false))) fun t90_22 =>
  gE t90_22 true (effv Try.prog (convert 28 9 (gv t90_22 true t54)) w) (fun t93_22 w =>
  wpB (gd t90_22 true (ldv Try.prog 25 t12 w)) fun t97_22 =>
  wpB (gd t90_22 true (ldv Try.prog 25 t13 w)) fun t98_22 =>
  gE t90_22 true (effv Try.prog (convert 28 9 (gv t90_22 true t59)) w) (fun t95_22 w =>
  wpB (gd t90_22 true (be Try.prog .eql 9 (.tmp 93) (.tmp 95) t93_22 t95_22)) fun t96_22 =>
  gE t90_22 true (CallR Try.prog 19 [t97_22, t98_22] w) (fun t99_22 w =>
  wpB (gd t90_22 true (be Try.prog .eql 4 (.tmp 96) (.tmp 99) t96_22 t99_22)) fun t100_22 =>
  wpB (pickv t90_22 (some t100_22) (some (Go.Value.bool false))) fun t101_22 =>
  Q t101_22 w) w) w) w) w) w) w.drew) ∧
  (wpB (gd t21 true (be Try.prog .eql 29 (.tmp 76) (.const (Go.Value.int Go.IntKind.i64 0)) (gv t21 true t73) (Go.Value.int Go.IntKind.i64 0))) fun t77_23 =>
  wpB (pickv t21 (some t77_23) (some (Go.Value.bool false))) fun t78_23 =>
  gE t78_23 true (effv Try.prog (convert 28 9 (gv t78_23 true t72)) w.drew) (fun t81_23 w =>
  gE t78_23 true (effv Try.prog (convert 28 9 (gv t78_23 true t54)) w) (fun t83_23 w =>
  wpB (gd t78_23 true (be Try.prog .eql 9 (.tmp 81) (.tmp 83) t81_23 t83_23)) fun t84_23 =>
  wpB (pickv t78_23 (some t84_23) (some (Go.Value.bool false))) fun t85_23 =>
  wpB (gd t85_23 true (ldv Try.prog 25 t18 w)) fun t87_23 =>
  wpB (gd t85_23 true (ldv Try.prog 25 t12 w)) fun t88_23 =>
  gE t85_23 true (CallR Try.prog 19 [t87_23, t88_23] w) (fun t89_23 w =>
  wpB (pickv t85_23 (some t89_23) (some (Go.Value.bool false))) fun t90_23 =>
  gE t90_23 true (effv Try.prog (convert 28 9 (gv t90_23 true t54)) w) (fun t93_23 w =>
  wpB (gd t90_23 true (ldv Try.prog 25 t12 w)) fun t97_23 =>
  wpB (gd t90_23 true (ldv Try.prog 25 t13 w)) fun t98_23 =>
  gE t90_23 true (CallR Try.prog 19 [t97_23, t98_23] w) (fun t99_23 w =>
  gE t90_23 true (effv Try.prog (convert 28 9 (gv t90_23 true t59)) w) (fun t95_23 w =>
  wpB (gd t90_23 true (be Try.prog .eql 9 (.tmp 93) (.tmp 95) t93_23 t95_23)) fun t96_23 =>
  wpB (gd t90_23 true (be Try.prog .eql 4 (.tmp 96) (.tmp 99) t96_23 t99_23)) fun t100_23 =>
  wpB (pickv t90_23 (some t100_23) (some (Go.Value.bool false))) fun t101_23 =>
  Q t101_23 w) w) w) w) w) w) w.drew)) ∧
  (wpB (gd t21 true (be Try.prog .eql 29 (.tmp 76) (.const (Go.Value.int Go.IntKind.i64 0)) (gv t21 true t73) (Go.Value.int Go.IntKind.i64 0))) fun t77_24 =>
  wpB (pickv t21 (some t77_24) (some (Go.Value.bool false))) fun t78_24 =>
  gE t78_24 true (effv Try.prog (convert 28 9 (gv t78_24 true t72)) w.drew) (fun t81_24 w =>
  gE t78_24 true (effv Try.prog (convert 28 9 (gv t78_24 true t54)) w) (fun t83_24 w =>
  wpB (gd t78_24 true (be Try.prog .eql 9 (.tmp 81) (.tmp 83) t81_24 t83_24)) fun t84_24 =>
  wpB (pickv t78_24 (some t84_24) (some (Go.Value.bool false))) fun t85_24 =>
  wpB (gd t85_24 true (ldv Try.prog 25 t18 w)) fun t87_24 =>
  wpB (gd t85_24 true (ldv Try.prog 25 t12 w)) fun t88_24 =>
  gE t85_24 true (CallR Try.prog 19 [t87_24, t88_24] w) (fun t89_24 w =>
  wpB (pickv t85_24 (some t89_24) (some (Go.Value.bool false))) fun t90_24 =>
  gE t90_24 true (effv Try.prog (convert 28 9 (gv t90_24 true t54)) w) (fun t93_24 w =>
  wpB (gd t90_24 true (ldv Try.prog 25 t12 w)) fun t97_24 =>
  gE t90_24 true (effv Try.prog (convert 28 9 (gv t90_24 true t59)) w) (fun t95_24 w =>
  wpB (gd t90_24 true (be Try.prog .eql 9 (.tmp 93) (.tmp 95) t93_24 t95_24)) fun t96_24 =>
  wpB (gd t90_24 true (ldv Try.prog 25 t13 w)) fun t98_24 =>
  gE t90_24 true (CallR Try.prog 19 [t97_24, t98_24] w) (fun t99_24 w =>
  wpB (gd t90_24 true (be Try.prog .eql 4 (.tmp 96) (.tmp 99) t96_24 t99_24)) fun t100_24 =>
  wpB (pickv t90_24 (some t100_24) (some (Go.Value.bool false))) fun t101_24 =>
  Q t101_24 w) w) w) w) w) w) w.drew)) ∧
  ((wpB (gd t21 true (be Try.prog .eql 29 (.tmp 76) (.const (Go.Value.int Go.IntKind.i64 0)) (gv t21 true t73) (Go.Value.int Go.IntKind.i64 0))) fun t77_25 =>
  wpB (pickv t21 (some t77_25) (some (Go.Value.bool false))) fun t78_25 =>
  gE t78_25 true (effv Try.prog (convert 28 9 (gv t78_25 true t72)) w.drew) (fun t81_25 w =>
  gE t78_25 true (effv Try.prog (convert 28 9 (gv t78_25 true t54)) w) (fun t83_25 w =>
  wpB (gd t78_25 true (be Try.prog .eql 9 (.tmp 81) (.tmp 83) t81_25 t83_25)) fun t84_25 =>
  wpB (pickv t78_25 (some t84_25) (some (Go.Value.bool false))) fun t85_25 =>
  wpB (gd t85_25 true (ldv Try.prog 25 t18 w)) fun t87_25 =>
  wpB (gd t85_25 true (ldv Try.prog 25 t12 w)) fun t88_25 =>
  gE t85_25 true (CallR Try.prog 19 [t87_25, t88_25] w) (fun t89_25 w =>
  wpB (pickv t85_25 (some t89_25) (some (Go.Value.bool false))) fun t90_25 =>
  gE t90_25 true (effv Try.prog (convert 28 9 (gv t90_25 true t54)) w) (fun t93_25 w =>
  wpB (gd t90_25 true (ldv Try.prog 25 t13 w)) fun t98_25 =>
  gE t90_25 true (effv Try.prog (convert 28 9 (gv t90_25 true t59)) w) (fun t95_25 w =>
  wpB (gd t90_25 true (be Try.prog .eql 9 (.tmp 93) (.tmp 95) t93_25 t95_25)) fun t96_25 =>
  wpB (gd t90_25 true (ldv Try.prog 25 t12 w)) fun t97_25 =>
  gE t90_25 true (CallR Try.prog 19 [t97_25, t98_25] w) (fun t99_25 w =>
  wpB (gd t90_25 true (be Try.prog .eql 4 (.tmp 96) (.tmp 99) t96_25 t99_25)) fun t100_25 =>
  wpB (pickv t90_25 (some t100_25) (some (Go.Value.bool false))) fun t101_25 =>
  Q t101_25 w) w) w) w) w) w) w.drew) ∧
  (wpB (gd t21 true (be Try.prog .eql 29 (.tmp 76) (.const (Go.Value.int Go.IntKind.i64 0)) (gv t21 true t73) (Go.Value.int Go.IntKind.i64 0))) fun t77_26 =>
  wpB (pickv t21 (some t77_26) (some (Go.Value.bool false))) fun t78_26 =>
  gE t78_26 true (effv Try.prog (convert 28 9 (gv t78_26 true t72)) w.drew) (fun t81_26 w =>
  gE t78_26 true (effv Try.prog (convert 28 9 (gv t78_26 true t54)) w) (fun t83_26 w =>
  wpB (gd t78_26 true (be Try.prog .eql 9 (.tmp 81) (.tmp 83) t81_26 t83_26)) fun t84_26 =>
  wpB (pickv t78_26 (some t84_26) (some (Go.Value.bool false))) fun t85_26 =>
  wpB (gd t85_26 true (ldv Try.prog 25 t18 w)) fun t87_26 =>
  wpB (gd t85_26 true (ldv Try.prog 25 t12 w)) fun t88_26 =>
  gE t85_26 true (CallR Try.prog 19 [t87_26, t88_26] w) (fun t89_26 w =>
  wpB (pickv t85_26 (some t89_26) (some (Go.Value.bool false))) fun t90_26 =>
  gE t90_26 true (effv Try.prog (convert 28 9 (gv t90_26 true t54)) w) (fun t93_26 w =>
  gE t90_26 true (effv Try.prog (convert 28 9 (gv t90_26 true t59)) w) (fun t95_26 w =>
  wpB (gd t90_26 true (be Try.prog .eql 9 (.tmp 93) (.tmp 95) t93_26 t95_26)) fun t96_26 =>
  wpB (gd t90_26 true (ldv Try.prog 25 t12 w)) fun t97_26 =>
  wpB (gd t90_26 true (ldv Try.prog 25 t13 w)) fun t98_26 =>
  gE t90_26 true (CallR Try.prog 19 [t97_26, t98_26] w) (fun t99_26 w =>
  wpB (gd t90_26 true (be Try.prog .eql 4 (.tmp 96) (.tmp 99) t96_26 t99_26)) fun t100_26 =>
  wpB (pickv t90_26 (some t100_26) (some (Go.Value.bool false))) fun t101_26 =>
  Q t101_26 w) w) w) w) w) w) w.drew))) ∧
  (wpB (gd t21 true (be Try.prog .eql 29 (.tmp 76) (.const (Go.Value.int Go.IntKind.i64 0)) (gv t21 true t73) (Go.Value.int Go.IntKind.i64 0))) fun t77_27 =>
  wpB (pickv t21 (some t77_27) (some (Go.Value.bool false))) fun t78_27 =>
  gE t78_27 true (effv Try.prog (convert 28 9 (gv t78_27 true t72)) w.drew) (fun t81_27 w =>
  gE t78_27 true (effv Try.prog (convert 28 9 (gv t78_27 true t54)) w) (fun t83_27 w =>
  wpB (gd t78_27 true (be Try.prog .eql 9 (.tmp 81) (.tmp 83) t81_27 t83_27)) fun t84_27 =>
  wpB (pickv t78_27 (some t84_27) (some (Go.Value.bool false))) fun t85_27 =>
  wpB (gd t85_27 true (ldv Try.prog 25 t18 w)) fun t87_27 =>
  wpB (gd t85_27 true (ldv Try.prog 25 t12 w)) fun t88_27 =>
  gE t85_27 true (CallR Try.prog 19 [t87_27, t88_27] w) (fun t89_27 w =>
  wpB (pickv t85_27 (some t89_27) (some (Go.Value.bool false))) fun t90_27 =>
  gE t90_27 true (effv Try.prog (convert 28 9 (gv t90_27 true t59)) w) (fun t95_27 w =>
  gE t90_27 true (effv Try.prog (convert 28 9 (gv t90_27 true t54)) w) (fun t93_27 w =>
  wpB (gd t90_27 true (be Try.prog .eql 9 (.tmp 93) (.tmp 95) t93_27 t95_27)) fun t96_27 =>
  wpB (gd t90_27 true (ldv Try.prog 25 t12 w)) fun t97_27 =>
  wpB (gd t90_27 true (ldv Try.prog 25 t13 w)) fun t98_27 =>
  gE t90_27 true (CallR Try.prog 19 [t97_27, t98_27] w) (fun t99_27 w =>
  wpB (gd t90_27 true (be Try.prog .eql 4 (.tmp 96) (.tmp 99) t96_27 t99_27)) fun t100_27 =>
  wpB (pickv t90_27 (some t100_27) (some (Go.Value.bool false))) fun t101_27 =>
  Q t101_27 w) w) w) w) w) w) w.drew)))) ∧
  ((((((((wpB (gd t21 true (be Try.prog .eql 29 (.tmp 76) (.const (Go.Value.int Go.IntKind.i64 0)) (gv t21 true t73) (Go.Value.int Go.IntKind.i64 0))) fun t77_28 =>
  wpB (pickv t21 (some t77_28) (some (Go.Value.bool false))) fun t78_28 =>
  gE t78_28 true (effv Try.prog (convert 28 9 (gv t78_28 true t54)) w.drew) (fun t83_28 w =>
  gE t78_28 true (effv Try.prog (convert 28 9 (gv t78_28 true t72)) w) (fun t81_28 w =>
  wpB (gd t78_28 true (be Try.prog .eql 9 (.tmp 81) (.tmp 83) t81_28 t83_28)) fun t84_28 =>
  wpB (pickv t78_28 (some t84_28) (some (Go.Value.bool false))) fun t85_28 =>
  wpB (gd t85_28 true (ldv Try.prog 25 t18 w)) fun t87_28 =>
  wpB (gd t85_28 true (ldv Try.prog 25 t12 w)) fun t88_28 =>
  gE t85_28 true (CallR Try.prog 19 [t87_28, t88_28] w) (fun t89_28 w =>
  wpB (pickv t85_28 (some t89_28) (some (Go.Value.bool false))) fun t90_28 =>
  wpB (gd t90_28 true (ldv Try.prog 25 t12 w)) fun t97_28 =>
  wpB (gd t90_28 true (ldv Try.prog 25 t13 w)) fun t98_28 =>
  gE t90_28 true (effv Try.prog (convert 28 9 (gv t90_28 true t54)) w) (fun t93_28 w =>
  gE t90_28 true (effv Try.prog (convert 28 9 (gv t90_28 true t59)) w) (fun t95_28 w =>
  wpB (gd t90_28 true (be Try.prog .eql 9 (.tmp 93) (.tmp 95) t93_28 t95_28)) fun t96_28 =>
  gE t90_28 true (CallR Try.prog 19 [t97_28, t98_28] w) (fun t99_28 w =>
  wpB (gd t90_28 true (be Try.prog .eql 4 (.tmp 96) (.tmp 99) t96_28 t99_28)) fun t100_28 =>
  wpB (pickv t90_28 (some t100_28) (some (Go.Value.bool false))) fun t101_28 =>
  Q t101_28 w) w) w) w) w) w) w.drew) ∧
  (wpB (gd t21 true (be Try.prog .eql 29 (.tmp 76) (.const (Go.Value.int Go.IntKind.i64 0)) (gv t21 true t73) (Go.Value.int Go.IntKind.i64 0))) fun t77_29 =>
  wpB (pickv t21 (some t77_29) (some (Go.Value.bool false))) fun t78_29 =>
  gE t78_29 true (effv Try.prog (convert 28 9 (gv t78_29 true t54)) w.drew) (fun t83_29 w =>
  gE t78_29 true (effv Try.prog (convert 28 9 (gv t78_29 true t72)) w) (fun t81_29 w =>
  wpB (gd t78_29 true (be Try.prog .eql 9 (.tmp 81) (.tmp 83) t81_29 t83_29)) fun t84_29 =>
  wpB (pickv t78_29 (some t84_29) (some (Go.Value.bool false))) fun t85_29 =>
  wpB (gd t85_29 true (ldv Try.prog 25 t18 w)) fun t87_29 =>
  wpB (gd t85_29 true (ldv Try.prog 25 t12 w)) fun t88_29 =>
  gE t85_29 true (CallR Try.prog 19 [t87_29, t88_29] w) (fun t89_29 w =>
  wpB (pickv t85_29 (some t89_29) (some (Go.Value.bool false))) fun t90_29 =>
  wpB (gd t90_29 true (ldv Try.prog 25 t12 w)) fun t97_29 =>
  wpB (gd t90_29 true (ldv Try.prog 25 t13 w)) fun t98_29 =>
  gE t90_29 true (effv Try.prog (convert 28 9 (gv t90_29 true t54)) w) (fun t93_29 w =>
  gE t90_29 true (CallR Try.prog 19 [t97_29, t98_29] w) (fun t99_29 w =>
  gE t90_29 true (effv Try.prog (convert 28 9 (gv t90_29 true t59)) w) (fun t95_29 w =>
  wpB (gd t90_29 true (be Try.prog .eql 9 (.tmp 93) (.tmp 95) t93_29 t95_29)) fun t96_29 =>
  wpB (gd t90_29 true (be Try.prog .eql 4 (.tmp 96) (.tmp 99) t96_29 t99_29)) fun t100_29 =>
  wpB (pickv t90_29 (some t100_29) (some (Go.Value.bool false))) fun t101_29 =>
  Q t101_29 w) w) w) w) w) w) w.drew)) ∧
  (wpB (gd t21 true (be Try.prog .eql 29 (.tmp 76) (.const (Go.Value.int Go.IntKind.i64 0)) (gv t21 true t73) (Go.Value.int Go.IntKind.i64 0))) fun t77_30 =>
  wpB (pickv t21 (some t77_30) (some (Go.Value.bool false))) fun t78_30 =>
  gE t78_30 true (effv Try.prog (convert 28 9 (gv t78_30 true t54)) w.drew) (fun t83_30 w =>
  gE t78_30 true (effv Try.prog (convert 28 9 (gv t78_30 true t72)) w) (fun t81_30 w =>
  wpB (gd t78_30 true (be Try.prog .eql 9 (.tmp 81) (.tmp 83) t81_30 t83_30)) fun t84_30 =>
  wpB (pickv t78_30 (some t84_30) (some (Go.Value.bool false))) fun t85_30 =>
  wpB (gd t85_30 true (ldv Try.prog 25 t18 w)) fun t87_30 =>
  wpB (gd t85_30 true (ldv Try.prog 25 t12 w)) fun t88_30 =>
  gE t85_30 true (CallR Try.prog 19 [t87_30, t88_30] w) (fun t89_30 w =>
  wpB (pickv t85_30 (some t89_30) (some (Go.Value.bool false))) fun t90_30 =>
  wpB (gd t90_30 true (ldv Try.prog 25 t12 w)) fun t97_30 =>
  wpB (gd t90_30 true (ldv Try.prog 25 t13 w)) fun t98_30 =>
  gE t90_30 true (CallR Try.prog 19 [t97_30, t98_30] w) (fun t99_30 w =>
  gE t90_30 true (effv Try.prog (convert 28 9 (gv t90_30 true t54)) w) (fun t93_30 w =>
  gE t90_30 true (effv Try.prog (convert 28 9 (gv t90_30 true t59)) w) (fun t95_30 w =>
  wpB (gd t90_30 true (be Try.prog .eql 9 (.tmp 93) (.tmp 95) t93_30 t95_30)) fun t96_30 =>
  wpB (gd t90_30 true (be Try.prog .eql 4 (.tmp 96) (.tmp 99) t96_30 t99_30)) fun t100_30 =>
  wpB (pickv t90_30 (some t100_30) (some (Go.Value.bool false))) fun t101_30 =>
  Q t101_30 w) w) w) w) w) w) w.drew)) ∧
  (((wpB (gd t21 true (be Try.prog .eql 29 (.tmp 76) (.const (Go.Value.int Go.IntKind.i64 0)) (gv t21 true t73) (Go.Value.int Go.IntKind.i64 0))) fun t77_31 =>
  wpB (pickv t21 (some t77_31) (some (Go.Value.bool false))) fun t78_31 =>
  gE t78_31 true (effv Try.prog (convert 28 9 (gv t78_31 true t54)) w.drew) (fun t83_31 w =>
  gE t78_31 true (effv Try.prog (convert 28 9 (gv t78_31 true t72)) w) (fun t81_31 w =>
  wpB (gd t78_31 true (be Try.prog .eql 9 (.tmp 81) (.tmp 83) t81_31 t83_31)) fun t84_31 =>
  wpB (pickv t78_31 (some t84_31) (some (Go.Value.bool false))) fun t85_31 =>
  wpB (gd t85_31 true (ldv Try.prog 25 t18 w)) fun t87_31 =>
  wpB (gd t85_31 true (ldv Try.prog 25 t12 w)) fun t88_31 =>
  gE t85_31 true (CallR Try.prog 19 [t87_31, t88_31] w) (fun t89_31 w =>
  wpB (pickv t85_31 (some t89_31) (some (Go.Value.bool false))) fun t90_31 =>
  wpB (gd t90_31 true (ldv Try.prog 25 t12 w)) fun t97_31 =>
  wpB (gd t90_31 true (ldv Try.prog 25 t13 w)) fun t98_31 =>
  gE t90_31 true (effv Try.prog (convert 28 9 (gv t90_31 true t59)) w) (fun t95_31 w =>
  gE t90_31 true (effv Try.prog (convert 28 9 (gv t90_31 true t54)) w) (fun t93_31 w =>
  wpB (gd t90_31 true (be Try.prog .eql 9 (.tmp 93) (.tmp 95) t93_31 t95_31)) fun t96_31 =>
  gE t90_31 true (CallR Try.prog 19 [t97_31, t98_31] w) (fun t99_31 w =>
  wpB (gd t90_31 true (be Try.prog .eql 4 (.tmp 96) (.tmp 99) t96_31 t99_31)) fun t100_31 =>
  wpB (pickv t90_31 (some t100_31) (some (Go.Value.bool false))) fun t101_31 =>
  Q t101_31 w) w) w) w) w) w) w.drew) ∧
  (wpB (gd t21 true (be Try.prog .eql 29 (.tmp 76) (.const (Go.Value.int Go.IntKind.i64 0)) (gv t21 true t73) (Go.Value.int Go.IntKind.i64 0))) fun t77_32 =>
  wpB (pickv t21 (some t77_32) (some (Go.Value.bool false))) fun t78_32 =>
  gE t78_32 true (effv Try.prog (convert 28 9 (gv t78_32 true t54)) w.drew) (fun t83_32 w =>
  gE t78_32 true (effv Try.prog (convert 28 9 (gv t78_32 true t72)) w) (fun t81_32 w =>
  wpB (gd t78_32 true (be Try.prog .eql 9 (.tmp 81) (.tmp 83) t81_32 t83_32)) fun t84_32 =>
  wpB (pickv t78_32 (some t84_32) (some (Go.Value.bool false))) fun t85_32 =>
  wpB (gd t85_32 true (ldv Try.prog 25 t18 w)) fun t87_32 =>
  wpB (gd t85_32 true (ldv Try.prog 25 t12 w)) fun t88_32 =>
  gE t85_32 true (CallR Try.prog 19 [t87_32, t88_32] w) (fun t89_32 w =>
  wpB (pickv t85_32 (some t89_32) (some (Go.Value.bool false))) fun t90_32 =>
  wpB (gd t90_32 true (ldv Try.prog 25 t12 w)) fun t97_32 =>
  wpB (gd t90_32 true (ldv Try.prog 25 t13 w)) fun t98_32 =>
  gE t90_32 true (effv Try.prog (convert 28 9 (gv t90_32 true t59)) w) (fun t95_32 w =>
  gE t90_32 true (CallR Try.prog 19 [t97_32, t98_32] w) (fun t99_32 w =>
  gE t90_32 true (effv Try.prog (convert 28 9 (gv t90_32 true t54)) w) (fun t93_32 w =>
  wpB (gd t90_32 true (be Try.prog .eql 9 (.tmp 93) (.tmp 95) t93_32 t95_32)) fun t96_32 =>
  wpB (gd t90_32 true (be Try.prog .eql 4 (.tmp 96) (.tmp 99) t96_32 t99_32)) fun t100_32 =>
  wpB (pickv t90_32 (some t100_32) (some (Go.Value.bool false))) fun t101_32 =>
  Q t101_32 w) w) w) w) w) w) w.drew)) ∧
  (wpB (gd t21 true (be Try.prog .eql 29 (.tmp 76) (.const (Go.Value.int Go.IntKind.i64 0)) (gv t21 true t73) (Go.Value.int Go.IntKind.i64 0))) fun t77_33 =>
  wpB (pickv t21 (some t77_33) (some (Go.Value.bool false))) fun t78_33 =>
  gE t78_33 true (effv Try.prog (convert 28 9 (gv t78_33 true t54)) w.drew) (fun t83_33 w =>
  gE t78_33 true (effv Try.prog (convert 28 9 (gv t78_33 true t72)) w) (fun t81_33 w =>
  wpB (gd t78_33 true (be Try.prog .eql 9 (.tmp 81) (.tmp 83) t81_33 t83_33)) fun t84_33 =>
  wpB (pickv t78_33 (some t84_33) (some (Go.Value.bool false))) fun t85_33 =>
  wpB (gd t85_33 true (ldv Try.prog 25 t18 w)) fun t87_33 =>
  wpB (gd t85_33 true (ldv Try.prog 25 t12 w)) fun t88_33 =>
  gE t85_33 true (CallR Try.prog 19 [t87_33, t88_33] w) (fun t89_33 w =>
  wpB (pickv t85_33 (some t89_33) (some (Go.Value.bool false))) fun t90_33 =>
  wpB (gd t90_33 true (ldv Try.prog 25 t12 w)) fun t97_33 =>
  wpB (gd t90_33 true (ldv Try.prog 25 t13 w)) fun t98_33 =>
  gE t90_33 true (CallR Try.prog 19 [t97_33, t98_33] w) (fun t99_33 w =>
  gE t90_33 true (effv Try.prog (convert 28 9 (gv t90_33 true t59)) w) (fun t95_33 w =>
  gE t90_33 true (effv Try.prog (convert 28 9 (gv t90_33 true t54)) w) (fun t93_33 w =>
  wpB (gd t90_33 true (be Try.prog .eql 9 (.tmp 93) (.tmp 95) t93_33 t95_33)) fun t96_33 =>
  wpB (gd t90_33 true (be Try.prog .eql 4 (.tmp 96) (.tmp 99) t96_33 t99_33)) fun t100_33 =>
  wpB (pickv t90_33 (some t100_33) (some (Go.Value.bool false))) fun t101_33 =>
  Q t101_33 w) w) w) w) w) w) w.drew))) ∧
  ((wpB (gd t21 true (be Try.prog .eql 29 (.tmp 76) (.const (Go.Value.int Go.IntKind.i64 0)) (gv t21 true t73) (Go.Value.int Go.IntKind.i64 0))) fun t77_34 =>
  wpB (pickv t21 (some t77_34) (some (Go.Value.bool false))) fun t78_34 =>
  gE t78_34 true (effv Try.prog (convert 28 9 (gv t78_34 true t54)) w.drew) (fun t83_34 w =>
  gE t78_34 true (effv Try.prog (convert 28 9 (gv t78_34 true t72)) w) (fun t81_34 w =>
  wpB (gd t78_34 true (be Try.prog .eql 9 (.tmp 81) (.tmp 83) t81_34 t83_34)) fun t84_34 =>
  wpB (pickv t78_34 (some t84_34) (some (Go.Value.bool false))) fun t85_34 =>
  wpB (gd t85_34 true (ldv Try.prog 25 t18 w)) fun t87_34 =>
  wpB (gd t85_34 true (ldv Try.prog 25 t12 w)) fun t88_34 =>
  gE t85_34 true (CallR Try.prog 19 [t87_34, t88_34] w) (fun t89_34 w =>
  wpB (pickv t85_34 (some t89_34) (some (Go.Value.bool false))) fun t90_34 =>
  wpB (gd t90_34 true (ldv Try.prog 25 t12 w)) fun t97_34 =>
  gE t90_34 true (effv Try.prog (convert 28 9 (gv t90_34 true t59)) w) (fun t95_34 w =>
  wpB (gd t90_34 true (ldv Try.prog 25 t13 w)) fun t98_34 =>
  gE t90_34 true (effv Try.prog (convert 28 9 (gv t90_34 true t54)) w) (fun t93_34 w =>
  wpB (gd t90_34 true (be Try.prog .eql 9 (.tmp 93) (.tmp 95) t93_34 t95_34)) fun t96_34 =>
  gE t90_34 true (CallR Try.prog 19 [t97_34, t98_34] w) (fun t99_34 w =>
  wpB (gd t90_34 true (be Try.prog .eql 4 (.tmp 96) (.tmp 99) t96_34 t99_34)) fun t100_34 =>
  wpB (pickv t90_34 (some t100_34) (some (Go.Value.bool false))) fun t101_34 =>
  Q t101_34 w) w) w) w) w) w) w.drew) ∧
  (wpB (gd t21 true (be Try.prog .eql 29 (.tmp 76) (.const (Go.Value.int Go.IntKind.i64 0)) (gv t21 true t73) (Go.Value.int Go.IntKind.i64 0))) fun t77_35 =>
  wpB (pickv t21 (some t77_35) (some (Go.Value.bool false))) fun t78_35 =>
  gE t78_35 true (effv Try.prog (convert 28 9 (gv t78_35 true t54)) w.drew) (fun t83_35 w =>
  gE t78_35 true (effv Try.prog (convert 28 9 (gv t78_35 true t72)) w) (fun t81_35 w =>
  wpB (gd t78_35 true (be Try.prog .eql 9 (.tmp 81) (.tmp 83) t81_35 t83_35)) fun t84_35 =>
  wpB (pickv t78_35 (some t84_35) (some (Go.Value.bool false))) fun t85_35 =>
  wpB (gd t85_35 true (ldv Try.prog 25 t18 w)) fun t87_35 =>
  wpB (gd t85_35 true (ldv Try.prog 25 t12 w)) fun t88_35 =>
  gE t85_35 true (CallR Try.prog 19 [t87_35, t88_35] w) (fun t89_35 w =>
  wpB (pickv t85_35 (some t89_35) (some (Go.Value.bool false))) fun t90_35 =>
  wpB (gd t90_35 true (ldv Try.prog 25 t12 w)) fun t97_35 =>
  gE t90_35 true (effv Try.prog (convert 28 9 (gv t90_35 true t59)) w) (fun t95_35 w =>
  wpB (gd t90_35 true (ldv Try.prog 25 t13 w)) fun t98_35 =>
  gE t90_35 true (CallR Try.prog 19 [t97_35, t98_35] w) (fun t99_35 w =>
  gE t90_35 true (effv Try.prog (convert 28 9 (gv t90_35 true t54)) w) (fun t93_35 w =>
  wpB (gd t90_35 true (be Try.prog .eql 9 (.tmp 93) (.tmp 95) t93_35 t95_35)) fun t96_35 =>
  wpB (gd t90_35 true (be Try.prog .eql 4 (.tmp 96) (.tmp 99) t96_35 t99_35)) fun t100_35 =>
  wpB (pickv t90_35 (some t100_35) (some (Go.Value.bool false))) fun t101_35 =>
  Q t101_35 w) w) w) w) w) w) w.drew))) ∧
  ((((wpB (gd t21 true (be Try.prog .eql 29 (.tmp 76) (.const (Go.Value.int Go.IntKind.i64 0)) (gv t21 true t73) (Go.Value.int Go.IntKind.i64 0))) fun t77_36 =>
  wpB (pickv t21 (some t77_36) (some (Go.Value.bool false))) fun t78_36 =>
  gE t78_36 true (effv Try.prog (convert 28 9 (gv t78_36 true t54)) w.drew) (fun t83_36 w =>
  gE t78_36 true (effv Try.prog (convert 28 9 (gv t78_36 true t72)) w) (fun t81_36 w =>
  wpB (gd t78_36 true (be Try.prog .eql 9 (.tmp 81) (.tmp 83) t81_36 t83_36)) fun t84_36 =>
  wpB (pickv t78_36 (some t84_36) (some (Go.Value.bool false))) fun t85_36 =>
  wpB (gd t85_36 true (ldv Try.prog 25 t18 w)) fun t87_36 =>
  wpB (gd t85_36 true (ldv Try.prog 25 t12 w)) fun t88_36 =>
  gE t85_36 true (CallR Try.prog 19 [t87_36, t88_36] w) (fun t89_36 w =>
  wpB (pickv t85_36 (some t89_36) (some (Go.Value.bool false))) fun t90_36 =>
  wpB (gd t90_36 true (ldv Try.prog 25 t12 w)) fun t97_36 =>
  gE t90_36 true (effv Try.prog (convert 28 9 (gv t90_36 true t54)) w) (fun t93_36 w =>
  wpB (gd t90_36 true (ldv Try.prog 25 t13 w)) fun t98_36 =>
  gE t90_36 true (effv Try.prog (convert 28 9 (gv t90_36 true t59)) w) (fun t95_36 w =>
  wpB (gd t90_36 true (be Try.prog .eql 9 (.tmp 93) (.tmp 95) t93_36 t95_36)) fun t96_36 =>
  gE t90_36 true (CallR Try.prog 19 [t97_36, t98_36] w) (fun t99_36 w =>
  wpB (gd t90_36 true (be Try.prog .eql 4 (.tmp 96) (.tmp 99) t96_36 t99_36)) fun t100_36 =>
  wpB (pickv t90_36 (some t100_36) (some (Go.Value.bool false))) fun t101_36 =>
  Q t101_36 w) w) w) w) w) w) w.drew) ∧
  (wpB (gd t21 true (be Try.prog .eql 29 (.tmp 76) (.const (Go.Value.int Go.IntKind.i64 0)) (gv t21 true t73) (Go.Value.int Go.IntKind.i64 0))) fun t77_37 =>
  wpB (pickv t21 (some t77_37) (some (Go.Value.bool false))) fun t78_37 =>
  gE t78_37 true (effv Try.prog (convert 28 9 (gv t78_37 true t54)) w.drew) (fun t83_37 w =>
  gE t78_37 true (effv Try.prog (convert 28 9 (gv t78_37 true t72)) w) (fun t81_37 w =>
  wpB (gd t78_37 true (be Try.prog .eql 9 (.tmp 81) (.tmp 83) t81_37 t83_37)) fun t84_37 =>
  wpB (pickv t78_37 (some t84_37) (some (Go.Value.bool false))) fun t85_37 =>
  wpB (gd t85_37 true (ldv Try.prog 25 t18 w)) fun t87_37 =>
  wpB (gd t85_37 true (ldv Try.prog 25 t12 w)) fun t88_37 =>
  gE t85_37 true (CallR Try.prog 19 [t87_37, t88_37] w) (fun t89_37 w =>
  wpB (pickv t85_37 (some t89_37) (some (Go.Value.bool false))) fun t90_37 =>
  wpB (gd t90_37 true (ldv Try.prog 25 t12 w)) fun t97_37 =>
  gE t90_37 true (effv Try.prog (convert 28 9 (gv t90_37 true t54)) w) (fun t93_37 w =>
  wpB (gd t90_37 true (ldv Try.prog 25 t13 w)) fun t98_37 =>
  gE t90_37 true (CallR Try.prog 19 [t97_37, t98_37] w) (fun t99_37 w =>
  gE t90_37 true (effv Try.prog (convert 28 9 (gv t90_37 true t59)) w) (fun t95_37 w =>
  wpB (gd t90_37 true (be Try.prog .eql 9 (.tmp 93) (.tmp 95) t93_37 t95_37)) fun t96_37 =>
  wpB (gd t90_37 true (be Try.prog .eql 4 (.tmp 96) (.tmp 99) t96_37 t99_37)) fun t100_37 =>
  wpB (pickv t90_37 (some t100_37) (some (Go.Value.bool false))) fun t101_37 =>
  Q t101_37 w) w) w) w) w) w) w.drew)) ∧
  (wpB (gd t21 true (be Try.prog .eql 29 (.tmp 76) (.const (Go.Value.int Go.IntKind.i64 0)) (gv t21 true t73) (Go.Value.int Go.IntKind.i64 0))) fun t77_38 =>
  wpB (pickv t21 (some t77_38) (some (Go.Value.bool false))) fun t78_38 =>
  gE t78_38 true (effv Try.prog (convert 28 9 (gv t78_38 true t54)) w.drew) (fun t83_38 w =>
  gE t78_38 true (effv Try.prog (convert 28 9 (gv t78_38 true t72)) w) (fun t81_38 w =>
  wpB (gd t78_38 true (be Try.prog .eql 9 (.tmp 81) (.tmp 83) t81_38 t83_38)) fun t84_38 =>
  wpB (pickv t78_38 (some t84_38) (some (Go.Value.bool false))) fun t85_38 =>
  wpB (gd t85_38 true (ldv Try.prog 25 t18 w)) fun t87_38 =>
  wpB (gd t85_38 true (ldv Try.prog 25 t12 w)) fun t88_38 =>
  gE t85_38 true (CallR Try.prog 19 [t87_38, t88_38] w) (fun t89_38 w =>
  wpB (pickv t85_38 (some t89_38) (some (Go.Value.bool false))) fun t90_38 =>
  wpB (gd t90_38 true (ldv Try.prog 25 t12 w)) fun t97_38 =>
  gE t90_38 true (effv Try.prog (convert 28 9 (gv t90_38 true t54)) w) (fun t93_38 w =>
  gE t90_38 true (effv Try.prog (convert 28 9 (gv t90_38 true t59)) w) (fun t95_38 w =>
  wpB (gd t90_38 true (be Try.prog .eql 9 (.tmp 93) (.tmp 95) t93_38 t95_38)) fun t96_38 =>
  wpB (gd t90_38 true (ldv Try.prog 25 t13 w)) fun t98_38 =>
  gE t90_38 true (CallR Try.prog 19 [t97_38, t98_38] w) (fun t99_38 w =>
  wpB (gd t90_38 true (be Try.prog .eql 4 (.tmp 96) (.tmp 99) t96_38 t99_38)) fun t100_38 =>
  wpB (pickv t90_38 (some t100_38) (some (Go.Value.bool false))) fun t101_38 =>
  Q t101_38 w) w) w) w) w) w) w.drew)) ∧
  (wpB (gd t21 true (be Try.prog .eql 29 (.tmp 76) (.const (Go.Value.int Go.IntKind.i64 0)) (gv t21 true t73) (Go.Value.int Go.IntKind.i64 0))) fun t77_39 =>
  wpB (pickv t21 (some t77_39) (some (Go.Value.bool false))) fun t78_39 =>
  gE t78_39 true (effv Try.prog (convert 28 9 (gv t78_39 true t54)) w.drew) (fun t83_39 w =>
  gE t78_39 true (effv Try.prog (convert 28 9 (gv t78_39 true t72)) w) (fun t81_39 w =>
  wpB (gd t78_39 true (be Try.prog .eql 9 (.tmp 81) (.tmp 83) t81_39 t83_39)) fun t84_39 =>
  wpB (pickv t78_39 (some t84_39) (some (Go.Value.bool false))) fun t85_39 =>
  wpB (gd t85_39 true (ldv Try.prog 25 t18 w)) fun t87_39 =>
  wpB (gd t85_39 true (ldv Try.prog 25 t12 w)) fun t88_39 =>
  gE t85_39 true (CallR Try.prog 19 [t87_39, t88_39] w) (fun t89_39 w =>
  wpB (pickv t85_39 (some t89_39) (some (Go.Value.bool false))) fun t90_39 =>
  wpB (gd t90_39 true (ldv Try.prog 25 t12 w)) fun t97_39 =>
  gE t90_39 true (effv Try.prog (convert 28 9 (gv t90_39 true t59)) w) (fun t95_39 w =>
  gE t90_39 true (effv Try.prog (convert 28 9 (gv t90_39 true t54)) w) (fun t93_39 w =>
  wpB (gd t90_39 true (be Try.prog .eql 9 (.tmp 93) (.tmp 95) t93_39 t95_39)) fun t96_39 =>
  wpB (gd t90_39 true (ldv Try.prog 25 t13 w)) fun t98_39 =>
  gE t90_39 true (CallR Try.prog 19 [t97_39, t98_39] w) (fun t99_39 w =>
  wpB (gd t90_39 true (be Try.prog .eql 4 (.tmp 96) (.tmp 99) t96_39 t99_39)) fun t100_39 =>
  wpB (pickv t90_39 (some t100_39) (some (Go.Value.bool false))) fun t101_39 =>
  Q t101_39 w) w) w) w) w) w) w.drew))) ∧
  (((wpB (gd t21 true (be Try.prog .eql 29 (.tmp 76) (.const (Go.Value.int Go.IntKind.i64 0)) (gv t21 true t73) (Go.Value.int Go.IntKind.i64 0))) fun t77_40 =>
  wpB (pickv t21 (some t77_40) (some (Go.Value.bool false))) fun t78_40 =>
  gE t78_40 true (effv Try.prog (convert 28 9 (gv t78_40 true t54)) w.drew) (fun t83_40 w =>
  gE t78_40 true (effv Try.prog (convert 28 9 (gv t78_40 true t72)) w) (fun t81_40 w =>
  wpB (gd t78_40 true (be Try.prog .eql 9 (.tmp 81) (.tmp 83) t81_40 t83_40)) fun t84_40 =>
  wpB (pickv t78_40 (some t84_40) (some (Go.Value.bool false))) fun t85_40 =>
  wpB (gd t85_40 true (ldv Try.prog 25 t18 w)) fun t87_40 =>
  wpB (gd t85_40 true (ldv Try.prog 25 t12 w)) fun t88_40 =>
  gE t85_40 true (CallR Try.prog 19 [t87_40, t88_40] w) (fun t89_40 w =>
  wpB (pickv t85_40 (some t89_40) (some (Go.Value.bool false))) fun t90_40 =>
  wpB (gd t90_40 true (ldv Try.prog 25 t13 w)) fun t98_40 =>
  gE t90_40 true (effv Try.prog (convert 28 9 (gv t90_40 true t59)) w) (fun t95_40 w =>
  wpB (gd t90_40 true (ldv Try.prog 25 t12 w)) fun t97_40 =>
  gE t90_40 true (effv Try.prog (convert 28 9 (gv t90_40 true t54)) w) (fun t93_40 w =>
  wpB (gd t90_40 true (be Try.prog .eql 9 (.tmp 93) (.tmp 95) t93_40 t95_40)) fun t96_40 =>
  gE t90_40 true (CallR Try.prog 19 [t97_40, t98_40] w) (fun t99_40 w =>
  wpB (gd t90_40 true (be Try.prog .eql 4 (.tmp 96) (.tmp 99) t96_40 t99_40)) fun t100_40 =>
  wpB (pickv t90_40 (some t100_40) (some (Go.Value.bool false))) fun t101_40 =>
  Q t101_40 w) w) w) w) w) w) w.drew) ∧
  (wpB (gd t21 true (be Try.prog .eql 29 (.tmp 76) (.const (Go.Value.int Go.IntKind.i64 0)) (gv t21 true t73) (Go.Value.int Go.IntKind.i64 0))) fun t77_41 =>
  wpB (pickv t21 (some t77_41) (some (Go.Value.bool false))) fun t78_41 =>
  gE t78_41 true (effv Try.prog (convert 28 9 (gv t78_41 true t54)) w.drew) (fun t83_41 w =>
  gE t78_41 true (effv Try.prog (convert 28 9 (gv t78_41 true t72)) w) (fun t81_41 w =>
  wpB (gd t78_41 true (be Try.prog .eql 9 (.tmp 81) (.tmp 83) t81_41 t83_41)) fun t84_41 =>
  wpB (pickv t78_41 (some t84_41) (some (Go.Value.bool false))) fun t85_41 =>
  wpB (gd t85_41 true (ldv Try.prog 25 t18 w)) fun t87_41 =>
  wpB (gd t85_41 true (ldv Try.prog 25 t12 w)) fun t88_41 =>
  gE t85_41 true (CallR Try.prog 19 [t87_41, t88_41] w) (fun t89_41 w =>
  wpB (pickv t85_41 (some t89_41) (some (Go.Value.bool false))) fun t90_41 =>
  wpB (gd t90_41 true (ldv Try.prog 25 t13 w)) fun t98_41 =>
  gE t90_41 true (effv Try.prog (convert 28 9 (gv t90_41 true t59)) w) (fun t95_41 w =>
  wpB (gd t90_41 true (ldv Try.prog 25 t12 w)) fun t97_41 =>
  gE t90_41 true (CallR Try.prog 19 [t97_41, t98_41] w) (fun t99_41 w =>
  gE t90_41 true (effv Try.prog (convert 28 9 (gv t90_41 true t54)) w) (fun t93_41 w =>
  wpB (gd t90_41 true (be Try.prog .eql 9 (.tmp 93) (.tmp 95) t93_41 t95_41)) fun t96_41 =>
  wpB (gd t90_41 true (be Try.prog .eql 4 (.tmp 96) (.tmp 99) t96_41 t99_41)) fun t100_41 =>
  wpB (pickv t90_41 (some t100_41) (some (Go.Value.bool false))) fun t101_41 =>
  Q t101_41 w) w) w) w) w) w) w.drew)) ∧
  (((wpB (gd t21 true (be Try.prog .eql 29 (.tmp 76) (.const (Go.Value.int Go.IntKind.i64 0)) (gv t21 true t73) (Go.Value.int Go.IntKind.i64 0))) fun t77_42 =>
  wpB (pickv t21 (some t77_42) (some (Go.Value.bool false))) fun t78_42 =>
  gE t78_42 true (effv Try.prog (convert 28 9 (gv t78_42 true t54)) w.drew) (fun t83_42 w =>
  gE t78_42 true (effv Try.prog (convert 28 9 (gv t78_42 true t72)) w) (fun t81_42 w =>
  wpB (gd t78_42 true (be Try.prog .eql 9 (.tmp 81) (.tmp 83) t81_42 t83_42)) fun t84_42 =>
  wpB (pickv t78_42 (some t84_42) (some (Go.Value.bool false))) fun t85_42 =>
  wpB (gd t85_42 true (ldv Try.prog 25 t18 w)) fun t87_42 =>
  wpB (gd t85_42 true (ldv Try.prog 25 t12 w)) fun t88_42 =>
  gE t85_42 true (CallR Try.prog 19 [t87_42, t88_42] w) (fun t89_42 w =>
  wpB (pickv t85_42 (some t89_42) (some (Go.Value.bool false))) fun t90_42 =>
  gE t90_42 true (effv Try.prog (convert 28 9 (gv t90_42 true t59)) w) (fun t95_42 w =>
  wpB (gd t90_42 true (ldv Try.prog 25 t12 w)) fun t97_42 =>
  wpB (gd t90_42 true (ldv Try.prog 25 t13 w)) fun t98_42 =>
  gE t90_42 true (effv Try.prog (convert 28 9 (gv t90_42 true t54)) w) (fun t93_42 w =>
  wpB (gd t90_42 true (be Try.prog .eql 9 (.tmp 93) (.tmp 95) t93_42 t95_42)) fun t96_42 =>
  gE t90_42 true (CallR Try.prog 19 [t97_42, t98_42] w) (fun t99_42 w =>
  wpB (gd t90_42 true (be Try.prog .eql 4 (.tmp 96) (.tmp 99) t96_42 t99_42)) fun t100_42 =>
  wpB (pickv t90_42 (some t100_42) (some (Go.Value.bool false))) fun t101_42 =>
  Q t101_42 w) w) w) w) w) w) w.drew) ∧
  (wpB (gd t21 true (be Try.prog .eql 29 (.tmp 76) (.const (Go.Value.int Go.IntKind.i64 0)) (gv t21 true t73) (Go.Value.int Go.IntKind.i64 0))) fun t77_43 =>
  wpB (pickv t21 (some t77_43) (some (Go.Value.bool false))) fun t78_43 =>
  gE t78_43 true (effv Try.prog (convert 28 9 (gv t78_43 true t54)) w.drew) (fun t83_43 w =>
  gE t78_43 true (effv Try.prog (convert 28 9 (gv t78_43 true t72)) w) (fun t81_43 w =>
  wpB (gd t78_43 true (be Try.prog .eql 9 (.tmp 81) (.tmp 83) t81_43 t83_43)) fun t84_43 =>
  wpB (pickv t78_43 (some t84_43) (some (Go.Value.bool false))) fun t85_43 =>
  wpB (gd t85_43 true (ldv Try.prog 25 t18 w)) fun t87_43 =>
  wpB (gd t85_43 true (ldv Try.prog 25 t12 w)) fun t88_43 =>
  gE t85_43 true (CallR Try.prog 19 [t87_43, t88_43] w) (fun t89_43 w =>
  wpB (pickv t85_43 (some t89_43) (some (Go.Value.bool false))) fun t90_43 =>
  gE t90_43 true (effv Try.prog (convert 28 9 (gv t90_43 true t59)) w) (fun t95_43 w =>
  wpB (gd t90_43 true (ldv Try.prog 25 t12 w)) fun t97_43 =>
  wpB (gd t90_43 true (ldv Try.prog 25 t13 w)) fun t98_43 =>
  gE t90_43 true (CallR Try.prog 19 [t97_43, t98_43] w) (fun t99_43 w =>
  gE t90_43 true (effv Try.prog (convert 28 9 (gv t90_43 true t54)) w) (fun t93_43 w =>
  wpB (gd t90_43 true (be Try.prog .eql 9 (.tmp 93) (.tmp 95) t93_43 t95_43)) fun t96_43 =>
  wpB (gd t90_43 true (be Try.prog .eql 4 (.tmp 96) (.tmp 99) t96_43 t99_43)) fun t100_43 =>
  wpB (pickv t90_43 (some t100_43) (some (Go.Value.bool false))) fun t101_43 =>
  Q t101_43 w) w) w) w) w) w) w.drew)) ∧
  (wpB (gd t21 true (be Try.prog .eql 29 (.tmp 76) (.const (Go.Value.int Go.IntKind.i64 0)) (gv t21 true t73) (Go.Value.int Go.IntKind.i64 0))) fun t77_44 =>
  wpB (pickv t21 (some t77_44) (some (Go.Value.bool false))) fun t78_44 =>
  gE t78_44 true (effv Try.prog (convert 28 9 (gv t78_44 true t54)) w.drew) (fun t83_44 w =>
  gE t78_44 true (effv Try.prog (convert 28 9 (gv t78_44 true t72)) w) (fun t81_44 w =>
  wpB (gd t78_44 true (be Try.prog .eql 9 (.tmp 81) (.tmp 83) t81_44 t83_44)) fun t84_44 =>
  wpB (pickv t78_44 (some t84_44) (some (Go.Value.bool false))) fun t85_44 =>
  wpB (gd t85_44 true (ldv Try.prog 25 t18 w)) fun t87_44 =>
  wpB (gd t85_44 true (ldv Try.prog 25 t12 w)) fun t88_44 =>
  gE t85_44 true (CallR Try.prog 19 [t87_44, t88_44] w) (fun t89_44 w =>
  wpB (pickv t85_44 (some t89_44) (some (Go.Value.bool false))) fun t90_44 =>
  gE t90_44 true (effv Try.prog (convert 28 9 (gv t90_44 true t59)) w) (fun t95_44 w =>
  wpB (gd t90_44 true (ldv Try.prog 25 t12 w)) fun t97_44 =>
  gE t90_44 true (effv Try.prog (convert 28 9 (gv t90_44 true t54)) w) (fun t93_44 w =>
  wpB (gd t90_44 true (be Try.prog .eql 9 (.tmp 93) (.tmp 95) t93_44 t95_44)) fun t96_44 =>
  wpB (gd t90_44 true (ldv Try.prog 25 t13 w)) fun t98_44 =>
  gE t90_44 true (CallR Try.prog 19 [t97_44, t98_44] w) (fun t99_44 w =>
  wpB (gd t90_44 true (be Try.prog .eql 4 (.tmp 96) (.tmp 99) t96_44 t99_44)) fun t100_44 =>
  wpB (pickv t90_44 (some t100_44) (some (Go.Value.bool false))) fun t101_44 =>
  Q t101_44 w) w) w) w) w) w) w.drew)))) ∧
  ((((((wpB (gd t21 true (be Try.prog .eql 29 (.tmp 76) (.const (Go.Value.int Go.IntKind.i64 0)) (gv t21 true t73) (Go.Value.int Go.IntKind.i64 0))) fun t77_45 =>
  wpB (pickv t21 (some t77_45) (some (Go.Value.bool false))) fun t78_45 =>
  gE t78_45 true (effv Try.prog (convert 28 9 (gv t78_45 true t54)) w.drew) (fun t83_45 w =>
  gE t78_45 true (effv Try.prog (convert 28 9 (gv t78_45 true t72)) w) (fun t81_45 w =>
  wpB (gd t78_45 true (be Try.prog .eql 9 (.tmp 81) (.tmp 83) t81_45 t83_45)) fun t84_45 =>
  wpB (pickv t78_45 (some t84_45) (some (Go.Value.bool false))) fun t85_45 =>
  wpB (gd t85_45 true (ldv Try.prog 25 t18 w)) fun t87_45 =>
  wpB (gd t85_45 true (ldv Try.prog 25 t12 w)) fun t88_45 =>
  gE t85_45 true (CallR Try.prog 19 [t87_45, t88_45] w) (fun t89_45 w =>
  wpB (pickv t85_45 (some t89_45) (some (Go.Value.bool false))) fun t90_45 =>
  wpB (gd t90_45 true (ldv Try.prog 25 t13 w)) fun t98_45 =>
  gE t90_45 true (effv Try.prog (convert 28 9 (gv t90_45 true t54)) w) (fun t93_45 w =>
  wpB (gd t90_45 true (ldv Try.prog 25 t12 w)) fun t97_45 =>
  gE t90_45 true (effv Try.prog (convert 28 9 (gv t90_45 true t59)) w) (fun t95_45 w =>
  wpB (gd t90_45 true (be Try.prog .eql 9 (.tmp 93) (.tmp 95) t93_45 t95_45)) fun t96_45 =>
  gE t90_45 true (CallR Try.prog 19 [t97_45, t98_45] w) (fun t99_45 w =>
  wpB (gd t90_45 true (be Try.prog .eql 4 (.tmp 96) (.tmp 99) t96_45 t99_45)) fun t100_45 =>
  wpB (pickv t90_45 (some t100_45) (some (Go.Value.bool false))) fun t101_45 =>
  Q t101_45 w) w) w) w) w) w) w.drew) ∧
  (wpB (gd t21 true (be Try.prog .eql 29 (.tmp 76) (.const (Go.Value.int Go.IntKind.i64 0)) (gv t21 true t73) (Go.Value.int Go.IntKind.i64 0))) fun t77_46 =>
  wpB (pickv t21 (some t77_46) (some (Go.Value.bool false))) fun t78_46 =>
  gE t78_46 true (effv Try.prog (convert 28 9 (gv t78_46 true t54)) w.drew) (fun t83_46 w =>
  gE t78_46 true (effv Try.prog (convert 28 9 (gv t78_46 true t72)) w) (fun t81_46 w =>
  wpB (gd t78_46 true (be Try.prog .eql 9 (.tmp 81) (.tmp 83) t81_46 t83_46)) fun t84_46 =>
  wpB (pickv t78_46 (some t84_46) (some (Go.Value.bool false))) fun t85_46 =>
  wpB (gd t85_46 true (ldv Try.prog 25 t18 w)) fun t87_46 =>
  wpB (gd t85_46 true (ldv Try.prog 25 t12 w)) fun t88_46 =>
  gE t85_46 true (CallR Try.prog 19 [t87_46, t88_46] w) (fun t89_46 w =>
  wpB (pickv t85_46 (some t89_46) (some (Go.Value.bool false))) fun t90_46 =>
  wpB (gd t90_46 true (ldv Try.prog 25 t13 w)) fun t98_46 =>
  gE t90_46 true (effv Try.prog (convert 28 9 (gv t90_46 true t54)) w) (fun t93_46 w =>
  wpB (gd t90_46 true (ldv Try.prog 25 t12 w)) fun t97_46 =>
  gE t90_46 true (CallR Try.prog 19 [t97_46, t98_46] w) (fun t99_46 w =>
  gE t90_46 true (effv Try.prog (convert 28 9 (gv t90_46 true t59)) w) (fun t95_46 w =>
  wpB (gd t90_46 true (be Try.prog .eql 9 (.tmp 93) (.tmp 95) t93_46 t95_46)) fun t96_46 =>
  wpB (gd t90_46 true (be Try.prog .eql 4 (.tmp 96) (.tmp 99) t96_46 t99_46)) fun t100_46 =>
  wpB (pickv t90_46 (some t100_46) (some (Go.Value.bool false))) fun t101_46 =>
  Q t101_46 w) w) w) w) w) w) w.drew)) ∧
  (wpB (gd t21 true (be Try.prog .eql 29 (.tmp 76) (.const (Go.Value.int Go.IntKind.i64 0)) (gv t21 true t73) (Go.Value.int Go.IntKind.i64 0))) fun t77_47 =>
  wpB (pickv t21 (some t77_47) (some (Go.Value.bool false))) fun t78_47 =>
  gE t78_47 true (effv Try.prog (convert 28 9 (gv t78_47 true t54)) w.drew) (fun t83_47 w =>
  gE t78_47 true (effv Try.prog (convert 28 9 (gv t78_47 true t72)) w) (fun t81_47 w =>
  wpB (gd t78_47 true (be Try.prog .eql 9 (.tmp 81) (.tmp 83) t81_47 t83_47)) fun t84_47 =>
  wpB (pickv t78_47 (some t84_47) (some (Go.Value.bool false))) fun t85_47 =>
  wpB (gd t85_47 true (ldv Try.prog 25 t18 w)) fun t87_47 =>
  wpB (gd t85_47 true (ldv Try.prog 25 t12 w)) fun t88_47 =>
  gE t85_47 true (CallR Try.prog 19 [t87_47, t88_47] w) (fun t89_47 w =>
  wpB (pickv t85_47 (some t89_47) (some (Go.Value.bool false))) fun t90_47 =>
  wpB (gd t90_47 true (ldv Try.prog 25 t13 w)) fun t98_47 =>
  gE t90_47 true (effv Try.prog (convert 28 9 (gv t90_47 true t54)) w) (fun t93_47 w =>
  gE t90_47 true (effv Try.prog (convert 28 9 (gv t90_47 true t59)) w) (fun t95_47 w =>
  wpB (gd t90_47 true (be Try.prog .eql 9 (.tmp 93) (.tmp 95) t93_47 t95_47)) fun t96_47 =>
  wpB (gd t90_47 true (ldv Try.prog 25 t12 w)) fun t97_47 =>
  gE t90_47 true (CallR Try.prog 19 [t97_47, t98_47] w) (fun t99_47 w =>
  wpB (gd t90_47 true (be Try.prog .eql 4 (.tmp 96) (.tmp 99) t96_47 t99_47)) fun t100_47 =>
  wpB (pickv t90_47 (some t100_47) (some (Go.Value.bool false))) fun t101_47 =>
  Q t101_47 w) w) w) w) w) w) w.drew)) ∧
  (wpB (gd t21 true (be Try.prog .eql 29 (.tmp 76) (.const (Go.Value.int Go.IntKind.i64 0)) (gv t21 true t73) (Go.Value.int Go.IntKind.i64 0))) fun t77_48 =>
  wpB (pickv t21 (some t77_48) (some (Go.Value.bool false))) fun t78_48 =>
  gE t78_48 true (effv Try.prog (convert 28 9 (gv t78_48 true t54)) w.drew) (fun t83_48 w =>
  gE t78_48 true (effv Try.prog (convert 28 9 (gv t78_48 true t72)) w) (fun t81_48 w =>
  wpB (gd t78_48 true (be Try.prog .eql 9 (.tmp 81) (.tmp 83) t81_48 t83_48)) fun t84_48 =>
  wpB (pickv t78_48 (some t84_48) (some (Go.Value.bool false))) fun t85_48 =>
  wpB (gd t85_48 true (ldv Try.prog 25 t18 w)) fun t87_48 =>
  wpB (gd t85_48 true (ldv Try.prog 25 t12 w)) fun t88_48 =>
  gE t85_48 true (CallR Try.prog 19 [t87_48, t88_48] w) (fun t89_48 w =>
  wpB (pickv t85_48 (some t89_48) (some (Go.Value.bool false))) fun t90_48 =>
  wpB (gd t90_48 true (ldv Try.prog 25 t13 w)) fun t98_48 =>
  gE t90_48 true (effv Try.prog (convert 28 9 (gv t90_48 true t59)) w) (fun t95_48 w =>
  gE t90_48 true (effv Try.prog (convert 28 9 (gv t90_48 true t54)) w) (fun t93_48 w =>
  wpB (gd t90_48 true (be Try.prog .eql 9 (.tmp 93) (.tmp 95) t93_48 t95_48)) fun t96_48 =>
  wpB (gd t90_48 true (ldv Try.prog 25 t12 w)) fun t97_48 =>
  gE t90_48 true (CallR Try.prog 19 [t97_48, t98_48] w) (fun t99_48 w =>
  wpB (gd t90_48 true (be Try.prog .eql 4 (.tmp 96) (.tmp 99) t96_48 t99_48)) fun t100_48 =>
  wpB (pickv t90_48 (some t100_48) (some (Go.Value.bool false))) fun t101_48 =>
  Q t101_48 w) w) w) w) w) w) w.drew)) ∧
  (wpB (gd t21 true (be Try.prog .eql 29 (.tmp 76) (.const (Go.Value.int Go.IntKind.i64 0)) (gv t21 true t73) (Go.Value.int Go.IntKind.i64 0))) fun t77_49 =>
  wpB (pickv t21 (some t77_49) (some (Go.Value.bool false))) fun t78_49 =>
  gE t78_49 true (effv Try.prog (convert 28 9 (gv t78_49 true t54)) w.drew) (fun t83_49 w =>
  gE t78_49 true (effv Try.prog (convert 28 9 (gv t78_49 true t72)) w) (fun t81_49 w =>
  wpB (gd t78_49 true (be Try.prog .eql 9 (.tmp 81) (.tmp 83) t81_49 t83_49)) fun t84_49 =>
  wpB (pickv t78_49 (some t84_49) (some (Go.Value.bool false))) fun t85_49 =>
  wpB (gd t85_49 true (ldv Try.prog 25 t18 w)) fun t87_49 =>
  wpB (gd t85_49 true (ldv Try.prog 25 t12 w)) fun t88_49 =>
  gE t85_49 true (CallR Try.prog 19 [t87_49, t88_49] w) (fun t89_49 w =>
  wpB (pickv t85_49 (some t89_49) (some (Go.Value.bool false))) fun t90_49 =>
  gE t90_49 true (effv Try.prog (convert 28 9 (gv t90_49 true t59)) w) (fun t95_49 w =>
  wpB (gd t90_49 true (ldv Try.prog 25 t13 w)) fun t98_49 =>
  gE t90_49 true (effv Try.prog (convert 28 9 (gv t90_49 true t54)) w) (fun t93_49 w =>
  wpB (gd t90_49 true (be Try.prog .eql 9 (.tmp 93) (.tmp 95) t93_49 t95_49)) fun t96_49 =>
  wpB (gd t90_49 true (ldv Try.prog 25 t12 w)) fun t97_49 =>
  gE t90_49 true (CallR Try.prog 19 [t97_49, t98_49] w) (fun t99_49 w =>
  wpB (gd t90_49 true (be Try.prog .eql 4 (.tmp 96) (.tmp 99) t96_49 t99_49)) fun t100_49 =>
  wpB (pickv t90_49 (some t100_49) (some (Go.Value.bool false))) fun t101_49 =>
  Q t101_49 w) w) w) w) w) w) w.drew)) ∧
  (((((wpB (gd t21 true (be Try.prog .eql 29 (.tmp 76) (.const (Go.Value.int Go.IntKind.i64 0)) (gv t21 true t73) (Go.Value.int Go.IntKind.i64 0))) fun t77_50 =>
  wpB (pickv t21 (some t77_50) (some (Go.Value.bool false))) fun t78_50 =>
  gE t78_50 true (effv Try.prog (convert 28 9 (gv t78_50 true t54)) w.drew) (fun t83_50 w =>
  gE t78_50 true (effv Try.prog (convert 28 9 (gv t78_50 true t72)) w) (fun t81_50 w =>
  wpB (gd t78_50 true (be Try.prog .eql 9 (.tmp 81) (.tmp 83) t81_50 t83_50)) fun t84_50 =>
  wpB (pickv t78_50 (some t84_50) (some (Go.Value.bool false))) fun t85_50 =>
  wpB (gd t85_50 true (ldv Try.prog 25 t18 w)) fun t87_50 =>
  wpB (gd t85_50 true (ldv Try.prog 25 t12 w)) fun t88_50 =>
  gE t85_50 true (CallR Try.prog 19 [t87_50, t88_50] w) (fun t89_50 w =>
  wpB (pickv t85_50 (some t89_50) (some (Go.Value.bool false))) fun t90_50 =>
  gE t90_50 true (effv Try.prog (convert 28 9 (gv t90_50 true t54)) w) (fun t93_50 w =>
  wpB (gd t90_50 true (ldv Try.prog 25 t12 w)) fun t97_50 =>
  wpB (gd t90_50 true (ldv Try.prog 25 t13 w)) fun t98_50 =>
  gE t90_50 true (effv Try.prog (convert 28 9 (gv t90_50 true t59)) w) (fun t95_50 w =>
  wpB (gd t90_50 true (be Try.prog .eql 9 (.tmp 93) (.tmp 95) t93_50 t95_50)) fun t96_50 =>
  gE t90_50 true (CallR Try.prog 19 [t97_50, t98_50] w) (fun t99_50 w =>
  wpB (gd t90_50 true (be Try.prog .eql 4 (.tmp 96) (.tmp 99) t96_50 t99_50)) fun t100_50 =>
  wpB (pickv t90_50 (some t100_50) (some (Go.Value.bool false))) fun t101_50 =>
  Q t101_50 w) w) w) w) w) w) w.drew) ∧
  (wpB (gd t21 true (be Try.prog .eql 29 (.tmp 76) (.const (Go.Value.int Go.IntKind.i64 0)) (gv t21 true t73) (Go.Value.int Go.IntKind.i64 0))) fun t77_51 =>
  wpB (pickv t21 (some t77_51) (some (Go.Value.bool false))) fun t78_51 =>
  gE t78_51 true (effv Try.prog (convert 28 9 (gv t78_51 true t54)) w.drew) (fun t83_51 w =>
  gE t78_51 true (effv Try.prog (convert 28 9 (gv t78_51 true t72)) w) (fun t81_51 w =>
  wpB (gd t78_51 true (be Try.prog .eql 9 (.tmp 81) (.tmp 83) t81_51 t83_51)) fun t84_51 =>
  wpB (pickv t78_51 (some t84_51) (some (Go.Value.bool false))) fun t85_51 =>
  wpB (gd t85_51 true (ldv Try.prog 25 t18 w)) fun t87_51 =>
  wpB (gd t85_51 true (ldv Try.prog 25 t12 w)) fun t88_51 =>
  gE t85_51 true (CallR Try.prog 19 [t87_51, t88_51] w) (fun t89_51 w =>
  wpB (pickv t85_51 (some t89_51) (some (Go.Value.bool false))) fun t90_51 =>
  gE t90_51 true (effv Try.prog (convert 28 9 (gv t90_51 true t54)) w) (fun t93_51 w =>
  wpB (gd t90_51 true (ldv Try.prog 25 t12 w)) fun t97_51 =>
  wpB (gd t90_51 true (ldv Try.prog 25 t13 w)) fun t98_51 =>
  gE t90_51 true (CallR Try.prog 19 [t97_51, t98_51] w) (fun t99_51 w =>
  gE t90_51 true (effv Try.prog (convert 28 9 (gv t90_51 true t59)) w) (fun t95_51 w =>
  wpB (gd t90_51 true (be Try.prog .eql 9 (.tmp 93) (.tmp 95) t93_51 t95_51)) fun t96_51 =>
  wpB (gd t90_51 true (be Try.prog .eql 4 (.tmp 96) (.tmp 99) t96_51 t99_51)) fun t100_51 =>
  wpB (pickv t90_51 (some t100_51) (some (Go.Value.bool false))) fun t101_51 =>
  Q t101_51 w) w) w) w) w) w) w.drew)) ∧
  (wpB (gd t21 true (be Try.prog .eql 29 (.tmp 76) (.const (Go.Value.int Go.IntKind.i64 0)) (gv t21 true t73) (Go.Value.int Go.IntKind.i64 0))) fun t77_52 =>
  wpB (pickv t21 (some t77_52) (some (Go.Value.bool false))) fun t78_52 =>
  gE t78_52 true (effv Try.prog (convert 28 9 (gv t78_52 true t54)) w.drew) (fun t83_52 w =>
  gE t78_52 true (effv Try.prog (convert 28 9 (gv t78_52 true t72)) w) (fun t81_52 w =>
  wpB (gd t78_52 true (be Try.prog .eql 9 (.tmp 81) (.tmp 83) t81_52 t83_52)) fun t84_52 =>
  wpB (pickv t78_52 (some t84_52) (some (Go.Value.bool false))) fun t85_52 =>
  wpB (gd t85_52 true (ldv Try.prog 25 t18 w)) fun t87_52 =>
  wpB (gd t85_52 true (ldv Try.prog 25 t12 w)) fun t88_52 =>
  gE t85_52 true (CallR Try.prog 19 [t87_52, t88_52] w) (fun t89_52 w =>
  wpB (pickv t85_52 (some t89_52) (some (Go.Value.bool false))) fun t90_52 =>
  gE t90_52 true (effv Try.prog (convert 28 9 (gv t90_52 true t54)) w) (fun t93_52 w =>
  wpB (gd t90_52 true (ldv Try.prog 25 t12 w)) fun t97_52 =>
  gE t90_52 true (effv Try.prog (convert 28 9 (gv t90_52 true t59)) w) (fun t95_52 w =>
  wpB (gd t90_52 true (be Try.prog .eql 9 (.tmp 93) (.tmp 95) t93_52 t95_52)) fun t96_52 =>
  wpB (gd t90_52 true (ldv Try.prog 25 t13 w)) fun t98_52 =>
  gE t90_52 true (CallR Try.prog 19 [t97_52, t98_52] w) (fun t99_52 w =>
  wpB (gd t90_52 true (be Try.prog .eql 4 (.tmp 96) (.tmp 99) t96_52 t99_52)) fun t100_52 =>
  wpB (pickv t90_52 (some t100_52) (some (Go.Value.bool false))) fun t101_52 =>
  Q t101_52 w) w) w) w) w) w) w.drew)) ∧
  ((wpB (gd t21 true (be Try.prog .eql 29 (.tmp 76) (.const (Go.Value.int Go.IntKind.i64 0)) (gv t21 true t73) (Go.Value.int Go.IntKind.i64 0))) fun t77_53 =>
  wpB (pickv t21 (some t77_53) (some (Go.Value.bool false))) fun t78_53 =>
  gE t78_53 true (effv Try.prog (convert 28 9 (gv t78_53 true t54)) w.drew) (fun t83_53 w =>
  gE t78_53 true (effv Try.prog (convert 28 9 (gv t78_53 true t72)) w) (fun t81_53 w =>
  wpB (gd t78_53 true (be Try.prog .eql 9 (.tmp 81) (.tmp 83) t81_53 t83_53)) fun t84_53 =>
  wpB (pickv t78_53 (some t84_53) (some (Go.Value.bool false))) fun t85_53 =>
  wpB (gd t85_53 true (ldv Try.prog 25 t18 w)) fun t87_53 =>
  wpB (gd t85_53 true (ldv Try.prog 25 t12 w)) fun t88_53 =>
  gE t85_53 true (CallR Try.prog 19 [t87_53, t88_53] w) (fun t89_53 w =>
  wpB (pickv t85_53 (some t89_53) (some (Go.Value.bool false))) fun t90_53 =>
  gE t90_53 true (effv Try.prog (convert 28 9 (gv t90_53 true t54)) w) (fun t93_53 w =>
  wpB (gd t90_53 true (ldv Try.prog 25 t13 w)) fun t98_53 =>
  gE t90_53 true (effv Try.prog (convert 28 9 (gv t90_53 true t59)) w) (fun t95_53 w =>
  wpB (gd t90_53 true (be Try.prog .eql 9 (.tmp 93) (.tmp 95) t93_53 t95_53)) fun t96_53 =>
  wpB (gd t90_53 true (ldv Try.prog 25 t12 w)) fun t97_53 =>
  gE t90_53 true (CallR Try.prog 19 [t97_53, t98_53] w) (fun t99_53 w =>
  wpB (gd t90_53 true (be Try.prog .eql 4 (.tmp 96) (.tmp 99) t96_53 t99_53)) fun t100_53 =>
  wpB (pickv t90_53 (some t100_53) (some (Go.Value.bool false))) fun t101_53 =>
  Q t101_53 w) w) w) w) w) w) w.drew) ∧
  (wpB (gd t21 true (be Try.prog .eql 29 (.tmp 76) (.const (Go.Value.int Go.IntKind.i64 0)) (gv t21 true t73) (Go.Value.int Go.IntKind.i64 0))) fun t77_54 =>
  wpB (pickv t21 (some t77_54) (some (Go.Value.bool false))) fun t78_54 =>
  gE t78_54 true (effv Try.prog (convert 28 9 (gv t78_54 true t54)) w.drew) (fun t83_54 w =>
  gE t78_54 true (effv Try.prog (convert 28 9 (gv t78_54 true t72)) w) (fun t81_54 w =>
  wpB (gd t78_54 true (be Try.prog .eql 9 (.tmp 81) (.tmp 83) t81_54 t83_54)) fun t84_54 =>
  wpB (pickv t78_54 (some t84_54) (some (Go.Value.bool false))) fun t85_54 =>
  wpB (gd t85_54 true (ldv Try.prog 25 t18 w)) fun t87_54 =>
  wpB (gd t85_54 true (ldv Try.prog 25 t12 w)) fun t88_54 =>
  gE t85_54 true (CallR Try.prog 19 [t87_54, t88_54] w) (fun t89_54 w =>
  wpB (pickv t85_54 (some t89_54) (some (Go.Value.bool false))) fun t90_54 =>
  gE t90_54 true (effv Try.prog (convert 28 9 (gv t90_54 true t54)) w) (fun t93_54 w =>
  gE t90_54 true (effv Try.prog (convert 28 9 (gv t90_54 true t59)) w) (fun t95_54 w =>
  wpB (gd t90_54 true (be Try.prog .eql 9 (.tmp 93) (.tmp 95) t93_54 t95_54)) fun t96_54 =>
  wpB (gd t90_54 true (ldv Try.prog 25 t12 w)) fun t97_54 =>
  wpB (gd t90_54 true (ldv Try.prog 25 t13 w)) fun t98_54 =>
  gE t90_54 true (CallR Try.prog 19 [t97_54, t98_54] w) (fun t99_54 w =>
  wpB (gd t90_54 true (be Try.prog .eql 4 (.tmp 96) (.tmp 99) t96_54 t99_54)) fun t100_54 =>
  wpB (pickv t90_54 (some t100_54) (some (Go.Value.bool false))) fun t101_54 =>
  Q t101_54 w) w) w) w) w) w) w.drew))) ∧
  (wpB (gd t21 true (be Try.prog .eql 29 (.tmp 76) (.const (Go.Value.int Go.IntKind.i64 0)) (gv t21 true t73) (Go.Value.int Go.IntKind.i64 0))) fun t77_55 =>
  wpB (pickv t21 (some t77_55) (some (Go.Value.bool false))) fun t78_55 =>
  gE t78_55 true (effv Try.prog (convert 28 9 (gv t78_55 true t54)) w.drew) (fun t83_55 w =>
  gE t78_55 true (effv Try.prog (convert 28 9 (gv t78_55 true t72)) w) (fun t81_55 w =>
  wpB (gd t78_55 true (be Try.prog .eql 9 (.tmp 81) (.tmp 83) t81_55 t83_55)) fun t84_55 =>
  wpB (pickv t78_55 (some t84_55) (some (Go.Value.bool false))) fun t85_55 =>
  wpB (gd t85_55 true (ldv Try.prog 25 t18 w)) fun t87_55 =>
  wpB (gd t85_55 true (ldv Try.prog 25 t12 w)) fun t88_55 =>
  gE t85_55 true (CallR Try.prog 19 [t87_55, t88_55] w) (fun t89_55 w =>
  wpB (pickv t85_55 (some t89_55) (some (Go.Value.bool false))) fun t90_55 =>
  gE t90_55 true (effv Try.prog (convert 28 9 (gv t90_55 true t59)) w) (fun t95_55 w =>
  gE t90_55 true (effv Try.prog (convert 28 9 (gv t90_55 true t54)) w) (fun t93_55 w =>
  wpB (gd t90_55 true (be Try.prog .eql 9 (.tmp 93) (.tmp 95) t93_55 t95_55)) fun t96_55 =>
  wpB (gd t90_55 true (ldv Try.prog 25 t12 w)) fun t97_55 =>
  wpB (gd t90_55 true (ldv Try.prog 25 t13 w)) fun t98_55 =>
  gE t90_55 true (CallR Try.prog 19 [t97_55, t98_55] w) (fun t99_55 w =>
  wpB (gd t90_55 true (be Try.prog .eql 4 (.tmp 96) (.tmp 99) t96_55 t99_55)) fun t100_55 =>
  wpB (pickv t90_55 (some t100_55) (some (Go.Value.bool false))) fun t101_55 =>
  Q t101_55 w) w) w) w) w) w) w.drew)))))))
noncomputable def C5 : Code := (Try.f5.body).getD .skip
noncomputable def T5_0 : List It := [.lp (nav [1, 1, 1, 1, 1, 1, 1, 1, 1, 1, 1, 1, 0, 1, 4, 5] C5), .blk 0, .jn (nav [1, 1, 1, 1, 1, 1, 1, 1, 1, 1, 1, 1, 1] C5)]
/-- rundale/rundalelaw20.ScriptCuts, from a loop's head on -/
def P5_0 (x7 x8 x9 x11 x12 x13 x14 : Value) (w : World) (Q : Value → World → Prop) : Prop := Part Try.prog 5 T5_0 [7, 8, 9, 11, 12, 13, 14] [x7, x8, x9, x11, x12, x13, x14] w Q
def F5 (a0 a1 a2 : Value) (w : World) (Q : Value → World → Prop) : Prop :=
  CallR Try.prog 14 [] w fun t17 w =>
  wpB (pureRun Try.prog (Op.unary .not t17)) fun t19 =>
  cnd t19
  (Q (Go.Value.bool false) w)
  (wpB (pureRun Try.prog (Builtin.len_ #[23] 3 #[a0])) fun t21 =>
  wpB (bp Try.prog .gtr 3 t21 (Go.Value.int Go.IntKind.i64 200)) fun t22 =>
  wpB (gd t22 false (pureRun Try.prog (Builtin.len_ #[23] 3 #[(gv t22 false a1)]))) fun t25 =>
  wpB (gd t22 false (bp Try.prog .gtr 3 t25 (Go.Value.int Go.IntKind.i64 200))) fun t26 =>
  wpB (pickv t22 (some (Go.Value.bool true)) (some t26)) fun t27 =>
  cnd t27
  (Q t17 w)
  (CallR Try.prog 21 [a0, a1, (Go.Value.int Go.IntKind.i64 3)] w fun t31 w =>
  effv Try.prog (Instr.alloc 25 true (.tuple #[])) w fun t8 w =>
  effu Try.prog (Instr.storeAt 25 t8 t31) w fun w =>
  wpB (ldv Try.prog 25 t8 w) fun t33 =>
  CallR Try.prog 15 [t33] w fun t34 w =>
  wpB (pureRun Try.prog (Instr.extract t34 0)) fun t35 =>
  wpB (pureRun Try.prog (Instr.extract t34 1)) fun t36 =>
  wpB (be Try.prog .neq 29 (.tmp 37) (.const (Go.Value.int Go.IntKind.i64 0)) t36 (Go.Value.int Go.IntKind.i64 0)) fun t38 =>
  cnd t38
  (Q (Go.Value.bool false) w)
  (wpB (pureRun Try.prog (Builtin.len_ #[28] 3 #[t35])) fun t41 =>
  wpB (bp Try.prog .add 3 t41 (Go.Value.int Go.IntKind.i64 1)) fun t42 =>
  CallR Try.prog 22 [a2, t42] w fun t43 w =>
  wpB (pureRun Try.prog (Instr.sliceAt 28 t35 none (some t43) none)) fun t46 =>
  CallR Try.prog 20 [t46] w fun t47 w =>
  effv Try.prog (Instr.alloc 25 true (.tuple #[])) w fun t12 w =>
  effu Try.prog (Instr.storeAt 25 t12 t47) w fun w =>
  wpB (be Try.prog .eql 3 (.tmp 48) (.const (Go.Value.int Go.IntKind.i64 0)) t43 (Go.Value.int Go.IntKind.i64 0)) fun t49 =>
  cnd t49
  (wpB (gd t17 true (pureRun Try.prog (Instr.fieldAt 25 t12 0))) fun t52 =>
  wpB (gd t17 true (ldv Try.prog 22 t52 w)) fun t53 =>
  wpB (gd t17 true (pureRun Try.prog (Builtin.len_ #[22] 3 #[t53]))) fun t54 =>
  wpB (gd t17 true (be Try.prog .eql 3 (.tmp 54) (.const (Go.Value.int Go.IntKind.i64 0)) t54 (Go.Value.int Go.IntKind.i64 0))) fun t55 =>
  wpB (pickv t17 (some t55) (some (Go.Value.bool false))) fun t56 =>
  wpB (gd t56 true (pureRun Try.prog (Instr.fieldAt 25 t12 1))) fun t58 =>
  wpB (gd t56 true (ldv Try.prog 23 t58 w)) fun t59 =>
  wpB (gd t56 true (pureRun Try.prog (Builtin.len_ #[23] 3 #[t59]))) fun t60 =>
  wpB (gd t56 true (be Try.prog .eql 3 (.tmp 60) (.const (Go.Value.int Go.IntKind.i64 0)) t60 (Go.Value.int Go.IntKind.i64 0))) fun t61 =>
  wpB (pickv t56 (some t61) (some (Go.Value.bool false))) fun t62 =>
  Q t62 w)
  (wpB (pureRun Try.prog (Instr.fieldAt 25 t12 0)) fun t63 =>
  wpB (ldv Try.prog 22 t63 w) fun t64 =>
  wpB (pureRun Try.prog (Builtin.len_ #[22] 3 #[t64])) fun t65 =>
  wpB (pureRun Try.prog (Instr.fieldAt 25 t8 0)) fun t66 =>
  wpB (ldv Try.prog 22 t66 w) fun t67 =>
  wpB (pureRun Try.prog (Builtin.len_ #[22] 3 #[t67])) fun t68 =>
  wpB (be Try.prog .neq 3 (.tmp 65) (.tmp 68) t65 t68) fun t69 =>
  wpB (gd t69 false (pureRun Try.prog (Instr.fieldAt 25 t12 1))) fun t71 =>
  wpB (gd t69 false (ldv Try.prog 23 t71 w)) fun t72 =>
  wpB (gd t69 false (pureRun Try.prog (Builtin.len_ #[23] 3 #[t72]))) fun t73 =>
  wpB (gd t69 false (pureRun Try.prog (Instr.fieldAt 25 t8 1))) fun t74 =>
  wpB (gd t69 false (ldv Try.prog 23 t74 w)) fun t75 =>
  wpB (gd t69 false (pureRun Try.prog (Builtin.len_ #[23] 3 #[t75]))) fun t76 =>
  wpB (gd t69 false (bp Try.prog .gtr 3 t73 t76)) fun t77 =>
  wpB (pickv t69 (some (Go.Value.bool true)) (some t77)) fun t78 =>
  cnd t78
  (Q (Go.Value.bool false) w)
  (P5_0 t17 t8 t35 t43 t12 (Go.Value.bool false) (Go.Value.int Go.IntKind.i64 0) w Q)))))
noncomputable def C6 : Code := (Try.f6.body).getD .skip
noncomputable def T6_0 : List It := [.lp (nav [1, 1, 1, 1, 1, 1, 1, 0, 1, 4, 5] C6), .blk 0, .jn (nav [1, 1, 1, 1, 1, 1, 1, 1] C6)]
/-- rundale/rundalelaw20.ScriptMany, from a loop's head on -/
def P6_0 (x5 x6 x7 x8 x9 x10 : Value) (w : World) (Q : Value → World → Prop) : Prop := Part Try.prog 6 T6_0 [5, 6, 7, 8, 9, 10] [x5, x6, x7, x8, x9, x10] w Q
def F6 (a0 a1 : Value) (w : World) (Q : Value → World → Prop) : Prop :=
  CallR Try.prog 14 [] w fun t21 w =>
  wpB (pureRun Try.prog (Op.unary .not t21)) fun t23 =>
  cnd t23
  (Q (Go.Value.bool false) w)
  (CallR Try.prog 22 [a0, (Go.Value.int Go.IntKind.i64 10)] w fun t25 w =>
  wpB (bp Try.prog .add 3 (Go.Value.int Go.IntKind.i64 60) t25) fun t26 =>
  CallR Try.prog 22 [a1, (Go.Value.int Go.IntKind.i64 5)] w fun t28 w =>
  wpB (bp Try.prog .add 3 (Go.Value.int Go.IntKind.i64 998) t28) fun t29 =>
  effv Try.prog (Instr.makeSlice 22 t26 t26) w fun t31 w =>
  wpB (pureRun Try.prog (Instr.build 25 #[(0, t31)])) fun t32 =>
  effv Try.prog (Instr.alloc 25 true (.tuple #[])) w fun t8 w =>
  effu Try.prog (Instr.storeAt 25 t8 t32) w fun w =>
  effv Try.prog (Instr.makeSlice 22 (Go.Value.int Go.IntKind.i64 1) (Go.Value.int Go.IntKind.i64 1)) w fun t33 w =>
  wpB (pureRun Try.prog (Instr.build 25 #[(0, t33)])) fun t34 =>
  effv Try.prog (Instr.alloc 25 true (.tuple #[])) w fun t9 w =>
  effu Try.prog (Instr.storeAt 25 t9 t34) w fun w =>
  P6_0 t21 t26 t29 t8 t9 (Go.Value.int Go.IntKind.i64 0) w Q)
noncomputable def C22 : Code := (Try.f22.body).getD .skip
noncomputable def H22 : Hints := ⟨[], [(4, [5])], []⟩
noncomputable def T22_0 : List It := [.jn (nav [1, 1, 1] C22)]
/-- rundale/rundalemake.Number, from a join on -/
def P22_0 (x5 : Value) (w : World) (Q : Value → World → Prop) : Prop := Part Try.prog 22 T22_0 [5] [x5] w Q
def F22 (a0 a1 : Value) (w : World) (Q : Value → World → Prop) : Prop :=
  wpB (bp Try.prog .rem 3 a0 a1) fun t8 =>
  wpB (bp Try.prog .lss 3 t8 (Go.Value.int Go.IntKind.i64 0)) fun t10 =>
  cnd t10
  (wpB (bp Try.prog .add 3 t8 a1) fun t13 =>
  P22_0 t13 w Q)
  (P22_0 t8 w Q)
def L22_0 (x5 : Value) (w : World) (Q : Value → World → Prop) : Prop :=
  Q x5 w
theorem F22_ok {a0 a1 : Value} {w : World} {Q : Value → World → Prop} (h : F22 a0 a1 w Q) : CallR Try.prog 22 [a0, a1] w Q :=
  have e : evC Try.prog (entR 3 143) 22 15 H22 Q C22 [] (entryE 0 [a0, a1]) w (contT Try.prog (entR 3 143) 22 15 H22 Try.f22.results.toList Q []) = F22 a0 a1 w Q := by kernel_rfl
  call_of (fn := Try.f22) mixed entOk Try.func22 (c := C22) rfl H22 (Nat.le_of_ble_eq_true rfl) (e.mpr h)
theorem L22_0_ok {x5 : Value} {w : World} {Q : Value → World → Prop} (h : L22_0 x5 w Q) : P22_0 x5 w Q :=
  have e : evC Try.prog (entR 3 143) 22 15 H22 Q (nav [1, 1, 1] C22) [] (unpack [5] [x5]) w (contT Try.prog (entR 3 143) 22 15 H22 Try.f22.results.toList Q []) = L22_0 x5 w Q := by kernel_rfl
  part_jn (fn := Try.f22) mixed entOk Try.func22 H22 (c := (nav [1, 1, 1] C22)) (t := []) (e.mpr h)

noncomputable def C60 : Code := (Try.f60.body).getD .skip
noncomputable def H60 : Hints := ⟨[], [(5, [1, 3, 4, 5, 6]), (9, [1, 3, 4, 5, 6])], []⟩
noncomputable def T60_0 : List It := [.jn (nav [1, 1, 1, 1] C60)]
noncomputable def T60_1 : List It := [.jn (nav [1, 1, 1, 1, 1] C60)]
/-- rundale/op.May, from a join on -/
def P60_0 (x1 x3 x4 x5 x6 : Value) (w : World) (Q : Value → World → Prop) : Prop := Part Try.prog 60 T60_0 [1, 3, 4, 5, 6] [x1, x3, x4, x5, x6] w Q
/-- rundale/op.May, from a join on -/
def P60_1 (x1 x3 x4 x5 x6 : Value) (w : World) (Q : Value → World → Prop) : Prop := Part Try.prog 60 T60_1 [1, 3, 4, 5, 6] [x1, x3, x4, x5, x6] w Q
def F60 (a0 : Value) (w : World) (Q : Value → World → Prop) : Prop :=
  effv Try.prog (Instr.box 40 a0) w fun t1 w =>
  wpB (pureRun Try.prog (Instr.fieldAt 40 t1 0)) fun t7 =>
  wpB (ldv Try.prog 3 t7 w) fun t8 =>
  CallR Try.prog 108 [t8] w fun t9 w =>
  effv Try.prog (Instr.alloc 170 true (.tuple #[])) w fun t3 w =>
  effu Try.prog (Instr.storeAt 170 t3 t9) w fun w =>
  wpB (pureRun Try.prog (Instr.fieldAt 170 t3 1)) fun t10 =>
  wpB (ldv Try.prog 3 t10 w) fun t11 =>
  wpB (be Try.prog .neq 3 (.tmp 11) (.const (Go.Value.int Go.IntKind.i64 0)) t11 (Go.Value.int Go.IntKind.i64 0)) fun t12 =>
  cnd t12
  (P60_0 t1 t3 (Go.Value.int Go.IntKind.i64 63) (Go.Value.int Go.IntKind.i64 999) (Go.Value.int Go.IntKind.i64 0) w Q)
  (P60_0 t1 t3 (Go.Value.int Go.IntKind.i64 0) (Go.Value.int Go.IntKind.i64 0) (Go.Value.int Go.IntKind.i64 0) w Q)
def L60_0 (x1 x3 x4 x5 x6 : Value) (w : World) (Q : Value → World → Prop) : Prop :=
  wpB (pureRun Try.prog (Instr.fieldAt 40 x1 0)) fun t14 =>
  wpB (ldv Try.prog 3 t14 w) fun t15 =>
  wpB (be Try.prog .eql 3 (.tmp 15) (.const (Go.Value.int Go.IntKind.i64 1)) t15 (Go.Value.int Go.IntKind.i64 1)) fun t16 =>
  cnd t16
  (P60_1 x1 x3 x4 x5 (Go.Value.int Go.IntKind.i64 3) w Q)
  (wpB (pureRun Try.prog (Instr.fieldAt 170 x3 2)) fun t18 =>
  wpB (ldv Try.prog 4 t18 w) fun t19 =>
  cnd t19
  (P60_1 x1 x3 x4 x5 (Go.Value.int Go.IntKind.i64 65535) w Q)
  (P60_1 x1 x3 x4 x5 x6 w Q))
def L60_1 (x1 x3 x4 x5 x6 : Value) (w : World) (Q : Value → World → Prop) : Prop :=
  wpB (pureRun Try.prog (Instr.fieldAt 170 x3 0)) fun t20 =>
  wpB (ldv Try.prog 9 t20 w) fun t21 =>
  wpB (be Try.prog .neq 9 (.tmp 21) (.const (Go.Value.string { data := #[] })) t21 (Go.Value.string { data := #[] })) fun t22 =>
  wpB (gd t22 true (pureRun Try.prog (Instr.fieldAt 40 x1 1))) fun t24 =>
  wpB (gd t22 true (ldv Try.prog 3 t24 w)) fun t25 =>
  gE t22 true (CallR Try.prog 109 [t25, (gv t22 true x4)] w) (fun t27 w =>
  wpB (pickv t22 (some t27) (some (Go.Value.bool false))) fun t28 =>
  wpB (gd t28 true (pureRun Try.prog (Instr.fieldAt 40 x1 2))) fun t30 =>
  wpB (gd t28 true (ldv Try.prog 3 t30 w)) fun t31 =>
  gE t28 true (CallR Try.prog 109 [t31, (gv t28 true x5)] w) (fun t33 w =>
  wpB (pickv t28 (some t33) (some (Go.Value.bool false))) fun t34 =>
  wpB (gd t34 true (pureRun Try.prog (Instr.fieldAt 40 x1 3))) fun t36 =>
  wpB (gd t34 true (ldv Try.prog 3 t36 w)) fun t37 =>
  gE t34 true (CallR Try.prog 109 [t37, (gv t34 true x6)] w) (fun t39 w =>
  wpB (pickv t34 (some t39) (some (Go.Value.bool false))) fun t40 =>
  wpB (gd t40 true (pureRun Try.prog (Instr.fieldAt 170 x3 3))) fun t42 =>
  wpB (gd t40 true (ldv Try.prog 4 t42 w)) fun t43 =>
  wpB (gd (gv t40 true t43) false (pureRun Try.prog (Instr.fieldAt 40 x1 4))) fun t45 =>
  wpB (gd (gv t40 true t43) false (ldv Try.prog 38 t45 w)) fun t46 =>
  wpB (gd (gv t40 true t43) false (be Try.prog .eql 38 (.tmp 46) (.const (Go.Value.int Go.IntKind.u64 0)) t46 (Go.Value.int Go.IntKind.u64 0))) fun t47 =>
  wpB (gd t40 true (pickv (gv t40 true t43) (some (Go.Value.bool true)) (some t47))) fun t48 =>
  wpB (pickv t40 (some t48) (some (Go.Value.bool false))) fun t49 =>
  wpB (gd t49 true (pureRun Try.prog (Instr.fieldAt 170 x3 4))) fun t51 =>
  wpB (gd t49 true (ldv Try.prog 4 t51 w)) fun t52 =>
  wpB (gd (gv t49 true t52) false (pureRun Try.prog (Instr.fieldAt 40 x1 5))) fun t54 =>
  wpB (gd (gv t49 true t52) false (ldv Try.prog 38 t54 w)) fun t55 =>
  wpB (gd (gv t49 true t52) false (be Try.prog .eql 38 (.tmp 55) (.const (Go.Value.int Go.IntKind.u64 0)) t55 (Go.Value.int Go.IntKind.u64 0))) fun t56 =>
  wpB (gd t49 true (pickv (gv t49 true t52) (some (Go.Value.bool true)) (some t56))) fun t57 =>
  wpB (pickv t49 (some t57) (some (Go.Value.bool false))) fun t58 =>
  Q t58 w) w) w) w
theorem F60_ok {a0 : Value} {w : World} {Q : Value → World → Prop} (h : F60 a0 w Q) : CallR Try.prog 60 [a0] w Q :=
  have e : evC Try.prog (entR 3 143) 60 59 H60 Q C60 [] (entryE 0 [a0]) w (contT Try.prog (entR 3 143) 60 59 H60 Try.f60.results.toList Q []) = F60 a0 w Q := by kernel_rfl
  call_of (fn := Try.f60) mixed entOk Try.func60 (c := C60) rfl H60 (Nat.le_of_ble_eq_true rfl) (e.mpr h)
theorem L60_0_ok {x1 x3 x4 x5 x6 : Value} {w : World} {Q : Value → World → Prop} (h : L60_0 x1 x3 x4 x5 x6 w Q) : P60_0 x1 x3 x4 x5 x6 w Q :=
  have e : evC Try.prog (entR 3 143) 60 59 H60 Q (nav [1, 1, 1, 1] C60) [] (unpack [1, 3, 4, 5, 6] [x1, x3, x4, x5, x6]) w (contT Try.prog (entR 3 143) 60 59 H60 Try.f60.results.toList Q []) = L60_0 x1 x3 x4 x5 x6 w Q := by kernel_rfl
  part_jn (fn := Try.f60) mixed entOk Try.func60 H60 (c := (nav [1, 1, 1, 1] C60)) (t := []) (e.mpr h)
theorem L60_1_ok {x1 x3 x4 x5 x6 : Value} {w : World} {Q : Value → World → Prop} (h : L60_1 x1 x3 x4 x5 x6 w Q) : P60_1 x1 x3 x4 x5 x6 w Q :=
  have e : evC Try.prog (entR 3 143) 60 59 H60 Q (nav [1, 1, 1, 1, 1] C60) [] (unpack [1, 3, 4, 5, 6] [x1, x3, x4, x5, x6]) w (contT Try.prog (entR 3 143) 60 59 H60 Try.f60.results.toList Q []) = L60_1 x1 x3 x4 x5 x6 w Q := by kernel_rfl
  part_jn (fn := Try.f60) mixed entOk Try.func60 H60 (c := (nav [1, 1, 1, 1, 1] C60)) (t := []) (e.mpr h)

noncomputable def C69 : Code := (Try.f69.body).getD .skip
noncomputable def H69 : Hints := ⟨[(6, [0, 1, 5, 23, 24])], [], []⟩
noncomputable def T69_0 : List It := [.lp (nav [1, 1, 1, 0, 1, 4, 5] C69), .blk 0, .jn (nav [1, 1, 1, 1] C69)]
/-- (*rundale/script.reader).num, from a loop's head on -/
def P69_0 (x0 x1 x5 x23 x24 : Value) (w : World) (Q : Value → World → Prop) : Prop := Part Try.prog 69 T69_0 [0, 1, 5, 23, 24] [x0, x1, x5, x23, x24] w Q
def F69 (a0 a1 : Value) (w : World) (Q : Value → World → Prop) : Prop :=
  wpB (nilv a0) fun t8 =>
  wpB (pureRun Try.prog (Instr.fieldAt 115 t8 1)) fun t9 =>
  wpB (ldv Try.prog 4 t9 w) fun t10 =>
  wpB (gd t10 false (nilv (gv t10 false a0))) fun t13 =>
  wpB (gd t10 false (pureRun Try.prog (Instr.fieldAt 115 t13 0))) fun t14 =>
  wpB (gd t10 false (ldv Try.prog 28 t14 w)) fun t15 =>
  wpB (gd t10 false (pureRun Try.prog (Builtin.len_ #[28] 3 #[t15]))) fun t16 =>
  wpB (gd t10 false (bp Try.prog .lss 3 t16 (gv t10 false a1))) fun t18 =>
  wpB (pickv t10 (some (Go.Value.bool true)) (some t18)) fun t19 =>
  cnd t19
  (wpB (nilv a0) fun t21 =>
  wpB (pureRun Try.prog (Instr.fieldAt 115 t21 1)) fun t22 =>
  effu Try.prog (Instr.storeAt 4 t22 (Go.Value.bool true)) w fun w =>
  Q (Go.Value.int Go.IntKind.u64 0) w)
  (P69_0 a0 a1 (Go.Value.int Go.IntKind.u64 0) a1 (Go.Value.int Go.IntKind.i64 0) w Q)
def L69_0 (x0 x1 x5 x23 x24 : Value) (w : World) (Q : Value → World → Prop) : Prop :=
  wpB (bp Try.prog .lss 3 x24 x23) fun t25 =>
  cnd t25
  (wpB (nilv x0) fun t29 =>
  wpB (pureRun Try.prog (Instr.fieldAt 115 t29 0)) fun t30 =>
  wpB (ldv Try.prog 28 t30 w) fun t31 =>
  wpB (pureRun Try.prog (Instr.indexAt 28 t31 x24)) fun t33 =>
  wpB (ldv Try.prog 5 t33 w) fun t34 =>
  wpB (pureRun Try.prog (convert 5 38 t34)) fun t35 =>
  wpB (bp Try.prog .mul 3 (Go.Value.int Go.IntKind.i64 8) x24) fun t37 =>
  wpB (bp Try.prog .shl 38 t35 t37) fun t38 =>
  wpB (bp Try.prog .or 38 x5 t38) fun t39 =>
  wpB (bp Try.prog .add 3 x24 (Go.Value.int Go.IntKind.i64 1)) fun t40 =>
  P69_0 x0 x1 t39 x23 t40 w Q)
  (wpB (nilv x0) fun t43 =>
  wpB (pureRun Try.prog (Instr.fieldAt 115 t43 0)) fun t44 =>
  wpB (ldv Try.prog 28 t44 w) fun t45 =>
  wpB (pureRun Try.prog (Instr.sliceAt 28 t45 (some x1) none none)) fun t47 =>
  wpB (nilv x0) fun t48 =>
  wpB (pureRun Try.prog (Instr.fieldAt 115 t48 0)) fun t49 =>
  effu Try.prog (Instr.storeAt 28 t49 t47) w fun w =>
  Q x5 w)
theorem F69_ok {a0 a1 : Value} {w : World} {Q : Value → World → Prop} (h : F69 a0 a1 w Q) : CallR Try.prog 69 [a0, a1] w Q :=
  have e : evC Try.prog (entR 3 143) 69 51 H69 Q C69 [] (entryE 0 [a0, a1]) w (contT Try.prog (entR 3 143) 69 51 H69 Try.f69.results.toList Q []) = F69 a0 a1 w Q := by kernel_rfl
  call_of (fn := Try.f69) mixed entOk Try.func69 (c := C69) rfl H69 (Nat.le_of_ble_eq_true rfl) (e.mpr h)
theorem L69_0_ok {x0 x1 x5 x23 x24 : Value} {w : World} {Q : Value → World → Prop} (h : L69_0 x0 x1 x5 x23 x24 w Q) : P69_0 x0 x1 x5 x23 x24 w Q :=
  have e : evC Try.prog (entR 3 143) 69 51 H69 Q (nav [1, 1, 1, 0, 1, 4, 5] C69) T69_0 (unpack [0, 1, 5, 23, 24] [x0, x1, x5, x23, x24]) w (contT Try.prog (entR 3 143) 69 51 H69 Try.f69.results.toList Q T69_0) = L69_0 x0 x1 x5 x23 x24 w Q := by kernel_rfl
  part_lp (fn := Try.f69) mixed entOk Try.func69 H69 (c := (nav [1, 1, 1, 0, 1, 4, 5] C69)) (t := [.blk 0, .jn (nav [1, 1, 1, 1] C69)]) (e.mpr h)

noncomputable def C70 : Code := (Try.f70.body).getD .skip
noncomputable def H70 : Hints := ⟨[], [(5, [0, 2, 3, 5, 6, 7]), (7, [0, 2, 3, 6, 7]), (9, [0, 2, 3, 7]), (11, [2, 3])], []⟩
noncomputable def T70_1 : List It := [.jn (nav [1, 1, 1, 1, 1] C70)]
noncomputable def T70_2 : List It := [.jn (nav [1, 1, 1, 1, 1, 1] C70)]
noncomputable def T70_3 : List It := [.jn (nav [1, 1, 1, 1, 1, 1, 1] C70)]
/-- (*rundale/script.reader).op, from a join on -/
def P70_1 (x0 x2 x3 x6 x7 : Value) (w : World) (Q : Value → World → Prop) : Prop := Part Try.prog 70 T70_1 [0, 2, 3, 6, 7] [x0, x2, x3, x6, x7] w Q
/-- (*rundale/script.reader).op, from a join on -/
def P70_2 (x0 x2 x3 x7 : Value) (w : World) (Q : Value → World → Prop) : Prop := Part Try.prog 70 T70_2 [0, 2, 3, 7] [x0, x2, x3, x7] w Q
/-- (*rundale/script.reader).op, from a join on -/
def P70_3 (x2 x3 : Value) (w : World) (Q : Value → World → Prop) : Prop := Part Try.prog 70 T70_3 [2, 3] [x2, x3] w Q
def L70_1 (x0 x2 x3 x6 x7 : Value) (w : World) (Q : Value → World → Prop) : Prop :=
  cnd x6
  (CallR Try.prog 69 [x0, (Go.Value.int Go.IntKind.i64 8)] w fun t36 w =>
  wpB (pureRun Try.prog (Instr.fieldAt 40 x3 4)) fun t37 =>
  effu Try.prog (Instr.storeAt 38 t37 t36) w fun w =>
  P70_2 x0 x2 x3 x7 w Q)
  (P70_2 x0 x2 x3 x7 w Q)
def L70_2 (x0 x2 x3 x7 : Value) (w : World) (Q : Value → World → Prop) : Prop :=
  cnd x7
  (CallR Try.prog 69 [x0, (Go.Value.int Go.IntKind.i64 8)] w fun t40 w =>
  wpB (pureRun Try.prog (Instr.fieldAt 40 x3 5)) fun t41 =>
  effu Try.prog (Instr.storeAt 38 t41 t40) w fun w =>
  P70_3 x2 x3 w Q)
  (P70_3 x2 x3 w Q)
def L70_3 (x2 x3 : Value) (w : World) (Q : Value → World → Prop) : Prop :=
  wpB (ldv Try.prog 40 x3 w) fun t42 =>
  effu Try.prog (Instr.storeAt 40 x2 t42) w fun w =>
  wpB (ldv Try.prog 40 x2 w) fun r2 => Q r2 w
theorem L70_1_ok {x0 x2 x3 x6 x7 : Value} {w : World} {Q : Value → World → Prop} (h : L70_1 x0 x2 x3 x6 x7 w Q) : P70_1 x0 x2 x3 x6 x7 w Q :=
  have e : evC Try.prog (entR 3 143) 70 43 H70 Q (nav [1, 1, 1, 1, 1] C70) [] (unpack [0, 2, 3, 6, 7] [x0, x2, x3, x6, x7]) w (contT Try.prog (entR 3 143) 70 43 H70 Try.f70.results.toList Q []) = L70_1 x0 x2 x3 x6 x7 w Q := by kernel_rfl
  part_jn (fn := Try.f70) mixed entOk Try.func70 H70 (c := (nav [1, 1, 1, 1, 1] C70)) (t := []) (e.mpr h)
theorem L70_2_ok {x0 x2 x3 x7 : Value} {w : World} {Q : Value → World → Prop} (h : L70_2 x0 x2 x3 x7 w Q) : P70_2 x0 x2 x3 x7 w Q :=
  have e : evC Try.prog (entR 3 143) 70 43 H70 Q (nav [1, 1, 1, 1, 1, 1] C70) [] (unpack [0, 2, 3, 7] [x0, x2, x3, x7]) w (contT Try.prog (entR 3 143) 70 43 H70 Try.f70.results.toList Q []) = L70_2 x0 x2 x3 x7 w Q := by kernel_rfl
  part_jn (fn := Try.f70) mixed entOk Try.func70 H70 (c := (nav [1, 1, 1, 1, 1, 1] C70)) (t := []) (e.mpr h)
theorem L70_3_ok {x2 x3 : Value} {w : World} {Q : Value → World → Prop} (h : L70_3 x2 x3 w Q) : P70_3 x2 x3 w Q :=
  have e : evC Try.prog (entR 3 143) 70 43 H70 Q (nav [1, 1, 1, 1, 1, 1, 1] C70) [] (unpack [2, 3] [x2, x3]) w (contT Try.prog (entR 3 143) 70 43 H70 Try.f70.results.toList Q []) = L70_3 x2 x3 w Q := by kernel_rfl
  part_jn (fn := Try.f70) mixed entOk Try.func70 H70 (c := (nav [1, 1, 1, 1, 1, 1, 1] C70)) (t := []) (e.mpr h)

noncomputable def C108 : Code := (Try.f108.body).getD .skip
noncomputable def H108 : Hints := ⟨[], [], []⟩
def F108 (a0 : Value) (w : World) (Q : Value → World → Prop) : Prop :=
  effv Try.prog (Instr.alloc 170 true (.tuple #[])) w fun t2 w =>
  wpB (pureRun Try.prog (Instr.build 170 #[])) fun t4 =>
  wpB (pureRun Try.prog (Instr.build 170 #[(0, (Go.Value.string { data := #[99, 114, 101, 97, 116, 101] })), (2, (Go.Value.bool true))])) fun t5 =>
  wpB (pureRun Try.prog (Instr.build 170 #[(0, (Go.Value.string { data := #[97, 108, 108, 111, 99] })), (1, (Go.Value.int Go.IntKind.i64 1)), (2, (Go.Value.bool true))])) fun t6 =>
  wpB (pureRun Try.prog (Instr.build 170 #[(0, (Go.Value.string { data := #[112, 105, 110] }))])) fun t7 =>
  wpB (pureRun Try.prog (Instr.build 170 #[(0, (Go.Value.string { data := #[117, 110, 112, 105, 110] }))])) fun t8 =>
  wpB (pureRun Try.prog (Instr.build 170 #[(0, (Go.Value.string { data := #[104, 111, 108, 100] })), (1, (Go.Value.int Go.IntKind.i64 3))])) fun t9 =>
  wpB (pureRun Try.prog (Instr.build 170 #[(0, (Go.Value.string { data := #[108, 111, 97, 100] })), (1, (Go.Value.int Go.IntKind.i64 2)), (2, (Go.Value.bool true))])) fun t10 =>
  wpB (pureRun Try.prog (Instr.build 170 #[(0, (Go.Value.string { data := #[115, 116, 111, 114, 101] })), (1, (Go.Value.int Go.IntKind.i64 2)), (2, (Go.Value.bool true)), (3, (Go.Value.bool true))])) fun t11 =>
  wpB (pureRun Try.prog (Instr.build 170 #[(0, (Go.Value.string { data := #[97, 100, 100] })), (1, (Go.Value.int Go.IntKind.i64 2)), (2, (Go.Value.bool true)), (3, (Go.Value.bool true))])) fun t12 =>
  wpB (pureRun Try.prog (Instr.build 170 #[(0, (Go.Value.string { data := #[99, 97, 115] })), (1, (Go.Value.int Go.IntKind.i64 2)), (2, (Go.Value.bool true)), (3, (Go.Value.bool true)), (4, (Go.Value.bool true))])) fun t13 =>
  wpB (pureRun Try.prog (Instr.build 170 #[(0, (Go.Value.string { data := #[102, 114, 101, 101] })), (1, (Go.Value.int Go.IntKind.i64 1))])) fun t14 =>
  wpB (pureRun Try.prog (Instr.build 170 #[(0, (Go.Value.string { data := #[99, 111, 108, 108, 101, 99, 116] }))])) fun t15 =>
  wpB (pureRun Try.prog (Instr.build 170 #[(0, (Go.Value.string { data := #[115, 116, 97, 116, 115] })), (1, (Go.Value.int Go.IntKind.i64 1))])) fun t16 =>
  effv Try.prog (Instr.buildSlice 189 13 #[(0, t4), (1, t5), (2, t6), (3, t7), (4, t8), (5, t9), (6, t10), (7, t11), (8, t12), (9, t13), (10, t14), (11, t15), (12, t16)]) w fun t17 w =>
  wpB (bp Try.prog .lss 3 a0 (Go.Value.int Go.IntKind.i64 1)) fun t19 =>
  wpB (gd t19 false (pureRun Try.prog (Builtin.len_ #[189] 3 #[(gv t19 false t17)]))) fun t23 =>
  wpB (gd t19 false (bp Try.prog .geq 3 (gv t19 false a0) t23)) fun t24 =>
  wpB (pickv t19 (some (Go.Value.bool true)) (some t24)) fun t25 =>
  cnd t25
  (wpB (pureRun Try.prog (Instr.indexAt 189 t17 (Go.Value.int Go.IntKind.i64 0))) fun t27 =>
  wpB (ldv Try.prog 170 t27 w) fun t28 =>
  effu Try.prog (Instr.storeAt 170 t2 t28) w fun w =>
  wpB (ldv Try.prog 170 t2 w) fun r2 => Q r2 w)
  (wpB (pureRun Try.prog (Instr.indexAt 189 t17 a0)) fun t31 =>
  wpB (ldv Try.prog 170 t31 w) fun t32 =>
  effu Try.prog (Instr.storeAt 170 t2 t32) w fun w =>
  wpB (ldv Try.prog 170 t2 w) fun r2_1 => Q r2_1 w)
theorem F108_ok {a0 : Value} {w : World} {Q : Value → World → Prop} (h : F108 a0 w Q) : CallR Try.prog 108 [a0] w Q :=
  have e : evC Try.prog (entR 3 143) 108 33 H108 Q C108 [] (entryE 0 [a0]) w (contT Try.prog (entR 3 143) 108 33 H108 Try.f108.results.toList Q []) = F108 a0 w Q := by kernel_rfl
  call_of (fn := Try.f108) mixed entOk Try.func108 (c := C108) rfl H108 (Nat.le_of_ble_eq_true rfl) (e.mpr h)

noncomputable def C109 : Code := (Try.f109.body).getD .skip
noncomputable def H109 : Hints := ⟨[], [], []⟩
def F109 (a0 a1 : Value) (w : World) (Q : Value → World → Prop) : Prop :=
  wpB (bp Try.prog .geq 3 a0 (Go.Value.int Go.IntKind.i64 0)) fun t6 =>
  wpB (gd t6 true (bp Try.prog .leq 3 (gv t6 true a0) (gv t6 true a1))) fun t10 =>
  wpB (pickv t6 (some t10) (some (Go.Value.bool false))) fun t11 =>
  Q t11 w
theorem F109_ok {a0 a1 : Value} {w : World} {Q : Value → World → Prop} (h : F109 a0 a1 w Q) : CallR Try.prog 109 [a0, a1] w Q :=
  have e : evC Try.prog (entR 3 143) 109 12 H109 Q C109 [] (entryE 0 [a0, a1]) w (contT Try.prog (entR 3 143) 109 12 H109 Try.f109.results.toList Q []) = F109 a0 a1 w Q := by kernel_rfl
  call_of (fn := Try.f109) mixed entOk Try.func109 (c := C109) rfl H109 (Nat.le_of_ble_eq_true rfl) (e.mpr h)

noncomputable def C110 : Code := (Try.f110.body).getD .skip
noncomputable def H110 : Hints := ⟨[], [], []⟩
def F110 (a0 : Value) (w : World) (Q : Value → World → Prop) : Prop :=
  CallR Try.prog 108 [a0] w fun t4 w =>
  wpB (pureRun Try.prog (Instr.field 170 t4 1)) fun t5 =>
  Q t5 w
theorem F110_ok {a0 : Value} {w : World} {Q : Value → World → Prop} (h : F110 a0 w Q) : CallR Try.prog 110 [a0] w Q :=
  have e : evC Try.prog (entR 3 143) 110 6 H110 Q C110 [] (entryE 0 [a0]) w (contT Try.prog (entR 3 143) 110 6 H110 Try.f110.results.toList Q []) = F110 a0 w Q := by kernel_rfl
  call_of (fn := Try.f110) mixed entOk Try.func110 (c := C110) rfl H110 (Nat.le_of_ble_eq_true rfl) (e.mpr h)

end Go.Proofs.Ytgamnncehjcdiaa

namespace Go.Proofs.Ytgamnncehjcdiaa
open Go Ev Go.RowKit
set_option linter.unusedSimpArgs false
set_option linter.unusedVariables false
set_option maxRecDepth 10000

def ofK (k : Int) : Int := if k = 2 ∨ k = 10 ∨ k = 12 then 1 else if 6 ≤ k ∧ k ≤ 9 then 2 else if k = 5 then 3 else 0
def nB (k : Int) : Bool := decide (k = 1 ∨ k = 2 ∨ (6 ≤ k ∧ k ≤ 9))
def vB (k : Int) : Bool := decide (7 ≤ k ∧ k ≤ 9)
def wB (k : Int) : Bool := decide (k = 9)
theorem kind_cases (k : Int) : k = 1 ∨ k = 2 ∨ k = 3 ∨ k = 4 ∨ k = 5 ∨ k = 6 ∨ k = 7 ∨ k = 8 ∨ k = 9 ∨ k = 10 ∨ k = 11 ∨ k = 12 ∨ (k < 1 ∨ 12 < k) := by omega
theorem eqf {k c : Int} (h : k ≠ c) : (k == c) = false := by simpa using h
def nameK (k : Int) : ByteArray :=
  if k = 1 then { data := #[99, 114, 101, 97, 116, 101] } else if k = 2 then { data := #[97, 108, 108, 111, 99] } else if k = 3 then { data := #[112, 105, 110] } else if k = 4 then { data := #[117, 110, 112, 105, 110] }
  else if k = 5 then { data := #[104, 111, 108, 100] } else if k = 6 then { data := #[108, 111, 97, 100] } else if k = 7 then { data := #[115, 116, 111, 114, 101] } else if k = 8 then { data := #[97, 100, 100] }
  else if k = 9 then { data := #[99, 97, 115] } else if k = 10 then { data := #[102, 114, 101, 101] } else if k = 11 then { data := #[99, 111, 108, 108, 101, 99, 116] } else if k = 12 then { data := #[115, 116, 97, 116, 115] } else { data := #[] }
def formC (k : Int) : List Value := [.string (nameK k), .int .i64 (ofK k), .bool (nB k), .bool (vB k), .bool (wB k)]
theorem formC_out {k : Int} (h : k < 1 ∨ 12 < k) : formC k = [.string { data := #[] }, .int .i64 0, .bool false, .bool false, .bool false] := by
  have e1 : nameK k = { data := #[] } := by
    unfold nameK
    rw [if_neg (by omega), if_neg (by omega), if_neg (by omega), if_neg (by omega), if_neg (by omega), if_neg (by omega), if_neg (by omega), if_neg (by omega), if_neg (by omega), if_neg (by omega), if_neg (by omega), if_neg (by omega)]
  have e2 : ofK k = 0 := by rw [ofK, if_neg (by omega), if_neg (by omega), if_neg (by omega)]
  have e3 : nB k = false := by simp [nB]; omega
  have e4 : vB k = false := by simp [vB]; omega
  have e5 : wB k = false := by simp [wB]; omega
  rw [formC, e1, e2, e3, e4, e5]
theorem c_formOf (k : Int) (w : World) : CallR Try.prog 108 [.int .i64 k] w fun v w' => v = .agg (formC k).toArray ∧ Chg [] w w' := by
  have hb : ∀ w' : World, w' = w → Chg [] w w' := fun w' h => h ▸ Chg.refl _ _
  have hch : ∀ c1 c2 c3 : Array Value, Chg [] w (put ((w.alloc (.cells c1 170)).alloc (.cells c2 170)) w.heap.size c3 170) := fun c1 c2 c3 => (((Chg.refl [] w).alloc _).alloc _).put (.inr (Nat.le_refl _)) _ _
  rcases kind_cases k with rfl | rfl | rfl | rfl | rfl | rfl | rfl | rfl | rfl | rfl | rfl | rfl | h
  case inr.inr.inr.inr.inr.inr.inr.inr.inr.inr.inr.inr =>
    apply F108_ok
    rw [formC_out h]
    rcases h with h | h
    · have h' : k < 1 := h
      simp -implicitDefEqProofs [F108, h', ia_189, ld_170, st_170, hch]
    · have h1 : ¬ k < 1 := by omega
      have h2 : (13 : Int) ≤ k := by omega
      simp -implicitDefEqProofs [F108, h1, h2, ia_189, ld_170, st_170, hch]
  all_goals
    apply F108_ok
    simp -implicitDefEqProofs [F108, ia_189, ld_170, st_170, formC, nameK, ofK, nB, vB, wB, hch]
theorem c_opOf (k : Int) (w : World) : CallR Try.prog 110 [.int .i64 k] w fun v w' => v = .int .i64 (ofK k) ∧ Chg [] w w' := by
  apply F110_ok
  refine (c_formOf k w).mono ?_
  rintro v w1 ⟨rfl, hc⟩
  simp -implicitDefEqProofs [F110, formC, hc]
end Go.Proofs.Ytgamnncehjcdiaa

namespace Go.Proofs.Ytgamnncehjcdiaa
open Go Ev Go.RowKit
set_option linter.unusedSimpArgs false
set_option linter.unusedVariables false
set_option maxRecDepth 10000

/-- bytes, the lowest first, as a number -/
def leV : List Int → Int
  | [] => 0
  | b :: bs => b + 256 * leV bs
theorem pow256 (n : Nat) : (2 : Int) ^ (8 * n) = 256 ^ n := by rw [Int.pow_mul]; rfl
theorem leV_snoc (b : Int) : ∀ bs : List Int, leV (bs ++ [b]) = leV bs + b * 2 ^ (8 * bs.length)
  | [] => by simp [leV]
  | c :: bs => by
    have e : (2 : Int) ^ (8 * (bs.length + 1)) = 256 * 2 ^ (8 * bs.length) := by rw [pow256, pow256, Int.pow_succ, Int.mul_comm]
    rw [List.cons_append, leV, leV_snoc b bs, leV, List.length_cons, e, Int.mul_add, Int.add_assoc, Int.mul_left_comm b]
def IsBytes (bs : List Int) : Prop := ∀ b ∈ bs, 0 ≤ b ∧ b < 256
theorem leV_bound : ∀ bs : List Int, IsBytes bs → 0 ≤ leV bs ∧ leV bs < 2 ^ (8 * bs.length)
  | [], _ => by simp [leV]
  | c :: bs, h => by
    have h1 := leV_bound bs fun b hb => h b (List.mem_cons_of_mem _ hb)
    have h2 := h c (by simp)
    have e : (2 : Int) ^ (8 * (bs.length + 1)) = 256 * 2 ^ (8 * bs.length) := by rw [pow256, pow256, Int.pow_succ, Int.mul_comm]
    rw [leV, List.length_cons, e]; omega
theorem IsBytes.take {bs : List Int} (h : IsBytes bs) (n : Nat) : IsBytes (bs.take n) := fun b hb => h b (List.mem_of_mem_take hb)
theorem IsBytes.drop {bs : List Int} (h : IsBytes bs) (n : Nat) : IsBytes (bs.drop n) := fun b hb => h b (List.mem_of_mem_drop hb)
/-- what a reader has: the bytes left, whether they ended -/
abbrev Rst := List Int × Bool
def pNum (n : Nat) (s : Rst) : Int × Rst := if s.2 = true ∨ s.1.length < n then (0, (s.1, true)) else (leV (s.1.take n), (s.1.drop n, false))
theorem pNum_bound {n : Nat} {s : Rst} (h : IsBytes s.1) : 0 ≤ (pNum n s).1 ∧ (pNum n s).1 < 2 ^ (8 * n) := by
  unfold pNum
  split
  · exact ⟨Int.le_refl _, Int.pow_pos (by omega)⟩
  · have := leV_bound _ (h.take n)
    rename_i hn
    rw [List.length_take, Nat.min_eq_left (by simp at hn; omega)] at this
    exact this
theorem pNum_bytes {n : Nat} {s : Rst} (h : IsBytes s.1) : IsBytes (pNum n s).2.1 := by
  unfold pNum
  split
  · exact h
  · exact h.drop n
def u8s (bs : List Int) : List Value := bs.map (Value.int .u8)
@[simp] theorem u8s_len (bs : List Int) : (u8s bs).length = bs.length := by simp [u8s]
theorem u8s_ne {bs : List Int} (h : u8s bs ≠ []) : bs ≠ [] := fun e => h (by rw [e]; rfl)
theorem u8s_get (bs : List Int) (i : Nat) (h : i < bs.length) : (u8s bs)[i]? = some (.int .u8 (bs.getD i 0)) := by
  simp [u8s, List.getD_eq_getElem?_getD, h]
theorem leV_step (bs : List Int) (i : Nat) (h : i < bs.length) : leV (bs.take (i + 1)) = leV (bs.take i) + bs.getD i 0 * 2 ^ (8 * i) := by
  have e : bs.take (i + 1) = bs.take i ++ [bs.getD i 0] := by
    rw [List.take_add_one]; congr 1
    simp [List.getD_eq_getElem?_getD, h]
  rw [e, leV_snoc, List.length_take, Nat.min_eq_left (by omega)]
theorem byte_pow {b : Int} {i : Nat} (h0 : 0 ≤ b) (h1 : b < 256) (hi : i ≤ 7) : 0 ≤ b * 2 ^ (8 * i) ∧ b * 2 ^ (8 * i) < 2 ^ 64 := by
  have h2 : (2 : Int) ^ (8 * i) ≤ 2 ^ 56 := by
    rcases (by omega : i = 0 ∨ i = 1 ∨ i = 2 ∨ i = 3 ∨ i = 4 ∨ i = 5 ∨ i = 6 ∨ i = 7) with rfl | rfl | rfl | rfl | rfl | rfl | rfl | rfl <;> decide
  have h3 : (0 : Int) < 2 ^ (8 * i) := Int.pow_pos (by omega)
  refine ⟨Int.mul_nonneg h0 (by omega), ?_⟩
  have h4 : b * 2 ^ (8 * i) ≤ 255 * 2 ^ (8 * i) := Int.mul_le_mul_of_nonneg_right (by omega) (by omega)
  have h5 : (2 : Int) ^ 64 = 256 * 2 ^ 56 := by decide
  omega

/-- a reader in block r: the bytes that are left are old ones -/
def RS (w : World) (r : Nat) (s : Rst) : Prop := ∃ A c, hp w r = some (.cells #[.slice A s.1.length c, .bool s.2] 115) ∧ RdV w A (u8s s.1) ∧ (∀ p, A = some p → s.1 ≠ [] → p.block < r) ∧ s.1.length ≤ c
theorem RS.chg {w w' : World} {S : List Nat} {r : Nat} {s : Rst} (h : RS w r s) (hc : Chg S w w') (hr : ∀ k ∈ S, r < k) : RS w' r s := by
  obtain ⟨A, c, h1, h2, h3, h4⟩ := h
  refine ⟨A, c, hc.at h1 (fun hm => by have := hr r hm; omega), h2.chg hc (fun p hp hne hm => ?_), h3, h4⟩
  have := hr _ hm
  have := h3 p hp (u8s_ne hne)
  omega
theorem l_num {r : Nat} {s : Rst} (hs : IsBytes s.1) {w : World} {n : Nat} (hn : n ≤ 8) (hle : n ≤ s.1.length) {A : Option Addr} {c : Nat} (hb : hp w r = some (.cells #[.slice A s.1.length c, .bool s.2] 115)) (hA : RdV w A (u8s s.1)) (hAr : ∀ p, A = some p → s.1 ≠ [] → p.block < r) (hcap : s.1.length ≤ c) :
    ∀ (d i : Nat), i + d = n → P69_0 (.pointer (some ⟨r, 0, none⟩)) (.int .i64 n) (.int .u64 (leV (s.1.take i))) (.int .i64 n) (.int .i64 i) w fun v w' => v = .int .u64 (leV (s.1.take n)) ∧ RS w' r (s.1.drop n, s.2) ∧ Chg [r] w w' := by
  intro d
  induction d with
  | zero =>
    intro i hi
    apply L69_0_ok
    have : ¬ ((i : Int) < n) := by omega
    simp -implicitDefEqProofs only [L69_0, wpB_some', bp_lss, this, decide_false, cnd_false, nilv_some, fa_115_0, ld_28, hb, ldC_some, Nat.add_zero, show (#[Value.slice A s.1.length c, Value.bool s.2] : Array Value)[0]? = some (.slice A s.1.length c) from rfl, pr_slice_l Try.underlying28 sz_5 (show (0 : Int) ≤ n by omega) (show (n : Int) ≤ s.1.length by omega)]
    rw [st_28 (by rfl) (by rfl) (by rw [hb]; rfl)]
    rw [show i = n by omega]
    refine ⟨rfl, ?_, (Chg.refl _ _).put (.inl (by simp)) _ _⟩
    have hlt := blk_lt hb
    refine ⟨if c = (n : Int).toNat then A else A.map (·.add ((n : Int).toNat * 1)), c - (n : Int).toNat, ?_, ?_, ?_, ?_⟩
    · rw [put_heap, if_pos rfl, if_pos hlt, hb, getC_some, getE_some]
      simp
    · have h1 := hA.drop c n 1 (fun h => by simp; omega)
      rw [Nat.mul_one] at h1
      rw [Int.toNat_natCast, Nat.mul_one]
      have e : u8s (s.1.drop n) = (u8s s.1).drop n := by simp [u8s, List.map_drop]
      show RdV _ _ (u8s (s.1.drop n))
      rw [e]
      refine h1.chg ((Chg.refl [r] w).put (.inl (by simp)) _ _) fun p hp hne hm => ?_
      have hne : s.1 ≠ [] := fun h => hne (by rw [h]; simp [u8s])
      have hm : p.block = r := by simpa using hm
      split at hp
      · have := hAr p hp hne; omega
      · cases A with
        | none => cases hp
        | some a =>
          simp at hp
          have : p.block = a.block := by rw [← hp]; unfold Addr.add; split <;> rfl
          have := hAr a rfl hne
          omega
    · intro p hp hne
      have hne : s.1 ≠ [] := fun h => hne (by show s.1.drop n = []; rw [h]; simp)
      split at hp
      · exact hAr p hp hne
      · cases A with
        | none => cases hp
        | some a =>
          simp at hp
          have : p.block = a.block := by rw [← hp]; unfold Addr.add; split <;> rfl
          have := hAr a rfl hne
          omega
    · simp; omega
  | succ d ih =>
    intro i hi
    apply L69_0_ok
    have hlt : (i : Int) < n := by omega
    obtain ⟨b, o, q1, q2, _⟩ := hA.elem1 (P := Try.prog) (c := c) (n := s.1.length) (i := (i : Int)) (j := .i64) Try.underlying28 sz_5 (by simp) (by omega) (by omega)
    rw [Int.toNat_natCast, u8s_get _ _ (by omega)] at q2
    have hby := hs (s.1.getD i 0) (by
      have : i < s.1.length := by omega
      simp [List.getD_eq_getElem?_getD, this])
    obtain ⟨p0, p1⟩ := byte_pow (i := i) hby.1 hby.2 (by omega)
    have hst := leV_step s.1 i (by omega)
    have hbd := leV_bound _ (hs.take i)
    rw [List.length_take, Nat.min_eq_left (by omega)] at hbd
    generalize s.1.getD i 0 = x at *
    have hor := or_add (k := 8 * i) hbd.1 hbd.2 hby.1 (by omega) (by simpa using p1)
    have hp8 : IntKind.u64.bits = 64 := rfl
    have hmin : min (8 * (i : Int)).toNat IntKind.u64.bits = 8 * i := by rw [hp8]; omega
    simp -implicitDefEqProofs only [L69_0, wpB_some', bp_lss, hlt, decide_true, cnd_true, nilv_some, fa_115_0, ld_28, ld_5, hb, ldC_some, Nat.add_zero, show (#[Value.slice A s.1.length c, Value.bool s.2] : Array Value)[0]? = some (.slice A s.1.length c) from rfl, q1, q2, cv_5_38, wrapu (n := x) (by omega) (by omega), bp_mul, bp_add, wrapi (n := 8 * (i : Int)) (by omega) (by omega), bp_shl (show (0 : Int) ≤ 8 * i by omega), hmin, wrapu (n := x * 2 ^ (8 * i)) p0 (by omega), bp_or, hor, wrapi (n := (i : Int) + 1) (by omega) (by omega), ← hst]
    have h := ih (i + 1) (by omega)
    rw [Int.natCast_add i 1] at h
    exact h
theorem c_num {r : Nat} {s : Rst} (hs : IsBytes s.1) {w : World} (hr : RS w r s) {n : Nat} (hn : n ≤ 8) : CallR Try.prog 69 [.pointer (some ⟨r, 0, none⟩), .int .i64 n] w fun v w' => v = .int .u64 (pNum n s).1 ∧ RS w' r (pNum n s).2 ∧ Chg [r] w w' := by
  obtain ⟨A, c, hb, hA, hAr, hcap⟩ := hr
  have hlt := blk_lt hb
  apply F69_ok
  have bad : (s.2 = true ∨ s.1.length < n) → hp (put w r #[.slice A s.1.length c, .bool true] 115) r = some (.cells #[.slice A s.1.length c, .bool true] 115) →
      (0 = (pNum n s).1 ∧ RS (put w r #[.slice A s.1.length c, .bool true] 115) r (pNum n s).2 ∧ Chg [r] w (put w r #[.slice A s.1.length c, .bool true] 115)) := by
    intro h hb'
    have e : pNum n s = (0, (s.1, true)) := by rw [pNum, if_pos h]
    have hch : Chg [r] w (put w r #[.slice A s.1.length c, .bool true] 115) := (Chg.refl _ _).put (.inl (by simp)) _ _
    rw [e]
    refine ⟨rfl, ⟨A, c, hb', hA.chg hch fun p hp hne hm => ?_, hAr, hcap⟩, hch⟩
    have hm : p.block = r := by simpa using hm
    have := hAr p hp (u8s_ne hne)
    omega
  have hput : hp (put w r #[.slice A s.1.length c, .bool true] 115) r = some (.cells #[.slice A s.1.length c, .bool true] 115) := by rw [put_heap, if_pos rfl, if_pos hlt]
  by_cases h2 : s.2 = true
  · simp -implicitDefEqProofs [F69, hb, h2, st_4]
    exact bad (.inl h2) hput
  · have h2 : s.2 = false := by simpa using h2
    by_cases hl : s.1.length < n
    · have hl' : (s.1.length : Int) < n := by omega
      simp -implicitDefEqProofs [F69, hb, h2, hl, st_4]
      exact bad (.inr hl) hput
    · have hl' : ¬ (s.1.length : Int) < n := by omega
      simp -implicitDefEqProofs [F69, hb, h2, hl]
      have e : pNum n s = (leV (s.1.take n), (s.1.drop n, false)) := by rw [pNum, if_neg (by simp [h2, hl])]
      rw [e, ← h2]
      exact l_num hs hn (by omega) hb hA hAr hcap n 0 (by omega)
end Go.Proofs.Ytgamnncehjcdiaa

namespace Go.Proofs.Ytgamnncehjcdiaa
open Go Ev Go.RowKit
set_option linter.unusedSimpArgs false
set_option linter.unusedVariables false
set_option maxRecDepth 10000

end Go.Proofs.Ytgamnncehjcdiaa

namespace Go.Proofs.Ytgamnncehjcdiaa
open Go Ev Go.RowKit
set_option linter.unusedSimpArgs false
set_option linter.unusedVariables false
set_option maxRecDepth 10000

/-- an operation: kind, from, at, n, v, w -/
abbrev OpV := Int × Int × Int × Int × Int × Int
def opC (o : OpV) : List Value := [.int .i64 o.1, .int .i64 o.2.1, .int .i64 o.2.2.1, .int .i64 o.2.2.2.1, .int .u64 o.2.2.2.2.1, .int .u64 o.2.2.2.2.2]
def pIf (b : Bool) (n : Nat) (s : Rst) : Int × Rst := if b then pNum n s else (0, s)
/-- an operation's variable, and the answer's, beside a reader -/
structure Mid (w0 w : World) (r g2 g3 : Nat) (c : Array Value) : Prop where
  h2 : hp w g2 = some (.cells #[.int .i64 0, .int .i64 0, .int .i64 0, .int .i64 0, .int .u64 0, .int .u64 0] 40)
  h3 : hp w g3 = some (.cells c 40)
  lt : r < g2
  lt3 : g2 < g3
  ge : w0.heap.size ≤ g2
  ch : Chg [r] w0 w
theorem Mid.step {w0 w w' : World} {r g2 g3 : Nat} {c : Array Value} (h : Mid w0 w r g2 g3 c) (hc : Chg [r] w w') : Mid w0 w' r g2 g3 c :=
  ⟨hc.at h.h2 (by have := h.lt; simp; omega), hc.at h.h3 (by have := h.lt; have := h.lt3; simp; omega), h.lt, h.lt3, h.ge, h.ch.trans hc⟩
theorem Mid.put {w0 w : World} {r g2 g3 : Nat} {c : Array Value} (h : Mid w0 w r g2 g3 c) (c' : Array Value) : Mid w0 (put w g3 c' 40) r g2 g3 c' :=
  ⟨by rw [put_heap, if_neg (by have := h.lt3; omega)]; exact h.h2, by rw [put_heap, if_pos rfl, if_pos (blk_lt h.h3)], h.lt, h.lt3, h.ge, h.ch.put (.inr (by have := h.ge; have := h.lt3; omega)) _ _⟩
theorem Mid.chg {w0 w : World} {r g2 g3 : Nat} {c : Array Value} (h : Mid w0 w r g2 g3 c) (c' : Array Value) : Chg [g3] w (Ev.put w g3 c' 40) := (Chg.refl _ _).put (.inl (by simp)) _ _
@[simp] theorem num2 {s : Rst} (h : IsBytes s.1) : IntKind.i64.wrap (pNum 2 s).1 = (pNum 2 s).1 := by
  have := pNum_bound (n := 2) h
  exact wrapi (by omega) (by have e : (2 : Int) ^ (8 * 2) = 65536 := by decide
                             omega)
@[simp] theorem num1 {s : Rst} (h : IsBytes s.1) : IntKind.i64.wrap (pNum 1 s).1 = (pNum 1 s).1 := by
  have := pNum_bound (n := 1) h
  exact wrapi (by omega) (by have e : (2 : Int) ^ (8 * 1) = 256 := by decide
                             omega)
def Got (R : World → Nat → Rst → Prop) (w0 : World) (r : Nat) (o : OpV × Rst) (v : Value) (w' : World) : Prop := v = .agg (opC o.1).toArray ∧ R w' r o.2 ∧ Chg [r] w0 w'
theorem m3 {w0 w : World} {r g2 g3 : Nat} {o : OpV} {s : Rst} (h : Mid w0 w r g2 g3 (opC o).toArray) (hR : RS w r s) : P70_3 (.pointer (some ⟨g2, 0, none⟩)) (.pointer (some ⟨g3, 0, none⟩)) w (Got RS w0 r (o, s)) := by
  apply L70_3_ok
  have hlt := blk_lt h.h2
  simp -implicitDefEqProofs [L70_3, ld_40, st_40, h.h3, h.h2, hlt, opC]
  have hch : Chg [g2] w (put w g2 (opC o).toArray 40) := (Chg.refl _ _).put (.inl (by simp)) _ _
  exact ⟨rfl, hR.chg hch (by simpa using h.lt), h.ch.put (.inr h.ge) _ _⟩
theorem m2 {w0 w : World} {r g2 g3 : Nat} {k f a n v : Int} {s : Rst} (hs : IsBytes s.1) (x : Bool) (h : Mid w0 w r g2 g3 (opC (k, f, a, n, v, 0)).toArray) (hR : RS w r s) :
    P70_2 (.pointer (some ⟨r, 0, none⟩)) (.pointer (some ⟨g2, 0, none⟩)) (.pointer (some ⟨g3, 0, none⟩)) (.bool x) w (Got RS w0 r ((k, f, a, n, v, (pIf x 8 s).1), (pIf x 8 s).2)) := by
  apply L70_2_ok
  cases x with
  | false =>
    simp -implicitDefEqProofs only [L70_2, cnd_false]
    exact m3 h hR
  | true =>
    simp -implicitDefEqProofs only [L70_2, cnd_true]
    refine (c_num hs hR (n := 8) (by omega)).mono ?_
    rintro v w1 ⟨rfl, hR1, hc1⟩
    have h1 := h.step hc1
    simp -implicitDefEqProofs [st_38, h1.h3, opC]
    exact m3 (o := (k, f, a, n, _, (pNum 8 s).1)) (h1.put _) (hR1.chg (h1.chg _) (by have := h.lt; have := h.lt3; simp; omega))
theorem m1 {w0 w : World} {r g2 g3 : Nat} {k f a n : Int} {s : Rst} (hs : IsBytes s.1) (x y : Bool) (h : Mid w0 w r g2 g3 (opC (k, f, a, n, 0, 0)).toArray) (hR : RS w r s) :
    P70_1 (.pointer (some ⟨r, 0, none⟩)) (.pointer (some ⟨g2, 0, none⟩)) (.pointer (some ⟨g3, 0, none⟩)) (.bool x) (.bool y) w (Got RS w0 r ((k, f, a, n, (pIf x 8 s).1, (pIf y 8 (pIf x 8 s).2).1), (pIf y 8 (pIf x 8 s).2).2)) := by
  apply L70_1_ok
  cases x with
  | false =>
    simp -implicitDefEqProofs only [L70_1, cnd_false]
    exact m2 hs y h hR
  | true =>
    simp -implicitDefEqProofs only [L70_1, cnd_true]
    refine (c_num hs hR (n := 8) (by omega)).mono ?_
    rintro v w1 ⟨rfl, hR1, hc1⟩
    have h1 := h.step hc1
    simp -implicitDefEqProofs [st_38, h1.h3, opC]
    exact m2 (v := (pNum 8 s).1) (pNum_bytes hs) y (h1.put _) (hR1.chg (h1.chg _) (by have := h.lt; have := h.lt3; simp; omega))
end Go.Proofs.Ytgamnncehjcdiaa

namespace Go.Proofs.Ytgamnncehjcdiaa
open Go Ev Go.RowKit
set_option linter.unusedSimpArgs false
set_option linter.unusedVariables false
set_option maxRecDepth 10000

theorem tup0 (a b : Value) : pureRun Try.prog (Instr.extract (.tuple #[a, b]) 0) = some a := by rw [pr_extract]; rfl
theorem tup1 (a b : Value) : pureRun Try.prog (Instr.extract (.tuple #[a, b]) 1) = some b := by rw [pr_extract]; rfl
theorem c_within (n m : Int) (w : World) : CallR Try.prog 109 [.int .i64 n, .int .i64 m] w fun v w' => v = .bool (decide (0 ≤ n ∧ n ≤ m)) ∧ w' = w := by
  apply F109_ok
  by_cases h : 0 ≤ n
  · have e : decide (0 ≤ n ∧ n ≤ m) = decide (n ≤ m) := by simp [h]
    simp -implicitDefEqProofs only [F109, wpB_some', gd_true, gd_false, gd_tf, gd_ft, gd_ut, gd_uf, gv_true, gv_false, gv_tf, gv_ft, gv_ut, gv_uf, gE_true, gE_false, gE_tf, gE_ft, gE_ut, gE_uf, gU_true, gU_false, gU_tf, gU_ft, pickv_true, pickv_false, cnd_true, cnd_false, decide_true, decide_false, Bool.not_true, Bool.not_false, pr_not, nilv_some, bp_lss, bp_leq, bp_gtr, bp_geq, be_eql, be_neq, bne_self_eq_false, beq_self_eq_true, ldC_some, Option.isNone_none, Option.isNone_some, hp_drew, h, e, and_self]
    exact ⟨by simp, trivial⟩
  · simp -implicitDefEqProofs only [F109, wpB_some', gd_true, gd_false, gd_tf, gd_ft, gd_ut, gd_uf, gv_true, gv_false, gv_tf, gv_ft, gv_ut, gv_uf, gE_true, gE_false, gE_tf, gE_ft, gE_ut, gE_uf, gU_true, gU_false, gU_tf, gU_ft, pickv_true, pickv_false, cnd_true, cnd_false, decide_true, decide_false, Bool.not_true, Bool.not_false, pr_not, nilv_some, bp_lss, bp_leq, bp_gtr, bp_geq, be_eql, be_neq, bne_self_eq_false, beq_self_eq_true, ldC_some, Option.isNone_none, Option.isNone_some, hp_drew, h, false_and, and_self]
def frM (k : Int) : Int := if ofK k = 0 then 0 else 63
def atM (k : Int) : Int := if ofK k = 0 then 0 else 999
def nM (k : Int) : Int := if k = 1 then 3 else if nB k then 65535 else 0
/-- may an operation be? -/
def mayO (o : OpV) : Bool := decide ((1 ≤ o.1 ∧ o.1 ≤ 12) ∧ (0 ≤ o.2.1 ∧ o.2.1 ≤ frM o.1) ∧ (0 ≤ o.2.2.1 ∧ o.2.2.1 ≤ atM o.1) ∧ (0 ≤ o.2.2.2.1 ∧ o.2.2.2.1 ≤ nM o.1) ∧ (vB o.1 = true ∨ o.2.2.2.2.1 = 0) ∧ (wB o.1 = true ∨ o.2.2.2.2.2 = 0))
theorem op_0 (o : OpV) : (opC o).toArray[0 + 0]? = some (.int .i64 o.1) := rfl
theorem op_1 (o : OpV) : (opC o).toArray[0 + 1]? = some (.int .i64 o.2.1) := rfl
theorem op_2 (o : OpV) : (opC o).toArray[0 + 2]? = some (.int .i64 o.2.2.1) := rfl
theorem op_3 (o : OpV) : (opC o).toArray[0 + 3]? = some (.int .i64 o.2.2.2.1) := rfl
theorem op_4 (o : OpV) : (opC o).toArray[0 + 4]? = some (.int .u64 o.2.2.2.2.1) := rfl
theorem op_5 (o : OpV) : (opC o).toArray[0 + 5]? = some (.int .u64 o.2.2.2.2.2) := rfl
theorem form_0 (k : Int) : (formC k).toArray[0 + 0]? = some (.string (nameK k)) := rfl
theorem form_1 (k : Int) : (formC k).toArray[0 + 1]? = some (.int .i64 (ofK k)) := rfl
theorem form_2 (k : Int) : (formC k).toArray[0 + 2]? = some (.bool (nB k)) := rfl
theorem form_3 (k : Int) : (formC k).toArray[0 + 3]? = some (.bool (vB k)) := rfl
theorem form_4 (k : Int) : (formC k).toArray[0 + 4]? = some (.bool (wB k)) := rfl
theorem name_ne (k : Int) : (!((nameK k).toList == (({ data := #[] } : ByteArray)).toList)) = decide (1 ≤ k ∧ k ≤ 12) := by
  have e : (({ data := #[] } : ByteArray)).toList = [] := ByteArray.toList_mk []
  rw [e]
  rcases kind_cases k with rfl | rfl | rfl | rfl | rfl | rfl | rfl | rfl | rfl | rfl | rfl | rfl | h
  case inr.inr.inr.inr.inr.inr.inr.inr.inr.inr.inr.inr =>
    have := formC_out h
    have e2 : nameK k = { data := #[] } := by
      have h0 := congrArg (fun l : List Value => l[0]?) this
      simp [formC] at h0; exact h0
    rw [e2, e]
    have : ¬ (1 ≤ k ∧ k ≤ 12) := by omega
    simp [this]
  all_goals decide +kernel
theorem mayO_eq (o : OpV) {b : Bool} (h : ((1 ≤ o.1 ∧ o.1 ≤ 12) ∧ (0 ≤ o.2.1 ∧ o.2.1 ≤ frM o.1) ∧ (0 ≤ o.2.2.1 ∧ o.2.2.1 ≤ atM o.1) ∧ (0 ≤ o.2.2.2.1 ∧ o.2.2.2.1 ≤ nM o.1) ∧ (vB o.1 = true ∨ o.2.2.2.2.1 = 0) ∧ (wB o.1 = true ∨ o.2.2.2.2.2 = 0)) ↔ b = true) : mayO o = b := by
  unfold mayO
  cases b
  · exact decide_eq_false fun h' => by have := h.1 h'; cases this
  · exact decide_eq_true (h.2 rfl)
set_option maxHeartbeats 1000000 in
theorem l_opMay1 {w w0 : World} (hw0 : Chg [] w0 w) {o : OpV} {g1 g3 : Nat} (h1 : hp w g1 = some (.cells (opC o).toArray 40)) (h3 : hp w g3 = some (.cells (formC o.1).toArray 170)) :
    P60_1 (.pointer (some ⟨g1, 0, none⟩)) (.pointer (some ⟨g3, 0, none⟩)) (.int .i64 (frM o.1)) (.int .i64 (atM o.1)) (.int .i64 (nM o.1)) w fun v w' => v = .bool (mayO o) ∧ Chg [] w0 w' := by
  apply L60_1_ok
  by_cases k1 : 1 ≤ o.1 ∧ o.1 ≤ 12
  rotate_left
  · simp -implicitDefEqProofs only [L60_1, wpB_some', gd_true, gd_false, gd_tf, gd_ft, gd_ut, gd_uf, gv_true, gv_false, gv_tf, gv_ft, gv_ut, gv_uf, gE_true, gE_false, gE_tf, gE_ft, gE_ut, gE_uf, gU_true, gU_false, gU_tf, gU_ft, pickv_true, pickv_false, cnd_true, cnd_false, decide_true, decide_false, Bool.not_true, Bool.not_false, pr_not, nilv_some, bp_lss, bp_leq, bp_gtr, bp_geq, be_eql, be_neq, bne_self_eq_false, beq_self_eq_true, ldC_some, Option.isNone_none, Option.isNone_some, hp_drew, fa_170_0, ld_9, h3, form_0, be_neqstr, name_ne, k1]
    exact ⟨by rw [mayO_eq o (b := false) ⟨fun h => absurd h.1 k1, fun h => by cases h⟩], hw0⟩
  simp -implicitDefEqProofs only [L60_1, wpB_some', gd_true, gd_false, gd_tf, gd_ft, gd_ut, gd_uf, gv_true, gv_false, gv_tf, gv_ft, gv_ut, gv_uf, gE_true, gE_false, gE_tf, gE_ft, gE_ut, gE_uf, gU_true, gU_false, gU_tf, gU_ft, pickv_true, pickv_false, cnd_true, cnd_false, decide_true, decide_false, Bool.not_true, Bool.not_false, pr_not, nilv_some, bp_lss, bp_leq, bp_gtr, bp_geq, be_eql, be_neq, bne_self_eq_false, beq_self_eq_true, ldC_some, Option.isNone_none, Option.isNone_some, hp_drew, fa_170_0, ld_9, h3, form_0, be_neqstr, name_ne, decide_eq_true k1, fa_40_1, ld_3, h1, op_1]
  refine (c_within _ _ _).step ?_
  by_cases k2 : 0 ≤ o.2.1 ∧ o.2.1 ≤ frM o.1
  rotate_left
  · simp -implicitDefEqProofs only [decide_eq_false k2, wpB_some', gd_true, gd_false, gd_tf, gd_ft, gd_ut, gd_uf, gv_true, gv_false, gv_tf, gv_ft, gv_ut, gv_uf, gE_true, gE_false, gE_tf, gE_ft, gE_ut, gE_uf, gU_true, gU_false, gU_tf, gU_ft, pickv_true, pickv_false, cnd_true, cnd_false, decide_true, decide_false, Bool.not_true, Bool.not_false, pr_not, nilv_some, bp_lss, bp_leq, bp_gtr, bp_geq, be_eql, be_neq, bne_self_eq_false, beq_self_eq_true, ldC_some, Option.isNone_none, Option.isNone_some, hp_drew]
    exact ⟨by rw [mayO_eq o (b := false) ⟨fun h => absurd h.2.1 k2, fun h => by cases h⟩], hw0⟩
  simp -implicitDefEqProofs only [decide_eq_true k2, wpB_some', gd_true, gd_false, gd_tf, gd_ft, gd_ut, gd_uf, gv_true, gv_false, gv_tf, gv_ft, gv_ut, gv_uf, gE_true, gE_false, gE_tf, gE_ft, gE_ut, gE_uf, gU_true, gU_false, gU_tf, gU_ft, pickv_true, pickv_false, cnd_true, cnd_false, decide_true, decide_false, Bool.not_true, Bool.not_false, pr_not, nilv_some, bp_lss, bp_leq, bp_gtr, bp_geq, be_eql, be_neq, bne_self_eq_false, beq_self_eq_true, ldC_some, Option.isNone_none, Option.isNone_some, hp_drew, fa_40_2, ld_3, h1, op_2]
  refine (c_within _ _ _).step ?_
  by_cases k3 : 0 ≤ o.2.2.1 ∧ o.2.2.1 ≤ atM o.1
  rotate_left
  · simp -implicitDefEqProofs only [decide_eq_false k3, wpB_some', gd_true, gd_false, gd_tf, gd_ft, gd_ut, gd_uf, gv_true, gv_false, gv_tf, gv_ft, gv_ut, gv_uf, gE_true, gE_false, gE_tf, gE_ft, gE_ut, gE_uf, gU_true, gU_false, gU_tf, gU_ft, pickv_true, pickv_false, cnd_true, cnd_false, decide_true, decide_false, Bool.not_true, Bool.not_false, pr_not, nilv_some, bp_lss, bp_leq, bp_gtr, bp_geq, be_eql, be_neq, bne_self_eq_false, beq_self_eq_true, ldC_some, Option.isNone_none, Option.isNone_some, hp_drew]
    exact ⟨by rw [mayO_eq o (b := false) ⟨fun h => absurd h.2.2.1 k3, fun h => by cases h⟩], hw0⟩
  simp -implicitDefEqProofs only [decide_eq_true k3, wpB_some', gd_true, gd_false, gd_tf, gd_ft, gd_ut, gd_uf, gv_true, gv_false, gv_tf, gv_ft, gv_ut, gv_uf, gE_true, gE_false, gE_tf, gE_ft, gE_ut, gE_uf, gU_true, gU_false, gU_tf, gU_ft, pickv_true, pickv_false, cnd_true, cnd_false, decide_true, decide_false, Bool.not_true, Bool.not_false, pr_not, nilv_some, bp_lss, bp_leq, bp_gtr, bp_geq, be_eql, be_neq, bne_self_eq_false, beq_self_eq_true, ldC_some, Option.isNone_none, Option.isNone_some, hp_drew, fa_40_3, ld_3, h1, op_3]
  refine (c_within _ _ _).step ?_
  by_cases k4 : 0 ≤ o.2.2.2.1 ∧ o.2.2.2.1 ≤ nM o.1
  rotate_left
  · simp -implicitDefEqProofs only [decide_eq_false k4, wpB_some', gd_true, gd_false, gd_tf, gd_ft, gd_ut, gd_uf, gv_true, gv_false, gv_tf, gv_ft, gv_ut, gv_uf, gE_true, gE_false, gE_tf, gE_ft, gE_ut, gE_uf, gU_true, gU_false, gU_tf, gU_ft, pickv_true, pickv_false, cnd_true, cnd_false, decide_true, decide_false, Bool.not_true, Bool.not_false, pr_not, nilv_some, bp_lss, bp_leq, bp_gtr, bp_geq, be_eql, be_neq, bne_self_eq_false, beq_self_eq_true, ldC_some, Option.isNone_none, Option.isNone_some, hp_drew]
    exact ⟨by rw [mayO_eq o (b := false) ⟨fun h => absurd h.2.2.2.1 k4, fun h => by cases h⟩], hw0⟩
  simp -implicitDefEqProofs only [decide_eq_true k4, wpB_some', gd_true, gd_false, gd_tf, gd_ft, gd_ut, gd_uf, gv_true, gv_false, gv_tf, gv_ft, gv_ut, gv_uf, gE_true, gE_false, gE_tf, gE_ft, gE_ut, gE_uf, gU_true, gU_false, gU_tf, gU_ft, pickv_true, pickv_false, cnd_true, cnd_false, decide_true, decide_false, Bool.not_true, Bool.not_false, pr_not, nilv_some, bp_lss, bp_leq, bp_gtr, bp_geq, be_eql, be_neq, bne_self_eq_false, beq_self_eq_true, ldC_some, Option.isNone_none, Option.isNone_some, hp_drew, fa_170_3, ld_4, h3, form_3]
  have last : ∀ b : Bool, (vB o.1 = true ∨ o.2.2.2.2.1 = 0) → ((wB o.1 = true ∨ o.2.2.2.2.2 = 0) ↔ b = true) → mayO o = b := fun b h5 h6 => mayO_eq o ⟨fun h => h6.1 h.2.2.2.2.2, fun h => ⟨k1, k2, k3, k4, h5, h6.2 h⟩⟩
  have no5 : ¬ (vB o.1 = true ∨ o.2.2.2.2.1 = 0) → mayO o = false := fun h5 => mayO_eq o ⟨fun h => absurd h.2.2.2.2.1 h5, fun h => by cases h⟩
  cases hv : vB o.1 with
  | true =>
    rw [hv] at last
    cases hww : wB o.1 with
    | true =>
      rw [hww] at last
      simp -implicitDefEqProofs only [wpB_some', gd_true, gd_false, gd_tf, gd_ft, gd_ut, gd_uf, gv_true, gv_false, gv_tf, gv_ft, gv_ut, gv_uf, gE_true, gE_false, gE_tf, gE_ft, gE_ut, gE_uf, gU_true, gU_false, gU_tf, gU_ft, pickv_true, pickv_false, cnd_true, cnd_false, decide_true, decide_false, Bool.not_true, Bool.not_false, pr_not, nilv_some, bp_lss, bp_leq, bp_gtr, bp_geq, be_eql, be_neq, bne_self_eq_false, beq_self_eq_true, ldC_some, Option.isNone_none, Option.isNone_some, hp_drew, fa_170_4, ld_4, h3, form_4, hww]
      exact ⟨by rw [last true (.inl rfl) (by simp)], hw0⟩
    | false =>
      rw [hww] at last
      simp -implicitDefEqProofs only [wpB_some', gd_true, gd_false, gd_tf, gd_ft, gd_ut, gd_uf, gv_true, gv_false, gv_tf, gv_ft, gv_ut, gv_uf, gE_true, gE_false, gE_tf, gE_ft, gE_ut, gE_uf, gU_true, gU_false, gU_tf, gU_ft, pickv_true, pickv_false, cnd_true, cnd_false, decide_true, decide_false, Bool.not_true, Bool.not_false, pr_not, nilv_some, bp_lss, bp_leq, bp_gtr, bp_geq, be_eql, be_neq, bne_self_eq_false, beq_self_eq_true, ldC_some, Option.isNone_none, Option.isNone_some, hp_drew, fa_170_4, ld_4, h3, form_4, hww, fa_40_5, ld_38, h1, op_5]
      exact ⟨by rw [last (o.2.2.2.2.2 == 0) (.inl rfl) (by simp)], hw0⟩
  | false =>
    rw [hv] at last no5
    by_cases k5 : o.2.2.2.2.1 = 0
    rotate_left
    · simp -implicitDefEqProofs only [wpB_some', gd_true, gd_false, gd_tf, gd_ft, gd_ut, gd_uf, gv_true, gv_false, gv_tf, gv_ft, gv_ut, gv_uf, gE_true, gE_false, gE_tf, gE_ft, gE_ut, gE_uf, gU_true, gU_false, gU_tf, gU_ft, pickv_true, pickv_false, cnd_true, cnd_false, decide_true, decide_false, Bool.not_true, Bool.not_false, pr_not, nilv_some, bp_lss, bp_leq, bp_gtr, bp_geq, be_eql, be_neq, bne_self_eq_false, beq_self_eq_true, ldC_some, Option.isNone_none, Option.isNone_some, hp_drew, fa_40_4, ld_38, h1, op_4, eqf k5]
      exact ⟨by rw [no5 (by simp [k5])], hw0⟩
    have k5' : (o.2.2.2.2.1 == 0) = true := by rw [k5]; rfl
    cases hww : wB o.1 with
    | true =>
      rw [hww] at last
      simp -implicitDefEqProofs only [wpB_some', gd_true, gd_false, gd_tf, gd_ft, gd_ut, gd_uf, gv_true, gv_false, gv_tf, gv_ft, gv_ut, gv_uf, gE_true, gE_false, gE_tf, gE_ft, gE_ut, gE_uf, gU_true, gU_false, gU_tf, gU_ft, pickv_true, pickv_false, cnd_true, cnd_false, decide_true, decide_false, Bool.not_true, Bool.not_false, pr_not, nilv_some, bp_lss, bp_leq, bp_gtr, bp_geq, be_eql, be_neq, bne_self_eq_false, beq_self_eq_true, ldC_some, Option.isNone_none, Option.isNone_some, hp_drew, fa_40_4, ld_38, h1, op_4, k5', fa_170_4, ld_4, h3, form_4, hww]
      exact ⟨by rw [last true (.inr k5) (by simp)], hw0⟩
    | false =>
      rw [hww] at last
      simp -implicitDefEqProofs only [wpB_some', gd_true, gd_false, gd_tf, gd_ft, gd_ut, gd_uf, gv_true, gv_false, gv_tf, gv_ft, gv_ut, gv_uf, gE_true, gE_false, gE_tf, gE_ft, gE_ut, gE_uf, gU_true, gU_false, gU_tf, gU_ft, pickv_true, pickv_false, cnd_true, cnd_false, decide_true, decide_false, Bool.not_true, Bool.not_false, pr_not, nilv_some, bp_lss, bp_leq, bp_gtr, bp_geq, be_eql, be_neq, bne_self_eq_false, beq_self_eq_true, ldC_some, Option.isNone_none, Option.isNone_some, hp_drew, fa_40_4, ld_38, h1, op_4, k5', fa_170_4, ld_4, h3, form_4, hww, fa_40_5, ld_38, h1, op_5]
      exact ⟨by rw [last (o.2.2.2.2.2 == 0) (.inr k5) (by simp)], hw0⟩
theorem c_opMay (o : OpV) (w : World) : CallR Try.prog 60 [.agg (opC o).toArray] w fun v w' => v = .bool (mayO o) ∧ Chg [] w w' := by
  apply F60_ok
  have h1 : hp (w.alloc (.cells (opC o).toArray 40)) w.heap.size = some (.cells (opC o).toArray 40) := by rw [alloc_heap, if_pos rfl]
  have hc1 : Chg [] w (w.alloc (.cells (opC o).toArray 40)) := (Chg.refl _ _).alloc _
  have hlt : w.heap.size < (w.alloc (.cells (opC o).toArray 40)).heap.size := by simp
  simp -implicitDefEqProofs only [F60, effv_box, cells_agg, wpB_some', gd_true, gd_false, gd_tf, gd_ft, gd_ut, gd_uf, gv_true, gv_false, gv_tf, gv_ft, gv_ut, gv_uf, gE_true, gE_false, gE_tf, gE_ft, gE_ut, gE_uf, gU_true, gU_false, gU_tf, gU_ft, pickv_true, pickv_false, cnd_true, cnd_false, decide_true, decide_false, Bool.not_true, Bool.not_false, pr_not, nilv_some, bp_lss, bp_leq, bp_gtr, bp_geq, be_eql, be_neq, bne_self_eq_false, beq_self_eq_true, ldC_some, Option.isNone_none, Option.isNone_some, hp_drew, fa_40_0, ld_3, h1, op_0]
  generalize w.alloc (.cells (opC o).toArray 40) = w1 at *
  generalize hg : w.heap.size = g1 at *
  refine (c_formOf o.1 w1).mono ?_
  rintro v w2 ⟨rfl, hc2⟩
  simp -implicitDefEqProofs only [al_170]
  rw [st_170 (by rfl) (by rfl) (by rw [alloc_heap, if_pos rfl]; rfl) (by rw [alloc_heap, if_pos rfl]; rfl), alloc_heap, if_pos rfl]
  simp -implicitDefEqProofs only [getE_some]
  generalize hz : w2.alloc _ = wa
  have hca : Chg [] w2 wa := by rw [← hz]; exact (Chg.refl _ _).alloc _
  have hza : wa.heap.size = w2.heap.size + 1 := by rw [← hz]; simp
  have hcp : Chg [] w2 (put wa w2.heap.size (formC o.1).toArray 170) := hca.put (.inr (Nat.le_refl _)) _ _
  have h3 : hp (put wa w2.heap.size (formC o.1).toArray 170) w2.heap.size = some (.cells (formC o.1).toArray 170) := by rw [put_heap, if_pos rfl, if_pos (by omega)]
  have h1 := (hc2.trans hcp).at h1 (by simp)
  have hcc := (hc1.trans hc2).trans hcp
  clear hz hca hza hcp
  generalize put wa w2.heap.size (formC o.1).toArray 170 = w3 at *
  generalize w2.heap.size = g3 at *
  simp -implicitDefEqProofs only [wpB_some', gd_true, gd_false, gd_tf, gd_ft, gd_ut, gd_uf, gv_true, gv_false, gv_tf, gv_ft, gv_ut, gv_uf, gE_true, gE_false, gE_tf, gE_ft, gE_ut, gE_uf, gU_true, gU_false, gU_tf, gU_ft, pickv_true, pickv_false, cnd_true, cnd_false, decide_true, decide_false, Bool.not_true, Bool.not_false, pr_not, nilv_some, bp_lss, bp_leq, bp_gtr, bp_geq, be_eql, be_neq, bne_self_eq_false, beq_self_eq_true, ldC_some, Option.isNone_none, Option.isNone_some, hp_drew, fa_170_1, ld_3, h3, form_1]
  have zero : ∀ f a : Int, f = frM o.1 → a = atM o.1 → P60_0 (.pointer (some ⟨g1, 0, none⟩)) (.pointer (some ⟨g3, 0, none⟩)) (.int .i64 f) (.int .i64 a) (.int .i64 0) w3 fun v w' => v = .bool (mayO o) ∧ Chg [] w w' := by
    intro f a hf ha
    subst hf; subst ha
    apply L60_0_ok
    by_cases k1 : o.1 = 1
    · have k1' : (o.1 == 1) = true := by rw [k1]; rfl
      have e : (3 : Int) = nM o.1 := by simp [nM, k1]
      simp -implicitDefEqProofs only [L60_0, wpB_some', gd_true, gd_false, gd_tf, gd_ft, gd_ut, gd_uf, gv_true, gv_false, gv_tf, gv_ft, gv_ut, gv_uf, gE_true, gE_false, gE_tf, gE_ft, gE_ut, gE_uf, gU_true, gU_false, gU_tf, gU_ft, pickv_true, pickv_false, cnd_true, cnd_false, decide_true, decide_false, Bool.not_true, Bool.not_false, pr_not, nilv_some, bp_lss, bp_leq, bp_gtr, bp_geq, be_eql, be_neq, bne_self_eq_false, beq_self_eq_true, ldC_some, Option.isNone_none, Option.isNone_some, hp_drew, fa_40_0, ld_3, h1, op_0, k1']
      rw [e]
      exact l_opMay1 hcc h1 h3
    · cases hn : nB o.1 with
      | true =>
        have e : (65535 : Int) = nM o.1 := by simp [nM, k1, hn]
        simp -implicitDefEqProofs only [L60_0, wpB_some', gd_true, gd_false, gd_tf, gd_ft, gd_ut, gd_uf, gv_true, gv_false, gv_tf, gv_ft, gv_ut, gv_uf, gE_true, gE_false, gE_tf, gE_ft, gE_ut, gE_uf, gU_true, gU_false, gU_tf, gU_ft, pickv_true, pickv_false, cnd_true, cnd_false, decide_true, decide_false, Bool.not_true, Bool.not_false, pr_not, nilv_some, bp_lss, bp_leq, bp_gtr, bp_geq, be_eql, be_neq, bne_self_eq_false, beq_self_eq_true, ldC_some, Option.isNone_none, Option.isNone_some, hp_drew, fa_40_0, ld_3, h1, op_0, eqf k1, fa_170_2, ld_4, h3, form_2, hn]
        rw [e]
        exact l_opMay1 hcc h1 h3
      | false =>
        have e : (0 : Int) = nM o.1 := by simp [nM, k1, hn]
        simp -implicitDefEqProofs only [L60_0, wpB_some', gd_true, gd_false, gd_tf, gd_ft, gd_ut, gd_uf, gv_true, gv_false, gv_tf, gv_ft, gv_ut, gv_uf, gE_true, gE_false, gE_tf, gE_ft, gE_ut, gE_uf, gU_true, gU_false, gU_tf, gU_ft, pickv_true, pickv_false, cnd_true, cnd_false, decide_true, decide_false, Bool.not_true, Bool.not_false, pr_not, nilv_some, bp_lss, bp_leq, bp_gtr, bp_geq, be_eql, be_neq, bne_self_eq_false, beq_self_eq_true, ldC_some, Option.isNone_none, Option.isNone_some, hp_drew, fa_40_0, ld_3, h1, op_0, eqf k1, fa_170_2, ld_4, h3, form_2, hn]
        have := l_opMay1 (w0 := w) hcc h1 h3
        rw [← e] at this
        exact this
  by_cases k : ofK o.1 = 0
  · have k' : (ofK o.1 != 0) = false := by rw [k]; rfl
    simp -implicitDefEqProofs only [k', wpB_some', gd_true, gd_false, gd_tf, gd_ft, gd_ut, gd_uf, gv_true, gv_false, gv_tf, gv_ft, gv_ut, gv_uf, gE_true, gE_false, gE_tf, gE_ft, gE_ut, gE_uf, gU_true, gU_false, gU_tf, gU_ft, pickv_true, pickv_false, cnd_true, cnd_false, decide_true, decide_false, Bool.not_true, Bool.not_false, pr_not, nilv_some, bp_lss, bp_leq, bp_gtr, bp_geq, be_eql, be_neq, bne_self_eq_false, beq_self_eq_true, ldC_some, Option.isNone_none, Option.isNone_some, hp_drew]
    exact zero 0 0 (by simp [frM, k]) (by simp [atM, k])
  · simp -implicitDefEqProofs only [bne_iff_ne.2 k, wpB_some', gd_true, gd_false, gd_tf, gd_ft, gd_ut, gd_uf, gv_true, gv_false, gv_tf, gv_ft, gv_ut, gv_uf, gE_true, gE_false, gE_tf, gE_ft, gE_ut, gE_uf, gU_true, gU_false, gU_tf, gU_ft, pickv_true, pickv_false, cnd_true, cnd_false, decide_true, decide_false, Bool.not_true, Bool.not_false, pr_not, nilv_some, bp_lss, bp_leq, bp_gtr, bp_geq, be_eql, be_neq, bne_self_eq_false, beq_self_eq_true, ldC_some, Option.isNone_none, Option.isNone_some, hp_drew]
    exact zero 63 999 (by simp [frM, k]) (by simp [atM, k])
end Go.Proofs.Ytgamnncehjcdiaa

namespace Go.Proofs.Ytgamnncehjcdiaa
open Go Ev Go.RowKit
set_option linter.unusedSimpArgs false
set_option linter.unusedVariables false
set_option maxRecDepth 10000

theorem tmod_cases2 (a m : Int) (hm : 0 < m) : (0 ≤ a.tmod m ∧ a.tmod m = a % m) ∨ (a.tmod m < 0 ∧ a.tmod m + m = a % m) := by
  have h1 := Int.emod_lt_of_pos a hm
  have h2 := Int.emod_nonneg a (b := m) (by omega)
  rcases Int.lt_or_le a 0 with h | h
  · have h5 := Int.tmod_eq_emod (a := a) (b := m)
    by_cases hd : 0 ≤ a ∨ m ∣ a
    · rw [if_pos hd] at h5
      left; omega
    · rw [if_neg hd] at h5
      have h6 : (m.natAbs : Int) = m := by omega
      rw [h6] at h5
      right; omega
  · left
    rw [Int.tmod_eq_emod_of_nonneg h]; omega
theorem c_Number (a m : Int) (w : World) (hm : 0 < m) (hm2 : m ≤ 4611686018427387904) : CallR Try.prog 22 [.int .i64 a, .int .i64 m] w fun v w' => v = .int .i64 (a % m) ∧ w' = w := by
  apply F22_ok
  have hlt := Int.emod_lt_of_pos a hm
  have hge := Int.emod_nonneg a (b := m) (by omega)
  simp -implicitDefEqProofs only [F22, bp_rem (show m ≠ 0 by omega), wpB_some', gd_true, gd_false, gd_tf, gd_ft, gd_ut, gd_uf, gv_true, gv_false, gv_tf, gv_ft, gv_ut, gv_uf, gE_true, gE_false, gE_tf, gE_ft, gE_ut, gE_uf, gU_true, gU_false, gU_tf, gU_ft, pickv_true, pickv_false, cnd_true, cnd_false, decide_true, decide_false, Bool.not_true, Bool.not_false, pr_not, nilv_some, bp_lss, bp_leq, bp_gtr, bp_geq, be_eql, be_neq, bne_self_eq_false, beq_self_eq_true, ldC_some, Option.isNone_none, Option.isNone_some, hp_drew]
  rcases tmod_cases2 a m hm with ⟨h1, h2⟩ | ⟨h1, h2⟩
  · simp -implicitDefEqProofs only [show ¬ a.tmod m < 0 by omega, wpB_some', gd_true, gd_false, gd_tf, gd_ft, gd_ut, gd_uf, gv_true, gv_false, gv_tf, gv_ft, gv_ut, gv_uf, gE_true, gE_false, gE_tf, gE_ft, gE_ut, gE_uf, gU_true, gU_false, gU_tf, gU_ft, pickv_true, pickv_false, cnd_true, cnd_false, decide_true, decide_false, Bool.not_true, Bool.not_false, pr_not, nilv_some, bp_lss, bp_leq, bp_gtr, bp_geq, be_eql, be_neq, bne_self_eq_false, beq_self_eq_true, ldC_some, Option.isNone_none, Option.isNone_some, hp_drew]
    apply L22_0_ok
    simp -implicitDefEqProofs only [L22_0, h2, and_self]
  · simp -implicitDefEqProofs only [h1, wpB_some', gd_true, gd_false, gd_tf, gd_ft, gd_ut, gd_uf, gv_true, gv_false, gv_tf, gv_ft, gv_ut, gv_uf, gE_true, gE_false, gE_tf, gE_ft, gE_ut, gE_uf, gU_true, gU_false, gU_tf, gU_ft, pickv_true, pickv_false, cnd_true, cnd_false, decide_true, decide_false, Bool.not_true, Bool.not_false, pr_not, nilv_some, bp_lss, bp_leq, bp_gtr, bp_geq, be_eql, be_neq, bne_self_eq_false, beq_self_eq_true, ldC_some, Option.isNone_none, Option.isNone_some, hp_drew, bp_add]
    apply L22_0_ok
    simp -implicitDefEqProofs only [L22_0, h2, wrapi (n := a % m) (by omega) (by omega), and_self]
end Go.Proofs.Ytgamnncehjcdiaa

namespace Go.Proofs.Ytgamnncehjcdiaa.Ev
open Go Go.RowKit
set_option linter.unusedSimpArgs false
set_option linter.unusedVariables false

abbrev Fp := Nat → Prop
def FDis (F G : Fp) : Prop := ∀ k, F k → G k → False
def none' : Fp := fun _ => False
/-- but for F, and new blocks, all is as it was -/
structure ChgP (F : Fp) (w w' : World) : Prop where
  os : w'.os = w.os
  tape : w'.tape = w.tape
  output : w'.output = w.output
  size : w.heap.size ≤ w'.heap.size
  block : ∀ k, k < w.heap.size → ¬ F k → hp w' k = hp w k
/-- a thing that stood on F stands on F' now; nothing else was turned -/
structure UpdP (F F' : Fp) (w w' : World) : Prop where
  chg : ChgP F w w'
  sub : ∀ k, F' k → F k ∨ w.heap.size ≤ k
theorem ChgP.refl (F : Fp) (w : World) : ChgP F w w := ⟨rfl, rfl, rfl, Nat.le_refl _, fun _ _ _ => rfl⟩
theorem ChgP.mono {F G : Fp} {w w' : World} (h : ChgP F w w') (hs : ∀ k, F k → G k) : ChgP G w w' := ⟨h.os, h.tape, h.output, h.size, fun k hk hn => h.block k hk fun hm => hn (hs k hm)⟩
theorem ChgP.of {S : List Nat} {w w' : World} (h : Chg S w w') : ChgP (· ∈ S) w w' := ⟨h.os, h.tape, h.output, h.size, fun k hk hn => h.block k hk hn⟩
theorem ChgP.of0 {w w' : World} (h : Chg [] w w') (F : Fp) : ChgP F w w' := ⟨h.os, h.tape, h.output, h.size, fun k hk _ => h.block k hk (by simp)⟩
theorem UpdP.refl (F : Fp) (w : World) : UpdP F F w w := ⟨ChgP.refl _ _, fun k hk => .inl hk⟩
theorem UpdP.trans {F G H : Fp} {a b c : World} (h : UpdP F G a b) (k : UpdP G H b c) : UpdP F H a c :=
  ⟨⟨k.chg.os.trans h.chg.os, k.chg.tape.trans h.chg.tape, k.chg.output.trans h.chg.output, Nat.le_trans h.chg.size k.chg.size, fun i hi hn =>
    (k.chg.block i (Nat.lt_of_lt_of_le hi h.chg.size) fun hg => by rcases h.sub i hg with h1 | h1; exact hn h1; omega).trans (h.chg.block i hi hn)⟩,
   fun i hi => by
    rcases k.sub i hi with h1 | h1
    · exact h.sub i h1
    · exact .inr (Nat.le_trans h.chg.size h1)⟩
theorem UpdP.of0 {F : Fp} {a b : World} (k : Chg [] a b) : UpdP F F a b := ⟨ChgP.of0 k F, fun i hi => .inl hi⟩
theorem ChgP.at {F : Fp} {w w' : World} (h : ChgP F w w') {b : Nat} {o : Obj} (hb : hp w b = some o) (hn : ¬ F b) : hp w' b = some o := by rw [h.block b (blk_lt hb) hn]; exact hb
theorem ChgP.row {F : Fp} {w w' : World} {base : Nat} {e : TypeId} {z : Nat} {v : Value} {n : Nat} {xs : List Value} (h : w.ownsRow base e z v n xs) (hc : ChgP F w w') (hn : ∀ k, v.ownBlock = some k → ¬ F k) : w'.ownsRow base e z v n xs := by
  refine ⟨h.1, h.2.imp id fun ⟨g, cap, cur, h1, h2, h3, h4⟩ => ⟨g, cap, cur, h1, h2, ?_, h4⟩⟩
  exact hc.at h3 (hn g (by rw [h1]; rfl))
/-- what a value may be: in a world, standing on blocks -/
abbrev Th := World → Fp → Value → Prop
structure OwnT (P : Th) : Prop where
  frame : ∀ {w w' : World} {F G : Fp} {v : Value}, P w F v → ChgP G w w' → FDis F G → P w' F v
  lt : ∀ {w : World} {F : Fp} {v : Value}, P w F v → ∀ k, F k → k < w.heap.size
  one : ∀ {w : World} {F : Fp} {v : Value}, P w F v → v.cells = #[v] ∧ v.oneCell' = true
/-- a value that stands on nothing -/
def isV (u : Value) : Th := fun _ F v => v = u ∧ ∀ k, ¬ F k
theorem good_isV {u : Value} (h : u.cells = #[u] ∧ u.oneCell' = true) : OwnT (isV u) :=
  ⟨fun h _ _ => h, fun h k hk => absurd hk (h.2 k), fun h' => by rw [h'.1]; exact h⟩
/-- cells, each of its kind, each apart from the others -/
structure Parts (w : World) (Ps : List Th) (xs : List Value) (Fs : Nat → Fp) : Prop where
  len : Ps.length = xs.length
  each : ∀ (k : Nat) (P : Th) (v : Value), Ps[k]? = some P → xs[k]? = some v → P w (Fs k) v
  dis : ∀ j k, j < Ps.length → k < Ps.length → j ≠ k → FDis (Fs j) (Fs k)
def under (n : Nat) (Fs : Nat → Fp) : Fp := fun b => ∃ k, k < n ∧ Fs k b
def fset (Fs : Nat → Fp) (k : Nat) (F : Fp) : Nat → Fp := fun j => if j = k then F else Fs j
theorem Parts.frame {w w' : World} {Ps : List Th} {xs : List Value} {Fs : Nat → Fp} {G : Fp} (h : Parts w Ps xs Fs) (hg : ∀ P ∈ Ps, OwnT P) (hc : ChgP G w w') (hd : FDis (under Ps.length Fs) G) : Parts w' Ps xs Fs :=
  ⟨h.len, fun k P v hP hv => (hg P (List.mem_of_getElem? hP)).frame (h.each k P v hP hv) hc fun b h1 h2 => hd b ⟨k, (List.getElem?_eq_some_iff.1 hP).1, h1⟩ h2, h.dis⟩
theorem Parts.lt {w : World} {Ps : List Th} {xs : List Value} {Fs : Nat → Fp} (h : Parts w Ps xs Fs) (hg : ∀ P ∈ Ps, OwnT P) : ∀ b, under Ps.length Fs b → b < w.heap.size := fun b ⟨k, hk, hb⟩ => by
  obtain ⟨P, hP⟩ : ∃ P, Ps[k]? = some P := ⟨_, List.getElem?_eq_getElem hk⟩
  obtain ⟨v, hv⟩ : ∃ v, xs[k]? = some v := ⟨_, List.getElem?_eq_getElem (by rw [← h.len]; exact hk)⟩
  exact (hg P (List.mem_of_getElem? hP)).lt (h.each k P v hP hv) b hb
theorem Parts.set {w w' : World} {Ps : List Th} {xs : List Value} {Fs : Nat → Fp} {k : Nat} {F' : Fp} {P' : Th} {v' : Value} (h : Parts w Ps xs Fs) (hg : ∀ P ∈ Ps, OwnT P) (hk : k < Ps.length) (u : UpdP (Fs k) F' w w') (hv : P' w' F' v') :
    Parts w' (Ps.set k P') (xs.set k v') (fset Fs k F') := by
  have apart : ∀ j, j < Ps.length → j ≠ k → FDis (Fs j) F' := fun j hj hne b h1 h2 => by
    rcases u.sub b h2 with h3 | h3
    · exact h.dis j k hj hk hne b h1 h3
    · have := h.lt hg b ⟨j, hj, h1⟩; omega
  refine ⟨by simp [h.len], fun j P v hP hv' => ?_, fun i j hi hj hij => ?_⟩
  · rw [List.getElem?_set] at hP hv'
    by_cases hjk : k = j
    · subst hjk
      rw [if_pos rfl, if_pos hk] at hP
      rw [if_pos rfl, if_pos (by rw [← h.len]; exact hk)] at hv'
      cases hP; cases hv'
      simpa [fset] using hv
    · rw [if_neg hjk] at hP hv'
      have hj := (List.getElem?_eq_some_iff.1 hP).1
      simp only [fset, if_neg (Ne.symm hjk)]
      exact (hg P (List.mem_of_getElem? hP)).frame (h.each j P v hP hv') u.chg (h.dis j k hj hk (Ne.symm hjk))
  · simp only [List.length_set] at hi hj
    unfold fset
    by_cases h1 : i = k
    · rw [if_pos h1, if_neg (by omega)]
      exact fun b a c => apart j hj (by omega) b c a
    · rw [if_neg h1]
      by_cases h2 : j = k
      · rw [if_pos h2]; exact apart i hi h1
      · rw [if_neg h2]; exact h.dis i j hi hj hij
theorem under_set {n k : Nat} {Fs : Nat → Fp} {F' : Fp} (b : Nat) (h : under n (fset Fs k F') b) : F' b ∨ under n Fs b := by
  obtain ⟨j, hj, hb⟩ := h
  unfold fset at hb
  split at hb
  · exact .inl hb
  · exact .inr ⟨j, hj, hb⟩
theorem Parts.app {w : World} {Ps Qs : List Th} {xs ys : List Value} {Fs Gs : Nat → Fp} (h : Parts w Ps xs Fs) (k : Parts w Qs ys Gs) (hd : FDis (under Ps.length Fs) (under Qs.length Gs)) :
    Parts w (Ps ++ Qs) (xs ++ ys) fun j => if j < Ps.length then Fs j else Gs (j - Ps.length) := by
  refine ⟨by simp [h.len, k.len], fun j P v hP hv => ?_, fun i j hi hj hij => ?_⟩
  · by_cases hj : j < Ps.length
    · rw [List.getElem?_append_left hj] at hP
      rw [List.getElem?_append_left (by rw [← h.len]; exact hj)] at hv
      simp only [if_pos hj]
      exact h.each j P v hP hv
    · rw [List.getElem?_append_right (by omega)] at hP
      rw [List.getElem?_append_right (by rw [← h.len]; omega), ← h.len] at hv
      simp only [if_neg hj]
      exact k.each _ P v hP hv
  · simp only [List.length_append] at hi hj
    by_cases h1 : i < Ps.length
    · by_cases h2 : j < Ps.length
      · simp only [if_pos h1, if_pos h2]; exact h.dis i j h1 h2 hij
      · simp only [if_pos h1, if_neg h2]
        exact fun b a c => hd b ⟨i, h1, a⟩ ⟨_, by omega, c⟩
    · by_cases h2 : j < Ps.length
      · simp only [if_neg h1, if_pos h2]
        exact fun b a c => hd b ⟨j, h2, c⟩ ⟨_, by omega, a⟩
      · simp only [if_neg h1, if_neg h2]
        exact k.dis _ _ (by omega) (by omega) (by omega)
theorem under_app {n m : Nat} {Fs Gs : Nat → Fp} (b : Nat) : under (n + m) (fun j => if j < n then Fs j else Gs (j - n)) b ↔ under n Fs b ∨ under m Gs b := by
  constructor
  · rintro ⟨j, hj, hb⟩
    by_cases h : j < n
    · rw [if_pos h] at hb; exact .inl ⟨j, h, hb⟩
    · rw [if_neg h] at hb; exact .inr ⟨j - n, by omega, hb⟩
  · rintro (⟨j, hj, hb⟩ | ⟨j, hj, hb⟩)
    · exact ⟨j, by omega, by simp only [if_pos hj]; exact hb⟩
    · exact ⟨n + j, by omega, by simp only [if_neg (show ¬ n + j < n by omega), Nat.add_sub_cancel_left]; exact hb⟩
def isRow (e : TypeId) (z n : Nat) (Ps : List Th) : Th := fun w F x => ∃ (xs : List Value) (Fs : Nat → Fp), w.ownsRow 0 e z x n xs ∧ Parts w Ps xs Fs ∧ (∀ b, under Ps.length Fs b → x.ownBlock ≠ some b) ∧ ∀ b, F b ↔ x.ownBlock = some b ∨ under Ps.length Fs b
theorem good_isRow {e : TypeId} {z n : Nat} {Ps : List Th} (hg : ∀ P ∈ Ps, OwnT P) : OwnT (isRow e z n Ps) := by
  refine ⟨fun ⟨xs, Fs, h1, h2, h3, h4⟩ hc hd => ⟨xs, Fs, hc.row h1 fun k hk hG => hd k ((h4 k).2 (.inl hk)) hG, h2.frame hg hc fun b a c => hd b ((h4 b).2 (.inr a)) c, h3, h4⟩, fun ⟨xs, Fs, h1, h2, h3, h4⟩ k hk => ?_, fun ⟨xs, Fs, h1, _⟩ => ?_⟩
  · rcases (h4 k).1 hk with h | h
    · exact (h1.lt k h).2
    · exact h2.lt hg k h
  · rcases h1.2 with ⟨rfl, _⟩ | ⟨g, cap, cur, rfl, _⟩ <;> exact ⟨rfl, rfl⟩
theorem isRow.nil {e : TypeId} {z : Nat} {w : World} : isRow e z 0 [] w none' (.slice none 0 0) :=
  ⟨[], fun _ => none', World.ownsRow_nil _ _ _ _, ⟨rfl, fun k P v h => by simp at h, fun j k h => by simp at h⟩, fun b ⟨k, hk, _⟩ => by simp at hk, fun b => ⟨fun h => h.elim, fun h => by rcases h with h | ⟨k, hk, _⟩; cases h; simp at hk⟩⟩
theorem ChgP.put (w : World) (g : Nat) (c : Array Value) (e : TypeId) : ChgP (fun b => b = g) w (Ev.put w g c e) := (ChgP.of (S := [g]) ((Chg.refl _ _).put (.inl (by simp)) c e)).mono fun k hk => by simpa using hk
theorem UpdP.put {F F' : Fp} {w w1 : World} (u : UpdP F F' w w1) {g : Nat} (hg : F' g) (c : Array Value) (e : TypeId) : UpdP F F' w (Ev.put w1 g c e) :=
  u.trans ⟨(ChgP.put w1 g c e).mono fun k hk => by rw [hk]; exact hg, fun k hk => .inl hk⟩
theorem set_same {α : Type} {l : List α} {k : Nat} {v : α} (h : l[k]? = some v) : l.set k v = l := by
  apply List.ext_getElem?
  intro j
  rw [List.getElem?_set]
  split
  · rename_i e; subst e
    rw [if_pos (List.getElem?_eq_some_iff.1 h).1, h]
  · rfl
/-- a row of which one cell's thing was turned -/
theorem isRow.turn {e : TypeId} {z n : Nat} {Ps : List Th} {w w1 : World} {F F' : Fp} {x v : Value} {xs : List Value} {Fs : Nat → Fp} {k : Nat} {P' : Th} (h1 : w.ownsRow 0 e z x n xs) (h2 : Parts w Ps xs Fs) (h3 : ∀ b, under Ps.length Fs b → x.ownBlock ≠ some b) (h4 : ∀ b, F b ↔ x.ownBlock = some b ∨ under Ps.length Fs b)
    (hg : ∀ P ∈ Ps, OwnT P) (hk : k < Ps.length) (u : UpdP (Fs k) F' w w1) (hv : P' w1 F' v) :
    w1.ownsRow 0 e z x n xs ∧ Parts w1 (Ps.set k P') (xs.set k v) (fset Fs k F') ∧ (∀ b, under (Ps.set k P').length (fset Fs k F') b → x.ownBlock ≠ some b) ∧ UpdP F (fun b => x.ownBlock = some b ∨ under (Ps.set k P').length (fset Fs k F') b) w w1 := by
  refine ⟨u.chg.row h1 fun b hb hf => h3 b ⟨k, hk, hf⟩ hb, h2.set hg hk u hv, fun b hb hx => ?_, u.chg.mono fun b hb => (h4 b).2 (.inr ⟨k, hk, hb⟩), fun b hb => ?_⟩
  · rw [List.length_set] at hb
    rcases under_set b hb with h | h
    · rcases u.sub b h with h5 | h5
      · exact h3 b ⟨k, hk, h5⟩ hx
      · have := (h1.lt b hx).2; omega
    · exact h3 b h hx
  · rcases hb with hb | hb
    · exact .inl ((h4 b).2 (.inl hb))
    · rw [List.length_set] at hb
      rcases under_set b hb with h | h
      · rcases u.sub b h with h5 | h5
        · exact .inl ((h4 b).2 (.inr ⟨k, hk, h5⟩))
        · exact .inr h5
      · exact .inl ((h4 b).2 (.inr h))
/-- a cell of a row: where it stands, what it is; what comes of the row when it is turned -/
theorem isRow.cell {e : TypeId} {z n : Nat} {Ps : List Th} {w : World} {F : Fp} {x : Value} (h : isRow e z n Ps w F x) (hg : ∀ P ∈ Ps, OwnT P) {k : Nat} {P : Th} (hP : Ps[k]? = some P) :
    ∃ (g c : Nat) (v : Value) (Fk : Fp), x = .slice (some ⟨g, 0, none⟩) n c ∧ F g ∧ ¬ Fk g ∧ (∀ b, Fk b → F b) ∧ ldC (hp w g) k = some v ∧ P w Fk v ∧
      (∀ w1 F' P', UpdP Fk F' w w1 → P' w1 F' v → ∃ F1, isRow e z n (Ps.set k P') w1 F1 x ∧ UpdP F F1 w w1) ∧
      (∀ w1 F' P' v', UpdP Fk F' w w1 → OwnT P' → P' w1 F' v' → okC (hp w1 g) (k + 1) = true ∧ ∃ F1, isRow e z n (Ps.set k P') (put w1 g ((getC (hp w1 g)).setIfInBounds k v') (getE (hp w1 g))) F1 x ∧ UpdP F F1 w (put w1 g ((getC (hp w1 g)).setIfInBounds k v') (getE (hp w1 g)))) := by
  obtain ⟨xs, Fs, h1, h2, h3, h4⟩ := h
  have hk := (List.getElem?_eq_some_iff.1 hP).1
  have hkx : k < xs.length := by rw [← h2.len]; exact hk
  obtain ⟨v, hv⟩ : ∃ v, xs[k]? = some v := ⟨_, List.getElem?_eq_getElem hkx⟩
  have hnz := h1.1
  obtain ⟨g, cap, hx, hld⟩ : ∃ g cap, x = .slice (some ⟨g, 0, none⟩) n cap ∧ ldC (hp w g) k = some v := by
    rcases h1.2 with ⟨rfl, h0⟩ | ⟨g, cap, cur, rfl, hbg, hgc, hnc, hcm, hcs, htake⟩
    · subst h0; omega
    · refine ⟨g, cap, rfl, ?_⟩
      have hg' : hp w g = some (.cells cur e (0, 0)) := hgc
      rw [hg', ldC_some]
      have := hv
      rw [← htake, List.getElem?_take, if_pos (by omega)] at this
      simpa using this
  subst hx
  have hown : (Value.slice (some ⟨g, 0, none⟩) n cap).ownBlock = some g := rfl
  refine ⟨g, cap, v, Fs k, rfl, (h4 g).2 (.inl hown), fun hf => h3 g ⟨k, hk, hf⟩ hown, fun b hb => (h4 b).2 (.inr ⟨k, hk, hb⟩), hld, h2.each k P v hP hv, fun w1 F' P' u hp' => ?_, fun w1 F' P' v' u hgp hp' => ?_⟩
  · obtain ⟨a, b, c, d⟩ := isRow.turn h1 h2 h3 h4 hg hk u hp'
    rw [set_same hv] at b
    exact ⟨_, ⟨xs, _, a, b, c, fun _ => Iff.rfl⟩, d⟩
  · obtain ⟨a, b, c, d⟩ := isRow.turn h1 h2 h3 h4 hg hk u hp'
    obtain ⟨p1, p2⟩ := ownsRow_put (vs := [v']) a hown (o := k) (by simp; omega)
    refine ⟨p2, _, ⟨xs.set k v', fset Fs k F', ?_, b.frame (fun Q hQ => ?_) (ChgP.put w1 g _ _) (fun i hi hj => c i hi (by rw [hj]; exact hown)), c, fun _ => Iff.rfl⟩, d.put (.inl hown) _ _⟩
    · rw [← set_eq xs k v' hkx]; exact p1
    · rcases List.mem_or_eq_of_mem_set hQ with hq | hq
      · exact hg Q hq
      · rw [hq]; exact hgp
def isAt (e : TypeId) (g : Nat) (Ps : List Th) (w : World) (F : Fp) : Prop := ∃ (xs : List Value) (Fs : Nat → Fp), hp w g = some (.cells xs.toArray e) ∧ Parts w Ps xs Fs ∧ ¬ under Ps.length Fs g ∧ ∀ b, F b ↔ b = g ∨ under Ps.length Fs b
theorem isAt.frame {e : TypeId} {g : Nat} {Ps : List Th} {w w' : World} {F G : Fp} (h : isAt e g Ps w F) (hg : ∀ P ∈ Ps, OwnT P) (hc : ChgP G w w') (hd : FDis F G) : isAt e g Ps w' F := by
  obtain ⟨xs, Fs, h1, h2, h3, h4⟩ := h
  exact ⟨xs, Fs, hc.at h1 fun hG => hd g ((h4 g).2 (.inl rfl)) hG, h2.frame hg hc fun b a c => hd b ((h4 b).2 (.inr a)) c, h3, h4⟩
theorem isAt.lt {e : TypeId} {g : Nat} {Ps : List Th} {w : World} {F : Fp} (h : isAt e g Ps w F) (hg : ∀ P ∈ Ps, OwnT P) : ∀ k, F k → k < w.heap.size := fun k hk => by
  obtain ⟨xs, Fs, h1, h2, h3, h4⟩ := h
  rcases (h4 k).1 hk with h | h
  · subst h; exact blk_lt h1
  · exact h2.lt hg k h
/-- a cell of a block: what it is; what comes of the block when it is turned -/
theorem isAt.cell {e : TypeId} {g : Nat} {Ps : List Th} {w : World} {F : Fp} (h : isAt e g Ps w F) (hg : ∀ P ∈ Ps, OwnT P) {k : Nat} {P : Th} (hP : Ps[k]? = some P) :
    ∃ (v : Value) (Fk : Fp), F g ∧ ¬ Fk g ∧ (∀ b, Fk b → F b) ∧ ldC (hp w g) k = some v ∧ P w Fk v ∧
      (∀ w1 F' P', UpdP Fk F' w w1 → P' w1 F' v → ∃ F1, isAt e g (Ps.set k P') w1 F1 ∧ UpdP F F1 w w1) ∧
      (∀ w1 F' P' v', UpdP Fk F' w w1 → OwnT P' → P' w1 F' v' → okC (hp w1 g) (k + 1) = true ∧ ∃ F1, isAt e g (Ps.set k P') (put w1 g ((getC (hp w1 g)).setIfInBounds k v') (getE (hp w1 g))) F1 ∧ UpdP F F1 w (put w1 g ((getC (hp w1 g)).setIfInBounds k v') (getE (hp w1 g)))) := by
  obtain ⟨xs, Fs, h1, h2, h3, h4⟩ := h
  have hk := (List.getElem?_eq_some_iff.1 hP).1
  have hkx : k < xs.length := by rw [← h2.len]; exact hk
  obtain ⟨v, hv⟩ : ∃ v, xs[k]? = some v := ⟨_, List.getElem?_eq_getElem hkx⟩
  have main : ∀ {w1 : World} {F' : Fp} {P' : Th} {v' : Value}, UpdP (Fs k) F' w w1 → P' w1 F' v' → hp w1 g = some (.cells xs.toArray e) ∧ Parts w1 (Ps.set k P') (xs.set k v') (fset Fs k F') ∧ ¬ under (Ps.set k P').length (fset Fs k F') g ∧ UpdP F (fun b => b = g ∨ under (Ps.set k P').length (fset Fs k F') b) w w1 := by
    intro w1 F' P' v' u hp'
    refine ⟨u.chg.at h1 fun hf => h3 ⟨k, hk, hf⟩, h2.set hg hk u hp', fun hb => ?_, u.chg.mono fun b hb => (h4 b).2 (.inr ⟨k, hk, hb⟩), fun b hb => ?_⟩
    · rw [List.length_set] at hb
      rcases under_set g hb with h | h
      · rcases u.sub g h with h5 | h5
        · exact h3 ⟨k, hk, h5⟩
        · have := blk_lt h1; omega
      · exact h3 h
    · rcases hb with hb | hb
      · exact .inl ((h4 b).2 (.inl hb))
      · rw [List.length_set] at hb
        rcases under_set b hb with h | h
        · rcases u.sub b h with h5 | h5
          · exact .inl ((h4 b).2 (.inr ⟨k, hk, h5⟩))
          · exact .inr h5
        · exact .inl ((h4 b).2 (.inr h))
  refine ⟨v, Fs k, (h4 g).2 (.inl rfl), fun hf => h3 ⟨k, hk, hf⟩, fun b hb => (h4 b).2 (.inr ⟨k, hk, hb⟩), by rw [h1, ldC_some]; simpa using hv, h2.each k P v hP hv, fun w1 F' P' u hp' => ?_, fun w1 F' P' v' u hgp hp' => ?_⟩
  · obtain ⟨a, b, c, d⟩ := main (v' := v) u hp'
    rw [set_same hv] at b
    exact ⟨_, ⟨xs, _, a, b, c, fun _ => Iff.rfl⟩, d⟩
  · obtain ⟨a, b, c, d⟩ := main u hp'
    refine ⟨by rw [a]; simp; omega, _, ⟨xs.set k v', fset Fs k F', ?_, b.frame (fun Q hQ => ?_) (ChgP.put w1 g _ _) (fun i hi hj => c (by rw [← hj]; exact hi)), c, fun _ => Iff.rfl⟩, d.put (.inl rfl) _ _⟩
    · rw [a, getC_some, getE_some, put_same (blk_lt a)]
      simp
    · rcases List.mem_or_eq_of_mem_set hQ with hq | hq
      · exact hg Q hq
      · rw [hq]; exact hgp
/-- a new block -/
theorem isAt.new {e : TypeId} {Ps : List Th} {w : World} {xs : List Value} {Fs : Nat → Fp} (hp' : Parts w Ps xs Fs) (hg : ∀ P ∈ Ps, OwnT P) : isAt e w.heap.size Ps (w.alloc (.cells xs.toArray e)) (fun b => b = w.heap.size ∨ under Ps.length Fs b) := by
  refine ⟨xs, Fs, by rw [alloc_heap, if_pos rfl], hp'.frame hg (ChgP.of0 ((Chg.refl _ _).alloc _) none') (fun _ _ h => h), fun h => ?_, fun _ => Iff.rfl⟩
  have := hp'.lt hg _ h
  omega
/-- the row that comes of a push -/
theorem isRow.grow {e : TypeId} {z n m : Nat} {Ps Qs : List Th} {w w' : World} {F G : Fp} {x x' : Value} {ys : List Value} {Gs : Nat → Fp} (h : isRow e z n Ps w F x) (hg : ∀ P ∈ Ps, OwnT P) (hq : ∀ P ∈ Qs, OwnT P) (hy : Parts w Qs ys Gs) (hG : ∀ b, G b ↔ under Qs.length Gs b) (hd : FDis F G)
    (ho : ∀ xs, w.ownsRow 0 e z x n xs → w'.ownsRow 0 e z x' (n + m) (xs ++ ys)) (hgr : w.grownBy w' x.ownBlock) (hnb : NewB w x x') :
    ∃ F', isRow e z (n + m) (Ps ++ Qs) w' F' x' ∧ UpdP (fun b => F b ∨ G b) F' w w' ∧ ChgP F w w' := by
  obtain ⟨xs, Fs, h1, h2, h3, h4⟩ := h
  have hc : ChgP (fun b => x.ownBlock = some b) w w' := ⟨hgr.os, hgr.tape, hgr.output, hgr.size, fun k hk hn => hgr.block k hk fun e => hn e.symm⟩
  have hc' : ChgP F w w' := hc.mono fun b hb => (h4 b).2 (.inl hb)
  have a2 := h2.frame hg hc fun b hb hx => h3 b hb hx
  have b2 := hy.frame hq hc fun b hb hx => hd b ((h4 b).2 (.inl hx)) ((hG b).2 hb)
  have hdd : FDis (under Ps.length Fs) (under Qs.length Gs) := fun b hb hc => hd b ((h4 b).2 (.inr hb)) ((hG b).2 hc)
  have hnew : ∀ b, under (Ps ++ Qs).length (fun j => if j < Ps.length then Fs j else Gs (j - Ps.length)) b → x'.ownBlock ≠ some b := fun b hb hx' => by
    rw [List.length_append] at hb
    rcases (under_app b).1 hb with h | h
    · rcases hnb b hx' with h5 | h5
      · exact h3 b h h5
      · have := h2.lt hg b h; omega
    · rcases hnb b hx' with h5 | h5
      · exact hd b ((h4 b).2 (.inl h5)) ((hG b).2 h)
      · have := hy.lt hq b h; omega
  refine ⟨_, ⟨xs ++ ys, _, ho xs h1, a2.app b2 hdd, hnew, fun _ => Iff.rfl⟩, ⟨hc'.mono fun b hb => .inl hb, fun b hb => ?_⟩, hc'⟩
  rcases hb with hb | hb
  · rcases hnb b hb with h5 | h5
    · exact .inl (.inl ((h4 b).2 (.inl h5)))
    · exact .inr h5
  · rw [List.length_append] at hb
    rcases (under_app b).1 hb with h | h
    · exact .inl (.inl ((h4 b).2 (.inr h)))
    · exact .inl (.inr ((hG b).2 h))
theorem flatM_len {α β : Type} {f : α → List β} {z : Nat} (h : ∀ x, (f x).length = z) : ∀ L : List α, (L.flatMap f).length = L.length * z
  | [] => by simp
  | x :: xs => by rw [List.flatMap_cons, List.length_append, h x, flatM_len h xs, List.length_cons, Nat.add_mul]; omega
theorem flatM_get {α β : Type} {f : α → List β} {z : Nat} (h : ∀ x, (f x).length = z) : ∀ (L : List α) (i : Nat) (x : α), L[i]? = some x → ∀ k, k < z → (L.flatMap f)[i * z + k]? = (f x)[k]?
  | [], i, x, hx, k, hk => by simp at hx
  | y :: ys, 0, x, hx, k, hk => by
    simp at hx; subst hx
    rw [List.flatMap_cons, Nat.zero_mul, Nat.zero_add, List.getElem?_append_left (by rw [h]; exact hk)]
  | y :: ys, i + 1, x, hx, k, hk => by
    rw [List.flatMap_cons, show (i + 1) * z + k = (f y).length + (i * z + k) by rw [h, Nat.add_mul]; omega, List.getElem?_append_right (by omega), Nat.add_sub_cancel_left]
    exact flatM_get h ys i x (by simpa using hx) k hk
theorem flatM_set {α β : Type} {f : α → List β} {z : Nat} (h : ∀ x, (f x).length = z) {k : Nat} {p : β} (hk : k < z) {x x' : α} (hx : f x' = (f x).set k p) : ∀ (L : List α) (i : Nat), L[i]? = some x → (L.flatMap f).set (i * z + k) p = (L.set i x').flatMap f
  | [], i, hi => by simp at hi
  | y :: ys, 0, hi => by
    simp at hi; subst hi
    rw [List.flatMap_cons, Nat.zero_mul, Nat.zero_add, List.set_append_left _ _ (by rw [h]; exact hk), List.set_cons_zero, List.flatMap_cons, hx]
  | y :: ys, i + 1, hi => by
    rw [List.flatMap_cons, show (i + 1) * z + k = (f y).length + (i * z + k) by rw [h, Nat.add_mul]; omega, List.set_append_right _ _ (by omega), Nat.add_sub_cancel_left, flatM_set h hk hx ys i (by simpa using hi), List.set_cons_succ, List.flatMap_cons]
theorem isRow.rd {e : TypeId} {z n : Nat} {Ps : List Th} {w : World} {F : Fp} {x : Value} (h : isRow e z n Ps w F x) :
    ∃ A c xs Fs, x = .slice A n c ∧ RdV w A xs ∧ xs.length = n * z ∧ Parts w Ps xs Fs ∧ ∀ b, under Ps.length Fs b → F b := by
  obtain ⟨xs, Fs, h1, h2, h3, h4⟩ := h
  obtain ⟨A, c, e1, e2, _⟩ := rdV_of_own h1
  exact ⟨A, c, xs, Fs, e1, e2, h1.1, h2, fun b hb => (h4 b).2 (.inr hb)⟩
theorem Parts.flat {w : World} {us xs : List Value} {Fs : Nat → Fp} (h : Parts w (us.map isV) xs Fs) : xs = us := by
  apply List.ext_getElem?
  intro k
  rcases Nat.lt_or_ge k us.length with hk | hk
  · have hkx : k < xs.length := by have := h.len; simp at this; omega
    have := h.each k (isV us[k]) xs[k] (by simp [hk]) (List.getElem?_eq_getElem hkx)
    rw [List.getElem?_eq_getElem hkx, List.getElem?_eq_getElem hk, this.1]
  · have := h.len
    simp at this
    rw [List.getElem?_eq_none (by omega), List.getElem?_eq_none (by omega)]
theorem Parts.ofFlat {w : World} (us : List Value) : Parts w (us.map isV) us fun _ => none' :=
  ⟨by simp, fun k P v hP hv => by
    rw [List.getElem?_map, hv] at hP
    cases hP
    exact ⟨rfl, fun _ h => h⟩, fun _ _ _ _ _ b h _ => h⟩
theorem good_flat {us : List Value} (h : ∀ u ∈ us, u.cells = #[u] ∧ u.oneCell' = true) : ∀ P ∈ us.map isV, OwnT P := fun P hP => by
  obtain ⟨u, hu, rfl⟩ := List.mem_map.1 hP
  exact good_isV (h u hu)
/-- a row of cells that own nothing -/
theorem flat_own {e : TypeId} {z n : Nat} {us : List Value} {w : World} {F : Fp} {x : Value} (h : isRow e z n (us.map isV) w F x) : w.ownsRow 0 e z x n us ∧ ∀ b, F b → x.ownBlock = some b := by
  obtain ⟨xs, Fs, h1, h2, h3, h4⟩ := h
  rw [h2.flat] at h1
  refine ⟨h1, fun b hb => ?_⟩
  rcases (h4 b).1 hb with h5 | ⟨k, hk, hb'⟩
  · exact h5
  · obtain ⟨P, hP⟩ : ∃ P, (us.map isV)[k]? = some P := ⟨_, List.getElem?_eq_getElem hk⟩
    obtain ⟨v, hv⟩ : ∃ v, xs[k]? = some v := ⟨_, List.getElem?_eq_getElem (by rw [← h2.len]; exact hk)⟩
    have := h2.each k P v hP hv
    obtain ⟨u, _, rfl⟩ := List.mem_map.1 (List.mem_of_getElem? hP)
    exact absurd hb' (this.2 b)
theorem own_flat {e : TypeId} {z n : Nat} {us : List Value} {w : World} {x : Value} {base : Nat} (h : w.ownsRow base e z x n us) : isRow e z n (us.map isV) w (fun b => x.ownBlock = some b) x :=
  ⟨us, fun _ => none', ownsRow_mono h (Nat.zero_le _), Parts.ofFlat us, fun b ⟨_, _, hb⟩ => hb.elim, fun b => ⟨fun h => .inl h, fun h => by rcases h with h | ⟨_, _, h⟩; exact h; exact h.elim⟩⟩
end Go.Proofs.Ytgamnncehjcdiaa.Ev

