/- Parts of the proof of ModelPlays, one behind the other. Conditions: none. -/
import Derived.Test.YtgamnncehjcdiaaChecked
import Derived.Eval
import Derived.Laws.Tables
import Derived.Test.YtgamnncehjcdiaaZModelPlays8
set_option linter.unusedSimpArgs false
set_option linter.unusedVariables false
set_option maxRecDepth 100000
namespace Go.Proofs.Ytgamnncehjcdiaa
open Go Ev
variable {w : World} {K : Value → World → Prop} {L : World → Prop}
@[simp] theorem fa_25_0 {b o : Nat} : pureRun Try.prog (Instr.fieldAt 25 (.pointer (some ⟨b, o, none⟩)) 0) = some (.pointer (some ⟨b, o + 0, none⟩)) := bk (g := false) (z := 1) (by kernel_rfl) (by decide)
@[simp] theorem fa_25_1 {b o : Nat} : pureRun Try.prog (Instr.fieldAt 25 (.pointer (some ⟨b, o, none⟩)) 1) = some (.pointer (some ⟨b, o + 1, none⟩)) := bk (g := false) (z := 1) (by kernel_rfl) (by decide)
@[simp] theorem bq {b o : Nat} : pureRun Try.prog (Instr.fieldAt 40 (.pointer (some ⟨b, o, none⟩)) 0) = some (.pointer (some ⟨b, o + 0, none⟩)) := bk (g := false) (z := 1) (by kernel_rfl) (by decide)
@[simp] theorem fa_40_1 {b o : Nat} : pureRun Try.prog (Instr.fieldAt 40 (.pointer (some ⟨b, o, none⟩)) 1) = some (.pointer (some ⟨b, o + 1, none⟩)) := bk (g := false) (z := 1) (by kernel_rfl) (by decide)
@[simp] theorem fa_40_2 {b o : Nat} : pureRun Try.prog (Instr.fieldAt 40 (.pointer (some ⟨b, o, none⟩)) 2) = some (.pointer (some ⟨b, o + 2, none⟩)) := bk (g := false) (z := 1) (by kernel_rfl) (by decide)
@[simp] theorem bT {b o : Nat} : pureRun Try.prog (Instr.fieldAt 40 (.pointer (some ⟨b, o, none⟩)) 3) = some (.pointer (some ⟨b, o + 3, none⟩)) := bk (g := false) (z := 1) (by kernel_rfl) (by decide)
@[simp] theorem fa_40_4 {b o : Nat} : pureRun Try.prog (Instr.fieldAt 40 (.pointer (some ⟨b, o, none⟩)) 4) = some (.pointer (some ⟨b, o + 4, none⟩)) := bk (g := false) (z := 1) (by kernel_rfl) (by decide)
@[simp] theorem fa_40_5 {b o : Nat} : pureRun Try.prog (Instr.fieldAt 40 (.pointer (some ⟨b, o, none⟩)) 5) = some (.pointer (some ⟨b, o + 5, none⟩)) := bk (g := false) (z := 1) (by kernel_rfl) (by decide)
@[simp] theorem bX {b o : Nat} : pureRun Try.prog (Instr.fieldAt 51 (.pointer (some ⟨b, o, none⟩)) 0) = some (.pointer (some ⟨b, o + 0, none⟩)) := bk (g := false) (z := 1) (by kernel_rfl) (by decide)
@[simp] theorem fa_51_1 {b o : Nat} : pureRun Try.prog (Instr.fieldAt 51 (.pointer (some ⟨b, o, none⟩)) 1) = some (.pointer (some ⟨b, o + 1, none⟩)) := bk (g := false) (z := 1) (by kernel_rfl) (by decide)
@[simp] theorem cj {b o : Nat} : pureRun Try.prog (Instr.fieldAt 51 (.pointer (some ⟨b, o, none⟩)) 2) = some (.pointer (some ⟨b, o + 2, none⟩)) := bk (g := false) (z := 1) (by kernel_rfl) (by decide)
@[simp] theorem fa_51_3 {b o : Nat} : pureRun Try.prog (Instr.fieldAt 51 (.pointer (some ⟨b, o, none⟩)) 3) = some (.pointer (some ⟨b, o + 3, none⟩)) := bk (g := false) (z := 1) (by kernel_rfl) (by decide)
@[simp] theorem fa_51_4 {b o : Nat} : pureRun Try.prog (Instr.fieldAt 51 (.pointer (some ⟨b, o, none⟩)) 4) = some (.pointer (some ⟨b, o + 4, none⟩)) := bk (g := false) (z := 1) (by kernel_rfl) (by decide)
@[simp] theorem fa_53_0 {b o : Nat} : pureRun Try.prog (Instr.fieldAt 53 (.pointer (some ⟨b, o, none⟩)) 0) = some (.pointer (some ⟨b, o + 0, none⟩)) := bk (g := false) (z := 1) (by kernel_rfl) (by decide)
@[simp] theorem fa_53_1 {b o : Nat} : pureRun Try.prog (Instr.fieldAt 53 (.pointer (some ⟨b, o, none⟩)) 1) = some (.pointer (some ⟨b, o + 1, none⟩)) := bk (g := true) (z := 5) (by kernel_rfl) (by decide)
@[simp] theorem fa_53_2 {b o : Nat} : pureRun Try.prog (Instr.fieldAt 53 (.pointer (some ⟨b, o, none⟩)) 2) = some (.pointer (some ⟨b, o + 6, none⟩)) := bk (g := false) (z := 1) (by kernel_rfl) (by decide)
@[simp] theorem fa_53_3 {b o : Nat} : pureRun Try.prog (Instr.fieldAt 53 (.pointer (some ⟨b, o, none⟩)) 3) = some (.pointer (some ⟨b, o + 7, none⟩)) := bk (g := false) (z := 1) (by kernel_rfl) (by decide)
@[simp] theorem fa_58_0 {b o : Nat} : pureRun Try.prog (Instr.fieldAt 58 (.pointer (some ⟨b, o, none⟩)) 0) = some (.pointer (some ⟨b, o + 0, none⟩)) := bk (g := false) (z := 1) (by kernel_rfl) (by decide)
@[simp] theorem fa_58_1 {b o : Nat} : pureRun Try.prog (Instr.fieldAt 58 (.pointer (some ⟨b, o, none⟩)) 1) = some (.pointer (some ⟨b, o + 1, none⟩)) := bk (g := false) (z := 1) (by kernel_rfl) (by decide)
@[simp] theorem fa_58_3 {b o : Nat} : pureRun Try.prog (Instr.fieldAt 58 (.pointer (some ⟨b, o, none⟩)) 3) = some (.pointer (some ⟨b, o + 8, none⟩)) := bk (g := false) (z := 1) (by kernel_rfl) (by decide)
@[simp] theorem fa_58_4 {b o : Nat} : pureRun Try.prog (Instr.fieldAt 58 (.pointer (some ⟨b, o, none⟩)) 4) = some (.pointer (some ⟨b, o + 9, none⟩)) := bk (g := false) (z := 1) (by kernel_rfl) (by decide)
@[simp] theorem fa_58_5 {b o : Nat} : pureRun Try.prog (Instr.fieldAt 58 (.pointer (some ⟨b, o, none⟩)) 5) = some (.pointer (some ⟨b, o + 10, none⟩)) := bk (g := false) (z := 1) (by kernel_rfl) (by decide)
@[simp] theorem fa_58_6 {b o : Nat} : pureRun Try.prog (Instr.fieldAt 58 (.pointer (some ⟨b, o, none⟩)) 6) = some (.pointer (some ⟨b, o + 11, none⟩)) := bk (g := false) (z := 1) (by kernel_rfl) (by decide)
@[simp] theorem fa_58_7 {b o : Nat} : pureRun Try.prog (Instr.fieldAt 58 (.pointer (some ⟨b, o, none⟩)) 7) = some (.pointer (some ⟨b, o + 12, none⟩)) := bk (g := true) (z := 8) (by kernel_rfl) (by decide)
@[simp] theorem fa_65_0 {b o : Nat} : pureRun Try.prog (Instr.fieldAt 65 (.pointer (some ⟨b, o, none⟩)) 0) = some (.pointer (some ⟨b, o + 0, none⟩)) := bk (g := false) (z := 1) (by kernel_rfl) (by decide)
@[simp] theorem fa_65_1 {b o : Nat} : pureRun Try.prog (Instr.fieldAt 65 (.pointer (some ⟨b, o, none⟩)) 1) = some (.pointer (some ⟨b, o + 1, none⟩)) := bk (g := false) (z := 1) (by kernel_rfl) (by decide)
@[simp] theorem fa_65_2 {b o : Nat} : pureRun Try.prog (Instr.fieldAt 65 (.pointer (some ⟨b, o, none⟩)) 2) = some (.pointer (some ⟨b, o + 2, none⟩)) := bk (g := false) (z := 1) (by kernel_rfl) (by decide)
@[simp] theorem fa_65_3 {b o : Nat} : pureRun Try.prog (Instr.fieldAt 65 (.pointer (some ⟨b, o, none⟩)) 3) = some (.pointer (some ⟨b, o + 3, none⟩)) := bk (g := false) (z := 1) (by kernel_rfl) (by decide)
@[simp] theorem fa_65_4 {b o : Nat} : pureRun Try.prog (Instr.fieldAt 65 (.pointer (some ⟨b, o, none⟩)) 4) = some (.pointer (some ⟨b, o + 4, none⟩)) := bk (g := false) (z := 1) (by kernel_rfl) (by decide)
@[simp] theorem fa_65_5 {b o : Nat} : pureRun Try.prog (Instr.fieldAt 65 (.pointer (some ⟨b, o, none⟩)) 5) = some (.pointer (some ⟨b, o + 5, none⟩)) := bk (g := true) (z := 6) (by kernel_rfl) (by decide)
@[simp] theorem fa_65_6 {b o : Nat} : pureRun Try.prog (Instr.fieldAt 65 (.pointer (some ⟨b, o, none⟩)) 6) = some (.pointer (some ⟨b, o + 11, none⟩)) := bk (g := true) (z := 8) (by kernel_rfl) (by decide)
@[simp] theorem fa_67_0 {b o : Nat} : pureRun Try.prog (Instr.fieldAt 67 (.pointer (some ⟨b, o, none⟩)) 0) = some (.pointer (some ⟨b, o + 0, none⟩)) := bk (g := false) (z := 1) (by kernel_rfl) (by decide)
@[simp] theorem fa_67_1 {b o : Nat} : pureRun Try.prog (Instr.fieldAt 67 (.pointer (some ⟨b, o, none⟩)) 1) = some (.pointer (some ⟨b, o + 1, none⟩)) := bk (g := false) (z := 1) (by kernel_rfl) (by decide)
@[simp] theorem fa_67_2 {b o : Nat} : pureRun Try.prog (Instr.fieldAt 67 (.pointer (some ⟨b, o, none⟩)) 2) = some (.pointer (some ⟨b, o + 2, none⟩)) := bk (g := false) (z := 1) (by kernel_rfl) (by decide)
@[simp] theorem fa_74_0 {b o : Nat} : pureRun Try.prog (Instr.fieldAt 74 (.pointer (some ⟨b, o, none⟩)) 0) = some (.pointer (some ⟨b, o + 0, none⟩)) := bk (g := false) (z := 1) (by kernel_rfl) (by decide)
@[simp] theorem fa_74_1 {b o : Nat} : pureRun Try.prog (Instr.fieldAt 74 (.pointer (some ⟨b, o, none⟩)) 1) = some (.pointer (some ⟨b, o + 1, none⟩)) := bk (g := false) (z := 1) (by kernel_rfl) (by decide)
@[simp] theorem fa_74_2 {b o : Nat} : pureRun Try.prog (Instr.fieldAt 74 (.pointer (some ⟨b, o, none⟩)) 2) = some (.pointer (some ⟨b, o + 2, none⟩)) := bk (g := false) (z := 1) (by kernel_rfl) (by decide)
@[simp] theorem fa_74_3 {b o : Nat} : pureRun Try.prog (Instr.fieldAt 74 (.pointer (some ⟨b, o, none⟩)) 3) = some (.pointer (some ⟨b, o + 3, none⟩)) := bk (g := false) (z := 1) (by kernel_rfl) (by decide)
@[simp] theorem fa_74_4 {b o : Nat} : pureRun Try.prog (Instr.fieldAt 74 (.pointer (some ⟨b, o, none⟩)) 4) = some (.pointer (some ⟨b, o + 4, none⟩)) := bk (g := false) (z := 1) (by kernel_rfl) (by decide)
@[simp] theorem fa_74_5 {b o : Nat} : pureRun Try.prog (Instr.fieldAt 74 (.pointer (some ⟨b, o, none⟩)) 5) = some (.pointer (some ⟨b, o + 5, none⟩)) := bk (g := false) (z := 1) (by kernel_rfl) (by decide)
@[simp] theorem fa_92_0 {b o : Nat} : pureRun Try.prog (Instr.fieldAt 92 (.pointer (some ⟨b, o, none⟩)) 0) = some (.pointer (some ⟨b, o + 0, none⟩)) := bk (g := true) (z := 6) (by kernel_rfl) (by decide)
@[simp] theorem fa_92_1 {b o : Nat} : pureRun Try.prog (Instr.fieldAt 92 (.pointer (some ⟨b, o, none⟩)) 1) = some (.pointer (some ⟨b, o + 6, none⟩)) := bk (g := false) (z := 1) (by kernel_rfl) (by decide)
@[simp] theorem fa_92_2 {b o : Nat} : pureRun Try.prog (Instr.fieldAt 92 (.pointer (some ⟨b, o, none⟩)) 2) = some (.pointer (some ⟨b, o + 7, none⟩)) := bk (g := false) (z := 1) (by kernel_rfl) (by decide)
@[simp] theorem fa_92_3 {b o : Nat} : pureRun Try.prog (Instr.fieldAt 92 (.pointer (some ⟨b, o, none⟩)) 3) = some (.pointer (some ⟨b, o + 8, none⟩)) := bk (g := false) (z := 1) (by kernel_rfl) (by decide)
@[simp] theorem fa_100_0 {b o : Nat} : pureRun Try.prog (Instr.fieldAt 100 (.pointer (some ⟨b, o, none⟩)) 0) = some (.pointer (some ⟨b, o + 0, none⟩)) := bk (g := false) (z := 1) (by kernel_rfl) (by decide)
@[simp] theorem fa_100_1 {b o : Nat} : pureRun Try.prog (Instr.fieldAt 100 (.pointer (some ⟨b, o, none⟩)) 1) = some (.pointer (some ⟨b, o + 1, none⟩)) := bk (g := false) (z := 1) (by kernel_rfl) (by decide)
@[simp] theorem fa_115_0 {b o : Nat} : pureRun Try.prog (Instr.fieldAt 115 (.pointer (some ⟨b, o, none⟩)) 0) = some (.pointer (some ⟨b, o + 0, none⟩)) := bk (g := false) (z := 1) (by kernel_rfl) (by decide)
@[simp] theorem fa_115_1 {b o : Nat} : pureRun Try.prog (Instr.fieldAt 115 (.pointer (some ⟨b, o, none⟩)) 1) = some (.pointer (some ⟨b, o + 1, none⟩)) := bk (g := false) (z := 1) (by kernel_rfl) (by decide)
@[simp] theorem fa_121_0 {b o : Nat} : pureRun Try.prog (Instr.fieldAt 121 (.pointer (some ⟨b, o, none⟩)) 0) = some (.pointer (some ⟨b, o + 0, none⟩)) := bk (g := false) (z := 1) (by kernel_rfl) (by decide)
@[simp] theorem fa_121_1 {b o : Nat} : pureRun Try.prog (Instr.fieldAt 121 (.pointer (some ⟨b, o, none⟩)) 1) = some (.pointer (some ⟨b, o + 1, none⟩)) := bk (g := false) (z := 1) (by kernel_rfl) (by decide)
@[simp] theorem fa_121_2 {b o : Nat} : pureRun Try.prog (Instr.fieldAt 121 (.pointer (some ⟨b, o, none⟩)) 2) = some (.pointer (some ⟨b, o + 2, none⟩)) := bk (g := false) (z := 1) (by kernel_rfl) (by decide)
@[simp] theorem fa_132_0 {b o : Nat} : pureRun Try.prog (Instr.fieldAt 132 (.pointer (some ⟨b, o, none⟩)) 0) = some (.pointer (some ⟨b, o + 0, none⟩)) := bk (g := true) (z := 6) (by kernel_rfl) (by decide)
@[simp] theorem fa_132_1 {b o : Nat} : pureRun Try.prog (Instr.fieldAt 132 (.pointer (some ⟨b, o, none⟩)) 1) = some (.pointer (some ⟨b, o + 6, none⟩)) := bk (g := false) (z := 1) (by kernel_rfl) (by decide)
@[simp] theorem fa_132_2 {b o : Nat} : pureRun Try.prog (Instr.fieldAt 132 (.pointer (some ⟨b, o, none⟩)) 2) = some (.pointer (some ⟨b, o + 7, none⟩)) := bk (g := false) (z := 1) (by kernel_rfl) (by decide)
@[simp] theorem fa_132_3 {b o : Nat} : pureRun Try.prog (Instr.fieldAt 132 (.pointer (some ⟨b, o, none⟩)) 3) = some (.pointer (some ⟨b, o + 8, none⟩)) := bk (g := false) (z := 1) (by kernel_rfl) (by decide)
@[simp] theorem fa_132_4 {b o : Nat} : pureRun Try.prog (Instr.fieldAt 132 (.pointer (some ⟨b, o, none⟩)) 4) = some (.pointer (some ⟨b, o + 9, none⟩)) := bk (g := false) (z := 1) (by kernel_rfl) (by decide)
@[simp] theorem fa_137_0 {b o : Nat} : pureRun Try.prog (Instr.fieldAt 137 (.pointer (some ⟨b, o, none⟩)) 0) = some (.pointer (some ⟨b, o + 0, none⟩)) := bk (g := false) (z := 1) (by kernel_rfl) (by decide)
@[simp] theorem fa_137_1 {b o : Nat} : pureRun Try.prog (Instr.fieldAt 137 (.pointer (some ⟨b, o, none⟩)) 1) = some (.pointer (some ⟨b, o + 1, none⟩)) := bk (g := false) (z := 1) (by kernel_rfl) (by decide)
@[simp] theorem fa_141_0 {b o : Nat} : pureRun Try.prog (Instr.fieldAt 141 (.pointer (some ⟨b, o, none⟩)) 0) = some (.pointer (some ⟨b, o + 0, none⟩)) := bk (g := false) (z := 1) (by kernel_rfl) (by decide)
@[simp] theorem fa_141_1 {b o : Nat} : pureRun Try.prog (Instr.fieldAt 141 (.pointer (some ⟨b, o, none⟩)) 1) = some (.pointer (some ⟨b, o + 1, none⟩)) := bk (g := false) (z := 1) (by kernel_rfl) (by decide)
@[simp] theorem fa_144_0 {b o : Nat} : pureRun Try.prog (Instr.fieldAt 144 (.pointer (some ⟨b, o, none⟩)) 0) = some (.pointer (some ⟨b, o + 0, none⟩)) := bk (g := true) (z := 2) (by kernel_rfl) (by decide)
@[simp] theorem fa_144_1 {b o : Nat} : pureRun Try.prog (Instr.fieldAt 144 (.pointer (some ⟨b, o, none⟩)) 1) = some (.pointer (some ⟨b, o + 2, none⟩)) := bk (g := false) (z := 1) (by kernel_rfl) (by decide)
@[simp] theorem fa_144_2 {b o : Nat} : pureRun Try.prog (Instr.fieldAt 144 (.pointer (some ⟨b, o, none⟩)) 2) = some (.pointer (some ⟨b, o + 3, none⟩)) := bk (g := false) (z := 1) (by kernel_rfl) (by decide)
@[simp] theorem fa_144_3 {b o : Nat} : pureRun Try.prog (Instr.fieldAt 144 (.pointer (some ⟨b, o, none⟩)) 3) = some (.pointer (some ⟨b, o + 4, none⟩)) := bk (g := false) (z := 1) (by kernel_rfl) (by decide)
@[simp] theorem fa_144_4 {b o : Nat} : pureRun Try.prog (Instr.fieldAt 144 (.pointer (some ⟨b, o, none⟩)) 4) = some (.pointer (some ⟨b, o + 5, none⟩)) := bk (g := false) (z := 1) (by kernel_rfl) (by decide)
@[simp] theorem fa_144_5 {b o : Nat} : pureRun Try.prog (Instr.fieldAt 144 (.pointer (some ⟨b, o, none⟩)) 5) = some (.pointer (some ⟨b, o + 6, none⟩)) := bk (g := false) (z := 1) (by kernel_rfl) (by decide)
@[simp] theorem fa_150_0 {b o : Nat} : pureRun Try.prog (Instr.fieldAt 150 (.pointer (some ⟨b, o, none⟩)) 0) = some (.pointer (some ⟨b, o + 0, none⟩)) := bk (g := false) (z := 1) (by kernel_rfl) (by decide)
@[simp] theorem fa_150_1 {b o : Nat} : pureRun Try.prog (Instr.fieldAt 150 (.pointer (some ⟨b, o, none⟩)) 1) = some (.pointer (some ⟨b, o + 1, none⟩)) := bk (g := false) (z := 1) (by kernel_rfl) (by decide)
@[simp] theorem cr {b o : Nat} : pureRun Try.prog (Instr.fieldAt 154 (.pointer (some ⟨b, o, none⟩)) 0) = some (.pointer (some ⟨b, o + 0, none⟩)) := bk (g := true) (z := 6) (by kernel_rfl) (by decide)
@[simp] theorem fa_154_1 {b o : Nat} : pureRun Try.prog (Instr.fieldAt 154 (.pointer (some ⟨b, o, none⟩)) 1) = some (.pointer (some ⟨b, o + 6, none⟩)) := bk (g := false) (z := 1) (by kernel_rfl) (by decide)
@[simp] theorem fa_154_2 {b o : Nat} : pureRun Try.prog (Instr.fieldAt 154 (.pointer (some ⟨b, o, none⟩)) 2) = some (.pointer (some ⟨b, o + 7, none⟩)) := bk (g := false) (z := 1) (by kernel_rfl) (by decide)
@[simp] theorem fa_154_3 {b o : Nat} : pureRun Try.prog (Instr.fieldAt 154 (.pointer (some ⟨b, o, none⟩)) 3) = some (.pointer (some ⟨b, o + 8, none⟩)) := bk (g := false) (z := 1) (by kernel_rfl) (by decide)
@[simp] theorem bK {b o : Nat} : pureRun Try.prog (Instr.fieldAt 154 (.pointer (some ⟨b, o, none⟩)) 4) = some (.pointer (some ⟨b, o + 9, none⟩)) := bk (g := false) (z := 1) (by kernel_rfl) (by decide)
@[simp] theorem fa_154_5 {b o : Nat} : pureRun Try.prog (Instr.fieldAt 154 (.pointer (some ⟨b, o, none⟩)) 5) = some (.pointer (some ⟨b, o + 10, none⟩)) := bk (g := false) (z := 1) (by kernel_rfl) (by decide)
@[simp] theorem fa_154_6 {b o : Nat} : pureRun Try.prog (Instr.fieldAt 154 (.pointer (some ⟨b, o, none⟩)) 6) = some (.pointer (some ⟨b, o + 11, none⟩)) := bk (g := false) (z := 1) (by kernel_rfl) (by decide)
@[simp] theorem fa_158_0 {b o : Nat} : pureRun Try.prog (Instr.fieldAt 158 (.pointer (some ⟨b, o, none⟩)) 0) = some (.pointer (some ⟨b, o + 0, none⟩)) := bk (g := false) (z := 1) (by kernel_rfl) (by decide)
@[simp] theorem fa_158_1 {b o : Nat} : pureRun Try.prog (Instr.fieldAt 158 (.pointer (some ⟨b, o, none⟩)) 1) = some (.pointer (some ⟨b, o + 1, none⟩)) := bk (g := false) (z := 1) (by kernel_rfl) (by decide)
@[simp] theorem fa_158_2 {b o : Nat} : pureRun Try.prog (Instr.fieldAt 158 (.pointer (some ⟨b, o, none⟩)) 2) = some (.pointer (some ⟨b, o + 2, none⟩)) := bk (g := false) (z := 1) (by kernel_rfl) (by decide)
@[simp] theorem fa_158_3 {b o : Nat} : pureRun Try.prog (Instr.fieldAt 158 (.pointer (some ⟨b, o, none⟩)) 3) = some (.pointer (some ⟨b, o + 3, none⟩)) := bk (g := false) (z := 1) (by kernel_rfl) (by decide)
@[simp] theorem fa_158_4 {b o : Nat} : pureRun Try.prog (Instr.fieldAt 158 (.pointer (some ⟨b, o, none⟩)) 4) = some (.pointer (some ⟨b, o + 4, none⟩)) := bk (g := false) (z := 1) (by kernel_rfl) (by decide)
@[simp] theorem fa_158_5 {b o : Nat} : pureRun Try.prog (Instr.fieldAt 158 (.pointer (some ⟨b, o, none⟩)) 5) = some (.pointer (some ⟨b, o + 5, none⟩)) := bk (g := false) (z := 1) (by kernel_rfl) (by decide)
@[simp] theorem fa_158_6 {b o : Nat} : pureRun Try.prog (Instr.fieldAt 158 (.pointer (some ⟨b, o, none⟩)) 6) = some (.pointer (some ⟨b, o + 6, none⟩)) := bk (g := false) (z := 1) (by kernel_rfl) (by decide)
@[simp] theorem fa_158_7 {b o : Nat} : pureRun Try.prog (Instr.fieldAt 158 (.pointer (some ⟨b, o, none⟩)) 7) = some (.pointer (some ⟨b, o + 7, none⟩)) := bk (g := false) (z := 1) (by kernel_rfl) (by decide)
@[simp] theorem fa_170_0 {b o : Nat} : pureRun Try.prog (Instr.fieldAt 170 (.pointer (some ⟨b, o, none⟩)) 0) = some (.pointer (some ⟨b, o + 0, none⟩)) := bk (g := false) (z := 1) (by kernel_rfl) (by decide)
@[simp] theorem fa_170_1 {b o : Nat} : pureRun Try.prog (Instr.fieldAt 170 (.pointer (some ⟨b, o, none⟩)) 1) = some (.pointer (some ⟨b, o + 1, none⟩)) := bk (g := false) (z := 1) (by kernel_rfl) (by decide)
@[simp] theorem fa_170_2 {b o : Nat} : pureRun Try.prog (Instr.fieldAt 170 (.pointer (some ⟨b, o, none⟩)) 2) = some (.pointer (some ⟨b, o + 2, none⟩)) := bk (g := false) (z := 1) (by kernel_rfl) (by decide)
@[simp] theorem fa_170_3 {b o : Nat} : pureRun Try.prog (Instr.fieldAt 170 (.pointer (some ⟨b, o, none⟩)) 3) = some (.pointer (some ⟨b, o + 3, none⟩)) := bk (g := false) (z := 1) (by kernel_rfl) (by decide)
@[simp] theorem fa_170_4 {b o : Nat} : pureRun Try.prog (Instr.fieldAt 170 (.pointer (some ⟨b, o, none⟩)) 4) = some (.pointer (some ⟨b, o + 4, none⟩)) := bk (g := false) (z := 1) (by kernel_rfl) (by decide)
@[simp] theorem fi_170_1 {x0 x1 x2 x3 x4 : Value} : pureRun Try.prog (Instr.field 170 (.agg #[x0, x1, x2, x3, x4]) 1) = some x1 := pr_field1 (off := 1) (z := 1) (by kernel_rfl) rfl
theorem sz_3 : (Try.prog.info? 3).map (·.size) = some 1 := by kernel_rfl
theorem ag_3 : (Try.prog.underlying 3).map isAggD = some false := by kernel_rfl
@[simp] theorem bj {b o : Nat} : ldv Try.prog 3 (.pointer (some ⟨b, o, none⟩)) w = ldC (hp w b) o := ldv_blk ag_3
theorem sz_4 : (Try.prog.info? 4).map (·.size) = some 1 := by kernel_rfl
theorem ag_4 : (Try.prog.underlying 4).map isAggD = some false := by kernel_rfl
@[simp] theorem ld_4 {b o : Nat} : ldv Try.prog 4 (.pointer (some ⟨b, o, none⟩)) w = ldC (hp w b) o := ldv_blk ag_4
theorem sz_5 : (Try.prog.info? 5).map (·.size) = some 1 := by kernel_rfl
theorem ag_5 : (Try.prog.underlying 5).map isAggD = some false := by kernel_rfl
@[simp] theorem ld_5 {b o : Nat} : ldv Try.prog 5 (.pointer (some ⟨b, o, none⟩)) w = ldC (hp w b) o := ldv_blk ag_5
theorem ag_9 : (Try.prog.underlying 9).map isAggD = some false := by kernel_rfl
@[simp] theorem ld_9 {b o : Nat} : ldv Try.prog 9 (.pointer (some ⟨b, o, none⟩)) w = ldC (hp w b) o := ldv_blk ag_9
theorem ag_22 : (Try.prog.underlying 22).map isAggD = some false := by kernel_rfl
@[simp] theorem ld_22 {b o : Nat} : ldv Try.prog 22 (.pointer (some ⟨b, o, none⟩)) w = ldC (hp w b) o := ldv_blk ag_22
theorem sz_23 : (Try.prog.info? 23).map (·.size) = some 1 := by kernel_rfl
theorem ag_23 : (Try.prog.underlying 23).map isAggD = some false := by kernel_rfl
@[simp] theorem ce {b o : Nat} : ldv Try.prog 23 (.pointer (some ⟨b, o, none⟩)) w = ldC (hp w b) o := ldv_blk ag_23
theorem sz_27 : (Try.prog.info? 27).map (·.size) = some 1 := by kernel_rfl
theorem ag_27 : (Try.prog.underlying 27).map isAggD = some false := by kernel_rfl
@[simp] theorem ld_27 {b o : Nat} : ldv Try.prog 27 (.pointer (some ⟨b, o, none⟩)) w = ldC (hp w b) o := ldv_blk ag_27
theorem sz_28 : (Try.prog.info? 28).map (·.size) = some 1 := by kernel_rfl
theorem ag_28 : (Try.prog.underlying 28).map isAggD = some false := by kernel_rfl
@[simp] theorem ld_28 {b o : Nat} : ldv Try.prog 28 (.pointer (some ⟨b, o, none⟩)) w = ldC (hp w b) o := ldv_blk ag_28
theorem ag_29 : (Try.prog.underlying 29).map isAggD = some false := by kernel_rfl
@[simp] theorem bU {b o : Nat} : ldv Try.prog 29 (.pointer (some ⟨b, o, none⟩)) w = ldC (hp w b) o := ldv_blk ag_29
theorem sz_38 : (Try.prog.info? 38).map (·.size) = some 1 := by kernel_rfl
theorem ag_38 : (Try.prog.underlying 38).map isAggD = some false := by kernel_rfl
@[simp] theorem ld_38 {b o : Nat} : ldv Try.prog 38 (.pointer (some ⟨b, o, none⟩)) w = ldC (hp w b) o := ldv_blk ag_38
theorem sz_40 : (Try.prog.info? 40).map (·.size) = some 6 := by kernel_rfl
theorem ag_40 : (Try.prog.underlying 40).map isAggD = some true := by kernel_rfl
theorem ld_40 {b o : Nat} : ldv Try.prog 40 (.pointer (some ⟨b, o, none⟩)) w = (ldL (hp w b) o 6).map fun l => .agg l.toArray := ldv_L ag_40 sz_40
theorem sz_51 : (Try.prog.info? 51).map (·.size) = some 5 := by kernel_rfl
theorem ag_51 : (Try.prog.underlying 51).map isAggD = some true := by kernel_rfl
theorem ld_51 {b o : Nat} : ldv Try.prog 51 (.pointer (some ⟨b, o, none⟩)) w = (ldL (hp w b) o 5).map fun l => .agg l.toArray := ldv_L ag_51 sz_51
theorem sz_53 : (Try.prog.info? 53).map (·.size) = some 8 := by kernel_rfl
theorem ag_53 : (Try.prog.underlying 53).map isAggD = some true := by kernel_rfl
theorem ag_54 : (Try.prog.underlying 54).map isAggD = some false := by kernel_rfl
@[simp] theorem ld_54 {b o : Nat} : ldv Try.prog 54 (.pointer (some ⟨b, o, none⟩)) w = ldC (hp w b) o := ldv_blk ag_54
theorem sz_74 : (Try.prog.info? 74).map (·.size) = some 6 := by kernel_rfl
theorem ag_74 : (Try.prog.underlying 74).map isAggD = some true := by kernel_rfl
theorem ag_75 : (Try.prog.underlying 75).map isAggD = some false := by kernel_rfl
@[simp] theorem ld_75 {b o : Nat} : ldv Try.prog 75 (.pointer (some ⟨b, o, none⟩)) w = ldC (hp w b) o := ldv_blk ag_75
theorem ag_89 : (Try.prog.underlying 89).map isAggD = some false := by kernel_rfl
@[simp] theorem ld_89 {b o : Nat} : ldv Try.prog 89 (.pointer (some ⟨b, o, none⟩)) w = ldC (hp w b) o := ldv_blk ag_89
theorem sz_90 : (Try.prog.info? 90).map (·.size) = some 1 := by kernel_rfl
theorem ag_90 : (Try.prog.underlying 90).map isAggD = some false := by kernel_rfl
@[simp] theorem ld_90 {b o : Nat} : ldv Try.prog 90 (.pointer (some ⟨b, o, none⟩)) w = ldC (hp w b) o := ldv_blk ag_90
theorem ag_128 : (Try.prog.underlying 128).map isAggD = some false := by kernel_rfl
@[simp] theorem ld_128 {b o : Nat} : ldv Try.prog 128 (.pointer (some ⟨b, o, none⟩)) w = ldC (hp w b) o := ldv_blk ag_128
theorem ag_129 : (Try.prog.underlying 129).map isAggD = some false := by kernel_rfl
@[simp] theorem ld_129 {b o : Nat} : ldv Try.prog 129 (.pointer (some ⟨b, o, none⟩)) w = ldC (hp w b) o := ldv_blk ag_129
theorem sz_130 : (Try.prog.info? 130).map (·.size) = some 1 := by kernel_rfl
theorem ag_130 : (Try.prog.underlying 130).map isAggD = some false := by kernel_rfl
@[simp] theorem ld_130 {b o : Nat} : ldv Try.prog 130 (.pointer (some ⟨b, o, none⟩)) w = ldC (hp w b) o := ldv_blk ag_130
theorem sz_135 : (Try.prog.info? 135).map (·.size) = some 1 := by kernel_rfl
theorem ag_135 : (Try.prog.underlying 135).map isAggD = some false := by kernel_rfl
@[simp] theorem ld_135 {b o : Nat} : ldv Try.prog 135 (.pointer (some ⟨b, o, none⟩)) w = ldC (hp w b) o := ldv_blk ag_135
theorem sz_141 : (Try.prog.info? 141).map (·.size) = some 2 := by kernel_rfl
theorem ag_141 : (Try.prog.underlying 141).map isAggD = some true := by kernel_rfl
theorem ld_141 {b o : Nat} : ldv Try.prog 141 (.pointer (some ⟨b, o, none⟩)) w = (ldL (hp w b) o 2).map fun l => .agg l.toArray := ldv_L ag_141 sz_141
theorem sz_142 : (Try.prog.info? 142).map (·.size) = some 1 := by kernel_rfl
theorem ag_142 : (Try.prog.underlying 142).map isAggD = some false := by kernel_rfl
@[simp] theorem ld_142 {b o : Nat} : ldv Try.prog 142 (.pointer (some ⟨b, o, none⟩)) w = ldC (hp w b) o := ldv_blk ag_142
theorem sz_144 : (Try.prog.info? 144).map (·.size) = some 7 := by kernel_rfl
theorem ag_144 : (Try.prog.underlying 144).map isAggD = some true := by kernel_rfl
theorem ld_144 {b o : Nat} : ldv Try.prog 144 (.pointer (some ⟨b, o, none⟩)) w = (ldL (hp w b) o 7).map fun l => .agg l.toArray := ldv_L ag_144 sz_144
theorem sz_150 : (Try.prog.info? 150).map (·.size) = some 2 := by kernel_rfl
theorem ag_150 : (Try.prog.underlying 150).map isAggD = some true := by kernel_rfl
theorem ld_150 {b o : Nat} : ldv Try.prog 150 (.pointer (some ⟨b, o, none⟩)) w = (ldL (hp w b) o 2).map fun l => .agg l.toArray := ldv_L ag_150 sz_150
theorem sz_151 : (Try.prog.info? 151).map (·.size) = some 1 := by kernel_rfl
theorem ag_151 : (Try.prog.underlying 151).map isAggD = some false := by kernel_rfl
@[simp] theorem bN {b o : Nat} : ldv Try.prog 151 (.pointer (some ⟨b, o, none⟩)) w = ldC (hp w b) o := ldv_blk ag_151
theorem ag_152 : (Try.prog.underlying 152).map isAggD = some false := by kernel_rfl
@[simp] theorem ld_152 {b o : Nat} : ldv Try.prog 152 (.pointer (some ⟨b, o, none⟩)) w = ldC (hp w b) o := ldv_blk ag_152
theorem sz_158 : (Try.prog.info? 158).map (·.size) = some 8 := by kernel_rfl
theorem ag_158 : (Try.prog.underlying 158).map isAggD = some true := by kernel_rfl
theorem ld_158 {b o : Nat} : ldv Try.prog 158 (.pointer (some ⟨b, o, none⟩)) w = (ldL (hp w b) o 8).map fun l => .agg l.toArray := ldv_L ag_158 sz_158
theorem sz_159 : (Try.prog.info? 159).map (·.size) = some 1 := by kernel_rfl
theorem ag_159 : (Try.prog.underlying 159).map isAggD = some false := by kernel_rfl
@[simp] theorem ld_159 {b o : Nat} : ldv Try.prog 159 (.pointer (some ⟨b, o, none⟩)) w = ldC (hp w b) o := ldv_blk ag_159
theorem sz_170 : (Try.prog.info? 170).map (·.size) = some 5 := by kernel_rfl
theorem ag_170 : (Try.prog.underlying 170).map isAggD = some true := by kernel_rfl
theorem ld_170 {b o : Nat} : ldv Try.prog 170 (.pointer (some ⟨b, o, none⟩)) w = (ldL (hp w b) o 5).map fun l => .agg l.toArray := ldv_L ag_170 sz_170
theorem ag_177 : (Try.prog.underlying 177).map isAggD = some false := by kernel_rfl
@[simp] theorem ld_177 {b o : Nat} : ldv Try.prog 177 (.pointer (some ⟨b, o, none⟩)) w = ldC (hp w b) o := ldv_blk ag_177
theorem sz_187 : (Try.prog.info? 187).map (·.size) = some 2 := by kernel_rfl
theorem ag_187 : (Try.prog.underlying 187).map isAggD = some true := by kernel_rfl
theorem ld_187 {b o : Nat} : ldv Try.prog 187 (.pointer (some ⟨b, o, none⟩)) w = (ldL (hp w b) o 2).map fun l => .agg l.toArray := ldv_L ag_187 sz_187
theorem st_3 {b o : Nat} {v : Value} (hv : v.cells = #[v]) (h1 : v.oneCell' = true) (h : okC (hp w b) (o + 1) = true) : effu Try.prog (Instr.storeAt 3 (.pointer (some ⟨b, o, none⟩)) v) w L = L (put w b ((getC (hp w b)).setIfInBounds o v) (getE (hp w b))) := effu_store1 sz_3 hv h1 h
theorem st_4 {b o : Nat} {v : Value} (hv : v.cells = #[v]) (h1 : v.oneCell' = true) (h : okC (hp w b) (o + 1) = true) : effu Try.prog (Instr.storeAt 4 (.pointer (some ⟨b, o, none⟩)) v) w L = L (put w b ((getC (hp w b)).setIfInBounds o v) (getE (hp w b))) := effu_store1 sz_4 hv h1 h
theorem st_23 {b o : Nat} {v : Value} (hv : v.cells = #[v]) (h1 : v.oneCell' = true) (h : okC (hp w b) (o + 1) = true) : effu Try.prog (Instr.storeAt 23 (.pointer (some ⟨b, o, none⟩)) v) w L = L (put w b ((getC (hp w b)).setIfInBounds o v) (getE (hp w b))) := effu_store1 sz_23 hv h1 h
theorem st_28 {b o : Nat} {v : Value} (hv : v.cells = #[v]) (h1 : v.oneCell' = true) (h : okC (hp w b) (o + 1) = true) : effu Try.prog (Instr.storeAt 28 (.pointer (some ⟨b, o, none⟩)) v) w L = L (put w b ((getC (hp w b)).setIfInBounds o v) (getE (hp w b))) := effu_store1 sz_28 hv h1 h
theorem st_38 {b o : Nat} {v : Value} (hv : v.cells = #[v]) (h1 : v.oneCell' = true) (h : okC (hp w b) (o + 1) = true) : effu Try.prog (Instr.storeAt 38 (.pointer (some ⟨b, o, none⟩)) v) w L = L (put w b ((getC (hp w b)).setIfInBounds o v) (getE (hp w b))) := effu_store1 sz_38 hv h1 h
theorem st_40 {b : Nat} {c : Array Value} (hc : c.size = 6) (h1 : c.toList.all (·.oneCell') = true) (h : okC (hp w b) 6 = true) (hs : (getC (hp w b)).size = 6) : effu Try.prog (Instr.storeAt 40 (.pointer (some ⟨b, 0, none⟩)) (.agg c)) w L = L (put w b c (getE (hp w b))) := effu_storeW sz_40 hc h1 (by decide) h hs
theorem st_51 {b : Nat} {c : Array Value} (hc : c.size = 5) (h1 : c.toList.all (·.oneCell') = true) (h : okC (hp w b) 5 = true) (hs : (getC (hp w b)).size = 5) : effu Try.prog (Instr.storeAt 51 (.pointer (some ⟨b, 0, none⟩)) (.agg c)) w L = L (put w b c (getE (hp w b))) := effu_storeW sz_51 hc h1 (by decide) h hs
theorem st_53 {b : Nat} {c : Array Value} (hc : c.size = 8) (h1 : c.toList.all (·.oneCell') = true) (h : okC (hp w b) 8 = true) (hs : (getC (hp w b)).size = 8) : effu Try.prog (Instr.storeAt 53 (.pointer (some ⟨b, 0, none⟩)) (.agg c)) w L = L (put w b c (getE (hp w b))) := effu_storeW sz_53 hc h1 (by decide) h hs
theorem st_74 {b : Nat} {c : Array Value} (hc : c.size = 6) (h1 : c.toList.all (·.oneCell') = true) (h : okC (hp w b) 6 = true) (hs : (getC (hp w b)).size = 6) : effu Try.prog (Instr.storeAt 74 (.pointer (some ⟨b, 0, none⟩)) (.agg c)) w L = L (put w b c (getE (hp w b))) := effu_storeW sz_74 hc h1 (by decide) h hs
theorem st_90 {b o : Nat} {v : Value} (hv : v.cells = #[v]) (h1 : v.oneCell' = true) (h : okC (hp w b) (o + 1) = true) : effu Try.prog (Instr.storeAt 90 (.pointer (some ⟨b, o, none⟩)) v) w L = L (put w b ((getC (hp w b)).setIfInBounds o v) (getE (hp w b))) := effu_store1 sz_90 hv h1 h
theorem st_130 {b o : Nat} {v : Value} (hv : v.cells = #[v]) (h1 : v.oneCell' = true) (h : okC (hp w b) (o + 1) = true) : effu Try.prog (Instr.storeAt 130 (.pointer (some ⟨b, o, none⟩)) v) w L = L (put w b ((getC (hp w b)).setIfInBounds o v) (getE (hp w b))) := effu_store1 sz_130 hv h1 h
theorem st_135 {b o : Nat} {v : Value} (hv : v.cells = #[v]) (h1 : v.oneCell' = true) (h : okC (hp w b) (o + 1) = true) : effu Try.prog (Instr.storeAt 135 (.pointer (some ⟨b, o, none⟩)) v) w L = L (put w b ((getC (hp w b)).setIfInBounds o v) (getE (hp w b))) := effu_store1 sz_135 hv h1 h
theorem st_141 {b : Nat} {c : Array Value} (hc : c.size = 2) (h1 : c.toList.all (·.oneCell') = true) (h : okC (hp w b) 2 = true) (hs : (getC (hp w b)).size = 2) : effu Try.prog (Instr.storeAt 141 (.pointer (some ⟨b, 0, none⟩)) (.agg c)) w L = L (put w b c (getE (hp w b))) := effu_storeW sz_141 hc h1 (by decide) h hs
theorem st_142 {b o : Nat} {v : Value} (hv : v.cells = #[v]) (h1 : v.oneCell' = true) (h : okC (hp w b) (o + 1) = true) : effu Try.prog (Instr.storeAt 142 (.pointer (some ⟨b, o, none⟩)) v) w L = L (put w b ((getC (hp w b)).setIfInBounds o v) (getE (hp w b))) := effu_store1 sz_142 hv h1 h
theorem st_144 {b : Nat} {c : Array Value} (hc : c.size = 7) (h1 : c.toList.all (·.oneCell') = true) (h : okC (hp w b) 7 = true) (hs : (getC (hp w b)).size = 7) : effu Try.prog (Instr.storeAt 144 (.pointer (some ⟨b, 0, none⟩)) (.agg c)) w L = L (put w b c (getE (hp w b))) := effu_storeW sz_144 hc h1 (by decide) h hs
theorem st_150 {b : Nat} {c : Array Value} (hc : c.size = 2) (h1 : c.toList.all (·.oneCell') = true) (h : okC (hp w b) 2 = true) (hs : (getC (hp w b)).size = 2) : effu Try.prog (Instr.storeAt 150 (.pointer (some ⟨b, 0, none⟩)) (.agg c)) w L = L (put w b c (getE (hp w b))) := effu_storeW sz_150 hc h1 (by decide) h hs
theorem st_151 {b o : Nat} {v : Value} (hv : v.cells = #[v]) (h1 : v.oneCell' = true) (h : okC (hp w b) (o + 1) = true) : effu Try.prog (Instr.storeAt 151 (.pointer (some ⟨b, o, none⟩)) v) w L = L (put w b ((getC (hp w b)).setIfInBounds o v) (getE (hp w b))) := effu_store1 sz_151 hv h1 h
theorem st_158 {b : Nat} {c : Array Value} (hc : c.size = 8) (h1 : c.toList.all (·.oneCell') = true) (h : okC (hp w b) 8 = true) (hs : (getC (hp w b)).size = 8) : effu Try.prog (Instr.storeAt 158 (.pointer (some ⟨b, 0, none⟩)) (.agg c)) w L = L (put w b c (getE (hp w b))) := effu_storeW sz_158 hc h1 (by decide) h hs
theorem st_159 {b o : Nat} {v : Value} (hv : v.cells = #[v]) (h1 : v.oneCell' = true) (h : okC (hp w b) (o + 1) = true) : effu Try.prog (Instr.storeAt 159 (.pointer (some ⟨b, o, none⟩)) v) w L = L (put w b ((getC (hp w b)).setIfInBounds o v) (getE (hp w b))) := effu_store1 sz_159 hv h1 h
theorem st_170 {b : Nat} {c : Array Value} (hc : c.size = 5) (h1 : c.toList.all (·.oneCell') = true) (h : okC (hp w b) 5 = true) (hs : (getC (hp w b)).size = 5) : effu Try.prog (Instr.storeAt 170 (.pointer (some ⟨b, 0, none⟩)) (.agg c)) w L = L (put w b c (getE (hp w b))) := effu_storeW sz_170 hc h1 (by decide) h hs
@[simp] theorem al_25 {x : Value} : effv Try.prog (Instr.alloc 25 true x) w K = K (.pointer (some ⟨w.heap.size, 0, none⟩)) (w.alloc (.cells #[Go.Value.slice none 0 0, Go.Value.slice none 0 0] 25)) := cu (z := (Go.Value.agg #[Go.Value.slice none 0 0, Go.Value.slice none 0 0])) (by kernel_rfl)
@[simp] theorem al_40 {x : Value} : effv Try.prog (Instr.alloc 40 true x) w K = K (.pointer (some ⟨w.heap.size, 0, none⟩)) (w.alloc (.cells #[Go.Value.int Go.IntKind.i64 0, Go.Value.int Go.IntKind.i64 0, Go.Value.int Go.IntKind.i64 0, Go.Value.int Go.IntKind.i64 0, Go.Value.int Go.IntKind.u64 0, Go.Value.int Go.IntKind.u64 0] 40)) := cu (z := (Go.Value.agg #[Go.Value.int Go.IntKind.i64 0, Go.Value.int Go.IntKind.i64 0, Go.Value.int Go.IntKind.i64 0, Go.Value.int Go.IntKind.i64 0, Go.Value.int Go.IntKind.u64 0, Go.Value.int Go.IntKind.u64 0])) (by kernel_rfl)
@[simp] theorem al_45 {x : Value} : effv Try.prog (Instr.alloc 45 true x) w K = K (.pointer (some ⟨w.heap.size, 0, none⟩)) (w.alloc (.cells #[Go.Value.int Go.IntKind.i64 0, Go.Value.int Go.IntKind.i64 0, Go.Value.int Go.IntKind.i64 0] 45)) := cu (z := (Go.Value.agg #[Go.Value.int Go.IntKind.i64 0, Go.Value.int Go.IntKind.i64 0, Go.Value.int Go.IntKind.i64 0])) (by kernel_rfl)
@[simp] theorem al_51 {x : Value} : effv Try.prog (Instr.alloc 51 true x) w K = K (.pointer (some ⟨w.heap.size, 0, none⟩)) (w.alloc (.cells #[Go.Value.int Go.IntKind.i64 0, Go.Value.int Go.IntKind.i64 0, Go.Value.int Go.IntKind.i64 0, Go.Value.int Go.IntKind.i64 0, Go.Value.int Go.IntKind.i64 0] 51)) := cu (z := (Go.Value.agg #[Go.Value.int Go.IntKind.i64 0, Go.Value.int Go.IntKind.i64 0, Go.Value.int Go.IntKind.i64 0, Go.Value.int Go.IntKind.i64 0, Go.Value.int Go.IntKind.i64 0])) (by kernel_rfl)
@[simp] theorem al_53 {x : Value} : effv Try.prog (Instr.alloc 53 true x) w K = K (.pointer (some ⟨w.heap.size, 0, none⟩)) (w.alloc (.cells #[Go.Value.int Go.IntKind.i64 0, Go.Value.int Go.IntKind.i64 0, Go.Value.int Go.IntKind.i64 0, Go.Value.int Go.IntKind.i64 0, Go.Value.int Go.IntKind.i64 0, Go.Value.int Go.IntKind.i64 0, Go.Value.int Go.IntKind.i64 0, Go.Value.int Go.IntKind.u64 0] 53)) := cu (z := (Go.Value.agg #[Go.Value.int Go.IntKind.i64 0, Go.Value.int Go.IntKind.i64 0, Go.Value.int Go.IntKind.i64 0, Go.Value.int Go.IntKind.i64 0, Go.Value.int Go.IntKind.i64 0, Go.Value.int Go.IntKind.i64 0, Go.Value.int Go.IntKind.i64 0, Go.Value.int Go.IntKind.u64 0])) (by kernel_rfl)
@[simp] theorem al_58 {x : Value} : effv Try.prog (Instr.alloc 58 true x) w K = K (.pointer (some ⟨w.heap.size, 0, none⟩)) (w.alloc (.cells #[Go.Value.int Go.IntKind.i64 0, Go.Value.int Go.IntKind.i64 0, Go.Value.int Go.IntKind.i64 0, Go.Value.int Go.IntKind.i64 0, Go.Value.int Go.IntKind.i64 0, Go.Value.int Go.IntKind.i64 0, Go.Value.int Go.IntKind.u64 0, Go.Value.int Go.IntKind.u64 0, Go.Value.int Go.IntKind.i64 0, Go.Value.int Go.IntKind.i64 0, Go.Value.int Go.IntKind.i64 0, Go.Value.int Go.IntKind.i64 0, Go.Value.int Go.IntKind.i64 0, Go.Value.int Go.IntKind.i64 0, Go.Value.int Go.IntKind.i64 0, Go.Value.int Go.IntKind.i64 0, Go.Value.int Go.IntKind.i64 0, Go.Value.int Go.IntKind.i64 0, Go.Value.int Go.IntKind.i64 0, Go.Value.int Go.IntKind.u64 0] 58)) := cu (z := (Go.Value.agg #[Go.Value.int Go.IntKind.i64 0, Go.Value.int Go.IntKind.i64 0, Go.Value.int Go.IntKind.i64 0, Go.Value.int Go.IntKind.i64 0, Go.Value.int Go.IntKind.i64 0, Go.Value.int Go.IntKind.i64 0, Go.Value.int Go.IntKind.u64 0, Go.Value.int Go.IntKind.u64 0, Go.Value.int Go.IntKind.i64 0, Go.Value.int Go.IntKind.i64 0, Go.Value.int Go.IntKind.i64 0, Go.Value.int Go.IntKind.i64 0, Go.Value.int Go.IntKind.i64 0, Go.Value.int Go.IntKind.i64 0, Go.Value.int Go.IntKind.i64 0, Go.Value.int Go.IntKind.i64 0, Go.Value.int Go.IntKind.i64 0, Go.Value.int Go.IntKind.i64 0, Go.Value.int Go.IntKind.i64 0, Go.Value.int Go.IntKind.u64 0])) (by kernel_rfl)
@[simp] theorem al_65 {x : Value} : effv Try.prog (Instr.alloc 65 true x) w K = K (.pointer (some ⟨w.heap.size, 0, none⟩)) (w.alloc (.cells #[Go.Value.int Go.IntKind.i64 0, Go.Value.int Go.IntKind.i64 0, Go.Value.int Go.IntKind.i64 0, Go.Value.int Go.IntKind.i64 0, Go.Value.int Go.IntKind.i64 0, Go.Value.int Go.IntKind.i64 0, Go.Value.int Go.IntKind.i64 0, Go.Value.int Go.IntKind.i64 0, Go.Value.int Go.IntKind.i64 0, Go.Value.int Go.IntKind.u64 0, Go.Value.int Go.IntKind.u64 0, Go.Value.int Go.IntKind.i64 0, Go.Value.int Go.IntKind.i64 0, Go.Value.int Go.IntKind.i64 0, Go.Value.int Go.IntKind.i64 0, Go.Value.int Go.IntKind.i64 0, Go.Value.int Go.IntKind.i64 0, Go.Value.int Go.IntKind.i64 0, Go.Value.int Go.IntKind.u64 0] 65)) := cu (z := (Go.Value.agg #[Go.Value.int Go.IntKind.i64 0, Go.Value.int Go.IntKind.i64 0, Go.Value.int Go.IntKind.i64 0, Go.Value.int Go.IntKind.i64 0, Go.Value.int Go.IntKind.i64 0, Go.Value.int Go.IntKind.i64 0, Go.Value.int Go.IntKind.i64 0, Go.Value.int Go.IntKind.i64 0, Go.Value.int Go.IntKind.i64 0, Go.Value.int Go.IntKind.u64 0, Go.Value.int Go.IntKind.u64 0, Go.Value.int Go.IntKind.i64 0, Go.Value.int Go.IntKind.i64 0, Go.Value.int Go.IntKind.i64 0, Go.Value.int Go.IntKind.i64 0, Go.Value.int Go.IntKind.i64 0, Go.Value.int Go.IntKind.i64 0, Go.Value.int Go.IntKind.i64 0, Go.Value.int Go.IntKind.u64 0])) (by kernel_rfl)
@[simp] theorem al_74 {x : Value} : effv Try.prog (Instr.alloc 74 true x) w K = K (.pointer (some ⟨w.heap.size, 0, none⟩)) (w.alloc (.cells #[Go.Value.int Go.IntKind.i64 0, Go.Value.int Go.IntKind.i64 0, Go.Value.int Go.IntKind.i64 0, Go.Value.int Go.IntKind.i64 0, Go.Value.int Go.IntKind.i64 0, Go.Value.int Go.IntKind.i64 0] 74)) := cu (z := (Go.Value.agg #[Go.Value.int Go.IntKind.i64 0, Go.Value.int Go.IntKind.i64 0, Go.Value.int Go.IntKind.i64 0, Go.Value.int Go.IntKind.i64 0, Go.Value.int Go.IntKind.i64 0, Go.Value.int Go.IntKind.i64 0])) (by kernel_rfl)
@[simp] theorem al_79 {x : Value} : effv Try.prog (Instr.alloc 79 true x) w K = K (.pointer (some ⟨w.heap.size, 0, none⟩)) (w.alloc (.cells #[Go.Value.int Go.IntKind.u64 0, Go.Value.int Go.IntKind.u64 0, Go.Value.int Go.IntKind.u64 0, Go.Value.int Go.IntKind.u64 0, Go.Value.int Go.IntKind.u64 0, Go.Value.int Go.IntKind.u64 0, Go.Value.int Go.IntKind.u64 0, Go.Value.int Go.IntKind.u64 0, Go.Value.int Go.IntKind.u64 0, Go.Value.int Go.IntKind.u64 0, Go.Value.int Go.IntKind.u64 0, Go.Value.int Go.IntKind.u64 0, Go.Value.int Go.IntKind.u64 0, Go.Value.int Go.IntKind.u64 0, Go.Value.int Go.IntKind.u64 0, Go.Value.int Go.IntKind.u64 0] 79)) := cu (z := (Go.Value.agg #[Go.Value.int Go.IntKind.u64 0, Go.Value.int Go.IntKind.u64 0, Go.Value.int Go.IntKind.u64 0, Go.Value.int Go.IntKind.u64 0, Go.Value.int Go.IntKind.u64 0, Go.Value.int Go.IntKind.u64 0, Go.Value.int Go.IntKind.u64 0, Go.Value.int Go.IntKind.u64 0, Go.Value.int Go.IntKind.u64 0, Go.Value.int Go.IntKind.u64 0, Go.Value.int Go.IntKind.u64 0, Go.Value.int Go.IntKind.u64 0, Go.Value.int Go.IntKind.u64 0, Go.Value.int Go.IntKind.u64 0, Go.Value.int Go.IntKind.u64 0, Go.Value.int Go.IntKind.u64 0])) (by kernel_rfl)
@[simp] theorem al_93 {x : Value} : effv Try.prog (Instr.alloc 93 true x) w K = K (.pointer (some ⟨w.heap.size, 0, none⟩)) (w.alloc (.cells #[Go.Value.int Go.IntKind.i64 0, Go.Value.int Go.IntKind.i64 0, Go.Value.int Go.IntKind.i64 0, Go.Value.int Go.IntKind.i64 0] 93)) := cu (z := (Go.Value.agg #[Go.Value.int Go.IntKind.i64 0, Go.Value.int Go.IntKind.i64 0, Go.Value.int Go.IntKind.i64 0, Go.Value.int Go.IntKind.i64 0])) (by kernel_rfl)
@[simp] theorem al_141 {x : Value} : effv Try.prog (Instr.alloc 141 true x) w K = K (.pointer (some ⟨w.heap.size, 0, none⟩)) (w.alloc (.cells #[Go.Value.int Go.IntKind.i64 0, Go.Value.int Go.IntKind.i64 0] 141)) := cu (z := (Go.Value.agg #[Go.Value.int Go.IntKind.i64 0, Go.Value.int Go.IntKind.i64 0])) (by kernel_rfl)
@[simp] theorem al_144 {x : Value} : effv Try.prog (Instr.alloc 144 true x) w K = K (.pointer (some ⟨w.heap.size, 0, none⟩)) (w.alloc (.cells #[Go.Value.int Go.IntKind.i64 0, Go.Value.int Go.IntKind.i64 0, Go.Value.int Go.IntKind.i64 0, Go.Value.int Go.IntKind.i64 0, Go.Value.slice none 0 0, Go.Value.slice none 0 0, Go.Value.slice none 0 0] 144)) := cu (z := (Go.Value.agg #[Go.Value.int Go.IntKind.i64 0, Go.Value.int Go.IntKind.i64 0, Go.Value.int Go.IntKind.i64 0, Go.Value.int Go.IntKind.i64 0, Go.Value.slice none 0 0, Go.Value.slice none 0 0, Go.Value.slice none 0 0])) (by kernel_rfl)
@[simp] theorem al_150 {x : Value} : effv Try.prog (Instr.alloc 150 true x) w K = K (.pointer (some ⟨w.heap.size, 0, none⟩)) (w.alloc (.cells #[Go.Value.int Go.IntKind.i64 0, Go.Value.int Go.IntKind.i64 0] 150)) := cu (z := (Go.Value.agg #[Go.Value.int Go.IntKind.i64 0, Go.Value.int Go.IntKind.i64 0])) (by kernel_rfl)
@[simp] theorem al_158 {x : Value} : effv Try.prog (Instr.alloc 158 true x) w K = K (.pointer (some ⟨w.heap.size, 0, none⟩)) (w.alloc (.cells #[Go.Value.int Go.IntKind.i64 0, Go.Value.int Go.IntKind.i64 0, Go.Value.int Go.IntKind.i64 0, Go.Value.int Go.IntKind.i64 0, Go.Value.bool false, Go.Value.slice none 0 0, Go.Value.slice none 0 0, Go.Value.slice none 0 0] 158)) := cu (z := (Go.Value.agg #[Go.Value.int Go.IntKind.i64 0, Go.Value.int Go.IntKind.i64 0, Go.Value.int Go.IntKind.i64 0, Go.Value.int Go.IntKind.i64 0, Go.Value.bool false, Go.Value.slice none 0 0, Go.Value.slice none 0 0, Go.Value.slice none 0 0])) (by kernel_rfl)
@[simp] theorem al_170 {x : Value} : effv Try.prog (Instr.alloc 170 true x) w K = K (.pointer (some ⟨w.heap.size, 0, none⟩)) (w.alloc (.cells #[Go.Value.string { data := #[] }, Go.Value.int Go.IntKind.i64 0, Go.Value.bool false, Go.Value.bool false, Go.Value.bool false] 170)) := cu (z := (Go.Value.agg #[Go.Value.string { data := #[] }, Go.Value.int Go.IntKind.i64 0, Go.Value.bool false, Go.Value.bool false, Go.Value.bool false])) (by kernel_rfl)
@[simp] theorem bd_25_0 {x0 : Option Addr} {y0 z0 : Nat} : pureRun Try.prog (Instr.build 25 #[(0, (.slice x0 y0 z0))]) = some (.agg #[(.slice x0 y0 z0), (Go.Value.slice none 0 0)]) := bu fun w => run_build w 25 _ _ (by kernel_rfl)
@[simp] theorem bd_40_  : pureRun Try.prog (Instr.build 40 #[]) = some (.agg #[(Go.Value.int Go.IntKind.i64 0), (Go.Value.int Go.IntKind.i64 0), (Go.Value.int Go.IntKind.i64 0), (Go.Value.int Go.IntKind.i64 0), (Go.Value.int Go.IntKind.u64 0), (Go.Value.int Go.IntKind.u64 0)]) := bu fun w => run_build w 40 _ _ (by kernel_rfl)
@[simp] theorem bd_40_0 {x0 : Int} : pureRun Try.prog (Instr.build 40 #[(0, (.int .i64 x0))]) = some (.agg #[(.int .i64 x0), (Go.Value.int Go.IntKind.i64 0), (Go.Value.int Go.IntKind.i64 0), (Go.Value.int Go.IntKind.i64 0), (Go.Value.int Go.IntKind.u64 0), (Go.Value.int Go.IntKind.u64 0)]) := bu fun w => run_build w 40 _ _ (by kernel_rfl)
@[simp] theorem bd_40_0_3_4_5 {x0 : Int} {x3 : Int} {x4 : Int} {x5 : Int} : pureRun Try.prog (Instr.build 40 #[(0, (.int .i64 x0)), (3, (.int .i64 x3)), (4, (.int .u64 x4)), (5, (.int .u64 x5))]) = some (.agg #[(.int .i64 x0), (Go.Value.int Go.IntKind.i64 0), (Go.Value.int Go.IntKind.i64 0), (.int .i64 x3), (.int .u64 x4), (.int .u64 x5)]) := bu fun w => run_build w 40 _ _ (by kernel_rfl)
@[simp] theorem bd_40_1_2 {x1 : Int} {x2 : Int} : pureRun Try.prog (Instr.build 40 #[(1, (.int .i64 x1)), (2, (.int .i64 x2))]) = some (.agg #[(Go.Value.int Go.IntKind.i64 0), (.int .i64 x1), (.int .i64 x2), (Go.Value.int Go.IntKind.i64 0), (Go.Value.int Go.IntKind.u64 0), (Go.Value.int Go.IntKind.u64 0)]) := bu fun w => run_build w 40 _ _ (by kernel_rfl)
@[simp] theorem bd_51_  : pureRun Try.prog (Instr.build 51 #[]) = some (.agg #[(Go.Value.int Go.IntKind.i64 0), (Go.Value.int Go.IntKind.i64 0), (Go.Value.int Go.IntKind.i64 0), (Go.Value.int Go.IntKind.i64 0), (Go.Value.int Go.IntKind.i64 0)]) := bu fun w => run_build w 51 _ _ (by kernel_rfl)
@[simp] theorem bd_51_0_1 {x0 : Int} {x1 : Int} : pureRun Try.prog (Instr.build 51 #[(0, (.int .i64 x0)), (1, (.int .i64 x1))]) = some (.agg #[(.int .i64 x0), (.int .i64 x1), (Go.Value.int Go.IntKind.i64 0), (Go.Value.int Go.IntKind.i64 0), (Go.Value.int Go.IntKind.i64 0)]) := bu fun w => run_build w 51 _ _ (by kernel_rfl)
@[simp] theorem bd_51_0_1_2_3_4 {x0 : Int} {x1 : Int} {x2 : Int} {x3 : Int} {x4 : Int} : pureRun Try.prog (Instr.build 51 #[(0, (.int .i64 x0)), (1, (.int .i64 x1)), (2, (.int .i64 x2)), (3, (.int .i64 x3)), (4, (.int .i64 x4))]) = some (.agg #[(.int .i64 x0), (.int .i64 x1), (.int .i64 x2), (.int .i64 x3), (.int .i64 x4)]) := bu fun w => run_build w 51 _ _ (by kernel_rfl)
@[simp] theorem bd_51_0_1_2_4 {x0 : Int} {x1 : Int} {x2 : Int} {x4 : Int} : pureRun Try.prog (Instr.build 51 #[(0, (.int .i64 x0)), (1, (.int .i64 x1)), (2, (.int .i64 x2)), (4, (.int .i64 x4))]) = some (.agg #[(.int .i64 x0), (.int .i64 x1), (.int .i64 x2), (Go.Value.int Go.IntKind.i64 0), (.int .i64 x4)]) := bu fun w => run_build w 51 _ _ (by kernel_rfl)
@[simp] theorem bd_51_0_1_4 {x0 : Int} {x1 : Int} {x4 : Int} : pureRun Try.prog (Instr.build 51 #[(0, (.int .i64 x0)), (1, (.int .i64 x1)), (4, (.int .i64 x4))]) = some (.agg #[(.int .i64 x0), (.int .i64 x1), (Go.Value.int Go.IntKind.i64 0), (Go.Value.int Go.IntKind.i64 0), (.int .i64 x4)]) := bu fun w => run_build w 51 _ _ (by kernel_rfl)
@[simp] theorem bd_51_1 {x1 : Int} : pureRun Try.prog (Instr.build 51 #[(1, (.int .i64 x1))]) = some (.agg #[(Go.Value.int Go.IntKind.i64 0), (.int .i64 x1), (Go.Value.int Go.IntKind.i64 0), (Go.Value.int Go.IntKind.i64 0), (Go.Value.int Go.IntKind.i64 0)]) := bu fun w => run_build w 51 _ _ (by kernel_rfl)
@[simp] theorem bd_51_1_4 {x1 : Int} {x4 : Int} : pureRun Try.prog (Instr.build 51 #[(1, (.int .i64 x1)), (4, (.int .i64 x4))]) = some (.agg #[(Go.Value.int Go.IntKind.i64 0), (.int .i64 x1), (Go.Value.int Go.IntKind.i64 0), (Go.Value.int Go.IntKind.i64 0), (.int .i64 x4)]) := bu fun w => run_build w 51 _ _ (by kernel_rfl)
@[simp] theorem bd_53_  : pureRun Try.prog (Instr.build 53 #[]) = some (.agg #[(Go.Value.int Go.IntKind.i64 0), (Go.Value.int Go.IntKind.i64 0), (Go.Value.int Go.IntKind.i64 0), (Go.Value.int Go.IntKind.i64 0), (Go.Value.int Go.IntKind.i64 0), (Go.Value.int Go.IntKind.i64 0), (Go.Value.int Go.IntKind.i64 0), (Go.Value.int Go.IntKind.u64 0)]) := bu fun w => run_build w 53 _ _ (by kernel_rfl)
@[simp] theorem bd_53_0 {x0 : Int} : pureRun Try.prog (Instr.build 53 #[(0, (.int .i64 x0))]) = some (.agg #[(.int .i64 x0), (Go.Value.int Go.IntKind.i64 0), (Go.Value.int Go.IntKind.i64 0), (Go.Value.int Go.IntKind.i64 0), (Go.Value.int Go.IntKind.i64 0), (Go.Value.int Go.IntKind.i64 0), (Go.Value.int Go.IntKind.i64 0), (Go.Value.int Go.IntKind.u64 0)]) := bu fun w => run_build w 53 _ _ (by kernel_rfl)
@[simp] theorem bd_53_0_2_3 {x0 : Int} {x2 : Int} {x3 : Int} : pureRun Try.prog (Instr.build 53 #[(0, (.int .i64 x0)), (2, (.int .i64 x2)), (3, (.int .u64 x3))]) = some (.agg #[(.int .i64 x0), (Go.Value.int Go.IntKind.i64 0), (Go.Value.int Go.IntKind.i64 0), (Go.Value.int Go.IntKind.i64 0), (Go.Value.int Go.IntKind.i64 0), (Go.Value.int Go.IntKind.i64 0), (.int .i64 x2), (.int .u64 x3)]) := bu fun w => run_build w 53 _ _ (by kernel_rfl)
@[simp] theorem bd_53_1 {x1_0 x1_1 x1_2 x1_3 x1_4 : Value} : pureRun Try.prog (Instr.build 53 #[(1, (.agg #[x1_0, x1_1, x1_2, x1_3, x1_4]))]) = some (.agg #[(Go.Value.int Go.IntKind.i64 0), x1_0, x1_1, x1_2, x1_3, x1_4, (Go.Value.int Go.IntKind.i64 0), (Go.Value.int Go.IntKind.u64 0)]) := bu fun w => run_build w 53 _ _ (by kernel_rfl)
@[simp] theorem bd_53_2 {x2 : Int} : pureRun Try.prog (Instr.build 53 #[(2, (.int .i64 x2))]) = some (.agg #[(Go.Value.int Go.IntKind.i64 0), (Go.Value.int Go.IntKind.i64 0), (Go.Value.int Go.IntKind.i64 0), (Go.Value.int Go.IntKind.i64 0), (Go.Value.int Go.IntKind.i64 0), (Go.Value.int Go.IntKind.i64 0), (.int .i64 x2), (Go.Value.int Go.IntKind.u64 0)]) := bu fun w => run_build w 53 _ _ (by kernel_rfl)
@[simp] theorem bd_53_3 {x3 : Int} : pureRun Try.prog (Instr.build 53 #[(3, (.int .u64 x3))]) = some (.agg #[(Go.Value.int Go.IntKind.i64 0), (Go.Value.int Go.IntKind.i64 0), (Go.Value.int Go.IntKind.i64 0), (Go.Value.int Go.IntKind.i64 0), (Go.Value.int Go.IntKind.i64 0), (Go.Value.int Go.IntKind.i64 0), (Go.Value.int Go.IntKind.i64 0), (.int .u64 x3)]) := bu fun w => run_build w 53 _ _ (by kernel_rfl)
@[simp] theorem bd_58_0_1_2_3_4_5_6 {x0 : Int} {x1 : Int} {x2_0 x2_1 x2_2 x2_3 x2_4 x2_5 : Value} {x3 : Int} {x4 : Int} {x5 : Int} {x6 : Int} : pureRun Try.prog (Instr.build 58 #[(0, (.int .i64 x0)), (1, (.int .i64 x1)), (2, (.agg #[x2_0, x2_1, x2_2, x2_3, x2_4, x2_5])), (3, (.int .i64 x3)), (4, (.int .i64 x4)), (5, (.int .i64 x5)), (6, (.int .i64 x6))]) = some (.agg #[(.int .i64 x0), (.int .i64 x1), x2_0, x2_1, x2_2, x2_3, x2_4, x2_5, (.int .i64 x3), (.int .i64 x4), (.int .i64 x5), (.int .i64 x6), (Go.Value.int Go.IntKind.i64 0), (Go.Value.int Go.IntKind.i64 0), (Go.Value.int Go.IntKind.i64 0), (Go.Value.int Go.IntKind.i64 0), (Go.Value.int Go.IntKind.i64 0), (Go.Value.int Go.IntKind.i64 0), (Go.Value.int Go.IntKind.i64 0), (Go.Value.int Go.IntKind.u64 0)]) := bu fun w => run_build w 58 _ _ (by kernel_rfl)
@[simp] theorem bd_67_0 {x0 : Int} : pureRun Try.prog (Instr.build 67 #[(0, (.int .i64 x0))]) = some (.agg #[(.int .i64 x0), (Go.Value.int Go.IntKind.i64 0), (Go.Value.slice none 0 0)]) := bu fun w => run_build w 67 _ _ (by kernel_rfl)
@[simp] theorem bd_74_0_1_2_3_4_5 {x0 : Int} {x1 : Int} {x2 : Int} {x3 : Int} {x4 : Int} {x5 : Int} : pureRun Try.prog (Instr.build 74 #[(0, (.int .i64 x0)), (1, (.int .i64 x1)), (2, (.int .i64 x2)), (3, (.int .i64 x3)), (4, (.int .i64 x4)), (5, (.int .i64 x5))]) = some (.agg #[(.int .i64 x0), (.int .i64 x1), (.int .i64 x2), (.int .i64 x3), (.int .i64 x4), (.int .i64 x5)]) := bu fun w => run_build w 74 _ _ (by kernel_rfl)
@[simp] theorem bd_74_0_1_2_3_5 {x0 : Int} {x1 : Int} {x2 : Int} {x3 : Int} {x5 : Int} : pureRun Try.prog (Instr.build 74 #[(0, (.int .i64 x0)), (1, (.int .i64 x1)), (2, (.int .i64 x2)), (3, (.int .i64 x3)), (5, (.int .i64 x5))]) = some (.agg #[(.int .i64 x0), (.int .i64 x1), (.int .i64 x2), (.int .i64 x3), (Go.Value.int Go.IntKind.i64 0), (.int .i64 x5)]) := bu fun w => run_build w 74 _ _ (by kernel_rfl)
@[simp] theorem bd_92_0_1_2 {x0_0 x0_1 x0_2 x0_3 x0_4 x0_5 : Value} {x1 : Option Addr} {x2 : Option Addr} : pureRun Try.prog (Instr.build 92 #[(0, (.agg #[x0_0, x0_1, x0_2, x0_3, x0_4, x0_5])), (1, (.pointer x1)), (2, (.pointer x2))]) = some (.agg #[x0_0, x0_1, x0_2, x0_3, x0_4, x0_5, (.pointer x1), (.pointer x2), (Go.Value.slice none 0 0)]) := bu fun w => run_build w 92 _ _ (by kernel_rfl)
@[simp] theorem bd_100_0 {x0 : Option Addr} {y0 z0 : Nat} : pureRun Try.prog (Instr.build 100 #[(0, (.slice x0 y0 z0))]) = some (.agg #[(.slice x0 y0 z0), (Go.Value.int Go.IntKind.i64 0)]) := bu fun w => run_build w 100 _ _ (by kernel_rfl)
@[simp] theorem bd_115_0 {x0 : Option Addr} {y0 z0 : Nat} : pureRun Try.prog (Instr.build 115 #[(0, (.slice x0 y0 z0))]) = some (.agg #[(.slice x0 y0 z0), (Go.Value.bool false)]) := bu fun w => run_build w 115 _ _ (by kernel_rfl)
@[simp] theorem bd_121_1 {x1 : Option Addr} {y1 z1 : Nat} : pureRun Try.prog (Instr.build 121 #[(1, (.slice x1 y1 z1))]) = some (.agg #[(Go.Value.slice none 0 0), (.slice x1 y1 z1), (Go.Value.int Go.IntKind.i64 0)]) := bu fun w => run_build w 121 _ _ (by kernel_rfl)
@[simp] theorem bd_132_0_2_4 {x0_0 x0_1 x0_2 x0_3 x0_4 x0_5 : Value} {x2 : Option Addr} {y2 z2 : Nat} {x4 : Option Addr} {y4 z4 : Nat} : pureRun Try.prog (Instr.build 132 #[(0, (.agg #[x0_0, x0_1, x0_2, x0_3, x0_4, x0_5])), (2, (.slice x2 y2 z2)), (4, (.slice x4 y4 z4))]) = some (.agg #[x0_0, x0_1, x0_2, x0_3, x0_4, x0_5, (Go.Value.bool false), (.slice x2 y2 z2), (Go.Value.slice none 0 0), (.slice x4 y4 z4)]) := bu fun w => run_build w 132 _ _ (by kernel_rfl)
@[simp] theorem bd_141_0_1 {x0 : Int} {x1 : Int} : pureRun Try.prog (Instr.build 141 #[(0, (.int .i64 x0)), (1, (.int .i64 x1))]) = some (.agg #[(.int .i64 x0), (.int .i64 x1)]) := bu fun w => run_build w 141 _ _ (by kernel_rfl)
@[simp] theorem bd_144_0_1 {x0_0 x0_1 : Value} {x1 : Int} : pureRun Try.prog (Instr.build 144 #[(0, (.agg #[x0_0, x0_1])), (1, (.int .i64 x1))]) = some (.agg #[x0_0, x0_1, (.int .i64 x1), (Go.Value.int Go.IntKind.i64 0), (Go.Value.slice none 0 0), (Go.Value.slice none 0 0), (Go.Value.slice none 0 0)]) := bu fun w => run_build w 144 _ _ (by kernel_rfl)
@[simp] theorem bd_150_0_1 {x0 : Int} {x1 : Int} : pureRun Try.prog (Instr.build 150 #[(0, (.int .i64 x0)), (1, (.int .i64 x1))]) = some (.agg #[(.int .i64 x0), (.int .i64 x1)]) := bu fun w => run_build w 150 _ _ (by kernel_rfl)
@[simp] theorem bd_154_0_1_2_3_5_6 {x0_0 x0_1 x0_2 x0_3 x0_4 x0_5 : Value} {x1 : Bool} {x2 : Option Addr} {y2 z2 : Nat} {x3 : Option Addr} {y3 z3 : Nat} {x5 : Option Addr} {y5 z5 : Nat} {x6 : Option Addr} {y6 z6 : Nat} : pureRun Try.prog (Instr.build 154 #[(0, (.agg #[x0_0, x0_1, x0_2, x0_3, x0_4, x0_5])), (1, (.bool x1)), (2, (.slice x2 y2 z2)), (3, (.slice x3 y3 z3)), (5, (.slice x5 y5 z5)), (6, (.slice x6 y6 z6))]) = some (.agg #[x0_0, x0_1, x0_2, x0_3, x0_4, x0_5, (.bool x1), (.slice x2 y2 z2), (.slice x3 y3 z3), (Go.Value.slice none 0 0), (.slice x5 y5 z5), (.slice x6 y6 z6)]) := bu fun w => run_build w 154 _ _ (by kernel_rfl)
@[simp] theorem bd_158_0_1_2_4 {x0 : Int} {x1 : Int} {x2 : Int} {x4 : Bool} : pureRun Try.prog (Instr.build 158 #[(0, (.int .i64 x0)), (1, (.int .i64 x1)), (2, (.int .i64 x2)), (4, (.bool x4))]) = some (.agg #[(.int .i64 x0), (.int .i64 x1), (.int .i64 x2), (Go.Value.int Go.IntKind.i64 0), (.bool x4), (Go.Value.slice none 0 0), (Go.Value.slice none 0 0), (Go.Value.slice none 0 0)]) := bu fun w => run_build w 158 _ _ (by kernel_rfl)
@[simp] theorem bd_170_  : pureRun Try.prog (Instr.build 170 #[]) = some (.agg #[(Go.Value.string { data := #[] }), (Go.Value.int Go.IntKind.i64 0), (Go.Value.bool false), (Go.Value.bool false), (Go.Value.bool false)]) := bu fun w => run_build w 170 _ _ (by kernel_rfl)
@[simp] theorem bd_170_0 {x0 : ByteArray} : pureRun Try.prog (Instr.build 170 #[(0, (.string x0))]) = some (.agg #[(.string x0), (Go.Value.int Go.IntKind.i64 0), (Go.Value.bool false), (Go.Value.bool false), (Go.Value.bool false)]) := bu fun w => run_build w 170 _ _ (by kernel_rfl)
@[simp] theorem bd_170_0_1 {x0 : ByteArray} {x1 : Int} : pureRun Try.prog (Instr.build 170 #[(0, (.string x0)), (1, (.int .i64 x1))]) = some (.agg #[(.string x0), (.int .i64 x1), (Go.Value.bool false), (Go.Value.bool false), (Go.Value.bool false)]) := bu fun w => run_build w 170 _ _ (by kernel_rfl)
@[simp] theorem bd_170_0_1_2 {x0 : ByteArray} {x1 : Int} {x2 : Bool} : pureRun Try.prog (Instr.build 170 #[(0, (.string x0)), (1, (.int .i64 x1)), (2, (.bool x2))]) = some (.agg #[(.string x0), (.int .i64 x1), (.bool x2), (Go.Value.bool false), (Go.Value.bool false)]) := bu fun w => run_build w 170 _ _ (by kernel_rfl)
@[simp] theorem bd_170_0_1_2_3 {x0 : ByteArray} {x1 : Int} {x2 : Bool} {x3 : Bool} : pureRun Try.prog (Instr.build 170 #[(0, (.string x0)), (1, (.int .i64 x1)), (2, (.bool x2)), (3, (.bool x3))]) = some (.agg #[(.string x0), (.int .i64 x1), (.bool x2), (.bool x3), (Go.Value.bool false)]) := bu fun w => run_build w 170 _ _ (by kernel_rfl)
@[simp] theorem bd_170_0_1_2_3_4 {x0 : ByteArray} {x1 : Int} {x2 : Bool} {x3 : Bool} {x4 : Bool} : pureRun Try.prog (Instr.build 170 #[(0, (.string x0)), (1, (.int .i64 x1)), (2, (.bool x2)), (3, (.bool x3)), (4, (.bool x4))]) = some (.agg #[(.string x0), (.int .i64 x1), (.bool x2), (.bool x3), (.bool x4)]) := bu fun w => run_build w 170 _ _ (by kernel_rfl)
@[simp] theorem bd_170_0_2 {x0 : ByteArray} {x2 : Bool} : pureRun Try.prog (Instr.build 170 #[(0, (.string x0)), (2, (.bool x2))]) = some (.agg #[(.string x0), (Go.Value.int Go.IntKind.i64 0), (.bool x2), (Go.Value.bool false), (Go.Value.bool false)]) := bu fun w => run_build w 170 _ _ (by kernel_rfl)
@[simp] theorem bd_187_0_1 {x0 : Int} {x1 : Int} : pureRun Try.prog (Instr.build 187 #[(0, (.int .i64 x0)), (1, (.int .i64 x1))]) = some (.agg #[(.int .i64 x0), (.int .i64 x1)]) := bu fun w => run_build w 187 _ _ (by kernel_rfl)
theorem inf_3 : ∃ i, Try.prog.info? 3 = some i ∧ i.zero = some (Go.Value.int Go.IntKind.i64 0) ∧ i.size = 1 ∧ i.bytes = 8 := ⟨Try.t3, by kernel_rfl, rfl, rfl, rfl⟩
theorem inf_40 : ∃ i, Try.prog.info? 40 = some i ∧ i.zero = some (Go.Value.agg #[Go.Value.int Go.IntKind.i64 0, Go.Value.int Go.IntKind.i64 0, Go.Value.int Go.IntKind.i64 0, Go.Value.int Go.IntKind.i64 0, Go.Value.int Go.IntKind.u64 0, Go.Value.int Go.IntKind.u64 0]) ∧ i.size = 6 ∧ i.bytes = 48 := ⟨Try.t40, by kernel_rfl, rfl, rfl, rfl⟩
theorem inf_5 : ∃ i, Try.prog.info? 5 = some i ∧ i.zero = some (Go.Value.int Go.IntKind.u8 0) ∧ i.size = 1 ∧ i.bytes = 1 := ⟨Try.t5, by kernel_rfl, rfl, rfl, rfl⟩
theorem inf_58 : ∃ i, Try.prog.info? 58 = some i ∧ i.zero = some (Go.Value.agg #[Go.Value.int Go.IntKind.i64 0, Go.Value.int Go.IntKind.i64 0, Go.Value.int Go.IntKind.i64 0, Go.Value.int Go.IntKind.i64 0, Go.Value.int Go.IntKind.i64 0, Go.Value.int Go.IntKind.i64 0, Go.Value.int Go.IntKind.u64 0, Go.Value.int Go.IntKind.u64 0, Go.Value.int Go.IntKind.i64 0, Go.Value.int Go.IntKind.i64 0, Go.Value.int Go.IntKind.i64 0, Go.Value.int Go.IntKind.i64 0, Go.Value.int Go.IntKind.i64 0, Go.Value.int Go.IntKind.i64 0, Go.Value.int Go.IntKind.i64 0, Go.Value.int Go.IntKind.i64 0, Go.Value.int Go.IntKind.i64 0, Go.Value.int Go.IntKind.i64 0, Go.Value.int Go.IntKind.i64 0, Go.Value.int Go.IntKind.u64 0]) ∧ i.size = 20 ∧ i.bytes = 160 := ⟨Try.t58, by kernel_rfl, rfl, rfl, rfl⟩
theorem inf_51 : ∃ i, Try.prog.info? 51 = some i ∧ i.zero = some (Go.Value.agg #[Go.Value.int Go.IntKind.i64 0, Go.Value.int Go.IntKind.i64 0, Go.Value.int Go.IntKind.i64 0, Go.Value.int Go.IntKind.i64 0, Go.Value.int Go.IntKind.i64 0]) ∧ i.size = 5 ∧ i.bytes = 40 := ⟨Try.t51, by kernel_rfl, rfl, rfl, rfl⟩
theorem inf_150 : ∃ i, Try.prog.info? 150 = some i ∧ i.zero = some (Go.Value.agg #[Go.Value.int Go.IntKind.i64 0, Go.Value.int Go.IntKind.i64 0]) ∧ i.size = 2 ∧ i.bytes = 16 := ⟨Try.t150, by kernel_rfl, rfl, rfl, rfl⟩
theorem inf_137 : ∃ i, Try.prog.info? 137 = some i ∧ i.zero = some (Go.Value.agg #[Go.Value.int Go.IntKind.i64 0, Go.Value.slice none 0 0]) ∧ i.size = 2 ∧ i.bytes = 32 := ⟨Try.t137, by kernel_rfl, rfl, rfl, rfl⟩
theorem inf_144 : ∃ i, Try.prog.info? 144 = some i ∧ i.zero = some (Go.Value.agg #[Go.Value.int Go.IntKind.i64 0, Go.Value.int Go.IntKind.i64 0, Go.Value.int Go.IntKind.i64 0, Go.Value.int Go.IntKind.i64 0, Go.Value.slice none 0 0, Go.Value.slice none 0 0, Go.Value.slice none 0 0]) ∧ i.size = 7 ∧ i.bytes = 104 := ⟨Try.t144, by kernel_rfl, rfl, rfl, rfl⟩
theorem inf_141 : ∃ i, Try.prog.info? 141 = some i ∧ i.zero = some (Go.Value.agg #[Go.Value.int Go.IntKind.i64 0, Go.Value.int Go.IntKind.i64 0]) ∧ i.size = 2 ∧ i.bytes = 16 := ⟨Try.t141, by kernel_rfl, rfl, rfl, rfl⟩
theorem inf_177 : ∃ i, Try.prog.info? 177 = some i ∧ i.zero = some (Go.Value.slice none 0 0) ∧ i.size = 1 ∧ i.bytes = 24 := ⟨Try.t177, by kernel_rfl, rfl, rfl, rfl⟩
theorem inf_158 : ∃ i, Try.prog.info? 158 = some i ∧ i.zero = some (Go.Value.agg #[Go.Value.int Go.IntKind.i64 0, Go.Value.int Go.IntKind.i64 0, Go.Value.int Go.IntKind.i64 0, Go.Value.int Go.IntKind.i64 0, Go.Value.bool false, Go.Value.slice none 0 0, Go.Value.slice none 0 0, Go.Value.slice none 0 0]) ∧ i.size = 8 ∧ i.bytes = 112 := ⟨Try.t158, by kernel_rfl, rfl, rfl, rfl⟩
theorem inf_159 : ∃ i, Try.prog.info? 159 = some i ∧ i.zero = some (Go.Value.slice none 0 0) ∧ i.size = 1 ∧ i.bytes = 24 := ⟨Try.t159, by kernel_rfl, rfl, rfl, rfl⟩
theorem inf_187 : ∃ i, Try.prog.info? 187 = some i ∧ i.zero = some (Go.Value.agg #[Go.Value.int Go.IntKind.i64 0, Go.Value.int Go.IntKind.i64 0]) ∧ i.size = 2 ∧ i.bytes = 16 := ⟨Try.t187, by kernel_rfl, rfl, rfl, rfl⟩
theorem inf_38 : ∃ i, Try.prog.info? 38 = some i ∧ i.zero = some (Go.Value.int Go.IntKind.u64 0) ∧ i.size = 1 ∧ i.bytes = 8 := ⟨Try.t38, by kernel_rfl, rfl, rfl, rfl⟩
theorem ps_23 {x0 : Int} {x : Value} {base n : Nat} {xs : List Value} (h1 : ∀ u ∈ ([(.int .i64 x0)] : List Value), u.oneCell' = true) (hown : w.ownsRow base 3 1 x n xs) (hn : n + 1 ≤ 1048577) (hbase : base ≤ w.heap.size) (hk : ∀ x' w', w'.ownsRow base 3 1 x' (n + 1) (xs ++ [(.int .i64 x0)]) → w.grownBy w' x.ownBlock → NewB w x x' → K x' w') :
    effv Try.prog (Instr.buildSlice 23 1 #[(0, (.int .i64 x0))]) w fun y w1 => effv Try.prog (Builtin.append_ #[23, 23] 23 #[x, y]) w1 K := by
  obtain ⟨i, hi, hz, hs, hb⟩ := inf_3
  exact eff_pushN (cs := [(.int .i64 x0)]) Try.underlying23 hi hz hs rfl (by decide) (by decide) (by kernel_rfl) rfl h1 hown (by unfold maxLen; omega) (by rw [hb]; omega) hbase hk
@[simp] theorem bs_23_1 {x0 : Int} : effv Try.prog (Instr.buildSlice 23 1 #[(0, (.int .i64 x0))]) w K = K (.slice (some ⟨w.heap.size, 0, none⟩) 1 1) (w.alloc (.cells #[(.int .i64 x0)] 3)) := by
  obtain ⟨i, hi, hz, hs, hb⟩ := inf_3
  exact bH (z := 1) Try.underlying23 hi hz hs (by decide) (by decide) (by kernel_rfl)
@[simp] theorem bs_23_2 {x0 : Int} {x1 : Int} : effv Try.prog (Instr.buildSlice 23 2 #[(0, (.int .i64 x0)), (1, (.int .i64 x1))]) w K = K (.slice (some ⟨w.heap.size, 0, none⟩) 2 2) (w.alloc (.cells #[(.int .i64 x0), (.int .i64 x1)] 3)) := by
  obtain ⟨i, hi, hz, hs, hb⟩ := inf_3
  exact bH (z := 1) Try.underlying23 hi hz hs (by decide) (by decide) (by kernel_rfl)
@[simp] theorem bs_23_4 {x0 : Int} {x1 : Int} {x2 : Int} {x3 : Int} : effv Try.prog (Instr.buildSlice 23 4 #[(0, (.int .i64 x0)), (1, (.int .i64 x1)), (2, (.int .i64 x2)), (3, (.int .i64 x3))]) w K = K (.slice (some ⟨w.heap.size, 0, none⟩) 4 4) (w.alloc (.cells #[(.int .i64 x0), (.int .i64 x1), (.int .i64 x2), (.int .i64 x3)] 3)) := by
  obtain ⟨i, hi, hz, hs, hb⟩ := inf_3
  exact bH (z := 1) Try.underlying23 hi hz hs (by decide) (by decide) (by kernel_rfl)
@[simp] theorem bs_23_6 {x0 : Int} {x1 : Int} {x2 : Int} {x3 : Int} {x4 : Int} {x5 : Int} : effv Try.prog (Instr.buildSlice 23 6 #[(0, (.int .i64 x0)), (1, (.int .i64 x1)), (2, (.int .i64 x2)), (3, (.int .i64 x3)), (4, (.int .i64 x4)), (5, (.int .i64 x5))]) w K = K (.slice (some ⟨w.heap.size, 0, none⟩) 6 6) (w.alloc (.cells #[(.int .i64 x0), (.int .i64 x1), (.int .i64 x2), (.int .i64 x3), (.int .i64 x4), (.int .i64 x5)] 3)) := by
  obtain ⟨i, hi, hz, hs, hb⟩ := inf_3
  exact bH (z := 1) Try.underlying23 hi hz hs (by decide) (by decide) (by kernel_rfl)
@[simp] theorem bs_23_9 {x0 : Int} {x1 : Int} {x2 : Int} {x3 : Int} {x4 : Int} {x5 : Int} {x6 : Int} {x7 : Int} {x8 : Int} : effv Try.prog (Instr.buildSlice 23 9 #[(0, (.int .i64 x0)), (1, (.int .i64 x1)), (2, (.int .i64 x2)), (3, (.int .i64 x3)), (4, (.int .i64 x4)), (5, (.int .i64 x5)), (6, (.int .i64 x6)), (7, (.int .i64 x7)), (8, (.int .i64 x8))]) w K = K (.slice (some ⟨w.heap.size, 0, none⟩) 9 9) (w.alloc (.cells #[(.int .i64 x0), (.int .i64 x1), (.int .i64 x2), (.int .i64 x3), (.int .i64 x4), (.int .i64 x5), (.int .i64 x6), (.int .i64 x7), (.int .i64 x8)] 3)) := by
  obtain ⟨i, hi, hz, hs, hb⟩ := inf_3
  exact bH (z := 1) Try.underlying23 hi hz hs (by decide) (by decide) (by kernel_rfl)
@[simp] theorem bs_23_23 {x0 : Int} {x1 : Int} {x2 : Int} {x3 : Int} {x4 : Int} {x5 : Int} {x6 : Int} {x7 : Int} {x8 : Int} {x9 : Int} {x10 : Int} {x11 : Int} {x12 : Int} {x13 : Int} {x14 : Int} {x15 : Int} {x16 : Int} {x17 : Int} {x18 : Int} {x19 : Int} {x20 : Int} {x21 : Int} {x22 : Int} : effv Try.prog (Instr.buildSlice 23 23 #[(0, (.int .i64 x0)), (1, (.int .i64 x1)), (2, (.int .i64 x2)), (3, (.int .i64 x3)), (4, (.int .i64 x4)), (5, (.int .i64 x5)), (6, (.int .i64 x6)), (7, (.int .i64 x7)), (8, (.int .i64 x8)), (9, (.int .i64 x9)), (10, (.int .i64 x10)), (11, (.int .i64 x11)), (12, (.int .i64 x12)), (13, (.int .i64 x13)), (14, (.int .i64 x14)), (15, (.int .i64 x15)), (16, (.int .i64 x16)), (17, (.int .i64 x17)), (18, (.int .i64 x18)), (19, (.int .i64 x19)), (20, (.int .i64 x20)), (21, (.int .i64 x21)), (22, (.int .i64 x22))]) w K = K (.slice (some ⟨w.heap.size, 0, none⟩) 23 23) (w.alloc (.cells #[(.int .i64 x0), (.int .i64 x1), (.int .i64 x2), (.int .i64 x3), (.int .i64 x4), (.int .i64 x5), (.int .i64 x6), (.int .i64 x7), (.int .i64 x8), (.int .i64 x9), (.int .i64 x10), (.int .i64 x11), (.int .i64 x12), (.int .i64 x13), (.int .i64 x14), (.int .i64 x15), (.int .i64 x16), (.int .i64 x17), (.int .i64 x18), (.int .i64 x19), (.int .i64 x20), (.int .i64 x21), (.int .i64 x22)] 3)) := by
  obtain ⟨i, hi, hz, hs, hb⟩ := inf_3
  exact bH (z := 1) Try.underlying23 hi hz hs (by decide) (by decide) (by kernel_rfl)
theorem ps_27 {x0_0 x0_1 x0_2 x0_3 x0_4 x0_5 : Value} {x : Value} {base n : Nat} {xs : List Value} (h1 : ∀ u ∈ ([x0_0, x0_1, x0_2, x0_3, x0_4, x0_5] : List Value), u.oneCell' = true) (hown : w.ownsRow base 40 6 x n xs) (hn : n + 1 ≤ 1048577) (hbase : base ≤ w.heap.size) (hk : ∀ x' w', w'.ownsRow base 40 6 x' (n + 1) (xs ++ [x0_0, x0_1, x0_2, x0_3, x0_4, x0_5]) → w.grownBy w' x.ownBlock → NewB w x x' → K x' w') :
    effv Try.prog (Instr.buildSlice 27 1 #[(0, (.agg #[x0_0, x0_1, x0_2, x0_3, x0_4, x0_5]))]) w fun y w1 => effv Try.prog (Builtin.append_ #[27, 27] 27 #[x, y]) w1 K := by
  obtain ⟨i, hi, hz, hs, hb⟩ := inf_40
  exact eff_pushN (cs := [x0_0, x0_1, x0_2, x0_3, x0_4, x0_5]) Try.underlying27 hi hz hs rfl (by decide) (by decide) (by kernel_rfl) rfl h1 hown (by unfold maxLen; omega) (by rw [hb]; omega) hbase hk
@[simp] theorem bs_27_1 {x0_0 x0_1 x0_2 x0_3 x0_4 x0_5 : Value} : effv Try.prog (Instr.buildSlice 27 1 #[(0, (.agg #[x0_0, x0_1, x0_2, x0_3, x0_4, x0_5]))]) w K = K (.slice (some ⟨w.heap.size, 0, none⟩) 1 1) (w.alloc (.cells #[x0_0, x0_1, x0_2, x0_3, x0_4, x0_5] 40)) := by
  obtain ⟨i, hi, hz, hs, hb⟩ := inf_40
  exact bH (z := 6) Try.underlying27 hi hz hs (by decide) (by decide) (by kernel_rfl)
@[simp] theorem bs_28_1 {x0 : Int} : effv Try.prog (Instr.buildSlice 28 1 #[(0, (.int .u8 x0))]) w K = K (.slice (some ⟨w.heap.size, 0, none⟩) 1 1) (w.alloc (.cells #[(.int .u8 x0)] 5)) := by
  obtain ⟨i, hi, hz, hs, hb⟩ := inf_5
  exact bH (z := 1) Try.underlying28 hi hz hs (by decide) (by decide) (by kernel_rfl)
@[simp] theorem bs_28_2 {x0 : Int} {x1 : Int} : effv Try.prog (Instr.buildSlice 28 2 #[(0, (.int .u8 x0)), (1, (.int .u8 x1))]) w K = K (.slice (some ⟨w.heap.size, 0, none⟩) 2 2) (w.alloc (.cells #[(.int .u8 x0), (.int .u8 x1)] 5)) := by
  obtain ⟨i, hi, hz, hs, hb⟩ := inf_5
  exact bH (z := 1) Try.underlying28 hi hz hs (by decide) (by decide) (by kernel_rfl)
@[simp] theorem bs_28_3 {x0 : Int} {x1 : Int} {x2 : Int} : effv Try.prog (Instr.buildSlice 28 3 #[(0, (.int .u8 x0)), (1, (.int .u8 x1)), (2, (.int .u8 x2))]) w K = K (.slice (some ⟨w.heap.size, 0, none⟩) 3 3) (w.alloc (.cells #[(.int .u8 x0), (.int .u8 x1), (.int .u8 x2)] 5)) := by
  obtain ⟨i, hi, hz, hs, hb⟩ := inf_5
  exact bH (z := 1) Try.underlying28 hi hz hs (by decide) (by decide) (by kernel_rfl)
@[simp] theorem bs_28_6 {x0 : Int} {x1 : Int} {x2 : Int} {x3 : Int} {x4 : Int} {x5 : Int} : effv Try.prog (Instr.buildSlice 28 6 #[(0, (.int .u8 x0)), (1, (.int .u8 x1)), (2, (.int .u8 x2)), (3, (.int .u8 x3)), (4, (.int .u8 x4)), (5, (.int .u8 x5))]) w K = K (.slice (some ⟨w.heap.size, 0, none⟩) 6 6) (w.alloc (.cells #[(.int .u8 x0), (.int .u8 x1), (.int .u8 x2), (.int .u8 x3), (.int .u8 x4), (.int .u8 x5)] 5)) := by
  obtain ⟨i, hi, hz, hs, hb⟩ := inf_5
  exact bH (z := 1) Try.underlying28 hi hz hs (by decide) (by decide) (by kernel_rfl)
@[simp] theorem bs_54_1 {x0_0 x0_1 x0_2 x0_3 x0_4 x0_5 x0_6 x0_7 x0_8 x0_9 x0_10 x0_11 x0_12 x0_13 x0_14 x0_15 x0_16 x0_17 x0_18 x0_19 : Value} : effv Try.prog (Instr.buildSlice 54 1 #[(0, (.agg #[x0_0, x0_1, x0_2, x0_3, x0_4, x0_5, x0_6, x0_7, x0_8, x0_9, x0_10, x0_11, x0_12, x0_13, x0_14, x0_15, x0_16, x0_17, x0_18, x0_19]))]) w K = K (.slice (some ⟨w.heap.size, 0, none⟩) 1 1) (w.alloc (.cells #[x0_0, x0_1, x0_2, x0_3, x0_4, x0_5, x0_6, x0_7, x0_8, x0_9, x0_10, x0_11, x0_12, x0_13, x0_14, x0_15, x0_16, x0_17, x0_18, x0_19] 58)) := by
  obtain ⟨i, hi, hz, hs, hb⟩ := inf_58
  exact bH (z := 20) Try.underlying54 hi hz hs (by decide) (by decide) (by kernel_rfl)
theorem ps_90 {x0_0 x0_1 x0_2 x0_3 x0_4 : Value} {x : Value} {base n : Nat} {xs : List Value} (h1 : ∀ u ∈ ([x0_0, x0_1, x0_2, x0_3, x0_4] : List Value), u.oneCell' = true) (hown : w.ownsRow base 51 5 x n xs) (hn : n + 1 ≤ 1048577) (hbase : base ≤ w.heap.size) (hk : ∀ x' w', w'.ownsRow base 51 5 x' (n + 1) (xs ++ [x0_0, x0_1, x0_2, x0_3, x0_4]) → w.grownBy w' x.ownBlock → NewB w x x' → K x' w') :
    effv Try.prog (Instr.buildSlice 90 1 #[(0, (.agg #[x0_0, x0_1, x0_2, x0_3, x0_4]))]) w fun y w1 => effv Try.prog (Builtin.append_ #[90, 90] 90 #[x, y]) w1 K := by
  obtain ⟨i, hi, hz, hs, hb⟩ := inf_51
  exact eff_pushN (cs := [x0_0, x0_1, x0_2, x0_3, x0_4]) Try.underlying90 hi hz hs rfl (by decide) (by decide) (by kernel_rfl) rfl h1 hown (by unfold maxLen; omega) (by rw [hb]; omega) hbase hk
@[simp] theorem bs_90_1 {x0_0 x0_1 x0_2 x0_3 x0_4 : Value} : effv Try.prog (Instr.buildSlice 90 1 #[(0, (.agg #[x0_0, x0_1, x0_2, x0_3, x0_4]))]) w K = K (.slice (some ⟨w.heap.size, 0, none⟩) 1 1) (w.alloc (.cells #[x0_0, x0_1, x0_2, x0_3, x0_4] 51)) := by
  obtain ⟨i, hi, hz, hs, hb⟩ := inf_51
  exact bH (z := 5) Try.underlying90 hi hz hs (by decide) (by decide) (by kernel_rfl)
theorem ps_130 {x0_0 x0_1 x0_2 x0_3 x0_4 x0_5 x0_6 : Value} {x : Value} {base n : Nat} {xs : List Value} (h1 : ∀ u ∈ ([x0_0, x0_1, x0_2, x0_3, x0_4, x0_5, x0_6] : List Value), u.oneCell' = true) (hown : w.ownsRow base 144 7 x n xs) (hn : n + 1 ≤ 1048577) (hbase : base ≤ w.heap.size) (hk : ∀ x' w', w'.ownsRow base 144 7 x' (n + 1) (xs ++ [x0_0, x0_1, x0_2, x0_3, x0_4, x0_5, x0_6]) → w.grownBy w' x.ownBlock → NewB w x x' → K x' w') :
    effv Try.prog (Instr.buildSlice 130 1 #[(0, (.agg #[x0_0, x0_1, x0_2, x0_3, x0_4, x0_5, x0_6]))]) w fun y w1 => effv Try.prog (Builtin.append_ #[130, 130] 130 #[x, y]) w1 K := by
  obtain ⟨i, hi, hz, hs, hb⟩ := inf_144
  exact eff_pushN (cs := [x0_0, x0_1, x0_2, x0_3, x0_4, x0_5, x0_6]) Try.underlying130 hi hz hs rfl (by decide) (by decide) (by kernel_rfl) rfl h1 hown (by unfold maxLen; omega) (by rw [hb]; omega) hbase hk
@[simp] theorem bs_130_1 {x0_0 x0_1 x0_2 x0_3 x0_4 x0_5 x0_6 : Value} : effv Try.prog (Instr.buildSlice 130 1 #[(0, (.agg #[x0_0, x0_1, x0_2, x0_3, x0_4, x0_5, x0_6]))]) w K = K (.slice (some ⟨w.heap.size, 0, none⟩) 1 1) (w.alloc (.cells #[x0_0, x0_1, x0_2, x0_3, x0_4, x0_5, x0_6] 144)) := by
  obtain ⟨i, hi, hz, hs, hb⟩ := inf_144
  exact bH (z := 7) Try.underlying130 hi hz hs (by decide) (by decide) (by kernel_rfl)
theorem ps_135 {x0_0 x0_1 : Value} {x : Value} {base n : Nat} {xs : List Value} (h1 : ∀ u ∈ ([x0_0, x0_1] : List Value), u.oneCell' = true) (hown : w.ownsRow base 141 2 x n xs) (hn : n + 1 ≤ 1048577) (hbase : base ≤ w.heap.size) (hk : ∀ x' w', w'.ownsRow base 141 2 x' (n + 1) (xs ++ [x0_0, x0_1]) → w.grownBy w' x.ownBlock → NewB w x x' → K x' w') :
    effv Try.prog (Instr.buildSlice 135 1 #[(0, (.agg #[x0_0, x0_1]))]) w fun y w1 => effv Try.prog (Builtin.append_ #[135, 135] 135 #[x, y]) w1 K := by
  obtain ⟨i, hi, hz, hs, hb⟩ := inf_141
  exact eff_pushN (cs := [x0_0, x0_1]) Try.underlying135 hi hz hs rfl (by decide) (by decide) (by kernel_rfl) rfl h1 hown (by unfold maxLen; omega) (by rw [hb]; omega) hbase hk
@[simp] theorem bs_135_1 {x0_0 x0_1 : Value} : effv Try.prog (Instr.buildSlice 135 1 #[(0, (.agg #[x0_0, x0_1]))]) w K = K (.slice (some ⟨w.heap.size, 0, none⟩) 1 1) (w.alloc (.cells #[x0_0, x0_1] 141)) := by
  obtain ⟨i, hi, hz, hs, hb⟩ := inf_141
  exact bH (z := 2) Try.underlying135 hi hz hs (by decide) (by decide) (by kernel_rfl)
theorem ps_142 {x0 : Option Addr} {y0 z0 : Nat} {x : Value} {base n : Nat} {xs : List Value} (h1 : ∀ u ∈ ([(.slice x0 y0 z0)] : List Value), u.oneCell' = true) (hown : w.ownsRow base 177 1 x n xs) (hn : n + 1 ≤ 1048577) (hbase : base ≤ w.heap.size) (hk : ∀ x' w', w'.ownsRow base 177 1 x' (n + 1) (xs ++ [(.slice x0 y0 z0)]) → w.grownBy w' x.ownBlock → NewB w x x' → K x' w') :
    effv Try.prog (Instr.buildSlice 142 1 #[(0, (.slice x0 y0 z0))]) w fun y w1 => effv Try.prog (Builtin.append_ #[142, 142] 142 #[x, y]) w1 K := by
  obtain ⟨i, hi, hz, hs, hb⟩ := inf_177
  exact eff_pushN (cs := [(.slice x0 y0 z0)]) Try.underlying142 hi hz hs rfl (by decide) (by decide) (by kernel_rfl) rfl h1 hown (by unfold maxLen; omega) (by rw [hb]; omega) hbase hk
@[simp] theorem bs_142_1 {x0 : Option Addr} {y0 z0 : Nat} : effv Try.prog (Instr.buildSlice 142 1 #[(0, (.slice x0 y0 z0))]) w K = K (.slice (some ⟨w.heap.size, 0, none⟩) 1 1) (w.alloc (.cells #[(.slice x0 y0 z0)] 177)) := by
  obtain ⟨i, hi, hz, hs, hb⟩ := inf_177
  exact bH (z := 1) Try.underlying142 hi hz hs (by decide) (by decide) (by kernel_rfl)
theorem ps_151 {x0_0 x0_1 x0_2 x0_3 x0_4 x0_5 x0_6 x0_7 : Value} {x : Value} {base n : Nat} {xs : List Value} (h1 : ∀ u ∈ ([x0_0, x0_1, x0_2, x0_3, x0_4, x0_5, x0_6, x0_7] : List Value), u.oneCell' = true) (hown : w.ownsRow base 158 8 x n xs) (hn : n + 1 ≤ 1048577) (hbase : base ≤ w.heap.size) (hk : ∀ x' w', w'.ownsRow base 158 8 x' (n + 1) (xs ++ [x0_0, x0_1, x0_2, x0_3, x0_4, x0_5, x0_6, x0_7]) → w.grownBy w' x.ownBlock → NewB w x x' → K x' w') :
    effv Try.prog (Instr.buildSlice 151 1 #[(0, (.agg #[x0_0, x0_1, x0_2, x0_3, x0_4, x0_5, x0_6, x0_7]))]) w fun y w1 => effv Try.prog (Builtin.append_ #[151, 151] 151 #[x, y]) w1 K := by
  obtain ⟨i, hi, hz, hs, hb⟩ := inf_158
  exact eff_pushN (cs := [x0_0, x0_1, x0_2, x0_3, x0_4, x0_5, x0_6, x0_7]) Try.underlying151 hi hz hs rfl (by decide) (by decide) (by kernel_rfl) rfl h1 hown (by unfold maxLen; omega) (by rw [hb]; omega) hbase hk
@[simp] theorem bs_151_1 {x0_0 x0_1 x0_2 x0_3 x0_4 x0_5 x0_6 x0_7 : Value} : effv Try.prog (Instr.buildSlice 151 1 #[(0, (.agg #[x0_0, x0_1, x0_2, x0_3, x0_4, x0_5, x0_6, x0_7]))]) w K = K (.slice (some ⟨w.heap.size, 0, none⟩) 1 1) (w.alloc (.cells #[x0_0, x0_1, x0_2, x0_3, x0_4, x0_5, x0_6, x0_7] 158)) := by
  obtain ⟨i, hi, hz, hs, hb⟩ := inf_158
  exact bH (z := 8) Try.underlying151 hi hz hs (by decide) (by decide) (by kernel_rfl)
theorem ps_159 {x0_0 x0_1 : Value} {x : Value} {base n : Nat} {xs : List Value} (h1 : ∀ u ∈ ([x0_0, x0_1] : List Value), u.oneCell' = true) (hown : w.ownsRow base 187 2 x n xs) (hn : n + 1 ≤ 1048577) (hbase : base ≤ w.heap.size) (hk : ∀ x' w', w'.ownsRow base 187 2 x' (n + 1) (xs ++ [x0_0, x0_1]) → w.grownBy w' x.ownBlock → NewB w x x' → K x' w') :
    effv Try.prog (Instr.buildSlice 159 1 #[(0, (.agg #[x0_0, x0_1]))]) w fun y w1 => effv Try.prog (Builtin.append_ #[159, 159] 159 #[x, y]) w1 K := by
  obtain ⟨i, hi, hz, hs, hb⟩ := inf_187
  exact eff_pushN (cs := [x0_0, x0_1]) Try.underlying159 hi hz hs rfl (by decide) (by decide) (by kernel_rfl) rfl h1 hown (by unfold maxLen; omega) (by rw [hb]; omega) hbase hk
@[simp] theorem bs_159_1 {x0_0 x0_1 : Value} : effv Try.prog (Instr.buildSlice 159 1 #[(0, (.agg #[x0_0, x0_1]))]) w K = K (.slice (some ⟨w.heap.size, 0, none⟩) 1 1) (w.alloc (.cells #[x0_0, x0_1] 187)) := by
  obtain ⟨i, hi, hz, hs, hb⟩ := inf_187
  exact bH (z := 2) Try.underlying159 hi hz hs (by decide) (by decide) (by kernel_rfl)
theorem inf_29 : ∃ i, Try.prog.info? 29 = some i ∧ i.zero = some (Go.Value.int Go.IntKind.i64 0) ∧ i.size = 1 ∧ i.bytes = 8 := ⟨Try.t29, by kernel_rfl, rfl, rfl, rfl⟩
@[simp] theorem bs_161_6 {x0 : Int} {x1 : Int} {x2 : Int} {x3 : Int} {x4 : Int} {x5 : Int} : effv Try.prog (Instr.buildSlice 161 6 #[(0, (.int .i64 x0)), (1, (.int .i64 x1)), (2, (.int .i64 x2)), (3, (.int .i64 x3)), (4, (.int .i64 x4)), (5, (.int .i64 x5))]) w K = K (.slice (some ⟨w.heap.size, 0, none⟩) 6 6) (w.alloc (.cells #[(.int .i64 x0), (.int .i64 x1), (.int .i64 x2), (.int .i64 x3), (.int .i64 x4), (.int .i64 x5)] 29)) := by
  obtain ⟨i, hi, hz, hs, hb⟩ := inf_29
  exact bH (z := 1) Try.underlying161 hi hz hs (by decide) (by decide) (by kernel_rfl)
theorem inf_170 : ∃ i, Try.prog.info? 170 = some i ∧ i.zero = some (Go.Value.agg #[Go.Value.string { data := #[] }, Go.Value.int Go.IntKind.i64 0, Go.Value.bool false, Go.Value.bool false, Go.Value.bool false]) ∧ i.size = 5 ∧ i.bytes = 32 := ⟨Try.t170, by kernel_rfl, rfl, rfl, rfl⟩
@[simp] theorem bs_189_13 {x0_0 x0_1 x0_2 x0_3 x0_4 : Value} {x1_0 x1_1 x1_2 x1_3 x1_4 : Value} {x2_0 x2_1 x2_2 x2_3 x2_4 : Value} {x3_0 x3_1 x3_2 x3_3 x3_4 : Value} {x4_0 x4_1 x4_2 x4_3 x4_4 : Value} {x5_0 x5_1 x5_2 x5_3 x5_4 : Value} {x6_0 x6_1 x6_2 x6_3 x6_4 : Value} {x7_0 x7_1 x7_2 x7_3 x7_4 : Value} {x8_0 x8_1 x8_2 x8_3 x8_4 : Value} {x9_0 x9_1 x9_2 x9_3 x9_4 : Value} {x10_0 x10_1 x10_2 x10_3 x10_4 : Value} {x11_0 x11_1 x11_2 x11_3 x11_4 : Value} {x12_0 x12_1 x12_2 x12_3 x12_4 : Value} : effv Try.prog (Instr.buildSlice 189 13 #[(0, (.agg #[x0_0, x0_1, x0_2, x0_3, x0_4])), (1, (.agg #[x1_0, x1_1, x1_2, x1_3, x1_4])), (2, (.agg #[x2_0, x2_1, x2_2, x2_3, x2_4])), (3, (.agg #[x3_0, x3_1, x3_2, x3_3, x3_4])), (4, (.agg #[x4_0, x4_1, x4_2, x4_3, x4_4])), (5, (.agg #[x5_0, x5_1, x5_2, x5_3, x5_4])), (6, (.agg #[x6_0, x6_1, x6_2, x6_3, x6_4])), (7, (.agg #[x7_0, x7_1, x7_2, x7_3, x7_4])), (8, (.agg #[x8_0, x8_1, x8_2, x8_3, x8_4])), (9, (.agg #[x9_0, x9_1, x9_2, x9_3, x9_4])), (10, (.agg #[x10_0, x10_1, x10_2, x10_3, x10_4])), (11, (.agg #[x11_0, x11_1, x11_2, x11_3, x11_4])), (12, (.agg #[x12_0, x12_1, x12_2, x12_3, x12_4]))]) w K = K (.slice (some ⟨w.heap.size, 0, none⟩) 13 13) (w.alloc (.cells #[x0_0, x0_1, x0_2, x0_3, x0_4, x1_0, x1_1, x1_2, x1_3, x1_4, x2_0, x2_1, x2_2, x2_3, x2_4, x3_0, x3_1, x3_2, x3_3, x3_4, x4_0, x4_1, x4_2, x4_3, x4_4, x5_0, x5_1, x5_2, x5_3, x5_4, x6_0, x6_1, x6_2, x6_3, x6_4, x7_0, x7_1, x7_2, x7_3, x7_4, x8_0, x8_1, x8_2, x8_3, x8_4, x9_0, x9_1, x9_2, x9_3, x9_4, x10_0, x10_1, x10_2, x10_3, x10_4, x11_0, x11_1, x11_2, x11_3, x11_4, x12_0, x12_1, x12_2, x12_3, x12_4] 170)) := by
  obtain ⟨i, hi, hz, hs, hb⟩ := inf_170
  exact bH (z := 5) Try.underlying189 hi hz hs (by decide) (by decide) (by kernel_rfl)
@[simp] theorem len_22 {A : Option Addr} {n c : Nat} : pureRun Try.prog (Builtin.len_ #[22] 3 #[.slice A n c]) = some (.int .i64 n) := pr_len Try.underlying22
@[simp] theorem len_23 {A : Option Addr} {n c : Nat} : pureRun Try.prog (Builtin.len_ #[23] 3 #[.slice A n c]) = some (.int .i64 n) := pr_len Try.underlying23
@[simp] theorem len_27 {A : Option Addr} {n c : Nat} : pureRun Try.prog (Builtin.len_ #[27] 3 #[.slice A n c]) = some (.int .i64 n) := pr_len Try.underlying27
@[simp] theorem len_28 {A : Option Addr} {n c : Nat} : pureRun Try.prog (Builtin.len_ #[28] 3 #[.slice A n c]) = some (.int .i64 n) := pr_len Try.underlying28
@[simp] theorem len_54 {A : Option Addr} {n c : Nat} : pureRun Try.prog (Builtin.len_ #[54] 3 #[.slice A n c]) = some (.int .i64 n) := pr_len Try.underlying54
@[simp] theorem len_61 {A : Option Addr} {n c : Nat} : pureRun Try.prog (Builtin.len_ #[61] 3 #[.slice A n c]) = some (.int .i64 n) := pr_len Try.underlying61
@[simp] theorem len_72 {A : Option Addr} {n c : Nat} : pureRun Try.prog (Builtin.len_ #[72] 3 #[.slice A n c]) = some (.int .i64 n) := pr_len Try.underlying72
@[simp] theorem len_90 {A : Option Addr} {n c : Nat} : pureRun Try.prog (Builtin.len_ #[90] 3 #[.slice A n c]) = some (.int .i64 n) := pr_len Try.underlying90
@[simp] theorem len_128 {A : Option Addr} {n c : Nat} : pureRun Try.prog (Builtin.len_ #[128] 3 #[.slice A n c]) = some (.int .i64 n) := pr_len Try.underlying128
@[simp] theorem len_129 {A : Option Addr} {n c : Nat} : pureRun Try.prog (Builtin.len_ #[129] 3 #[.slice A n c]) = some (.int .i64 n) := pr_len Try.underlying129
@[simp] theorem len_130 {A : Option Addr} {n c : Nat} : pureRun Try.prog (Builtin.len_ #[130] 3 #[.slice A n c]) = some (.int .i64 n) := pr_len Try.underlying130
@[simp] theorem len_135 {A : Option Addr} {n c : Nat} : pureRun Try.prog (Builtin.len_ #[135] 3 #[.slice A n c]) = some (.int .i64 n) := pr_len Try.underlying135
@[simp] theorem len_151 {A : Option Addr} {n c : Nat} : pureRun Try.prog (Builtin.len_ #[151] 3 #[.slice A n c]) = some (.int .i64 n) := pr_len Try.underlying151
@[simp] theorem len_159 {A : Option Addr} {n c : Nat} : pureRun Try.prog (Builtin.len_ #[159] 3 #[.slice A n c]) = some (.int .i64 n) := pr_len Try.underlying159
@[simp] theorem len_189 {A : Option Addr} {n c : Nat} : pureRun Try.prog (Builtin.len_ #[189] 3 #[.slice A n c]) = some (.int .i64 n) := pr_len Try.underlying189
@[simp] theorem cv_3_5 {a : Int} : pureRun Try.prog (convert 3 5 (.int .i64 a)) = some (.int .u8 ((IntKind.u8).wrap a)) := pr_conv Try.underlying3 Try.underlying5
@[simp] theorem cv_3_38 {a : Int} : pureRun Try.prog (convert 3 38 (.int .i64 a)) = some (.int .u64 ((IntKind.u64).wrap a)) := pr_conv Try.underlying3 Try.underlying38
@[simp] theorem cv_3_172 {a : Int} : pureRun Try.prog (convert 3 172 (.int .i64 a)) = some (.int .u64 ((IntKind.u64).wrap a)) := pr_conv Try.underlying3 Try.underlying172
@[simp] theorem cv_5_3 {a : Int} : pureRun Try.prog (convert 5 3 (.int .u8 a)) = some (.int .i64 ((IntKind.i64).wrap a)) := pr_conv Try.underlying5 Try.underlying3
@[simp] theorem cv_5_38 {a : Int} : pureRun Try.prog (convert 5 38 (.int .u8 a)) = some (.int .u64 ((IntKind.u64).wrap a)) := pr_conv Try.underlying5 Try.underlying38
@[simp] theorem cv_38_3 {a : Int} : pureRun Try.prog (convert 38 3 (.int .u64 a)) = some (.int .i64 ((IntKind.i64).wrap a)) := pr_conv Try.underlying38 Try.underlying3
@[simp] theorem cv_38_5 {a : Int} : pureRun Try.prog (convert 38 5 (.int .u64 a)) = some (.int .u8 ((IntKind.u8).wrap a)) := pr_conv Try.underlying38 Try.underlying5
@[simp] theorem cv_38_190 {a : Int} : pureRun Try.prog (convert 38 190 (.int .u64 a)) = some (.int .u32 ((IntKind.u32).wrap a)) := pr_conv Try.underlying38 Try.underlying190
@[simp] theorem cv_172_3 {a : Int} : pureRun Try.prog (convert 172 3 (.int .u64 a)) = some (.int .i64 ((IntKind.i64).wrap a)) := pr_conv Try.underlying172 Try.underlying3
@[simp] theorem cv_172_190 {a : Int} : pureRun Try.prog (convert 172 190 (.int .u64 a)) = some (.int .u32 ((IntKind.u32).wrap a)) := pr_conv Try.underlying172 Try.underlying190
@[simp] theorem cv_190_38 {a : Int} : pureRun Try.prog (convert 190 38 (.int .u32 a)) = some (.int .u64 ((IntKind.u64).wrap a)) := pr_conv Try.underlying190 Try.underlying38
@[simp] theorem cv_190_172 {a : Int} : pureRun Try.prog (convert 190 172 (.int .u32 a)) = some (.int .u64 ((IntKind.u64).wrap a)) := pr_conv Try.underlying190 Try.underlying172
theorem ia_23 {b p n c : Nat} {j : IntKind} {i : Int} (h0 : 0 ≤ i) (h1 : i < n) : pureRun Try.prog (Instr.indexAt 23 (.slice (some ⟨b, p, none⟩) n c) (.int j i)) = some (.pointer (some ⟨b, p + i.toNat * 1, none⟩)) := by rw [← addr_add]; exact pr_index (z := 1) Try.underlying23 (by kernel_rfl) h0 h1
theorem ia_128 {b p n c : Nat} {j : IntKind} {i : Int} (h0 : 0 ≤ i) (h1 : i < n) : pureRun Try.prog (Instr.indexAt 128 (.slice (some ⟨b, p, none⟩) n c) (.int j i)) = some (.pointer (some ⟨b, p + i.toNat * 2, none⟩)) := by rw [← addr_add]; exact pr_index (z := 2) Try.underlying128 (by kernel_rfl) h0 h1
theorem ia_129 {b p n c : Nat} {j : IntKind} {i : Int} (h0 : 0 ≤ i) (h1 : i < n) : pureRun Try.prog (Instr.indexAt 129 (.slice (some ⟨b, p, none⟩) n c) (.int j i)) = some (.pointer (some ⟨b, p + i.toNat * 2, none⟩)) := by rw [← addr_add]; exact pr_index (z := 2) Try.underlying129 (by kernel_rfl) h0 h1
theorem ia_130 {b p n c : Nat} {j : IntKind} {i : Int} (h0 : 0 ≤ i) (h1 : i < n) : pureRun Try.prog (Instr.indexAt 130 (.slice (some ⟨b, p, none⟩) n c) (.int j i)) = some (.pointer (some ⟨b, p + i.toNat * 7, none⟩)) := by rw [← addr_add]; exact pr_index (z := 7) Try.underlying130 (by kernel_rfl) h0 h1
theorem ia_142 {b p n c : Nat} {j : IntKind} {i : Int} (h0 : 0 ≤ i) (h1 : i < n) : pureRun Try.prog (Instr.indexAt 142 (.slice (some ⟨b, p, none⟩) n c) (.int j i)) = some (.pointer (some ⟨b, p + i.toNat * 1, none⟩)) := by rw [← addr_add]; exact pr_index (z := 1) Try.underlying142 (by kernel_rfl) h0 h1
theorem ia_151 {b p n c : Nat} {j : IntKind} {i : Int} (h0 : 0 ≤ i) (h1 : i < n) : pureRun Try.prog (Instr.indexAt 151 (.slice (some ⟨b, p, none⟩) n c) (.int j i)) = some (.pointer (some ⟨b, p + i.toNat * 8, none⟩)) := by rw [← addr_add]; exact pr_index (z := 8) Try.underlying151 (by kernel_rfl) h0 h1
theorem ia_152 {b p n c : Nat} {j : IntKind} {i : Int} (h0 : 0 ≤ i) (h1 : i < n) : pureRun Try.prog (Instr.indexAt 152 (.slice (some ⟨b, p, none⟩) n c) (.int j i)) = some (.pointer (some ⟨b, p + i.toNat * 1, none⟩)) := by rw [← addr_add]; exact pr_index (z := 1) Try.underlying152 (by kernel_rfl) h0 h1
theorem ia_161 {b p n c : Nat} {j : IntKind} {i : Int} (h0 : 0 ≤ i) (h1 : i < n) : pureRun Try.prog (Instr.indexAt 161 (.slice (some ⟨b, p, none⟩) n c) (.int j i)) = some (.pointer (some ⟨b, p + i.toNat * 1, none⟩)) := by rw [← addr_add]; exact pr_index (z := 1) Try.underlying161 (by kernel_rfl) h0 h1
theorem ia_177 {b p n c : Nat} {j : IntKind} {i : Int} (h0 : 0 ≤ i) (h1 : i < n) : pureRun Try.prog (Instr.indexAt 177 (.slice (some ⟨b, p, none⟩) n c) (.int j i)) = some (.pointer (some ⟨b, p + i.toNat * 1, none⟩)) := by rw [← addr_add]; exact pr_index (z := 1) Try.underlying177 (by kernel_rfl) h0 h1
theorem ia_189 {b p n c : Nat} {j : IntKind} {i : Int} (h0 : 0 ≤ i) (h1 : i < n) : pureRun Try.prog (Instr.indexAt 189 (.slice (some ⟨b, p, none⟩) n c) (.int j i)) = some (.pointer (some ⟨b, p + i.toNat * 5, none⟩)) := by rw [← addr_add]; exact pr_index (z := 5) Try.underlying189 (by kernel_rfl) h0 h1
theorem ei_40 {d : Nat} {x0 y0 : Int} {x1 y1 : Int} {x2 y2 : Int} {x3 y3 : Int} {x4 y4 : Int} {x5 y5 : Int} : (Op.equalIn (d + 2) 40 (.agg #[(.int .i64 x0), (.int .i64 x1), (.int .i64 x2), (.int .i64 x3), (.int .u64 x4), (.int .u64 x5)]) (.agg #[(.int .i64 y0), (.int .i64 y1), (.int .i64 y2), (.int .i64 y3), (.int .u64 y4), (.int .u64 y5)])).run Try.prog w = .ok ((x0 == y0) && ((x1 == y1) && ((x2 == y2) && ((x3 == y3) && ((x4 == y4) && ((x5 == y5) && (true))))))) w :=
  eqIn_struct (d := d + 1) (fs := [(true, 3, 0), (true, 3, 1), (true, 3, 2), (true, 3, 3), (true, 38, 4), (true, 38, 5)]) (by kernel_rfl) (by kernel_rfl) (by kernel_rfl) (bQ (bB (by kernel_rfl) rfl) (bB (by kernel_rfl) rfl) (bZ Try.underlying3) (bQ (bB (by kernel_rfl) rfl) (bB (by kernel_rfl) rfl) (bZ Try.underlying3) (bQ (bB (by kernel_rfl) rfl) (bB (by kernel_rfl) rfl) (bZ Try.underlying3) (bQ (bB (by kernel_rfl) rfl) (bB (by kernel_rfl) rfl) (bZ Try.underlying3) (bQ (bB (by kernel_rfl) rfl) (bB (by kernel_rfl) rfl) (bZ Try.underlying38) (bQ (bB (by kernel_rfl) rfl) (bB (by kernel_rfl) rfl) (bZ Try.underlying38) eqF_nil))))))
@[simp] theorem be_eql_40 {x y : Operand} {x0 y0 : Int} {x1 y1 : Int} {x2 y2 : Int} {x3 y3 : Int} {x4 y4 : Int} {x5 y5 : Int} : be Try.prog .eql 40 x y (.agg #[(.int .i64 x0), (.int .i64 x1), (.int .i64 x2), (.int .i64 x3), (.int .u64 x4), (.int .u64 x5)]) (.agg #[(.int .i64 y0), (.int .i64 y1), (.int .i64 y2), (.int .i64 y3), (.int .u64 y4), (.int .u64 y5)]) = some (.bool (((x0 == y0) && ((x1 == y1) && ((x2 == y2) && ((x3 == y3) && ((x4 == y4) && ((x5 == y5) && (true))))))))) := be_eqls (by kernel_rfl) fun w => ei_40 (d := 9998)
@[simp] theorem be_neq_40 {x y : Operand} {x0 y0 : Int} {x1 y1 : Int} {x2 y2 : Int} {x3 y3 : Int} {x4 y4 : Int} {x5 y5 : Int} : be Try.prog .neq 40 x y (.agg #[(.int .i64 x0), (.int .i64 x1), (.int .i64 x2), (.int .i64 x3), (.int .u64 x4), (.int .u64 x5)]) (.agg #[(.int .i64 y0), (.int .i64 y1), (.int .i64 y2), (.int .i64 y3), (.int .u64 y4), (.int .u64 y5)]) = some (.bool (!((x0 == y0) && ((x1 == y1) && ((x2 == y2) && ((x3 == y3) && ((x4 == y4) && ((x5 == y5) && (true))))))))) := be_neqs (by kernel_rfl) fun w => ei_40 (d := 9998)
theorem ei_51 {d : Nat} {x0 y0 : Int} {x1 y1 : Int} {x2 y2 : Int} {x3 y3 : Int} {x4 y4 : Int} : (Op.equalIn (d + 2) 51 (.agg #[(.int .i64 x0), (.int .i64 x1), (.int .i64 x2), (.int .i64 x3), (.int .i64 x4)]) (.agg #[(.int .i64 y0), (.int .i64 y1), (.int .i64 y2), (.int .i64 y3), (.int .i64 y4)])).run Try.prog w = .ok ((x0 == y0) && ((x1 == y1) && ((x2 == y2) && ((x3 == y3) && ((x4 == y4) && (true)))))) w :=
  eqIn_struct (d := d + 1) (fs := [(true, 3, 0), (true, 3, 1), (true, 3, 2), (true, 3, 3), (true, 3, 4)]) (by kernel_rfl) (by kernel_rfl) (by kernel_rfl) (bQ (bB (by kernel_rfl) rfl) (bB (by kernel_rfl) rfl) (bZ Try.underlying3) (bQ (bB (by kernel_rfl) rfl) (bB (by kernel_rfl) rfl) (bZ Try.underlying3) (bQ (bB (by kernel_rfl) rfl) (bB (by kernel_rfl) rfl) (bZ Try.underlying3) (bQ (bB (by kernel_rfl) rfl) (bB (by kernel_rfl) rfl) (bZ Try.underlying3) (bQ (bB (by kernel_rfl) rfl) (bB (by kernel_rfl) rfl) (bZ Try.underlying3) eqF_nil)))))
@[simp] theorem be_eql_51 {x y : Operand} {x0 y0 : Int} {x1 y1 : Int} {x2 y2 : Int} {x3 y3 : Int} {x4 y4 : Int} : be Try.prog .eql 51 x y (.agg #[(.int .i64 x0), (.int .i64 x1), (.int .i64 x2), (.int .i64 x3), (.int .i64 x4)]) (.agg #[(.int .i64 y0), (.int .i64 y1), (.int .i64 y2), (.int .i64 y3), (.int .i64 y4)]) = some (.bool (((x0 == y0) && ((x1 == y1) && ((x2 == y2) && ((x3 == y3) && ((x4 == y4) && (true)))))))) := be_eqls (by kernel_rfl) fun w => ei_51 (d := 9998)
@[simp] theorem be_neq_51 {x y : Operand} {x0 y0 : Int} {x1 y1 : Int} {x2 y2 : Int} {x3 y3 : Int} {x4 y4 : Int} : be Try.prog .neq 51 x y (.agg #[(.int .i64 x0), (.int .i64 x1), (.int .i64 x2), (.int .i64 x3), (.int .i64 x4)]) (.agg #[(.int .i64 y0), (.int .i64 y1), (.int .i64 y2), (.int .i64 y3), (.int .i64 y4)]) = some (.bool (!((x0 == y0) && ((x1 == y1) && ((x2 == y2) && ((x3 == y3) && ((x4 == y4) && (true)))))))) := be_neqs (by kernel_rfl) fun w => ei_51 (d := 9998)
theorem ei_53 {d : Nat} {x0 y0 : Int} {x1 y1 : Int} {x2 y2 : Int} {x3 y3 : Int} {x4 y4 : Int} {x5 y5 : Int} {x6 y6 : Int} {x7 y7 : Int} : (Op.equalIn (d + 3) 53 (.agg #[(.int .i64 x0), (.int .i64 x1), (.int .i64 x2), (.int .i64 x3), (.int .i64 x4), (.int .i64 x5), (.int .i64 x6), (.int .u64 x7)]) (.agg #[(.int .i64 y0), (.int .i64 y1), (.int .i64 y2), (.int .i64 y3), (.int .i64 y4), (.int .i64 y5), (.int .i64 y6), (.int .u64 y7)])).run Try.prog w = .ok ((x0 == y0) && (((x1 == y1) && ((x2 == y2) && ((x3 == y3) && ((x4 == y4) && ((x5 == y5) && (true)))))) && ((x6 == y6) && ((x7 == y7) && (true))))) w :=
  eqIn_struct (d := d + 2) (fs := [(true, 29, 0), (true, 51, 1), (true, 3, 6), (true, 38, 7)]) (by kernel_rfl) (by kernel_rfl) (by kernel_rfl) (bQ (bB (by kernel_rfl) rfl) (bB (by kernel_rfl) rfl) (bZ Try.underlying29) (bQ (part_ag (n := 5) (by kernel_rfl) (by kernel_rfl)) (part_ag (n := 5) (by kernel_rfl) (by kernel_rfl)) (ei_51 (d := d + 0)) (bQ (bB (by kernel_rfl) rfl) (bB (by kernel_rfl) rfl) (bZ Try.underlying3) (bQ (bB (by kernel_rfl) rfl) (bB (by kernel_rfl) rfl) (bZ Try.underlying38) eqF_nil))))
@[simp] theorem be_eql_53 {x y : Operand} {x0 y0 : Int} {x1 y1 : Int} {x2 y2 : Int} {x3 y3 : Int} {x4 y4 : Int} {x5 y5 : Int} {x6 y6 : Int} {x7 y7 : Int} : be Try.prog .eql 53 x y (.agg #[(.int .i64 x0), (.int .i64 x1), (.int .i64 x2), (.int .i64 x3), (.int .i64 x4), (.int .i64 x5), (.int .i64 x6), (.int .u64 x7)]) (.agg #[(.int .i64 y0), (.int .i64 y1), (.int .i64 y2), (.int .i64 y3), (.int .i64 y4), (.int .i64 y5), (.int .i64 y6), (.int .u64 y7)]) = some (.bool (((x0 == y0) && (((x1 == y1) && ((x2 == y2) && ((x3 == y3) && ((x4 == y4) && ((x5 == y5) && (true)))))) && ((x6 == y6) && ((x7 == y7) && (true))))))) := be_eqls (by kernel_rfl) fun w => ei_53 (d := 9997)
@[simp] theorem be_neq_53 {x y : Operand} {x0 y0 : Int} {x1 y1 : Int} {x2 y2 : Int} {x3 y3 : Int} {x4 y4 : Int} {x5 y5 : Int} {x6 y6 : Int} {x7 y7 : Int} : be Try.prog .neq 53 x y (.agg #[(.int .i64 x0), (.int .i64 x1), (.int .i64 x2), (.int .i64 x3), (.int .i64 x4), (.int .i64 x5), (.int .i64 x6), (.int .u64 x7)]) (.agg #[(.int .i64 y0), (.int .i64 y1), (.int .i64 y2), (.int .i64 y3), (.int .i64 y4), (.int .i64 y5), (.int .i64 y6), (.int .u64 y7)]) = some (.bool (!((x0 == y0) && (((x1 == y1) && ((x2 == y2) && ((x3 == y3) && ((x4 == y4) && ((x5 == y5) && (true)))))) && ((x6 == y6) && ((x7 == y7) && (true))))))) := be_neqs (by kernel_rfl) fun w => ei_53 (d := 9997)
theorem ei_58 {d : Nat} {x0 y0 : Int} {x1 y1 : Int} {x2 y2 : Int} {x3 y3 : Int} {x4 y4 : Int} {x5 y5 : Int} {x6 y6 : Int} {x7 y7 : Int} {x8 y8 : Int} {x9 y9 : Int} {x10 y10 : Int} {x11 y11 : Int} {x12 y12 : Int} {x13 y13 : Int} {x14 y14 : Int} {x15 y15 : Int} {x16 y16 : Int} {x17 y17 : Int} {x18 y18 : Int} {x19 y19 : Int} : (Op.equalIn (d + 4) 58 (.agg #[(.int .i64 x0), (.int .i64 x1), (.int .i64 x2), (.int .i64 x3), (.int .i64 x4), (.int .i64 x5), (.int .u64 x6), (.int .u64 x7), (.int .i64 x8), (.int .i64 x9), (.int .i64 x10), (.int .i64 x11), (.int .i64 x12), (.int .i64 x13), (.int .i64 x14), (.int .i64 x15), (.int .i64 x16), (.int .i64 x17), (.int .i64 x18), (.int .u64 x19)]) (.agg #[(.int .i64 y0), (.int .i64 y1), (.int .i64 y2), (.int .i64 y3), (.int .i64 y4), (.int .i64 y5), (.int .u64 y6), (.int .u64 y7), (.int .i64 y8), (.int .i64 y9), (.int .i64 y10), (.int .i64 y11), (.int .i64 y12), (.int .i64 y13), (.int .i64 y14), (.int .i64 y15), (.int .i64 y16), (.int .i64 y17), (.int .i64 y18), (.int .u64 y19)])).run Try.prog w = .ok ((x0 == y0) && ((x1 == y1) && (((x2 == y2) && ((x3 == y3) && ((x4 == y4) && ((x5 == y5) && ((x6 == y6) && ((x7 == y7) && (true))))))) && ((x8 == y8) && ((x9 == y9) && ((x10 == y10) && ((x11 == y11) && (((x12 == y12) && (((x13 == y13) && ((x14 == y14) && ((x15 == y15) && ((x16 == y16) && ((x17 == y17) && (true)))))) && ((x18 == y18) && ((x19 == y19) && (true))))) && (true))))))))) w :=
  eqIn_struct (d := d + 3) (fs := [(true, 3, 0), (true, 3, 1), (true, 40, 2), (true, 3, 8), (true, 3, 9), (true, 3, 10), (true, 3, 11), (true, 53, 12)]) (by kernel_rfl) (by kernel_rfl) (by kernel_rfl) (bQ (bB (by kernel_rfl) rfl) (bB (by kernel_rfl) rfl) (bZ Try.underlying3) (bQ (bB (by kernel_rfl) rfl) (bB (by kernel_rfl) rfl) (bZ Try.underlying3) (bQ (part_ag (n := 6) (by kernel_rfl) (by kernel_rfl)) (part_ag (n := 6) (by kernel_rfl) (by kernel_rfl)) (ei_40 (d := d + 1)) (bQ (bB (by kernel_rfl) rfl) (bB (by kernel_rfl) rfl) (bZ Try.underlying3) (bQ (bB (by kernel_rfl) rfl) (bB (by kernel_rfl) rfl) (bZ Try.underlying3) (bQ (bB (by kernel_rfl) rfl) (bB (by kernel_rfl) rfl) (bZ Try.underlying3) (bQ (bB (by kernel_rfl) rfl) (bB (by kernel_rfl) rfl) (bZ Try.underlying3) (bQ (part_ag (n := 8) (by kernel_rfl) (by kernel_rfl)) (part_ag (n := 8) (by kernel_rfl) (by kernel_rfl)) (ei_53 (d := d + 0)) eqF_nil))))))))
@[simp] theorem be_eql_58 {x y : Operand} {x0 y0 : Int} {x1 y1 : Int} {x2 y2 : Int} {x3 y3 : Int} {x4 y4 : Int} {x5 y5 : Int} {x6 y6 : Int} {x7 y7 : Int} {x8 y8 : Int} {x9 y9 : Int} {x10 y10 : Int} {x11 y11 : Int} {x12 y12 : Int} {x13 y13 : Int} {x14 y14 : Int} {x15 y15 : Int} {x16 y16 : Int} {x17 y17 : Int} {x18 y18 : Int} {x19 y19 : Int} : be Try.prog .eql 58 x y (.agg #[(.int .i64 x0), (.int .i64 x1), (.int .i64 x2), (.int .i64 x3), (.int .i64 x4), (.int .i64 x5), (.int .u64 x6), (.int .u64 x7), (.int .i64 x8), (.int .i64 x9), (.int .i64 x10), (.int .i64 x11), (.int .i64 x12), (.int .i64 x13), (.int .i64 x14), (.int .i64 x15), (.int .i64 x16), (.int .i64 x17), (.int .i64 x18), (.int .u64 x19)]) (.agg #[(.int .i64 y0), (.int .i64 y1), (.int .i64 y2), (.int .i64 y3), (.int .i64 y4), (.int .i64 y5), (.int .u64 y6), (.int .u64 y7), (.int .i64 y8), (.int .i64 y9), (.int .i64 y10), (.int .i64 y11), (.int .i64 y12), (.int .i64 y13), (.int .i64 y14), (.int .i64 y15), (.int .i64 y16), (.int .i64 y17), (.int .i64 y18), (.int .u64 y19)]) = some (.bool (((x0 == y0) && ((x1 == y1) && (((x2 == y2) && ((x3 == y3) && ((x4 == y4) && ((x5 == y5) && ((x6 == y6) && ((x7 == y7) && (true))))))) && ((x8 == y8) && ((x9 == y9) && ((x10 == y10) && ((x11 == y11) && (((x12 == y12) && (((x13 == y13) && ((x14 == y14) && ((x15 == y15) && ((x16 == y16) && ((x17 == y17) && (true)))))) && ((x18 == y18) && ((x19 == y19) && (true))))) && (true))))))))))) := be_eqls (by kernel_rfl) fun w => ei_58 (d := 9996)
@[simp] theorem be_neq_58 {x y : Operand} {x0 y0 : Int} {x1 y1 : Int} {x2 y2 : Int} {x3 y3 : Int} {x4 y4 : Int} {x5 y5 : Int} {x6 y6 : Int} {x7 y7 : Int} {x8 y8 : Int} {x9 y9 : Int} {x10 y10 : Int} {x11 y11 : Int} {x12 y12 : Int} {x13 y13 : Int} {x14 y14 : Int} {x15 y15 : Int} {x16 y16 : Int} {x17 y17 : Int} {x18 y18 : Int} {x19 y19 : Int} : be Try.prog .neq 58 x y (.agg #[(.int .i64 x0), (.int .i64 x1), (.int .i64 x2), (.int .i64 x3), (.int .i64 x4), (.int .i64 x5), (.int .u64 x6), (.int .u64 x7), (.int .i64 x8), (.int .i64 x9), (.int .i64 x10), (.int .i64 x11), (.int .i64 x12), (.int .i64 x13), (.int .i64 x14), (.int .i64 x15), (.int .i64 x16), (.int .i64 x17), (.int .i64 x18), (.int .u64 x19)]) (.agg #[(.int .i64 y0), (.int .i64 y1), (.int .i64 y2), (.int .i64 y3), (.int .i64 y4), (.int .i64 y5), (.int .u64 y6), (.int .u64 y7), (.int .i64 y8), (.int .i64 y9), (.int .i64 y10), (.int .i64 y11), (.int .i64 y12), (.int .i64 y13), (.int .i64 y14), (.int .i64 y15), (.int .i64 y16), (.int .i64 y17), (.int .i64 y18), (.int .u64 y19)]) = some (.bool (!((x0 == y0) && ((x1 == y1) && (((x2 == y2) && ((x3 == y3) && ((x4 == y4) && ((x5 == y5) && ((x6 == y6) && ((x7 == y7) && (true))))))) && ((x8 == y8) && ((x9 == y9) && ((x10 == y10) && ((x11 == y11) && (((x12 == y12) && (((x13 == y13) && ((x14 == y14) && ((x15 == y15) && ((x16 == y16) && ((x17 == y17) && (true)))))) && ((x18 == y18) && ((x19 == y19) && (true))))) && (true))))))))))) := be_neqs (by kernel_rfl) fun w => ei_58 (d := 9996)
theorem ei_141 {d : Nat} {x0 y0 : Int} {x1 y1 : Int} : (Op.equalIn (d + 2) 141 (.agg #[(.int .i64 x0), (.int .i64 x1)]) (.agg #[(.int .i64 y0), (.int .i64 y1)])).run Try.prog w = .ok ((x0 == y0) && ((x1 == y1) && (true))) w :=
  eqIn_struct (d := d + 1) (fs := [(true, 3, 0), (true, 3, 1)]) (by kernel_rfl) (by kernel_rfl) (by kernel_rfl) (bQ (bB (by kernel_rfl) rfl) (bB (by kernel_rfl) rfl) (bZ Try.underlying3) (bQ (bB (by kernel_rfl) rfl) (bB (by kernel_rfl) rfl) (bZ Try.underlying3) eqF_nil))
@[simp] theorem be_eql_141 {x y : Operand} {x0 y0 : Int} {x1 y1 : Int} : be Try.prog .eql 141 x y (.agg #[(.int .i64 x0), (.int .i64 x1)]) (.agg #[(.int .i64 y0), (.int .i64 y1)]) = some (.bool (((x0 == y0) && ((x1 == y1) && (true))))) := be_eqls (by kernel_rfl) fun w => ei_141 (d := 9998)
@[simp] theorem be_neq_141 {x y : Operand} {x0 y0 : Int} {x1 y1 : Int} : be Try.prog .neq 141 x y (.agg #[(.int .i64 x0), (.int .i64 x1)]) (.agg #[(.int .i64 y0), (.int .i64 y1)]) = some (.bool (!((x0 == y0) && ((x1 == y1) && (true))))) := be_neqs (by kernel_rfl) fun w => ei_141 (d := 9998)
theorem ei_150 {d : Nat} {x0 y0 : Int} {x1 y1 : Int} : (Op.equalIn (d + 2) 150 (.agg #[(.int .i64 x0), (.int .i64 x1)]) (.agg #[(.int .i64 y0), (.int .i64 y1)])).run Try.prog w = .ok ((x0 == y0) && ((x1 == y1) && (true))) w :=
  eqIn_struct (d := d + 1) (fs := [(true, 3, 0), (true, 3, 1)]) (by kernel_rfl) (by kernel_rfl) (by kernel_rfl) (bQ (bB (by kernel_rfl) rfl) (bB (by kernel_rfl) rfl) (bZ Try.underlying3) (bQ (bB (by kernel_rfl) rfl) (bB (by kernel_rfl) rfl) (bZ Try.underlying3) eqF_nil))
@[simp] theorem be_eql_150 {x y : Operand} {x0 y0 : Int} {x1 y1 : Int} : be Try.prog .eql 150 x y (.agg #[(.int .i64 x0), (.int .i64 x1)]) (.agg #[(.int .i64 y0), (.int .i64 y1)]) = some (.bool (((x0 == y0) && ((x1 == y1) && (true))))) := be_eqls (by kernel_rfl) fun w => ei_150 (d := 9998)
@[simp] theorem be_neq_150 {x y : Operand} {x0 y0 : Int} {x1 y1 : Int} : be Try.prog .neq 150 x y (.agg #[(.int .i64 x0), (.int .i64 x1)]) (.agg #[(.int .i64 y0), (.int .i64 y1)]) = some (.bool (!((x0 == y0) && ((x1 == y1) && (true))))) := be_neqs (by kernel_rfl) fun w => ei_150 (d := 9998)
theorem ei_187 {d : Nat} {x0 y0 : Int} {x1 y1 : Int} : (Op.equalIn (d + 2) 187 (.agg #[(.int .i64 x0), (.int .i64 x1)]) (.agg #[(.int .i64 y0), (.int .i64 y1)])).run Try.prog w = .ok ((x0 == y0) && ((x1 == y1) && (true))) w :=
  eqIn_struct (d := d + 1) (fs := [(true, 3, 0), (true, 3, 1)]) (by kernel_rfl) (by kernel_rfl) (by kernel_rfl) (bQ (bB (by kernel_rfl) rfl) (bB (by kernel_rfl) rfl) (bZ Try.underlying3) (bQ (bB (by kernel_rfl) rfl) (bB (by kernel_rfl) rfl) (bZ Try.underlying3) eqF_nil))
@[simp] theorem be_eql_187 {x y : Operand} {x0 y0 : Int} {x1 y1 : Int} : be Try.prog .eql 187 x y (.agg #[(.int .i64 x0), (.int .i64 x1)]) (.agg #[(.int .i64 y0), (.int .i64 y1)]) = some (.bool (((x0 == y0) && ((x1 == y1) && (true))))) := be_eqls (by kernel_rfl) fun w => ei_187 (d := 9998)
@[simp] theorem be_neq_187 {x y : Operand} {x0 y0 : Int} {x1 y1 : Int} : be Try.prog .neq 187 x y (.agg #[(.int .i64 x0), (.int .i64 x1)]) (.agg #[(.int .i64 y0), (.int .i64 y1)]) = some (.bool (!((x0 == y0) && ((x1 == y1) && (true))))) := be_neqs (by kernel_rfl) fun w => ei_187 (d := 9998)
end Go.Proofs.Ytgamnncehjcdiaa

namespace Go.Proofs.Ytgamnncehjcdiaa
open Go Ev
theorem mixed : Try.prog.follows .mixedOrders = true := Checked.mixed Try.checked
theorem bn : EntOk Try.prog (entR 3 143) := entOk_of (by kernel_rfl)
noncomputable def C22 : Code := (Try.f22.body).getD .skip
noncomputable def H22 : Hints := ⟨[], [(4, [5])], []⟩
noncomputable def T22_0 : List It := [.jn (nav [1, 1, 1] C22)]
def P22_0 (x5 : Value) (w : World) (Q : Value → World → Prop) : Prop := Part Try.prog 22 T22_0 [5] [x5] w Q
def F22 (a0 a1 : Value) (w : World) (Q : Value → World → Prop) : Prop :=
  wpB (bp Try.prog .rem 3 a0 a1) fun t8 =>
  wpB (bp Try.prog .lss 3 t8 (Go.Value.int Go.IntKind.i64 0)) fun t10 =>
  cnd t10
  (wpB (bp Try.prog .add 3 t8 a1) fun t13 =>
  P22_0 t13 w Q)
  (P22_0 t8 w Q)
def L22_0 (x5 : Value) (w : World) (Q : Value → World → Prop) : Prop :=
  Q x5 w
theorem F22_ok {a0 a1 : Value} {w : World} {Q : Value → World → Prop} (h : F22 a0 a1 w Q) : CallR Try.prog 22 [a0, a1] w Q :=
  have e : evC Try.prog (entR 3 143) 22 15 H22 Q C22 [] (entryE 0 [a0, a1]) w (contT Try.prog (entR 3 143) 22 15 H22 Try.f22.results.toList Q []) = F22 a0 a1 w Q := by kernel_rfl
  bt (fn := Try.f22) mixed bn Try.func22 (c := C22) rfl H22 (Nat.le_of_ble_eq_true rfl) (e.mpr h)
theorem L22_0_ok {x5 : Value} {w : World} {Q : Value → World → Prop} (h : L22_0 x5 w Q) : P22_0 x5 w Q :=
  have e : evC Try.prog (entR 3 143) 22 15 H22 Q (nav [1, 1, 1] C22) [] (unpack [5] [x5]) w (contT Try.prog (entR 3 143) 22 15 H22 Try.f22.results.toList Q []) = L22_0 x5 w Q := by kernel_rfl
  bx (fn := Try.f22) mixed bn Try.func22 H22 (c := (nav [1, 1, 1] C22)) (t := []) (e.mpr h)

noncomputable def C49 : Code := (Try.f49.body).getD .skip
noncomputable def H49 : Hints := ⟨[], [], []⟩
def F49 (a0 : Value) (w : World) (Q : Value → World → Prop) : Prop :=
  effv Try.prog (Instr.alloc 74 true (.tuple #[])) w fun t2 w =>
  CallR Try.prog 22 [a0, (Go.Value.int Go.IntKind.i64 4)] w fun t5 w =>
  wpB (bp Try.prog .quo 3 a0 (Go.Value.int Go.IntKind.i64 4)) fun t7 =>
  CallR Try.prog 22 [t7, (Go.Value.int Go.IntKind.i64 8)] w fun t8 w =>
  wpB (bp Try.prog .quo 3 a0 (Go.Value.int Go.IntKind.i64 32)) fun t10 =>
  CallR Try.prog 22 [t10, (Go.Value.int Go.IntKind.i64 2)] w fun t11 w =>
  wpB (bp Try.prog .quo 3 a0 (Go.Value.int Go.IntKind.i64 64)) fun t13 =>
  CallR Try.prog 22 [t13, (Go.Value.int Go.IntKind.i64 4)] w fun t14 w =>
  wpB (bp Try.prog .quo 3 a0 (Go.Value.int Go.IntKind.i64 256)) fun t16 =>
  CallR Try.prog 22 [t16, (Go.Value.int Go.IntKind.i64 4)] w fun t17 w =>
  wpB (bp Try.prog .quo 3 a0 (Go.Value.int Go.IntKind.i64 1024)) fun t19 =>
  CallR Try.prog 22 [t19, (Go.Value.int Go.IntKind.i64 3)] w fun t20 w =>
  effv Try.prog (Instr.buildSlice 23 6 #[(0, t5), (1, t8), (2, t11), (3, t14), (4, t17), (5, t20)]) w fun t21 w =>
  wpB (pureRun Try.prog (Instr.build 100 #[(0, t21)])) fun t22 =>
  effv Try.prog (Instr.box 100 t22) w fun t23 w =>
  CallR Try.prog 50 [t23, (Go.Value.int Go.IntKind.i64 4)] w fun t25 w =>
  wpB (bp Try.prog .add 3 (Go.Value.int Go.IntKind.i64 1) t25) fun t26 =>
  CallR Try.prog 50 [t23, (Go.Value.int Go.IntKind.i64 8)] w fun t28 w =>
  wpB (bp Try.prog .add 3 (Go.Value.int Go.IntKind.i64 1) t28) fun t29 =>
  CallR Try.prog 50 [t23, (Go.Value.int Go.IntKind.i64 2)] w fun t31 w =>
  wpB (bp Try.prog .mul 3 (Go.Value.int Go.IntKind.i64 8) t31) fun t32 =>
  wpB (bp Try.prog .add 3 (Go.Value.int Go.IntKind.i64 8) t32) fun t33 =>
  CallR Try.prog 50 [t23, (Go.Value.int Go.IntKind.i64 4)] w fun t35 w =>
  wpB (bp Try.prog .add 3 (Go.Value.int Go.IntKind.i64 1) t35) fun t36 =>
  CallR Try.prog 50 [t23, (Go.Value.int Go.IntKind.i64 4)] w fun t38 w =>
  CallR Try.prog 50 [t23, (Go.Value.int Go.IntKind.i64 3)] w fun t40 w =>
  wpB (bp Try.prog .add 3 (Go.Value.int Go.IntKind.i64 1) t40) fun t41 =>
  wpB (pureRun Try.prog (Instr.build 74 #[(0, t26), (1, t29), (2, t33), (3, t36), (4, t38), (5, t41)])) fun t42 =>
  effu Try.prog (Instr.storeAt 74 t2 t42) w fun w =>
  wpB (ldv Try.prog 74 t2 w) fun r2 => Q r2 w
theorem F49_ok {a0 : Value} {w : World} {Q : Value → World → Prop} (h : F49 a0 w Q) : CallR Try.prog 49 [a0] w Q :=
  have e : evC Try.prog (entR 3 143) 49 43 H49 Q C49 [] (entryE 0 [a0]) w (contT Try.prog (entR 3 143) 49 43 H49 Try.f49.results.toList Q []) = F49 a0 w Q := by kernel_rfl
  bt (fn := Try.f49) mixed bn Try.func49 (c := C49) rfl H49 (Nat.le_of_ble_eq_true rfl) (e.mpr h)

noncomputable def C50 : Code := (Try.f50.body).getD .skip
noncomputable def H50 : Hints := ⟨[], [(4, [0, 1, 5])], [(2, (.leaf [0, 1, 2, 3, 4, 5, 6, 7, 8, 9])), (3, (.leaf [0, 1, 2, 3, 4, 5, 6, 7, 8, 9, 10]))]⟩
noncomputable def T50_0 : List It := [.jn (nav [1, 1, 1] C50)]
def P50_0 (x0 x1 x5 : Value) (w : World) (Q : Value → World → Prop) : Prop := Part Try.prog 50 T50_0 [0, 1, 5] [x0, x1, x5] w Q
def F50 (a0 a1 : Value) (w : World) (Q : Value → World → Prop) : Prop :=
  wpB (nilv a0) fun t7 =>
  wpB (pureRun Try.prog (Instr.fieldAt 100 t7 1)) fun t8 =>
  wpB (ldv Try.prog 3 t8 w.drew) fun t9 =>
  wpB (nilv a0) fun t11 =>
  wpB (pureRun Try.prog (Instr.fieldAt 100 t11 0)) fun t12 =>
  wpB (ldv Try.prog 23 t12 w.drew) fun t13 =>
  wpB (pureRun Try.prog (Builtin.len_ #[23] 3 #[t13])) fun t14 =>
  wpB (bp Try.prog .lss 3 t9 t14) fun t15 =>
  cnd t15
  (wpB (nilv a0) fun t17 =>
  wpB (pureRun Try.prog (Instr.fieldAt 100 t17 0)) fun t18 =>
  wpB (ldv Try.prog 23 t18 w.drew.drew) fun t19 =>
  wpB (nilv a0) fun t21 =>
  wpB (pureRun Try.prog (Instr.fieldAt 100 t21 1)) fun t22 =>
  wpB (ldv Try.prog 3 t22 w.drew.drew) fun t23 =>
  wpB (pureRun Try.prog (Instr.indexAt 23 t19 t23)) fun t24 =>
  wpB (ldv Try.prog 3 t24 w.drew.drew) fun t25 =>
  P50_0 a0 a1 t25 w.drew.drew Q)
  (P50_0 a0 a1 (Go.Value.int Go.IntKind.i64 0) w.drew Q)
def L50_0 (x0 x1 x5 : Value) (w : World) (Q : Value → World → Prop) : Prop :=
  wpB (nilv x0) fun t27 =>
  wpB (pureRun Try.prog (Instr.fieldAt 100 t27 1)) fun t28 =>
  wpB (ldv Try.prog 3 t28 w) fun t29 =>
  wpB (bp Try.prog .add 3 t29 (Go.Value.int Go.IntKind.i64 1)) fun t30 =>
  wpB (nilv x0) fun t31 =>
  wpB (pureRun Try.prog (Instr.fieldAt 100 t31 1)) fun t32 =>
  effu Try.prog (Instr.storeAt 3 t32 t30) w fun w =>
  CallR Try.prog 22 [x5, x1] w fun t35 w =>
  Q t35 w
theorem F50_ok {a0 a1 : Value} {w : World} {Q : Value → World → Prop} (h : F50 a0 a1 w Q) : CallR Try.prog 50 [a0, a1] w Q :=
  have e : evC Try.prog (entR 3 143) 50 36 H50 Q C50 [] (entryE 0 [a0, a1]) w (contT Try.prog (entR 3 143) 50 36 H50 Try.f50.results.toList Q []) = F50 a0 a1 w Q := by kernel_rfl
  bt (fn := Try.f50) mixed bn Try.func50 (c := C50) rfl H50 (Nat.le_of_ble_eq_true rfl) (e.mpr h)
theorem L50_0_ok {x0 x1 x5 : Value} {w : World} {Q : Value → World → Prop} (h : L50_0 x0 x1 x5 w Q) : P50_0 x0 x1 x5 w Q :=
  have e : evC Try.prog (entR 3 143) 50 36 H50 Q (nav [1, 1, 1] C50) [] (unpack [0, 1, 5] [x0, x1, x5]) w (contT Try.prog (entR 3 143) 50 36 H50 Try.f50.results.toList Q []) = L50_0 x0 x1 x5 w Q := by kernel_rfl
  bx (fn := Try.f50) mixed bn Try.func50 H50 (c := (nav [1, 1, 1] C50)) (t := []) (e.mpr h)

noncomputable def C53 : Code := (Try.f53.body).getD .skip
noncomputable def H53 : Hints := ⟨[], [(6, [1, 3])], []⟩
noncomputable def T53_0 : List It := [.jn (nav [1, 1, 1] C53)]
def P53_0 (x1 x3 : Value) (w : World) (Q : Value → World → Prop) : Prop := Part Try.prog 53 T53_0 [1, 3] [x1, x3] w Q
def F53 (a0 : Value) (w : World) (Q : Value → World → Prop) : Prop :=
  effv Try.prog (Instr.box 40 a0) w fun t1 w =>
  wpB (pureRun Try.prog (Instr.fieldAt 40 t1 0)) fun t5 =>
  wpB (ldv Try.prog 3 t5 w) fun t6 =>
  wpB (be Try.prog .eql 3 (.tmp 6) (.const (Go.Value.int Go.IntKind.i64 1)) t6 (Go.Value.int Go.IntKind.i64 1)) fun t7 =>
  cnd t7
  (P53_0 t1 (Go.Value.int Go.IntKind.i64 3) w Q)
  (wpB (pureRun Try.prog (Instr.fieldAt 40 t1 0)) fun t9 =>
  wpB (ldv Try.prog 3 t9 w) fun t10 =>
  CallR Try.prog 64 [t10] w fun t11 w =>
  cnd t11
  (P53_0 t1 (Go.Value.int Go.IntKind.i64 65535) w Q)
  (P53_0 t1 (Go.Value.int Go.IntKind.i64 0) w Q))
def L53_0 (x1 x3 : Value) (w : World) (Q : Value → World → Prop) : Prop :=
  wpB (pureRun Try.prog (Instr.fieldAt 40 x1 0)) fun t12 =>
  wpB (ldv Try.prog 3 t12 w) fun t13 =>
  CallR Try.prog 66 [t13, (Go.Value.int Go.IntKind.i64 1), (Go.Value.int Go.IntKind.i64 12)] w fun t14 w =>
  wpB (pureRun Try.prog (Op.unary .not t14)) fun t15 =>
  wpB (gd t15 false (pureRun Try.prog (Instr.fieldAt 40 x1 3))) fun t17 =>
  wpB (gd t15 false (ldv Try.prog 3 t17 w)) fun t18 =>
  gE t15 false (CallR Try.prog 66 [t18, (Go.Value.int Go.IntKind.i64 0), (gv t15 false x3)] w) (fun t20 w =>
  wpB (gd t15 false (pureRun Try.prog (Op.unary .not t20))) fun t21 =>
  wpB (pickv t15 (some (Go.Value.bool true)) (some t21)) fun t22 =>
  wpB (gd t22 false (pureRun Try.prog (Instr.fieldAt 40 x1 0))) fun t24 =>
  wpB (gd t22 false (ldv Try.prog 3 t24 w)) fun t25 =>
  gE t22 false (CallR Try.prog 65 [t25] w) (fun t26 w =>
  wpB (gd t22 false (pureRun Try.prog (Op.unary .not t26))) fun t27 =>
  wpB (gd (gv t22 false t27) true (pureRun Try.prog (Instr.fieldAt 40 x1 4))) fun t29 =>
  wpB (gd (gv t22 false t27) true (ldv Try.prog 38 t29 w)) fun t30 =>
  wpB (gd (gv t22 false t27) true (be Try.prog .neq 38 (.tmp 30) (.const (Go.Value.int Go.IntKind.u64 0)) t30 (Go.Value.int Go.IntKind.u64 0))) fun t31 =>
  wpB (gd t22 false (pickv (gv t22 false t27) (some t31) (some (Go.Value.bool false)))) fun t32 =>
  wpB (pickv t22 (some (Go.Value.bool true)) (some t32)) fun t33 =>
  wpB (gd t33 false (pureRun Try.prog (Instr.fieldAt 40 x1 0))) fun t35 =>
  wpB (gd t33 false (ldv Try.prog 3 t35 w)) fun t36 =>
  wpB (gd t33 false (be Try.prog .neq 3 (.tmp 36) (.const (Go.Value.int Go.IntKind.i64 9)) t36 (Go.Value.int Go.IntKind.i64 9))) fun t37 =>
  wpB (gd (gv t33 false t37) true (pureRun Try.prog (Instr.fieldAt 40 x1 5))) fun t39 =>
  wpB (gd (gv t33 false t37) true (ldv Try.prog 38 t39 w)) fun t40 =>
  wpB (gd (gv t33 false t37) true (be Try.prog .neq 38 (.tmp 40) (.const (Go.Value.int Go.IntKind.u64 0)) t40 (Go.Value.int Go.IntKind.u64 0))) fun t41 =>
  wpB (gd t33 false (pickv (gv t33 false t37) (some t41) (some (Go.Value.bool false)))) fun t42 =>
  wpB (pickv t33 (some (Go.Value.bool true)) (some t42)) fun t43 =>
  cnd t43
  (Q (Go.Value.bool false) w)
  (wpB (pureRun Try.prog (Instr.fieldAt 40 x1 0)) fun t44 =>
  wpB (ldv Try.prog 3 t44 w) fun t45 =>
  CallR Try.prog 63 [t45] w fun t46 w =>
  wpB (be Try.prog .eql 3 (.tmp 46) (.const (Go.Value.int Go.IntKind.i64 0)) t46 (Go.Value.int Go.IntKind.i64 0)) fun t47 =>
  cnd t47
  (wpB (pureRun Try.prog (Instr.fieldAt 40 x1 1)) fun t48 =>
  wpB (ldv Try.prog 3 t48 w) fun t49 =>
  wpB (be Try.prog .eql 3 (.tmp 49) (.const (Go.Value.int Go.IntKind.i64 0)) t49 (Go.Value.int Go.IntKind.i64 0)) fun t50 =>
  wpB (gd t50 true (pureRun Try.prog (Instr.fieldAt 40 x1 2))) fun t52 =>
  wpB (gd t50 true (ldv Try.prog 3 t52 w)) fun t53 =>
  wpB (gd t50 true (be Try.prog .eql 3 (.tmp 53) (.const (Go.Value.int Go.IntKind.i64 0)) t53 (Go.Value.int Go.IntKind.i64 0))) fun t54 =>
  wpB (pickv t50 (some t54) (some (Go.Value.bool false))) fun t55 =>
  Q t55 w)
  (wpB (pureRun Try.prog (Instr.fieldAt 40 x1 1)) fun t56 =>
  wpB (ldv Try.prog 3 t56 w) fun t57 =>
  CallR Try.prog 66 [t57, (Go.Value.int Go.IntKind.i64 0), (Go.Value.int Go.IntKind.i64 63)] w fun t58 w =>
  wpB (gd t58 true (pureRun Try.prog (Instr.fieldAt 40 x1 2))) fun t60 =>
  wpB (gd t58 true (ldv Try.prog 3 t60 w)) fun t61 =>
  gE t58 true (CallR Try.prog 66 [t61, (Go.Value.int Go.IntKind.i64 0), (Go.Value.int Go.IntKind.i64 999)] w) (fun t62 w =>
  wpB (pickv t58 (some t62) (some (Go.Value.bool false))) fun t63 =>
  Q t63 w) w))) w) w
theorem F53_ok {a0 : Value} {w : World} {Q : Value → World → Prop} (h : F53 a0 w Q) : CallR Try.prog 53 [a0] w Q :=
  have e : evC Try.prog (entR 3 143) 53 64 H53 Q C53 [] (entryE 0 [a0]) w (contT Try.prog (entR 3 143) 53 64 H53 Try.f53.results.toList Q []) = F53 a0 w Q := by kernel_rfl
  bt (fn := Try.f53) mixed bn Try.func53 (c := C53) rfl H53 (Nat.le_of_ble_eq_true rfl) (e.mpr h)
theorem L53_0_ok {x1 x3 : Value} {w : World} {Q : Value → World → Prop} (h : L53_0 x1 x3 w Q) : P53_0 x1 x3 w Q :=
  have e : evC Try.prog (entR 3 143) 53 64 H53 Q (nav [1, 1, 1] C53) [] (unpack [1, 3] [x1, x3]) w (contT Try.prog (entR 3 143) 53 64 H53 Try.f53.results.toList Q []) = L53_0 x1 x3 w Q := by kernel_rfl
  bx (fn := Try.f53) mixed bn Try.func53 H53 (c := (nav [1, 1, 1] C53)) (t := []) (e.mpr h)

noncomputable def C60 : Code := (Try.f60.body).getD .skip
noncomputable def H60 : Hints := ⟨[], [(5, [1, 3, 4, 5, 6]), (9, [1, 3, 4, 5, 6])], []⟩
noncomputable def T60_0 : List It := [.jn (nav [1, 1, 1, 1] C60)]
noncomputable def T60_1 : List It := [.jn (nav [1, 1, 1, 1, 1] C60)]
def P60_0 (x1 x3 x4 x5 x6 : Value) (w : World) (Q : Value → World → Prop) : Prop := Part Try.prog 60 T60_0 [1, 3, 4, 5, 6] [x1, x3, x4, x5, x6] w Q
def P60_1 (x1 x3 x4 x5 x6 : Value) (w : World) (Q : Value → World → Prop) : Prop := Part Try.prog 60 T60_1 [1, 3, 4, 5, 6] [x1, x3, x4, x5, x6] w Q
def F60 (a0 : Value) (w : World) (Q : Value → World → Prop) : Prop :=
  effv Try.prog (Instr.box 40 a0) w fun t1 w =>
  wpB (pureRun Try.prog (Instr.fieldAt 40 t1 0)) fun t7 =>
  wpB (ldv Try.prog 3 t7 w) fun t8 =>
  CallR Try.prog 108 [t8] w fun t9 w =>
  effv Try.prog (Instr.alloc 170 true (.tuple #[])) w fun t3 w =>
  effu Try.prog (Instr.storeAt 170 t3 t9) w fun w =>
  wpB (pureRun Try.prog (Instr.fieldAt 170 t3 1)) fun t10 =>
  wpB (ldv Try.prog 3 t10 w) fun t11 =>
  wpB (be Try.prog .neq 3 (.tmp 11) (.const (Go.Value.int Go.IntKind.i64 0)) t11 (Go.Value.int Go.IntKind.i64 0)) fun t12 =>
  cnd t12
  (P60_0 t1 t3 (Go.Value.int Go.IntKind.i64 63) (Go.Value.int Go.IntKind.i64 999) (Go.Value.int Go.IntKind.i64 0) w Q)
  (P60_0 t1 t3 (Go.Value.int Go.IntKind.i64 0) (Go.Value.int Go.IntKind.i64 0) (Go.Value.int Go.IntKind.i64 0) w Q)
def L60_0 (x1 x3 x4 x5 x6 : Value) (w : World) (Q : Value → World → Prop) : Prop :=
  wpB (pureRun Try.prog (Instr.fieldAt 40 x1 0)) fun t14 =>
  wpB (ldv Try.prog 3 t14 w) fun t15 =>
  wpB (be Try.prog .eql 3 (.tmp 15) (.const (Go.Value.int Go.IntKind.i64 1)) t15 (Go.Value.int Go.IntKind.i64 1)) fun t16 =>
  cnd t16
  (P60_1 x1 x3 x4 x5 (Go.Value.int Go.IntKind.i64 3) w Q)
  (wpB (pureRun Try.prog (Instr.fieldAt 170 x3 2)) fun t18 =>
  wpB (ldv Try.prog 4 t18 w) fun t19 =>
  cnd t19
  (P60_1 x1 x3 x4 x5 (Go.Value.int Go.IntKind.i64 65535) w Q)
  (P60_1 x1 x3 x4 x5 x6 w Q))
def L60_1 (x1 x3 x4 x5 x6 : Value) (w : World) (Q : Value → World → Prop) : Prop :=
  wpB (pureRun Try.prog (Instr.fieldAt 170 x3 0)) fun t20 =>
  wpB (ldv Try.prog 9 t20 w) fun t21 =>
  wpB (be Try.prog .neq 9 (.tmp 21) (.const (Go.Value.string { data := #[] })) t21 (Go.Value.string { data := #[] })) fun t22 =>
  wpB (gd t22 true (pureRun Try.prog (Instr.fieldAt 40 x1 1))) fun t24 =>
  wpB (gd t22 true (ldv Try.prog 3 t24 w)) fun t25 =>
  gE t22 true (CallR Try.prog 109 [t25, (gv t22 true x4)] w) (fun t27 w =>
  wpB (pickv t22 (some t27) (some (Go.Value.bool false))) fun t28 =>
  wpB (gd t28 true (pureRun Try.prog (Instr.fieldAt 40 x1 2))) fun t30 =>
  wpB (gd t28 true (ldv Try.prog 3 t30 w)) fun t31 =>
  gE t28 true (CallR Try.prog 109 [t31, (gv t28 true x5)] w) (fun t33 w =>
  wpB (pickv t28 (some t33) (some (Go.Value.bool false))) fun t34 =>
  wpB (gd t34 true (pureRun Try.prog (Instr.fieldAt 40 x1 3))) fun t36 =>
  wpB (gd t34 true (ldv Try.prog 3 t36 w)) fun t37 =>
  gE t34 true (CallR Try.prog 109 [t37, (gv t34 true x6)] w) (fun t39 w =>
  wpB (pickv t34 (some t39) (some (Go.Value.bool false))) fun t40 =>
  wpB (gd t40 true (pureRun Try.prog (Instr.fieldAt 170 x3 3))) fun t42 =>
  wpB (gd t40 true (ldv Try.prog 4 t42 w)) fun t43 =>
  wpB (gd (gv t40 true t43) false (pureRun Try.prog (Instr.fieldAt 40 x1 4))) fun t45 =>
  wpB (gd (gv t40 true t43) false (ldv Try.prog 38 t45 w)) fun t46 =>
  wpB (gd (gv t40 true t43) false (be Try.prog .eql 38 (.tmp 46) (.const (Go.Value.int Go.IntKind.u64 0)) t46 (Go.Value.int Go.IntKind.u64 0))) fun t47 =>
  wpB (gd t40 true (pickv (gv t40 true t43) (some (Go.Value.bool true)) (some t47))) fun t48 =>
  wpB (pickv t40 (some t48) (some (Go.Value.bool false))) fun t49 =>
  wpB (gd t49 true (pureRun Try.prog (Instr.fieldAt 170 x3 4))) fun t51 =>
  wpB (gd t49 true (ldv Try.prog 4 t51 w)) fun t52 =>
  wpB (gd (gv t49 true t52) false (pureRun Try.prog (Instr.fieldAt 40 x1 5))) fun t54 =>
  wpB (gd (gv t49 true t52) false (ldv Try.prog 38 t54 w)) fun t55 =>
  wpB (gd (gv t49 true t52) false (be Try.prog .eql 38 (.tmp 55) (.const (Go.Value.int Go.IntKind.u64 0)) t55 (Go.Value.int Go.IntKind.u64 0))) fun t56 =>
  wpB (gd t49 true (pickv (gv t49 true t52) (some (Go.Value.bool true)) (some t56))) fun t57 =>
  wpB (pickv t49 (some t57) (some (Go.Value.bool false))) fun t58 =>
  Q t58 w) w) w) w
theorem F60_ok {a0 : Value} {w : World} {Q : Value → World → Prop} (h : F60 a0 w Q) : CallR Try.prog 60 [a0] w Q :=
  have e : evC Try.prog (entR 3 143) 60 59 H60 Q C60 [] (entryE 0 [a0]) w (contT Try.prog (entR 3 143) 60 59 H60 Try.f60.results.toList Q []) = F60 a0 w Q := by kernel_rfl
  bt (fn := Try.f60) mixed bn Try.func60 (c := C60) rfl H60 (Nat.le_of_ble_eq_true rfl) (e.mpr h)
theorem L60_0_ok {x1 x3 x4 x5 x6 : Value} {w : World} {Q : Value → World → Prop} (h : L60_0 x1 x3 x4 x5 x6 w Q) : P60_0 x1 x3 x4 x5 x6 w Q :=
  have e : evC Try.prog (entR 3 143) 60 59 H60 Q (nav [1, 1, 1, 1] C60) [] (unpack [1, 3, 4, 5, 6] [x1, x3, x4, x5, x6]) w (contT Try.prog (entR 3 143) 60 59 H60 Try.f60.results.toList Q []) = L60_0 x1 x3 x4 x5 x6 w Q := by kernel_rfl
  bx (fn := Try.f60) mixed bn Try.func60 H60 (c := (nav [1, 1, 1, 1] C60)) (t := []) (e.mpr h)
theorem L60_1_ok {x1 x3 x4 x5 x6 : Value} {w : World} {Q : Value → World → Prop} (h : L60_1 x1 x3 x4 x5 x6 w Q) : P60_1 x1 x3 x4 x5 x6 w Q :=
  have e : evC Try.prog (entR 3 143) 60 59 H60 Q (nav [1, 1, 1, 1, 1] C60) [] (unpack [1, 3, 4, 5, 6] [x1, x3, x4, x5, x6]) w (contT Try.prog (entR 3 143) 60 59 H60 Try.f60.results.toList Q []) = L60_1 x1 x3 x4 x5 x6 w Q := by kernel_rfl
  bx (fn := Try.f60) mixed bn Try.func60 H60 (c := (nav [1, 1, 1, 1, 1] C60)) (t := []) (e.mpr h)

noncomputable def C63 : Code := (Try.f63.body).getD .skip
noncomputable def H63 : Hints := ⟨[], [(5, [3, 4]), (10, [3, 8])], []⟩
noncomputable def T63_0 : List It := [.jn (nav [1, 0, 1, 4, 1] C63), .blk 0, .jn (nav [1, 1] C63)]
noncomputable def T63_1 : List It := [.jn (nav [1, 0, 1, 4, 1, 3, 1] C63), .blk 0, .jn (nav [1, 1] C63)]
def P63_0 (x3 x4 : Value) (w : World) (Q : Value → World → Prop) : Prop := Part Try.prog 63 T63_0 [3, 4] [x3, x4] w Q
def P63_1 (x3 x8 : Value) (w : World) (Q : Value → World → Prop) : Prop := Part Try.prog 63 T63_1 [3, 8] [x3, x8] w Q
def F63 (a0 : Value) (w : World) (Q : Value → World → Prop) : Prop :=
  wpB (be Try.prog .eql 3 (.tmp 3) (.const (Go.Value.int Go.IntKind.i64 2)) a0 (Go.Value.int Go.IntKind.i64 2)) fun t5 =>
  cnd t5
  (P63_0 a0 t5 w Q)
  (wpB (be Try.prog .eql 3 (.tmp 3) (.const (Go.Value.int Go.IntKind.i64 10)) a0 (Go.Value.int Go.IntKind.i64 10)) fun t6 =>
  cnd t6
  (P63_0 a0 t6 w Q)
  (wpB (be Try.prog .eql 3 (.tmp 3) (.const (Go.Value.int Go.IntKind.i64 12)) a0 (Go.Value.int Go.IntKind.i64 12)) fun t7 =>
  P63_0 a0 t7 w Q))
def L63_0 (x3 x4 : Value) (w : World) (Q : Value → World → Prop) : Prop :=
  cnd x4
  (Q (Go.Value.int Go.IntKind.i64 1) w)
  (wpB (be Try.prog .eql 3 (.tmp 3) (.const (Go.Value.int Go.IntKind.i64 6)) x3 (Go.Value.int Go.IntKind.i64 6)) fun t9 =>
  cnd t9
  (P63_1 x3 t9 w Q)
  (wpB (be Try.prog .eql 3 (.tmp 3) (.const (Go.Value.int Go.IntKind.i64 7)) x3 (Go.Value.int Go.IntKind.i64 7)) fun t10 =>
  cnd t10
  (P63_1 x3 t10 w Q)
  (wpB (be Try.prog .eql 3 (.tmp 3) (.const (Go.Value.int Go.IntKind.i64 8)) x3 (Go.Value.int Go.IntKind.i64 8)) fun t11 =>
  cnd t11
  (P63_1 x3 t11 w Q)
  (wpB (be Try.prog .eql 3 (.tmp 3) (.const (Go.Value.int Go.IntKind.i64 9)) x3 (Go.Value.int Go.IntKind.i64 9)) fun t12 =>
  P63_1 x3 t12 w Q))))
def L63_1 (x3 x8 : Value) (w : World) (Q : Value → World → Prop) : Prop :=
  cnd x8
  (Q (Go.Value.int Go.IntKind.i64 2) w)
  (wpB (be Try.prog .eql 3 (.tmp 3) (.const (Go.Value.int Go.IntKind.i64 5)) x3 (Go.Value.int Go.IntKind.i64 5)) fun t14 =>
  cnd t14
  (Q (Go.Value.int Go.IntKind.i64 3) w)
  (Q (Go.Value.int Go.IntKind.i64 0) w))
theorem F63_ok {a0 : Value} {w : World} {Q : Value → World → Prop} (h : F63 a0 w Q) : CallR Try.prog 63 [a0] w Q :=
  have e : evC Try.prog (entR 3 143) 63 15 H63 Q C63 [] (entryE 0 [a0]) w (contT Try.prog (entR 3 143) 63 15 H63 Try.f63.results.toList Q []) = F63 a0 w Q := by kernel_rfl
  bt (fn := Try.f63) mixed bn Try.func63 (c := C63) rfl H63 (Nat.le_of_ble_eq_true rfl) (e.mpr h)
theorem L63_0_ok {x3 x4 : Value} {w : World} {Q : Value → World → Prop} (h : L63_0 x3 x4 w Q) : P63_0 x3 x4 w Q :=
  have e : evC Try.prog (entR 3 143) 63 15 H63 Q (nav [1, 0, 1, 4, 1] C63) [.blk 0, .jn (nav [1, 1] C63)] (unpack [3, 4] [x3, x4]) w (contT Try.prog (entR 3 143) 63 15 H63 Try.f63.results.toList Q [.blk 0, .jn (nav [1, 1] C63)]) = L63_0 x3 x4 w Q := by kernel_rfl
  bx (fn := Try.f63) mixed bn Try.func63 H63 (c := (nav [1, 0, 1, 4, 1] C63)) (t := [.blk 0, .jn (nav [1, 1] C63)]) (e.mpr h)
theorem L63_1_ok {x3 x8 : Value} {w : World} {Q : Value → World → Prop} (h : L63_1 x3 x8 w Q) : P63_1 x3 x8 w Q :=
  have e : evC Try.prog (entR 3 143) 63 15 H63 Q (nav [1, 0, 1, 4, 1, 3, 1] C63) [.blk 0, .jn (nav [1, 1] C63)] (unpack [3, 8] [x3, x8]) w (contT Try.prog (entR 3 143) 63 15 H63 Try.f63.results.toList Q [.blk 0, .jn (nav [1, 1] C63)]) = L63_1 x3 x8 w Q := by kernel_rfl
  bx (fn := Try.f63) mixed bn Try.func63 H63 (c := (nav [1, 0, 1, 4, 1, 3, 1] C63)) (t := [.blk 0, .jn (nav [1, 1] C63)]) (e.mpr h)

noncomputable def C64 : Code := (Try.f64.body).getD .skip
noncomputable def H64 : Hints := ⟨[], [], []⟩
def F64 (a0 : Value) (w : World) (Q : Value → World → Prop) : Prop :=
  wpB (be Try.prog .eql 3 (.tmp 3) (.const (Go.Value.int Go.IntKind.i64 1)) a0 (Go.Value.int Go.IntKind.i64 1)) fun t4 =>
  wpB (gd t4 false (be Try.prog .eql 3 (.tmp 6) (.const (Go.Value.int Go.IntKind.i64 2)) (gv t4 false a0) (Go.Value.int Go.IntKind.i64 2))) fun t7 =>
  wpB (pickv t4 (some (Go.Value.bool true)) (some t7)) fun t8 =>
  wpB (gd t8 false (bp Try.prog .geq 3 (gv t8 false a0) (Go.Value.int Go.IntKind.i64 6))) fun t11 =>
  wpB (gd (gv t8 false t11) true (bp Try.prog .leq 3 (gv (gv t8 false t11) true a0) (Go.Value.int Go.IntKind.i64 9))) fun t14 =>
  wpB (gd t8 false (pickv (gv t8 false t11) (some t14) (some (Go.Value.bool false)))) fun t15 =>
  wpB (pickv t8 (some (Go.Value.bool true)) (some t15)) fun t16 =>
  Q t16 w
theorem F64_ok {a0 : Value} {w : World} {Q : Value → World → Prop} (h : F64 a0 w Q) : CallR Try.prog 64 [a0] w Q :=
  have e : evC Try.prog (entR 3 143) 64 17 H64 Q C64 [] (entryE 0 [a0]) w (contT Try.prog (entR 3 143) 64 17 H64 Try.f64.results.toList Q []) = F64 a0 w Q := by kernel_rfl
  bt (fn := Try.f64) mixed bn Try.func64 (c := C64) rfl H64 (Nat.le_of_ble_eq_true rfl) (e.mpr h)

noncomputable def C65 : Code := (Try.f65.body).getD .skip
noncomputable def H65 : Hints := ⟨[], [], []⟩
def F65 (a0 : Value) (w : World) (Q : Value → World → Prop) : Prop :=
  wpB (bp Try.prog .geq 3 a0 (Go.Value.int Go.IntKind.i64 7)) fun t4 =>
  wpB (gd t4 true (bp Try.prog .leq 3 (gv t4 true a0) (Go.Value.int Go.IntKind.i64 9))) fun t7 =>
  wpB (pickv t4 (some t7) (some (Go.Value.bool false))) fun t8 =>
  Q t8 w
theorem F65_ok {a0 : Value} {w : World} {Q : Value → World → Prop} (h : F65 a0 w Q) : CallR Try.prog 65 [a0] w Q :=
  have e : evC Try.prog (entR 3 143) 65 9 H65 Q C65 [] (entryE 0 [a0]) w (contT Try.prog (entR 3 143) 65 9 H65 Try.f65.results.toList Q []) = F65 a0 w Q := by kernel_rfl
  bt (fn := Try.f65) mixed bn Try.func65 (c := C65) rfl H65 (Nat.le_of_ble_eq_true rfl) (e.mpr h)

noncomputable def C66 : Code := (Try.f66.body).getD .skip
noncomputable def H66 : Hints := ⟨[], [], []⟩
def F66 (a0 a1 a2 : Value) (w : World) (Q : Value → World → Prop) : Prop :=
  wpB (bp Try.prog .geq 3 a0 a1) fun t9 =>
  wpB (gd t9 true (bp Try.prog .leq 3 (gv t9 true a0) (gv t9 true a2))) fun t13 =>
  wpB (pickv t9 (some t13) (some (Go.Value.bool false))) fun t14 =>
  Q t14 w
theorem F66_ok {a0 a1 a2 : Value} {w : World} {Q : Value → World → Prop} (h : F66 a0 a1 a2 w Q) : CallR Try.prog 66 [a0, a1, a2] w Q :=
  have e : evC Try.prog (entR 3 143) 66 15 H66 Q C66 [] (entryE 0 [a0, a1, a2]) w (contT Try.prog (entR 3 143) 66 15 H66 Try.f66.results.toList Q []) = F66 a0 a1 a2 w Q := by kernel_rfl
  bt (fn := Try.f66) mixed bn Try.func66 (c := C66) rfl H66 (Nat.le_of_ble_eq_true rfl) (e.mpr h)

noncomputable def C69 : Code := (Try.f69.body).getD .skip
noncomputable def H69 : Hints := ⟨[(6, [0, 1, 5, 23, 24])], [], []⟩
noncomputable def T69_0 : List It := [.lp (nav [1, 1, 1, 0, 1, 4, 5] C69), .blk 0, .jn (nav [1, 1, 1, 1] C69)]
def P69_0 (x0 x1 x5 x23 x24 : Value) (w : World) (Q : Value → World → Prop) : Prop := Part Try.prog 69 T69_0 [0, 1, 5, 23, 24] [x0, x1, x5, x23, x24] w Q
def F69 (a0 a1 : Value) (w : World) (Q : Value → World → Prop) : Prop :=
  wpB (nilv a0) fun t8 =>
  wpB (pureRun Try.prog (Instr.fieldAt 115 t8 1)) fun t9 =>
  wpB (ldv Try.prog 4 t9 w) fun t10 =>
  wpB (gd t10 false (nilv (gv t10 false a0))) fun t13 =>
  wpB (gd t10 false (pureRun Try.prog (Instr.fieldAt 115 t13 0))) fun t14 =>
  wpB (gd t10 false (ldv Try.prog 28 t14 w)) fun t15 =>
  wpB (gd t10 false (pureRun Try.prog (Builtin.len_ #[28] 3 #[t15]))) fun t16 =>
  wpB (gd t10 false (bp Try.prog .lss 3 t16 (gv t10 false a1))) fun t18 =>
  wpB (pickv t10 (some (Go.Value.bool true)) (some t18)) fun t19 =>
  cnd t19
  (wpB (nilv a0) fun t21 =>
  wpB (pureRun Try.prog (Instr.fieldAt 115 t21 1)) fun t22 =>
  effu Try.prog (Instr.storeAt 4 t22 (Go.Value.bool true)) w fun w =>
  Q (Go.Value.int Go.IntKind.u64 0) w)
  (P69_0 a0 a1 (Go.Value.int Go.IntKind.u64 0) a1 (Go.Value.int Go.IntKind.i64 0) w Q)
def L69_0 (x0 x1 x5 x23 x24 : Value) (w : World) (Q : Value → World → Prop) : Prop :=
  wpB (bp Try.prog .lss 3 x24 x23) fun t25 =>
  cnd t25
  (wpB (nilv x0) fun t29 =>
  wpB (pureRun Try.prog (Instr.fieldAt 115 t29 0)) fun t30 =>
  wpB (ldv Try.prog 28 t30 w) fun t31 =>
  wpB (pureRun Try.prog (Instr.indexAt 28 t31 x24)) fun t33 =>
  wpB (ldv Try.prog 5 t33 w) fun t34 =>
  wpB (pureRun Try.prog (convert 5 38 t34)) fun t35 =>
  wpB (bp Try.prog .mul 3 (Go.Value.int Go.IntKind.i64 8) x24) fun t37 =>
  wpB (bp Try.prog .shl 38 t35 t37) fun t38 =>
  wpB (bp Try.prog .or 38 x5 t38) fun t39 =>
  wpB (bp Try.prog .add 3 x24 (Go.Value.int Go.IntKind.i64 1)) fun t40 =>
  P69_0 x0 x1 t39 x23 t40 w Q)
  (wpB (nilv x0) fun t43 =>
  wpB (pureRun Try.prog (Instr.fieldAt 115 t43 0)) fun t44 =>
  wpB (ldv Try.prog 28 t44 w) fun t45 =>
  wpB (pureRun Try.prog (Instr.sliceAt 28 t45 (some x1) none none)) fun t47 =>
  wpB (nilv x0) fun t48 =>
  wpB (pureRun Try.prog (Instr.fieldAt 115 t48 0)) fun t49 =>
  effu Try.prog (Instr.storeAt 28 t49 t47) w fun w =>
  Q x5 w)
theorem F69_ok {a0 a1 : Value} {w : World} {Q : Value → World → Prop} (h : F69 a0 a1 w Q) : CallR Try.prog 69 [a0, a1] w Q :=
  have e : evC Try.prog (entR 3 143) 69 51 H69 Q C69 [] (entryE 0 [a0, a1]) w (contT Try.prog (entR 3 143) 69 51 H69 Try.f69.results.toList Q []) = F69 a0 a1 w Q := by kernel_rfl
  bt (fn := Try.f69) mixed bn Try.func69 (c := C69) rfl H69 (Nat.le_of_ble_eq_true rfl) (e.mpr h)
theorem L69_0_ok {x0 x1 x5 x23 x24 : Value} {w : World} {Q : Value → World → Prop} (h : L69_0 x0 x1 x5 x23 x24 w Q) : P69_0 x0 x1 x5 x23 x24 w Q :=
  have e : evC Try.prog (entR 3 143) 69 51 H69 Q (nav [1, 1, 1, 0, 1, 4, 5] C69) T69_0 (unpack [0, 1, 5, 23, 24] [x0, x1, x5, x23, x24]) w (contT Try.prog (entR 3 143) 69 51 H69 Try.f69.results.toList Q T69_0) = L69_0 x0 x1 x5 x23 x24 w Q := by kernel_rfl
  part_lp (fn := Try.f69) mixed bn Try.func69 H69 (c := (nav [1, 1, 1, 0, 1, 4, 5] C69)) (t := [.blk 0, .jn (nav [1, 1, 1, 1] C69)]) (e.mpr h)

noncomputable def C70 : Code := (Try.f70.body).getD .skip
noncomputable def H70 : Hints := ⟨[], [(5, [0, 2, 3, 5, 6, 7]), (7, [0, 2, 3, 6, 7]), (9, [0, 2, 3, 7]), (11, [2, 3])], []⟩
noncomputable def T70_1 : List It := [.jn (nav [1, 1, 1, 1, 1] C70)]
noncomputable def T70_2 : List It := [.jn (nav [1, 1, 1, 1, 1, 1] C70)]
noncomputable def T70_3 : List It := [.jn (nav [1, 1, 1, 1, 1, 1, 1] C70)]
def P70_1 (x0 x2 x3 x6 x7 : Value) (w : World) (Q : Value → World → Prop) : Prop := Part Try.prog 70 T70_1 [0, 2, 3, 6, 7] [x0, x2, x3, x6, x7] w Q
def P70_2 (x0 x2 x3 x7 : Value) (w : World) (Q : Value → World → Prop) : Prop := Part Try.prog 70 T70_2 [0, 2, 3, 7] [x0, x2, x3, x7] w Q
def P70_3 (x2 x3 : Value) (w : World) (Q : Value → World → Prop) : Prop := Part Try.prog 70 T70_3 [2, 3] [x2, x3] w Q
def L70_1 (x0 x2 x3 x6 x7 : Value) (w : World) (Q : Value → World → Prop) : Prop :=
  cnd x6
  (CallR Try.prog 69 [x0, (Go.Value.int Go.IntKind.i64 8)] w fun t36 w =>
  wpB (pureRun Try.prog (Instr.fieldAt 40 x3 4)) fun t37 =>
  effu Try.prog (Instr.storeAt 38 t37 t36) w fun w =>
  P70_2 x0 x2 x3 x7 w Q)
  (P70_2 x0 x2 x3 x7 w Q)
def L70_2 (x0 x2 x3 x7 : Value) (w : World) (Q : Value → World → Prop) : Prop :=
  cnd x7
  (CallR Try.prog 69 [x0, (Go.Value.int Go.IntKind.i64 8)] w fun t40 w =>
  wpB (pureRun Try.prog (Instr.fieldAt 40 x3 5)) fun t41 =>
  effu Try.prog (Instr.storeAt 38 t41 t40) w fun w =>
  P70_3 x2 x3 w Q)
  (P70_3 x2 x3 w Q)
def L70_3 (x2 x3 : Value) (w : World) (Q : Value → World → Prop) : Prop :=
  wpB (ldv Try.prog 40 x3 w) fun t42 =>
  effu Try.prog (Instr.storeAt 40 x2 t42) w fun w =>
  wpB (ldv Try.prog 40 x2 w) fun r2 => Q r2 w
theorem L70_1_ok {x0 x2 x3 x6 x7 : Value} {w : World} {Q : Value → World → Prop} (h : L70_1 x0 x2 x3 x6 x7 w Q) : P70_1 x0 x2 x3 x6 x7 w Q :=
  have e : evC Try.prog (entR 3 143) 70 43 H70 Q (nav [1, 1, 1, 1, 1] C70) [] (unpack [0, 2, 3, 6, 7] [x0, x2, x3, x6, x7]) w (contT Try.prog (entR 3 143) 70 43 H70 Try.f70.results.toList Q []) = L70_1 x0 x2 x3 x6 x7 w Q := by kernel_rfl
  bx (fn := Try.f70) mixed bn Try.func70 H70 (c := (nav [1, 1, 1, 1, 1] C70)) (t := []) (e.mpr h)
theorem L70_2_ok {x0 x2 x3 x7 : Value} {w : World} {Q : Value → World → Prop} (h : L70_2 x0 x2 x3 x7 w Q) : P70_2 x0 x2 x3 x7 w Q :=
  have e : evC Try.prog (entR 3 143) 70 43 H70 Q (nav [1, 1, 1, 1, 1, 1] C70) [] (unpack [0, 2, 3, 7] [x0, x2, x3, x7]) w (contT Try.prog (entR 3 143) 70 43 H70 Try.f70.results.toList Q []) = L70_2 x0 x2 x3 x7 w Q := by kernel_rfl
  bx (fn := Try.f70) mixed bn Try.func70 H70 (c := (nav [1, 1, 1, 1, 1, 1] C70)) (t := []) (e.mpr h)
theorem L70_3_ok {x2 x3 : Value} {w : World} {Q : Value → World → Prop} (h : L70_3 x2 x3 w Q) : P70_3 x2 x3 w Q :=
  have e : evC Try.prog (entR 3 143) 70 43 H70 Q (nav [1, 1, 1, 1, 1, 1, 1] C70) [] (unpack [2, 3] [x2, x3]) w (contT Try.prog (entR 3 143) 70 43 H70 Try.f70.results.toList Q []) = L70_3 x2 x3 w Q := by kernel_rfl
  bx (fn := Try.f70) mixed bn Try.func70 H70 (c := (nav [1, 1, 1, 1, 1, 1, 1] C70)) (t := []) (e.mpr h)

noncomputable def C90 : Code := (Try.f90.body).getD .skip
noncomputable def H90 : Hints := ⟨[], [(13, [0, 1, 4, 6, 7, 20, 28]), (21, [0, 1, 4, 6, 51]), (22, [0, 1, 4, 6, 7]), (24, [0, 1, 4, 6, 7]), (26, [0, 1, 4, 6, 7]), (32, [4, 6])], [(31, (.ask 3 5 (.leaf [0, 1, 2, 3, 4, 5, 6, 7]) (.leaf [0, 2, 1, 4, 5, 3, 6, 7])))]⟩
noncomputable def T90_0 : List It := [.jn (nav [1, 1, 1, 1, 0, 1, 4, 1, 3, 1] C90), .blk 0, .jn (nav [1, 1, 1, 1, 1] C90)]
noncomputable def T90_1 : List It := [.jn (nav [1, 1, 1, 1, 1] C90)]
noncomputable def T90_2 : List It := [.jn (nav [1, 1, 1, 1, 0, 1, 4, 1, 3, 1, 3, 1, 3, 1, 3, 1] C90), .blk 0, .jn (nav [1, 1, 1, 1, 1] C90)]
noncomputable def T90_3 : List It := [.jn (nav [1, 1, 1, 1, 1, 1] C90)]
noncomputable def T90_4 : List It := [.jn (nav [1, 1, 1, 1, 1, 1, 1] C90)]
noncomputable def T90_5 : List It := [.jn (nav [1, 1, 1, 1, 1, 1, 1, 1, 1, 1, 1] C90)]
def P90_0 (x0 x1 x4 x6 x7 x20 x28 : Value) (w : World) (Q : Value → World → Prop) : Prop := Part Try.prog 90 T90_0 [0, 1, 4, 6, 7, 20, 28] [x0, x1, x4, x6, x7, x20, x28] w Q
def P90_1 (x0 x1 x4 x6 x7 : Value) (w : World) (Q : Value → World → Prop) : Prop := Part Try.prog 90 T90_1 [0, 1, 4, 6, 7] [x0, x1, x4, x6, x7] w Q
def P90_2 (x0 x1 x4 x6 x51 : Value) (w : World) (Q : Value → World → Prop) : Prop := Part Try.prog 90 T90_2 [0, 1, 4, 6, 51] [x0, x1, x4, x6, x51] w Q
def P90_3 (x0 x1 x4 x6 x7 : Value) (w : World) (Q : Value → World → Prop) : Prop := Part Try.prog 90 T90_3 [0, 1, 4, 6, 7] [x0, x1, x4, x6, x7] w Q
def P90_4 (x0 x1 x4 x6 x7 : Value) (w : World) (Q : Value → World → Prop) : Prop := Part Try.prog 90 T90_4 [0, 1, 4, 6, 7] [x0, x1, x4, x6, x7] w Q
def P90_5 (x4 x6 : Value) (w : World) (Q : Value → World → Prop) : Prop := Part Try.prog 90 T90_5 [4, 6] [x4, x6] w Q
def F90 (a0 a1 : Value) (w : World) (Q : Value → World → Prop) : Prop :=
  effv Try.prog (Instr.alloc 40 true (.tuple #[])) w fun t4 w =>
  CallR Try.prog 118 [] w fun t10 w =>
  wpB (pureRun Try.prog (Builtin.len_ #[23] 3 #[t10])) fun t14 =>
  CallR Try.prog 50 [a0, t14] w fun t15 w =>
  wpB (pureRun Try.prog (Instr.indexAt 23 t10 t15)) fun t16 =>
  wpB (ldv Try.prog 3 t16 w) fun t17 =>
  wpB (pureRun Try.prog (Instr.build 40 #[(0, t17)])) fun t18 =>
  effv Try.prog (Instr.alloc 40 true (.tuple #[])) w fun t6 w =>
  effu Try.prog (Instr.storeAt 40 t6 t18) w fun w =>
  wpB (pureRun Try.prog (Instr.fieldAt 40 t6 0)) fun t19 =>
  wpB (ldv Try.prog 3 t19 w) fun t20 =>
  wpB (be Try.prog .eql 3 (.tmp 20) (.const (Go.Value.int Go.IntKind.i64 1)) t20 (Go.Value.int Go.IntKind.i64 1)) fun t23 =>
  cnd t23
  (CallR Try.prog 50 [a0, (Go.Value.int Go.IntKind.i64 4)] w fun t25 w =>
  wpB (pureRun Try.prog (Instr.fieldAt 40 t6 3)) fun t26 =>
  effu Try.prog (Instr.storeAt 3 t26 t25) w fun w =>
  wpB (ldv Try.prog 40 t6 w) fun t27 =>
  effu Try.prog (Instr.storeAt 40 t4 t27) w fun w =>
  wpB (ldv Try.prog 40 t4 w) fun r4 => Q r4 w)
  (wpB (be Try.prog .eql 3 (.tmp 20) (.const (Go.Value.int Go.IntKind.i64 6)) t20 (Go.Value.int Go.IntKind.i64 6)) fun t29 =>
  cnd t29
  (P90_0 a0 a1 t4 t6 (Go.Value.int Go.IntKind.i64 1) t20 t29 w Q)
  (wpB (be Try.prog .eql 3 (.tmp 20) (.const (Go.Value.int Go.IntKind.i64 7)) t20 (Go.Value.int Go.IntKind.i64 7)) fun t30 =>
  cnd t30
  (P90_0 a0 a1 t4 t6 (Go.Value.int Go.IntKind.i64 1) t20 t30 w Q)
  (wpB (be Try.prog .eql 3 (.tmp 20) (.const (Go.Value.int Go.IntKind.i64 8)) t20 (Go.Value.int Go.IntKind.i64 8)) fun t31 =>
  cnd t31
  (P90_0 a0 a1 t4 t6 (Go.Value.int Go.IntKind.i64 1) t20 t31 w Q)
  (wpB (be Try.prog .eql 3 (.tmp 20) (.const (Go.Value.int Go.IntKind.i64 9)) t20 (Go.Value.int Go.IntKind.i64 9)) fun t32 =>
  P90_0 a0 a1 t4 t6 (Go.Value.int Go.IntKind.i64 1) t20 t32 w Q))))
def L90_0 (x0 x1 x4 x6 x7 x20 x28 : Value) (w : World) (Q : Value → World → Prop) : Prop :=
  cnd x28
  (CallR Try.prog 50 [x0, (Go.Value.int Go.IntKind.i64 5)] w fun t34 w =>
  wpB (pureRun Try.prog (Instr.fieldAt 40 x6 3)) fun t35 =>
  effu Try.prog (Instr.storeAt 3 t35 t34) w fun w =>
  P90_1 x0 x1 x4 x6 (Go.Value.int Go.IntKind.i64 2) w Q)
  (wpB (be Try.prog .eql 3 (.tmp 20) (.const (Go.Value.int Go.IntKind.i64 2)) x20 (Go.Value.int Go.IntKind.i64 2)) fun t37 =>
  cnd t37
  (effv Try.prog (Instr.buildSlice 23 9 #[(0, (Go.Value.int Go.IntKind.i64 1)), (1, (Go.Value.int Go.IntKind.i64 2)), (2, (Go.Value.int Go.IntKind.i64 3)), (3, (Go.Value.int Go.IntKind.i64 5)), (4, (Go.Value.int Go.IntKind.i64 8)), (5, (Go.Value.int Go.IntKind.i64 9)), (6, (Go.Value.int Go.IntKind.i64 16)), (7, (Go.Value.int Go.IntKind.i64 17)), (8, (Go.Value.int Go.IntKind.i64 0))]) w fun t38 w =>
  CallR Try.prog 50 [x0, (Go.Value.int Go.IntKind.i64 9)] w fun t40 w =>
  wpB (pureRun Try.prog (Instr.indexAt 23 t38 t40)) fun t41 =>
  wpB (ldv Try.prog 3 t41 w) fun t42 =>
  wpB (pureRun Try.prog (Instr.fieldAt 40 x6 3)) fun t43 =>
  effu Try.prog (Instr.storeAt 3 t43 t42) w fun w =>
  P90_1 x0 x1 x4 x6 x7 w Q)
  (wpB (be Try.prog .eql 3 (.tmp 20) (.const (Go.Value.int Go.IntKind.i64 5)) x20 (Go.Value.int Go.IntKind.i64 5)) fun t45 =>
  cnd t45
  (effv Try.prog (Instr.buildSlice 23 2 #[(0, (Go.Value.int Go.IntKind.i64 1)), (1, (Go.Value.int Go.IntKind.i64 2))]) w fun t46 w =>
  CallR Try.prog 50 [x0, (Go.Value.int Go.IntKind.i64 2)] w fun t48 w =>
  wpB (pureRun Try.prog (Instr.indexAt 23 t46 t48)) fun t49 =>
  wpB (ldv Try.prog 3 t49 w) fun t50 =>
  P90_1 x0 x1 x4 x6 t50 w Q)
  (wpB (be Try.prog .eql 3 (.tmp 20) (.const (Go.Value.int Go.IntKind.i64 10)) x20 (Go.Value.int Go.IntKind.i64 10)) fun t52 =>
  cnd t52
  (P90_2 x0 x1 x4 x6 t52 w Q)
  (wpB (be Try.prog .eql 3 (.tmp 20) (.const (Go.Value.int Go.IntKind.i64 12)) x20 (Go.Value.int Go.IntKind.i64 12)) fun t53 =>
  P90_2 x0 x1 x4 x6 t53 w Q))))
def L90_1 (x0 x1 x4 x6 x7 : Value) (w : World) (Q : Value → World → Prop) : Prop :=
  wpB (pureRun Try.prog (Instr.fieldAt 40 x6 0)) fun t54 =>
  wpB (ldv Try.prog 3 t54 w) fun t55 =>
  wpB (be Try.prog .eql 3 (.tmp 55) (.const (Go.Value.int Go.IntKind.i64 7)) t55 (Go.Value.int Go.IntKind.i64 7)) fun t56 =>
  wpB (gd t56 false (pureRun Try.prog (Instr.fieldAt 40 x6 0))) fun t58 =>
  wpB (gd t56 false (ldv Try.prog 3 t58 w)) fun t59 =>
  wpB (gd t56 false (be Try.prog .eql 3 (.tmp 59) (.const (Go.Value.int Go.IntKind.i64 8)) t59 (Go.Value.int Go.IntKind.i64 8))) fun t60 =>
  wpB (pickv t56 (some (Go.Value.bool true)) (some t60)) fun t61 =>
  wpB (gd t61 false (pureRun Try.prog (Instr.fieldAt 40 x6 0))) fun t63 =>
  wpB (gd t61 false (ldv Try.prog 3 t63 w)) fun t64 =>
  wpB (gd t61 false (be Try.prog .eql 3 (.tmp 64) (.const (Go.Value.int Go.IntKind.i64 9)) t64 (Go.Value.int Go.IntKind.i64 9))) fun t65 =>
  wpB (pickv t61 (some (Go.Value.bool true)) (some t65)) fun t66 =>
  cnd t66
  (CallR Try.prog 50 [x0, (Go.Value.int Go.IntKind.i64 3)] w fun t68 w =>
  wpB (pureRun Try.prog (convert 3 38 t68)) fun t69 =>
  wpB (pureRun Try.prog (Instr.fieldAt 40 x6 4)) fun t70 =>
  effu Try.prog (Instr.storeAt 38 t70 t69) w fun w =>
  P90_3 x0 x1 x4 x6 x7 w Q)
  (P90_3 x0 x1 x4 x6 x7 w Q)
def L90_2 (x0 x1 x4 x6 x51 : Value) (w : World) (Q : Value → World → Prop) : Prop :=
  cnd x51
  (P90_1 x0 x1 x4 x6 (Go.Value.int Go.IntKind.i64 1) w Q)
  (wpB (ldv Try.prog 40 x6 w) fun t21 =>
  effu Try.prog (Instr.storeAt 40 x4 t21) w fun w =>
  wpB (ldv Try.prog 40 x4 w) fun r4 => Q r4 w)
def L90_3 (x0 x1 x4 x6 x7 : Value) (w : World) (Q : Value → World → Prop) : Prop :=
  wpB (pureRun Try.prog (Instr.fieldAt 40 x6 0)) fun t71 =>
  wpB (ldv Try.prog 3 t71 w) fun t72 =>
  wpB (be Try.prog .eql 3 (.tmp 72) (.const (Go.Value.int Go.IntKind.i64 9)) t72 (Go.Value.int Go.IntKind.i64 9)) fun t73 =>
  cnd t73
  (CallR Try.prog 50 [x0, (Go.Value.int Go.IntKind.i64 4)] w fun t75 w =>
  wpB (pureRun Try.prog (convert 3 38 t75)) fun t76 =>
  wpB (pureRun Try.prog (Instr.fieldAt 40 x6 5)) fun t77 =>
  effu Try.prog (Instr.storeAt 38 t77 t76) w fun w =>
  P90_4 x0 x1 x4 x6 x7 w Q)
  (P90_4 x0 x1 x4 x6 x7 w Q)
def L90_4 (x0 x1 x4 x6 x7 : Value) (w : World) (Q : Value → World → Prop) : Prop :=
  CallR Try.prog 119 [x1, x7] w fun t80 w =>
  wpB (pureRun Try.prog (Builtin.len_ #[27] 3 #[t80])) fun t82 =>
  wpB (be Try.prog .eql 3 (.tmp 82) (.const (Go.Value.int Go.IntKind.i64 0)) t82 (Go.Value.int Go.IntKind.i64 0)) fun t83 =>
  gE t83 false (CallR Try.prog 50 [(gv t83 false x0), (Go.Value.int Go.IntKind.i64 12)] w) (fun t86 w =>
  wpB (gd t83 false (be Try.prog .eql 3 (.tmp 86) (.const (Go.Value.int Go.IntKind.i64 0)) t86 (Go.Value.int Go.IntKind.i64 0))) fun t87 =>
  wpB (pickv t83 (some (Go.Value.bool true)) (some t87)) fun t88 =>
  cnd t88
  (CallR Try.prog 50 [x0, (Go.Value.int Go.IntKind.i64 5)] w fun t90 w =>
  CallR Try.prog 50 [x0, (Go.Value.int Go.IntKind.i64 9)] w fun t92 w =>
  wpB (pureRun Try.prog (Instr.fieldAt 40 x6 1)) fun t93 =>
  effu Try.prog (Instr.storeAt 3 t93 t90) w fun w =>
  wpB (pureRun Try.prog (Instr.fieldAt 40 x6 2)) fun t94 =>
  effu Try.prog (Instr.storeAt 3 t94 t92) w fun w =>
  wpB (ldv Try.prog 40 x6 w) fun t95 =>
  effu Try.prog (Instr.storeAt 40 x4 t95) w fun w =>
  wpB (ldv Try.prog 40 x4 w) fun r4 => Q r4 w)
  (wpB (pureRun Try.prog (Builtin.len_ #[27] 3 #[t80])) fun t99 =>
  CallR Try.prog 50 [x0, t99] w fun t100 w =>
  wpB (pureRun Try.prog (Instr.indexAt 27 t80 t100)) fun t101 =>
  wpB (ldv Try.prog 40 t101 w) fun t102 =>
  effv Try.prog (Instr.alloc 40 true (.tuple #[])) w fun t9 w =>
  effu Try.prog (Instr.storeAt 40 t9 t102) w fun w =>
  (wpB (pureRun Try.prog (Instr.fieldAt 40 t9 1)) fun t103 =>
  wpB (ldv Try.prog 3 t103 w.drew) fun t104 =>
  wpB (pureRun Try.prog (Instr.fieldAt 40 t9 2)) fun t105 =>
  wpB (ldv Try.prog 3 t105 w.drew) fun t106 =>
  wpB (pureRun Try.prog (Instr.fieldAt 40 x6 1)) fun t107 =>
  effu Try.prog (Instr.storeAt 3 t107 t104) w.drew fun w =>
  wpB (pureRun Try.prog (Instr.fieldAt 40 x6 2)) fun t108 =>
  effu Try.prog (Instr.storeAt 3 t108 t106) w fun w =>
  P90_5 x4 x6 w Q) ∧
  (wpB (pureRun Try.prog (Instr.fieldAt 40 t9 1)) fun t103_1 =>
  wpB (pureRun Try.prog (Instr.fieldAt 40 t9 2)) fun t105_1 =>
  wpB (ldv Try.prog 3 t103_1 w.drew) fun t104_1 =>
  wpB (pureRun Try.prog (Instr.fieldAt 40 x6 1)) fun t107_1 =>
  effu Try.prog (Instr.storeAt 3 t107_1 t104_1) w.drew fun w =>
  wpB (ldv Try.prog 3 t105_1 w) fun t106_1 =>
  wpB (pureRun Try.prog (Instr.fieldAt 40 x6 2)) fun t108_1 =>
  effu Try.prog (Instr.storeAt 3 t108_1 t106_1) w fun w =>
  P90_5 x4 x6 w Q))) w
def L90_5 (x4 x6 : Value) (w : World) (Q : Value → World → Prop) : Prop :=
  wpB (ldv Try.prog 40 x6 w) fun t109 =>
  effu Try.prog (Instr.storeAt 40 x4 t109) w fun w =>
  wpB (ldv Try.prog 40 x4 w) fun r4 => Q r4 w
theorem F90_ok {a0 a1 : Value} {w : World} {Q : Value → World → Prop} (h : F90 a0 a1 w Q) : CallR Try.prog 90 [a0, a1] w Q :=
  have e : evC Try.prog (entR 3 143) 90 110 H90 Q C90 [] (entryE 0 [a0, a1]) w (contT Try.prog (entR 3 143) 90 110 H90 Try.f90.results.toList Q []) = F90 a0 a1 w Q := by kernel_rfl
  bt (fn := Try.f90) mixed bn Try.func90 (c := C90) rfl H90 (Nat.le_of_ble_eq_true rfl) (e.mpr h)
theorem L90_0_ok {x0 x1 x4 x6 x7 x20 x28 : Value} {w : World} {Q : Value → World → Prop} (h : L90_0 x0 x1 x4 x6 x7 x20 x28 w Q) : P90_0 x0 x1 x4 x6 x7 x20 x28 w Q :=
  have e : evC Try.prog (entR 3 143) 90 110 H90 Q (nav [1, 1, 1, 1, 0, 1, 4, 1, 3, 1] C90) [.blk 0, .jn (nav [1, 1, 1, 1, 1] C90)] (unpack [0, 1, 4, 6, 7, 20, 28] [x0, x1, x4, x6, x7, x20, x28]) w (contT Try.prog (entR 3 143) 90 110 H90 Try.f90.results.toList Q [.blk 0, .jn (nav [1, 1, 1, 1, 1] C90)]) = L90_0 x0 x1 x4 x6 x7 x20 x28 w Q := by kernel_rfl
  bx (fn := Try.f90) mixed bn Try.func90 H90 (c := (nav [1, 1, 1, 1, 0, 1, 4, 1, 3, 1] C90)) (t := [.blk 0, .jn (nav [1, 1, 1, 1, 1] C90)]) (e.mpr h)
theorem L90_1_ok {x0 x1 x4 x6 x7 : Value} {w : World} {Q : Value → World → Prop} (h : L90_1 x0 x1 x4 x6 x7 w Q) : P90_1 x0 x1 x4 x6 x7 w Q :=
  have e : evC Try.prog (entR 3 143) 90 110 H90 Q (nav [1, 1, 1, 1, 1] C90) [] (unpack [0, 1, 4, 6, 7] [x0, x1, x4, x6, x7]) w (contT Try.prog (entR 3 143) 90 110 H90 Try.f90.results.toList Q []) = L90_1 x0 x1 x4 x6 x7 w Q := by kernel_rfl
  bx (fn := Try.f90) mixed bn Try.func90 H90 (c := (nav [1, 1, 1, 1, 1] C90)) (t := []) (e.mpr h)
theorem L90_2_ok {x0 x1 x4 x6 x51 : Value} {w : World} {Q : Value → World → Prop} (h : L90_2 x0 x1 x4 x6 x51 w Q) : P90_2 x0 x1 x4 x6 x51 w Q :=
  have e : evC Try.prog (entR 3 143) 90 110 H90 Q (nav [1, 1, 1, 1, 0, 1, 4, 1, 3, 1, 3, 1, 3, 1, 3, 1] C90) [.blk 0, .jn (nav [1, 1, 1, 1, 1] C90)] (unpack [0, 1, 4, 6, 51] [x0, x1, x4, x6, x51]) w (contT Try.prog (entR 3 143) 90 110 H90 Try.f90.results.toList Q [.blk 0, .jn (nav [1, 1, 1, 1, 1] C90)]) = L90_2 x0 x1 x4 x6 x51 w Q := by kernel_rfl
  bx (fn := Try.f90) mixed bn Try.func90 H90 (c := (nav [1, 1, 1, 1, 0, 1, 4, 1, 3, 1, 3, 1, 3, 1, 3, 1] C90)) (t := [.blk 0, .jn (nav [1, 1, 1, 1, 1] C90)]) (e.mpr h)
theorem L90_3_ok {x0 x1 x4 x6 x7 : Value} {w : World} {Q : Value → World → Prop} (h : L90_3 x0 x1 x4 x6 x7 w Q) : P90_3 x0 x1 x4 x6 x7 w Q :=
  have e : evC Try.prog (entR 3 143) 90 110 H90 Q (nav [1, 1, 1, 1, 1, 1] C90) [] (unpack [0, 1, 4, 6, 7] [x0, x1, x4, x6, x7]) w (contT Try.prog (entR 3 143) 90 110 H90 Try.f90.results.toList Q []) = L90_3 x0 x1 x4 x6 x7 w Q := by kernel_rfl
  bx (fn := Try.f90) mixed bn Try.func90 H90 (c := (nav [1, 1, 1, 1, 1, 1] C90)) (t := []) (e.mpr h)
theorem L90_4_ok {x0 x1 x4 x6 x7 : Value} {w : World} {Q : Value → World → Prop} (h : L90_4 x0 x1 x4 x6 x7 w Q) : P90_4 x0 x1 x4 x6 x7 w Q :=
  have e : evC Try.prog (entR 3 143) 90 110 H90 Q (nav [1, 1, 1, 1, 1, 1, 1] C90) [] (unpack [0, 1, 4, 6, 7] [x0, x1, x4, x6, x7]) w (contT Try.prog (entR 3 143) 90 110 H90 Try.f90.results.toList Q []) = L90_4 x0 x1 x4 x6 x7 w Q := by kernel_rfl
  bx (fn := Try.f90) mixed bn Try.func90 H90 (c := (nav [1, 1, 1, 1, 1, 1, 1] C90)) (t := []) (e.mpr h)
theorem L90_5_ok {x4 x6 : Value} {w : World} {Q : Value → World → Prop} (h : L90_5 x4 x6 w Q) : P90_5 x4 x6 w Q :=
  have e : evC Try.prog (entR 3 143) 90 110 H90 Q (nav [1, 1, 1, 1, 1, 1, 1, 1, 1, 1, 1] C90) [] (unpack [4, 6] [x4, x6]) w (contT Try.prog (entR 3 143) 90 110 H90 Try.f90.results.toList Q []) = L90_5 x4 x6 w Q := by kernel_rfl
  bx (fn := Try.f90) mixed bn Try.func90 H90 (c := (nav [1, 1, 1, 1, 1, 1, 1, 1, 1, 1, 1] C90)) (t := []) (e.mpr h)

noncomputable def C108 : Code := (Try.f108.body).getD .skip
noncomputable def H108 : Hints := ⟨[], [], []⟩
def F108 (a0 : Value) (w : World) (Q : Value → World → Prop) : Prop :=
  effv Try.prog (Instr.alloc 170 true (.tuple #[])) w fun t2 w =>
  wpB (pureRun Try.prog (Instr.build 170 #[])) fun t4 =>
  wpB (pureRun Try.prog (Instr.build 170 #[(0, (Go.Value.string { data := #[99, 114, 101, 97, 116, 101] })), (2, (Go.Value.bool true))])) fun t5 =>
  wpB (pureRun Try.prog (Instr.build 170 #[(0, (Go.Value.string { data := #[97, 108, 108, 111, 99] })), (1, (Go.Value.int Go.IntKind.i64 1)), (2, (Go.Value.bool true))])) fun t6 =>
  wpB (pureRun Try.prog (Instr.build 170 #[(0, (Go.Value.string { data := #[112, 105, 110] }))])) fun t7 =>
  wpB (pureRun Try.prog (Instr.build 170 #[(0, (Go.Value.string { data := #[117, 110, 112, 105, 110] }))])) fun t8 =>
  wpB (pureRun Try.prog (Instr.build 170 #[(0, (Go.Value.string { data := #[104, 111, 108, 100] })), (1, (Go.Value.int Go.IntKind.i64 3))])) fun t9 =>
  wpB (pureRun Try.prog (Instr.build 170 #[(0, (Go.Value.string { data := #[108, 111, 97, 100] })), (1, (Go.Value.int Go.IntKind.i64 2)), (2, (Go.Value.bool true))])) fun t10 =>
  wpB (pureRun Try.prog (Instr.build 170 #[(0, (Go.Value.string { data := #[115, 116, 111, 114, 101] })), (1, (Go.Value.int Go.IntKind.i64 2)), (2, (Go.Value.bool true)), (3, (Go.Value.bool true))])) fun t11 =>
  wpB (pureRun Try.prog (Instr.build 170 #[(0, (Go.Value.string { data := #[97, 100, 100] })), (1, (Go.Value.int Go.IntKind.i64 2)), (2, (Go.Value.bool true)), (3, (Go.Value.bool true))])) fun t12 =>
  wpB (pureRun Try.prog (Instr.build 170 #[(0, (Go.Value.string { data := #[99, 97, 115] })), (1, (Go.Value.int Go.IntKind.i64 2)), (2, (Go.Value.bool true)), (3, (Go.Value.bool true)), (4, (Go.Value.bool true))])) fun t13 =>
  wpB (pureRun Try.prog (Instr.build 170 #[(0, (Go.Value.string { data := #[102, 114, 101, 101] })), (1, (Go.Value.int Go.IntKind.i64 1))])) fun t14 =>
  wpB (pureRun Try.prog (Instr.build 170 #[(0, (Go.Value.string { data := #[99, 111, 108, 108, 101, 99, 116] }))])) fun t15 =>
  wpB (pureRun Try.prog (Instr.build 170 #[(0, (Go.Value.string { data := #[115, 116, 97, 116, 115] })), (1, (Go.Value.int Go.IntKind.i64 1))])) fun t16 =>
  effv Try.prog (Instr.buildSlice 189 13 #[(0, t4), (1, t5), (2, t6), (3, t7), (4, t8), (5, t9), (6, t10), (7, t11), (8, t12), (9, t13), (10, t14), (11, t15), (12, t16)]) w fun t17 w =>
  wpB (bp Try.prog .lss 3 a0 (Go.Value.int Go.IntKind.i64 1)) fun t19 =>
  wpB (gd t19 false (pureRun Try.prog (Builtin.len_ #[189] 3 #[(gv t19 false t17)]))) fun t23 =>
  wpB (gd t19 false (bp Try.prog .geq 3 (gv t19 false a0) t23)) fun t24 =>
  wpB (pickv t19 (some (Go.Value.bool true)) (some t24)) fun t25 =>
  cnd t25
  (wpB (pureRun Try.prog (Instr.indexAt 189 t17 (Go.Value.int Go.IntKind.i64 0))) fun t27 =>
  wpB (ldv Try.prog 170 t27 w) fun t28 =>
  effu Try.prog (Instr.storeAt 170 t2 t28) w fun w =>
  wpB (ldv Try.prog 170 t2 w) fun r2 => Q r2 w)
  (wpB (pureRun Try.prog (Instr.indexAt 189 t17 a0)) fun t31 =>
  wpB (ldv Try.prog 170 t31 w) fun t32 =>
  effu Try.prog (Instr.storeAt 170 t2 t32) w fun w =>
  wpB (ldv Try.prog 170 t2 w) fun r2_1 => Q r2_1 w)
theorem F108_ok {a0 : Value} {w : World} {Q : Value → World → Prop} (h : F108 a0 w Q) : CallR Try.prog 108 [a0] w Q :=
  have e : evC Try.prog (entR 3 143) 108 33 H108 Q C108 [] (entryE 0 [a0]) w (contT Try.prog (entR 3 143) 108 33 H108 Try.f108.results.toList Q []) = F108 a0 w Q := by kernel_rfl
  bt (fn := Try.f108) mixed bn Try.func108 (c := C108) rfl H108 (Nat.le_of_ble_eq_true rfl) (e.mpr h)

noncomputable def C109 : Code := (Try.f109.body).getD .skip
noncomputable def H109 : Hints := ⟨[], [], []⟩
def F109 (a0 a1 : Value) (w : World) (Q : Value → World → Prop) : Prop :=
  wpB (bp Try.prog .geq 3 a0 (Go.Value.int Go.IntKind.i64 0)) fun t6 =>
  wpB (gd t6 true (bp Try.prog .leq 3 (gv t6 true a0) (gv t6 true a1))) fun t10 =>
  wpB (pickv t6 (some t10) (some (Go.Value.bool false))) fun t11 =>
  Q t11 w
theorem F109_ok {a0 a1 : Value} {w : World} {Q : Value → World → Prop} (h : F109 a0 a1 w Q) : CallR Try.prog 109 [a0, a1] w Q :=
  have e : evC Try.prog (entR 3 143) 109 12 H109 Q C109 [] (entryE 0 [a0, a1]) w (contT Try.prog (entR 3 143) 109 12 H109 Try.f109.results.toList Q []) = F109 a0 a1 w Q := by kernel_rfl
  bt (fn := Try.f109) mixed bn Try.func109 (c := C109) rfl H109 (Nat.le_of_ble_eq_true rfl) (e.mpr h)

noncomputable def C110 : Code := (Try.f110.body).getD .skip
noncomputable def H110 : Hints := ⟨[], [], []⟩
def F110 (a0 : Value) (w : World) (Q : Value → World → Prop) : Prop :=
  CallR Try.prog 108 [a0] w fun t4 w =>
  wpB (pureRun Try.prog (Instr.field 170 t4 1)) fun t5 =>
  Q t5 w
theorem F110_ok {a0 : Value} {w : World} {Q : Value → World → Prop} (h : F110 a0 w Q) : CallR Try.prog 110 [a0] w Q :=
  have e : evC Try.prog (entR 3 143) 110 6 H110 Q C110 [] (entryE 0 [a0]) w (contT Try.prog (entR 3 143) 110 6 H110 Try.f110.results.toList Q []) = F110 a0 w Q := by kernel_rfl
  bt (fn := Try.f110) mixed bn Try.func110 (c := C110) rfl H110 (Nat.le_of_ble_eq_true rfl) (e.mpr h)

noncomputable def C118 : Code := (Try.f118.body).getD .skip
noncomputable def H118 : Hints := ⟨[], [], []⟩
def F118 (w : World) (Q : Value → World → Prop) : Prop :=
  effv Try.prog (Instr.buildSlice 23 23 #[(0, (Go.Value.int Go.IntKind.i64 1)), (1, (Go.Value.int Go.IntKind.i64 1)), (2, (Go.Value.int Go.IntKind.i64 2)), (3, (Go.Value.int Go.IntKind.i64 2)), (4, (Go.Value.int Go.IntKind.i64 2)), (5, (Go.Value.int Go.IntKind.i64 3)), (6, (Go.Value.int Go.IntKind.i64 3)), (7, (Go.Value.int Go.IntKind.i64 5)), (8, (Go.Value.int Go.IntKind.i64 5)), (9, (Go.Value.int Go.IntKind.i64 5)), (10, (Go.Value.int Go.IntKind.i64 6)), (11, (Go.Value.int Go.IntKind.i64 7)), (12, (Go.Value.int Go.IntKind.i64 7)), (13, (Go.Value.int Go.IntKind.i64 8)), (14, (Go.Value.int Go.IntKind.i64 9)), (15, (Go.Value.int Go.IntKind.i64 6)), (16, (Go.Value.int Go.IntKind.i64 4)), (17, (Go.Value.int Go.IntKind.i64 10)), (18, (Go.Value.int Go.IntKind.i64 10)), (19, (Go.Value.int Go.IntKind.i64 11)), (20, (Go.Value.int Go.IntKind.i64 11)), (21, (Go.Value.int Go.IntKind.i64 12)), (22, (Go.Value.int Go.IntKind.i64 0))]) w fun t1 w =>
  Q t1 w
theorem F118_ok {w : World} {Q : Value → World → Prop} (h : F118  w Q) : CallR Try.prog 118 [] w Q :=
  have e : evC Try.prog (entR 3 143) 118 2 H118 Q C118 [] (entryE 0 []) w (contT Try.prog (entR 3 143) 118 2 H118 Try.f118.results.toList Q []) = F118  w Q := by kernel_rfl
  bt (fn := Try.f118) mixed bn Try.func118 (c := C118) rfl H118 (Nat.le_of_ble_eq_true rfl) (e.mpr h)

noncomputable def C119 : Code := (Try.f119.body).getD .skip
noncomputable def H119 : Hints := ⟨[(3, [0, 1, 5, 6]), (6, [0, 1, 5, 6, 7])], [(7, [0, 1, 5, 6, 7])], []⟩
noncomputable def T119_0 : List It := [.lp (nav [1, 1, 0, 1, 4, 5] C119), .blk 0, .jn (nav [1, 1, 1] C119)]
noncomputable def T119_1 : List It := [.lp (nav [1, 1, 0, 1, 4, 5, 1, 0, 4, 1, 4, 5] C119), .blk 2, .blk 1, .jn (nav [1, 1, 0, 1, 4, 5, 1, 1] C119), .lp (nav [1, 1, 0, 1, 4, 5] C119), .blk 0, .jn (nav [1, 1, 1] C119)]
noncomputable def T119_2 : List It := [.jn (nav [1, 1, 0, 1, 4, 5, 1, 0, 4, 1, 4, 5, 1, 1] C119), .lp (nav [1, 1, 0, 1, 4, 5, 1, 0, 4, 1, 4, 5] C119), .blk 2, .blk 1, .jn (nav [1, 1, 0, 1, 4, 5, 1, 1] C119), .lp (nav [1, 1, 0, 1, 4, 5] C119), .blk 0, .jn (nav [1, 1, 1] C119)]
def P119_0 (x0 x1 x5 x6 : Value) (w : World) (Q : Value → World → Prop) : Prop := Part Try.prog 119 T119_0 [0, 1, 5, 6] [x0, x1, x5, x6] w Q
def P119_1 (x0 x1 x5 x6 x7 : Value) (w : World) (Q : Value → World → Prop) : Prop := Part Try.prog 119 T119_1 [0, 1, 5, 6, 7] [x0, x1, x5, x6, x7] w Q
def P119_2 (x0 x1 x5 x6 x7 : Value) (w : World) (Q : Value → World → Prop) : Prop := Part Try.prog 119 T119_2 [0, 1, 5, 6, 7] [x0, x1, x5, x6, x7] w Q
def F119 (a0 a1 : Value) (w : World) (Q : Value → World → Prop) : Prop :=
  P119_0 a0 a1 (Go.Value.slice none 0 0) (Go.Value.int Go.IntKind.i64 0) w Q
def L119_0 (x0 x1 x5 x6 : Value) (w : World) (Q : Value → World → Prop) : Prop :=
  wpB (pureRun Try.prog (Builtin.len_ #[22] 3 #[x0])) fun t10 =>
  wpB (bp Try.prog .lss 3 x6 t10) fun t11 =>
  cnd t11
  (P119_1 x0 x1 x5 x6 (Go.Value.int Go.IntKind.i64 0) w Q)
  (Q x5 w)
def L119_1 (x0 x1 x5 x6 x7 : Value) (w : World) (Q : Value → World → Prop) : Prop :=
  wpB (pureRun Try.prog (Instr.indexAt 22 x0 x6)) fun t17 =>
  wpB (ldv Try.prog 27 t17 w) fun t18 =>
  wpB (pureRun Try.prog (Builtin.len_ #[27] 3 #[t18])) fun t19 =>
  wpB (bp Try.prog .lss 3 x7 t19) fun t20 =>
  cnd t20
  (wpB (pureRun Try.prog (Instr.indexAt 22 x0 x6)) fun t25 =>
  wpB (ldv Try.prog 27 t25 w) fun t26 =>
  wpB (pureRun Try.prog (Instr.indexAt 27 t26 x7)) fun t28 =>
  wpB (pureRun Try.prog (Instr.fieldAt 40 t28 0)) fun t29 =>
  wpB (ldv Try.prog 3 t29 w) fun t30 =>
  wpB (be Try.prog .eql 3 (.tmp 30) (.tmp 31) t30 x1) fun t32 =>
  cnd t32
  (wpB (pureRun Try.prog (Instr.build 40 #[(1, x6), (2, x7)])) fun t36 =>
  effv Try.prog (Instr.buildSlice 27 1 #[(0, t36)]) w fun t37 w =>
  effv Try.prog (Builtin.append_ #[27, 27] 27 #[x5, t37]) w fun t38 w =>
  P119_2 x0 x1 t38 x6 x7 w Q)
  (P119_2 x0 x1 x5 x6 x7 w Q))
  (wpB (bp Try.prog .add 3 x6 (Go.Value.int Go.IntKind.i64 1)) fun t13 =>
  P119_0 x0 x1 x5 t13 w Q)
def L119_2 (x0 x1 x5 x6 x7 : Value) (w : World) (Q : Value → World → Prop) : Prop :=
  wpB (bp Try.prog .add 3 x7 (Go.Value.int Go.IntKind.i64 1)) fun t22 =>
  P119_1 x0 x1 x5 x6 t22 w Q
theorem F119_ok {a0 a1 : Value} {w : World} {Q : Value → World → Prop} (h : F119 a0 a1 w Q) : CallR Try.prog 119 [a0, a1] w Q :=
  have e : evC Try.prog (entR 3 143) 119 40 H119 Q C119 [] (entryE 0 [a0, a1]) w (contT Try.prog (entR 3 143) 119 40 H119 Try.f119.results.toList Q []) = F119 a0 a1 w Q := by kernel_rfl
  bt (fn := Try.f119) mixed bn Try.func119 (c := C119) rfl H119 (Nat.le_of_ble_eq_true rfl) (e.mpr h)
theorem L119_0_ok {x0 x1 x5 x6 : Value} {w : World} {Q : Value → World → Prop} (h : L119_0 x0 x1 x5 x6 w Q) : P119_0 x0 x1 x5 x6 w Q :=
  have e : evC Try.prog (entR 3 143) 119 40 H119 Q (nav [1, 1, 0, 1, 4, 5] C119) T119_0 (unpack [0, 1, 5, 6] [x0, x1, x5, x6]) w (contT Try.prog (entR 3 143) 119 40 H119 Try.f119.results.toList Q T119_0) = L119_0 x0 x1 x5 x6 w Q := by kernel_rfl
  part_lp (fn := Try.f119) mixed bn Try.func119 H119 (c := (nav [1, 1, 0, 1, 4, 5] C119)) (t := [.blk 0, .jn (nav [1, 1, 1] C119)]) (e.mpr h)
theorem L119_1_ok {x0 x1 x5 x6 x7 : Value} {w : World} {Q : Value → World → Prop} (h : L119_1 x0 x1 x5 x6 x7 w Q) : P119_1 x0 x1 x5 x6 x7 w Q :=
  have e : evC Try.prog (entR 3 143) 119 40 H119 Q (nav [1, 1, 0, 1, 4, 5, 1, 0, 4, 1, 4, 5] C119) T119_1 (unpack [0, 1, 5, 6, 7] [x0, x1, x5, x6, x7]) w (contT Try.prog (entR 3 143) 119 40 H119 Try.f119.results.toList Q T119_1) = L119_1 x0 x1 x5 x6 x7 w Q := by kernel_rfl
  part_lp (fn := Try.f119) mixed bn Try.func119 H119 (c := (nav [1, 1, 0, 1, 4, 5, 1, 0, 4, 1, 4, 5] C119)) (t := [.blk 2, .blk 1, .jn (nav [1, 1, 0, 1, 4, 5, 1, 1] C119), .lp (nav [1, 1, 0, 1, 4, 5] C119), .blk 0, .jn (nav [1, 1, 1] C119)]) (e.mpr h)
theorem L119_2_ok {x0 x1 x5 x6 x7 : Value} {w : World} {Q : Value → World → Prop} (h : L119_2 x0 x1 x5 x6 x7 w Q) : P119_2 x0 x1 x5 x6 x7 w Q :=
  have e : evC Try.prog (entR 3 143) 119 40 H119 Q (nav [1, 1, 0, 1, 4, 5, 1, 0, 4, 1, 4, 5, 1, 1] C119) [.lp (nav [1, 1, 0, 1, 4, 5, 1, 0, 4, 1, 4, 5] C119), .blk 2, .blk 1, .jn (nav [1, 1, 0, 1, 4, 5, 1, 1] C119), .lp (nav [1, 1, 0, 1, 4, 5] C119), .blk 0, .jn (nav [1, 1, 1] C119)] (unpack [0, 1, 5, 6, 7] [x0, x1, x5, x6, x7]) w (contT Try.prog (entR 3 143) 119 40 H119 Try.f119.results.toList Q [.lp (nav [1, 1, 0, 1, 4, 5, 1, 0, 4, 1, 4, 5] C119), .blk 2, .blk 1, .jn (nav [1, 1, 0, 1, 4, 5, 1, 1] C119), .lp (nav [1, 1, 0, 1, 4, 5] C119), .blk 0, .jn (nav [1, 1, 1] C119)]) = L119_2 x0 x1 x5 x6 x7 w Q := by kernel_rfl
  bx (fn := Try.f119) mixed bn Try.func119 H119 (c := (nav [1, 1, 0, 1, 4, 5, 1, 0, 4, 1, 4, 5, 1, 1] C119)) (t := [.lp (nav [1, 1, 0, 1, 4, 5, 1, 0, 4, 1, 4, 5] C119), .blk 2, .blk 1, .jn (nav [1, 1, 0, 1, 4, 5, 1, 1] C119), .lp (nav [1, 1, 0, 1, 4, 5] C119), .blk 0, .jn (nav [1, 1, 1] C119)]) (e.mpr h)
end Go.Proofs.Ytgamnncehjcdiaa

namespace Go.Proofs.Ytgamnncehjcdiaa
open Go Ev Go.RowKit

def ofK (k : Int) : Int := if k = 2 ∨ k = 10 ∨ k = 12 then 1 else if 6 ≤ k ∧ k ≤ 9 then 2 else if k = 5 then 3 else 0
def nB (k : Int) : Bool := decide (k = 1 ∨ k = 2 ∨ (6 ≤ k ∧ k ≤ 9))
def vB (k : Int) : Bool := decide (7 ≤ k ∧ k ≤ 9)
def wB (k : Int) : Bool := decide (k = 9)
theorem kind_cases (k : Int) : k = 1 ∨ k = 2 ∨ k = 3 ∨ k = 4 ∨ k = 5 ∨ k = 6 ∨ k = 7 ∨ k = 8 ∨ k = 9 ∨ k = 10 ∨ k = 11 ∨ k = 12 ∨ (k < 1 ∨ 12 < k) := by omega
theorem eqf {k c : Int} (h : k ≠ c) : (k == c) = false := by simpa using h
theorem c_Of (k : Int) (w : World) : CallR Try.prog 63 [.int .i64 k] w fun v w' => v = .int .i64 (ofK k) ∧ w' = w := by
  rcases kind_cases k with rfl | rfl | rfl | rfl | rfl | rfl | rfl | rfl | rfl | rfl | rfl | rfl | h
  all_goals
    apply F63_ok
    try simp -implicitDefEqProofs [F63]
    try rw [eqf (show k ≠ 2 by omega), eqf (show k ≠ 10 by omega), eqf (show k ≠ 12 by omega)]
    try simp -implicitDefEqProofs only [ag]
    try apply L63_0_ok
    try simp -implicitDefEqProofs [L63_0]
    try rw [eqf (show k ≠ 6 by omega), eqf (show k ≠ 7 by omega), eqf (show k ≠ 8 by omega), eqf (show k ≠ 9 by omega)]
    try simp -implicitDefEqProofs only [ag]
    try apply L63_1_ok
    try simp -implicitDefEqProofs [L63_1]
    try rw [eqf (show k ≠ 5 by omega)]
    try simp -implicitDefEqProofs only [ag]
    try (simp [ofK]; done)
    try (rw [ofK, if_neg (by omega), if_neg (by omega), if_neg (by omega)])
theorem c_HasN (k : Int) (w : World) : CallR Try.prog 64 [.int .i64 k] w fun v w' => v = .bool (nB k) ∧ w' = w := by
  apply F64_ok
  by_cases h1 : k = 1 <;> by_cases h2 : k = 2 <;> by_cases h6 : 6 ≤ k <;> by_cases h9 : k ≤ 9 <;> simp -implicitDefEqProofs [F64, h1, h2, h6, h9, eqf, nB] <;> omega
theorem c_HasV (k : Int) (w : World) : CallR Try.prog 65 [.int .i64 k] w fun v w' => v = .bool (vB k) ∧ w' = w := by
  apply F65_ok
  by_cases h6 : 7 ≤ k <;> by_cases h9 : k ≤ 9 <;> simp -implicitDefEqProofs [F65, h6, h9, vB]
def nameK (k : Int) : ByteArray :=
  if k = 1 then { data := #[99, 114, 101, 97, 116, 101] } else if k = 2 then { data := #[97, 108, 108, 111, 99] } else if k = 3 then { data := #[112, 105, 110] } else if k = 4 then { data := #[117, 110, 112, 105, 110] }
  else if k = 5 then { data := #[104, 111, 108, 100] } else if k = 6 then { data := #[108, 111, 97, 100] } else if k = 7 then { data := #[115, 116, 111, 114, 101] } else if k = 8 then { data := #[97, 100, 100] }
  else if k = 9 then { data := #[99, 97, 115] } else if k = 10 then { data := #[102, 114, 101, 101] } else if k = 11 then { data := #[99, 111, 108, 108, 101, 99, 116] } else if k = 12 then { data := #[115, 116, 97, 116, 115] } else { data := #[] }
def formC (k : Int) : List Value := [.string (nameK k), .int .i64 (ofK k), .bool (nB k), .bool (vB k), .bool (wB k)]
theorem formC_out {k : Int} (h : k < 1 ∨ 12 < k) : formC k = [.string { data := #[] }, .int .i64 0, .bool false, .bool false, .bool false] := by
  have e1 : nameK k = { data := #[] } := by
    unfold nameK
    rw [if_neg (by omega), if_neg (by omega), if_neg (by omega), if_neg (by omega), if_neg (by omega), if_neg (by omega), if_neg (by omega), if_neg (by omega), if_neg (by omega), if_neg (by omega), if_neg (by omega), if_neg (by omega)]
  have e2 : ofK k = 0 := by rw [ofK, if_neg (by omega), if_neg (by omega), if_neg (by omega)]
  have e3 : nB k = false := by simp [nB]; omega
  have e4 : vB k = false := by simp [vB]; omega
  have e5 : wB k = false := by simp [wB]; omega
  rw [formC, e1, e2, e3, e4, e5]
theorem c_formOf (k : Int) (w : World) : CallR Try.prog 108 [.int .i64 k] w fun v w' => v = .agg (formC k).toArray ∧ Chg [] w w' := by
  have hb : ∀ w' : World, w' = w → Chg [] w w' := fun w' h => h ▸ Chg.refl _ _
  have hch : ∀ c1 c2 c3 : Array Value, Chg [] w (put ((w.alloc (.cells c1 170)).alloc (.cells c2 170)) w.heap.size c3 170) := fun c1 c2 c3 => (((Chg.refl [] w).alloc _).alloc _).put (.inr (Nat.le_refl _)) _ _
  rcases kind_cases k with rfl | rfl | rfl | rfl | rfl | rfl | rfl | rfl | rfl | rfl | rfl | rfl | h
  case inr.inr.inr.inr.inr.inr.inr.inr.inr.inr.inr.inr =>
    apply F108_ok
    rw [formC_out h]
    rcases h with h | h
    · have h' : k < 1 := h
      simp -implicitDefEqProofs [F108, h', ia_189, ld_170, st_170, hch]
    · have h1 : ¬ k < 1 := by omega
      have h2 : (13 : Int) ≤ k := by omega
      simp -implicitDefEqProofs [F108, h1, h2, ia_189, ld_170, st_170, hch]
  all_goals
    apply F108_ok
    simp -implicitDefEqProofs [F108, ia_189, ld_170, st_170, formC, nameK, ofK, nB, vB, wB, hch]
theorem c_opOf (k : Int) (w : World) : CallR Try.prog 110 [.int .i64 k] w fun v w' => v = .int .i64 (ofK k) ∧ Chg [] w w' := by
  apply F110_ok
  refine (c_formOf k w).mono ?_
  rintro v w1 ⟨rfl, hc⟩
  simp -implicitDefEqProofs [F110, formC, hc]
end Go.Proofs.Ytgamnncehjcdiaa

namespace Go.Proofs.Ytgamnncehjcdiaa
open Go Ev Go.RowKit

def leV : List Int → Int
  | [] => 0
  | b :: bs => b + 256 * leV bs
theorem pow256 (n : Nat) : (2 : Int) ^ (8 * n) = 256 ^ n := by rw [Int.pow_mul]; rfl
theorem leV_snoc (b : Int) : ∀ bs : List Int, leV (bs ++ [b]) = leV bs + b * 2 ^ (8 * bs.length)
  | [] => by simp [leV]
  | c :: bs => by
    have e : (2 : Int) ^ (8 * (bs.length + 1)) = 256 * 2 ^ (8 * bs.length) := by rw [pow256, pow256, Int.pow_succ, Int.mul_comm]
    rw [List.cons_append, leV, leV_snoc b bs, leV, List.length_cons, e, Int.mul_add, Int.add_assoc, Int.mul_left_comm b]
def IsBytes (bs : List Int) : Prop := ∀ b ∈ bs, 0 ≤ b ∧ b < 256
theorem leV_bound : ∀ bs : List Int, IsBytes bs → 0 ≤ leV bs ∧ leV bs < 2 ^ (8 * bs.length)
  | [], _ => by simp [leV]
  | c :: bs, h => by
    have h1 := leV_bound bs fun b hb => h b (List.mem_cons_of_mem _ hb)
    have h2 := h c (by simp)
    have e : (2 : Int) ^ (8 * (bs.length + 1)) = 256 * 2 ^ (8 * bs.length) := by rw [pow256, pow256, Int.pow_succ, Int.mul_comm]
    rw [leV, List.length_cons, e]; omega
theorem IsBytes.take {bs : List Int} (h : IsBytes bs) (n : Nat) : IsBytes (bs.take n) := fun b hb => h b (List.mem_of_mem_take hb)
theorem IsBytes.drop {bs : List Int} (h : IsBytes bs) (n : Nat) : IsBytes (bs.drop n) := fun b hb => h b (List.mem_of_mem_drop hb)
abbrev Rst := List Int × Bool
def pNum (n : Nat) (s : Rst) : Int × Rst := if s.2 = true ∨ s.1.length < n then (0, (s.1, true)) else (leV (s.1.take n), (s.1.drop n, false))
theorem pNum_bound {n : Nat} {s : Rst} (h : IsBytes s.1) : 0 ≤ (pNum n s).1 ∧ (pNum n s).1 < 2 ^ (8 * n) := by
  unfold pNum
  split
  · exact ⟨Int.le_refl _, Int.pow_pos (by omega)⟩
  · have := leV_bound _ (h.take n)
    rename_i hn
    rw [List.length_take, Nat.min_eq_left (by simp at hn; omega)] at this
    exact this
theorem pNum_bytes {n : Nat} {s : Rst} (h : IsBytes s.1) : IsBytes (pNum n s).2.1 := by
  unfold pNum
  split
  · exact h
  · exact h.drop n
def u8s (bs : List Int) : List Value := bs.map (Value.int .u8)
@[simp] theorem u8s_len (bs : List Int) : (u8s bs).length = bs.length := by simp [u8s]
theorem u8s_ne {bs : List Int} (h : u8s bs ≠ []) : bs ≠ [] := fun e => h (by rw [e]; rfl)
theorem u8s_get (bs : List Int) (i : Nat) (h : i < bs.length) : (u8s bs)[i]? = some (.int .u8 (bs.getD i 0)) := by
  simp [u8s, List.getD_eq_getElem?_getD, h]
theorem leV_step (bs : List Int) (i : Nat) (h : i < bs.length) : leV (bs.take (i + 1)) = leV (bs.take i) + bs.getD i 0 * 2 ^ (8 * i) := by
  have e : bs.take (i + 1) = bs.take i ++ [bs.getD i 0] := by
    rw [List.take_add_one]; congr 1
    simp [List.getD_eq_getElem?_getD, h]
  rw [e, leV_snoc, List.length_take, Nat.min_eq_left (by omega)]
theorem byte_pow {b : Int} {i : Nat} (h0 : 0 ≤ b) (h1 : b < 256) (hi : i ≤ 7) : 0 ≤ b * 2 ^ (8 * i) ∧ b * 2 ^ (8 * i) < 2 ^ 64 := by
  have h2 : (2 : Int) ^ (8 * i) ≤ 2 ^ 56 := by
    rcases (by omega : i = 0 ∨ i = 1 ∨ i = 2 ∨ i = 3 ∨ i = 4 ∨ i = 5 ∨ i = 6 ∨ i = 7) with rfl | rfl | rfl | rfl | rfl | rfl | rfl | rfl <;> decide
  have h3 : (0 : Int) < 2 ^ (8 * i) := Int.pow_pos (by omega)
  refine ⟨Int.mul_nonneg h0 (by omega), ?_⟩
  have h4 : b * 2 ^ (8 * i) ≤ 255 * 2 ^ (8 * i) := Int.mul_le_mul_of_nonneg_right (by omega) (by omega)
  have h5 : (2 : Int) ^ 64 = 256 * 2 ^ 56 := by decide
  omega

def RS (w : World) (r : Nat) (s : Rst) : Prop := ∃ A c, hp w r = some (.cells #[.slice A s.1.length c, .bool s.2] 115) ∧ RdV w A (u8s s.1) ∧ (∀ p, A = some p → s.1 ≠ [] → p.block < r) ∧ s.1.length ≤ c
theorem RS.chg {w w' : World} {S : List Nat} {r : Nat} {s : Rst} (h : RS w r s) (hc : Chg S w w') (hr : ∀ k ∈ S, r < k) : RS w' r s := by
  obtain ⟨A, c, h1, h2, h3, h4⟩ := h
  refine ⟨A, c, hc.at h1 (fun hm => by have := hr r hm; omega), h2.chg hc (fun p hp hne hm => ?_), h3, h4⟩
  have := hr _ hm
  have := h3 p hp (u8s_ne hne)
  omega
theorem l_num {r : Nat} {s : Rst} (hs : IsBytes s.1) {w : World} {n : Nat} (hn : n ≤ 8) (hle : n ≤ s.1.length) {A : Option Addr} {c : Nat} (hb : hp w r = some (.cells #[.slice A s.1.length c, .bool s.2] 115)) (hA : RdV w A (u8s s.1)) (hAr : ∀ p, A = some p → s.1 ≠ [] → p.block < r) (hcap : s.1.length ≤ c) :
    ∀ (d i : Nat), i + d = n → P69_0 (.pointer (some ⟨r, 0, none⟩)) (.int .i64 n) (.int .u64 (leV (s.1.take i))) (.int .i64 n) (.int .i64 i) w fun v w' => v = .int .u64 (leV (s.1.take n)) ∧ RS w' r (s.1.drop n, s.2) ∧ Chg [r] w w' := by
  intro d
  induction d with
  | zero =>
    intro i hi
    apply L69_0_ok
    have : ¬ ((i : Int) < n) := by omega
    simp -implicitDefEqProofs only [L69_0, ad, aD, this, z2z, ag, af, fa_115_0, ld_28, hb, ah, Nat.add_zero, show (#[Value.slice A s.1.length c, Value.bool s.2] : Array Value)[0]? = some (.slice A s.1.length c) from rfl, pr_slice_l Try.underlying28 sz_5 (show (0 : Int) ≤ n by omega) (show (n : Int) ≤ s.1.length by omega)]
    rw [st_28 (by rfl) (by rfl) (by rw [hb]; rfl)]
    rw [show i = n by omega]
    refine ⟨rfl, ?_, (Chg.refl _ _).put (.inl (by simp)) _ _⟩
    have hlt := bz hb
    refine ⟨if c = (n : Int).toNat then A else A.map (·.add ((n : Int).toNat * 1)), c - (n : Int).toNat, ?_, ?_, ?_, ?_⟩
    · rw [put_heap, if_pos rfl, if_pos hlt, hb, getC_some, bM]
      simp
    · have h1 := hA.drop c n 1 (fun h => by simp; omega)
      rw [Nat.mul_one] at h1
      rw [Int.toNat_natCast, Nat.mul_one]
      have e : u8s (s.1.drop n) = (u8s s.1).drop n := by simp [u8s, List.map_drop]
      show RdV _ _ (u8s (s.1.drop n))
      rw [e]
      refine h1.chg ((Chg.refl [r] w).put (.inl (by simp)) _ _) fun p hp hne hm => ?_
      have hne : s.1 ≠ [] := fun h => hne (by rw [h]; simp [u8s])
      have hm : p.block = r := by simpa using hm
      split at hp
      · have := hAr p hp hne; omega
      · cases A with
        | none => cases hp
        | some a =>
          simp at hp
          have : p.block = a.block := by rw [← hp]; unfold Addr.add; split <;> rfl
          have := hAr a rfl hne
          omega
    · intro p hp hne
      have hne : s.1 ≠ [] := fun h => hne (by show s.1.drop n = []; rw [h]; simp)
      split at hp
      · exact hAr p hp hne
      · cases A with
        | none => cases hp
        | some a =>
          simp at hp
          have : p.block = a.block := by rw [← hp]; unfold Addr.add; split <;> rfl
          have := hAr a rfl hne
          omega
    · simp; omega
  | succ d ih =>
    intro i hi
    apply L69_0_ok
    have hlt : (i : Int) < n := by omega
    obtain ⟨b, o, q1, q2, _⟩ := hA.elem1 (P := Try.prog) (c := c) (n := s.1.length) (i := (i : Int)) (j := .i64) Try.underlying28 sz_5 (by simp) (by omega) (by omega)
    rw [Int.toNat_natCast, u8s_get _ _ (by omega)] at q2
    have hby := hs (s.1.getD i 0) (by
      have : i < s.1.length := by omega
      simp [List.getD_eq_getElem?_getD, this])
    obtain ⟨p0, p1⟩ := byte_pow (i := i) hby.1 hby.2 (by omega)
    have hst := leV_step s.1 i (by omega)
    have hbd := leV_bound _ (hs.take i)
    rw [List.length_take, Nat.min_eq_left (by omega)] at hbd
    generalize s.1.getD i 0 = x at *
    have hor := or_add (k := 8 * i) hbd.1 hbd.2 hby.1 (by omega) (by simpa using p1)
    have hp8 : IntKind.u64.bits = 64 := rfl
    have hmin : min (8 * (i : Int)).toNat IntKind.u64.bits = 8 * i := by rw [hp8]; omega
    simp -implicitDefEqProofs only [L69_0, ad, aD, hlt, z1z, aj, af, fa_115_0, ld_28, ld_5, hb, ah, Nat.add_zero, show (#[Value.slice A s.1.length c, Value.bool s.2] : Array Value)[0]? = some (.slice A s.1.length c) from rfl, q1, q2, cv_5_38, wrapu (n := x) (by omega) (by omega), bp_mul, bG, bC (n := 8 * (i : Int)) (by omega) (by omega), bp_shl (show (0 : Int) ≤ 8 * i by omega), hmin, wrapu (n := x * 2 ^ (8 * i)) p0 (by omega), bp_or, hor, bC (n := (i : Int) + 1) (by omega) (by omega), ← hst]
    have h := ih (i + 1) (by omega)
    rw [Int.natCast_add i 1] at h
    exact h
theorem c_num {r : Nat} {s : Rst} (hs : IsBytes s.1) {w : World} (hr : RS w r s) {n : Nat} (hn : n ≤ 8) : CallR Try.prog 69 [.pointer (some ⟨r, 0, none⟩), .int .i64 n] w fun v w' => v = .int .u64 (pNum n s).1 ∧ RS w' r (pNum n s).2 ∧ Chg [r] w w' := by
  obtain ⟨A, c, hb, hA, hAr, hcap⟩ := hr
  have hlt := bz hb
  apply F69_ok
  have bad : (s.2 = true ∨ s.1.length < n) → hp (put w r #[.slice A s.1.length c, .bool true] 115) r = some (.cells #[.slice A s.1.length c, .bool true] 115) →
      (0 = (pNum n s).1 ∧ RS (put w r #[.slice A s.1.length c, .bool true] 115) r (pNum n s).2 ∧ Chg [r] w (put w r #[.slice A s.1.length c, .bool true] 115)) := by
    intro h hb'
    have e : pNum n s = (0, (s.1, true)) := by rw [pNum, if_pos h]
    have hch : Chg [r] w (put w r #[.slice A s.1.length c, .bool true] 115) := (Chg.refl _ _).put (.inl (by simp)) _ _
    rw [e]
    refine ⟨rfl, ⟨A, c, hb', hA.chg hch fun p hp hne hm => ?_, hAr, hcap⟩, hch⟩
    have hm : p.block = r := by simpa using hm
    have := hAr p hp (u8s_ne hne)
    omega
  have hput : hp (put w r #[.slice A s.1.length c, .bool true] 115) r = some (.cells #[.slice A s.1.length c, .bool true] 115) := by rw [put_heap, if_pos rfl, if_pos hlt]
  by_cases h2 : s.2 = true
  · simp -implicitDefEqProofs [F69, hb, h2, st_4]
    exact bad (.inl h2) hput
  · have h2 : s.2 = false := by simpa using h2
    by_cases hl : s.1.length < n
    · have hl' : (s.1.length : Int) < n := by omega
      simp -implicitDefEqProofs [F69, hb, h2, hl, st_4]
      exact bad (.inr hl) hput
    · have hl' : ¬ (s.1.length : Int) < n := by omega
      simp -implicitDefEqProofs [F69, hb, h2, hl]
      have e : pNum n s = (leV (s.1.take n), (s.1.drop n, false)) := by rw [pNum, if_neg (by simp [h2, hl])]
      rw [e, ← h2]
      exact l_num hs hn (by omega) hb hA hAr hcap n 0 (by omega)
end Go.Proofs.Ytgamnncehjcdiaa

namespace Go.Proofs.Ytgamnncehjcdiaa
open Go Ev Go.RowKit

end Go.Proofs.Ytgamnncehjcdiaa

namespace Go.Proofs.Ytgamnncehjcdiaa
open Go Ev Go.RowKit

abbrev OpV := Int × Int × Int × Int × Int × Int
def opC (o : OpV) : List Value := [.int .i64 o.1, .int .i64 o.2.1, .int .i64 o.2.2.1, .int .i64 o.2.2.2.1, .int .u64 o.2.2.2.2.1, .int .u64 o.2.2.2.2.2]
theorem opC_len (o : OpV) : (opC o).length = 6 := rfl
def pIf (b : Bool) (n : Nat) (s : Rst) : Int × Rst := if b then pNum n s else (0, s)
structure Mid (w0 w : World) (r g2 g3 : Nat) (c : Array Value) : Prop where
  h2 : hp w g2 = some (.cells #[.int .i64 0, .int .i64 0, .int .i64 0, .int .i64 0, .int .u64 0, .int .u64 0] 40)
  h3 : hp w g3 = some (.cells c 40)
  lt : r < g2
  lt3 : g2 < g3
  ge : w0.heap.size ≤ g2
  ch : Chg [r] w0 w
theorem Mid.step {w0 w w' : World} {r g2 g3 : Nat} {c : Array Value} (h : Mid w0 w r g2 g3 c) (hc : Chg [r] w w') : Mid w0 w' r g2 g3 c :=
  ⟨hc.at h.h2 (by have := h.lt; simp; omega), hc.at h.h3 (by have := h.lt; have := h.lt3; simp; omega), h.lt, h.lt3, h.ge, h.ch.trans hc⟩
theorem Mid.put {w0 w : World} {r g2 g3 : Nat} {c : Array Value} (h : Mid w0 w r g2 g3 c) (c' : Array Value) : Mid w0 (put w g3 c' 40) r g2 g3 c' :=
  ⟨by rw [put_heap, if_neg (by have := h.lt3; omega)]; exact h.h2, by rw [put_heap, if_pos rfl, if_pos (bz h.h3)], h.lt, h.lt3, h.ge, h.ch.put (.inr (by have := h.ge; have := h.lt3; omega)) _ _⟩
theorem Mid.chg {w0 w : World} {r g2 g3 : Nat} {c : Array Value} (h : Mid w0 w r g2 g3 c) (c' : Array Value) : Chg [g3] w (Ev.put w g3 c' 40) := (Chg.refl _ _).put (.inl (by simp)) _ _
@[simp] theorem num2 {s : Rst} (h : IsBytes s.1) : IntKind.i64.wrap (pNum 2 s).1 = (pNum 2 s).1 := by
  have := pNum_bound (n := 2) h
  exact bC (by omega) (by    have e : (2 : Int) ^ (8 * 2) = 65536 := by decide
                             omega)
@[simp] theorem num1 {s : Rst} (h : IsBytes s.1) : IntKind.i64.wrap (pNum 1 s).1 = (pNum 1 s).1 := by
  have := pNum_bound (n := 1) h
  exact bC (by omega) (by    have e : (2 : Int) ^ (8 * 1) = 256 := by decide
                             omega)
def Got (R : World → Nat → Rst → Prop) (w0 : World) (r : Nat) (o : OpV × Rst) (v : Value) (w' : World) : Prop := v = .agg (opC o.1).toArray ∧ R w' r o.2 ∧ Chg [r] w0 w'
theorem m3 {w0 w : World} {r g2 g3 : Nat} {o : OpV} {s : Rst} (h : Mid w0 w r g2 g3 (opC o).toArray) (hR : RS w r s) : P70_3 (.pointer (some ⟨g2, 0, none⟩)) (.pointer (some ⟨g3, 0, none⟩)) w (Got RS w0 r (o, s)) := by
  apply L70_3_ok
  have hlt := bz h.h2
  simp -implicitDefEqProofs [L70_3, ld_40, st_40, h.h3, h.h2, hlt, opC]
  have hch : Chg [g2] w (put w g2 (opC o).toArray 40) := (Chg.refl _ _).put (.inl (by simp)) _ _
  exact ⟨rfl, hR.chg hch (by simpa using h.lt), h.ch.put (.inr h.ge) _ _⟩
theorem m2 {w0 w : World} {r g2 g3 : Nat} {k f a n v : Int} {s : Rst} (hs : IsBytes s.1) (x : Bool) (h : Mid w0 w r g2 g3 (opC (k, f, a, n, v, 0)).toArray) (hR : RS w r s) :
    P70_2 (.pointer (some ⟨r, 0, none⟩)) (.pointer (some ⟨g2, 0, none⟩)) (.pointer (some ⟨g3, 0, none⟩)) (.bool x) w (Got RS w0 r ((k, f, a, n, v, (pIf x 8 s).1), (pIf x 8 s).2)) := by
  apply L70_2_ok
  cases x with
  | false =>
    simp -implicitDefEqProofs only [L70_2, ag]
    exact m3 h hR
  | true =>
    simp -implicitDefEqProofs only [L70_2, aj]
    refine (c_num hs hR (n := 8) (by omega)).mono ?_
    rintro v w1 ⟨rfl, hR1, hc1⟩
    have h1 := h.step hc1
    simp -implicitDefEqProofs [st_38, h1.h3, opC]
    exact m3 (o := (k, f, a, n, _, (pNum 8 s).1)) (h1.put _) (hR1.chg (h1.chg _) (by have := h.lt; have := h.lt3; simp; omega))
theorem m1 {w0 w : World} {r g2 g3 : Nat} {k f a n : Int} {s : Rst} (hs : IsBytes s.1) (x y : Bool) (h : Mid w0 w r g2 g3 (opC (k, f, a, n, 0, 0)).toArray) (hR : RS w r s) :
    P70_1 (.pointer (some ⟨r, 0, none⟩)) (.pointer (some ⟨g2, 0, none⟩)) (.pointer (some ⟨g3, 0, none⟩)) (.bool x) (.bool y) w (Got RS w0 r ((k, f, a, n, (pIf x 8 s).1, (pIf y 8 (pIf x 8 s).2).1), (pIf y 8 (pIf x 8 s).2).2)) := by
  apply L70_1_ok
  cases x with
  | false =>
    simp -implicitDefEqProofs only [L70_1, ag]
    exact m2 hs y h hR
  | true =>
    simp -implicitDefEqProofs only [L70_1, aj]
    refine (c_num hs hR (n := 8) (by omega)).mono ?_
    rintro v w1 ⟨rfl, hR1, hc1⟩
    have h1 := h.step hc1
    simp -implicitDefEqProofs [st_38, h1.h3, opC]
    exact m2 (v := (pNum 8 s).1) (pNum_bytes hs) y (h1.put _) (hR1.chg (h1.chg _) (by have := h.lt; have := h.lt3; simp; omega))
end Go.Proofs.Ytgamnncehjcdiaa

namespace Go.Proofs.Ytgamnncehjcdiaa
open Go Ev Go.RowKit

theorem tup0 (a b : Value) : pureRun Try.prog (Instr.extract (.tuple #[a, b]) 0) = some a := by rw [pr_extract]; rfl
theorem tup1 (a b : Value) : pureRun Try.prog (Instr.extract (.tuple #[a, b]) 1) = some b := by rw [pr_extract]; rfl
theorem c_within (n m : Int) (w : World) : CallR Try.prog 109 [.int .i64 n, .int .i64 m] w fun v w' => v = .bool (decide (0 ≤ n ∧ n ≤ m)) ∧ w' = w := by
  apply F109_ok
  by_cases h : 0 ≤ n
  · have e : decide (0 ≤ n ∧ n ≤ m) = decide (n ≤ m) := by simp [h]
    simp -implicitDefEqProofs only [F109, ad, ax, am, aM, aN, aQ, aR, av, ak, aJ, aK, aS, aT, ay, ap, aU, aV, aX, aY, ae, ac, aj, ag, z1z, z2z, z3z, z4z, aH, af, aD, aB, aC, aA, aE, aG, z5z, z6z, ah, z7z, z8z, au, h, e, and_self]
    exact ⟨by simp, trivial⟩
  · simp -implicitDefEqProofs only [F109, ad, ax, am, aM, aN, aQ, aR, av, ak, aJ, aK, aS, aT, ay, ap, aU, aV, aX, aY, ae, ac, aj, ag, z1z, z2z, z3z, z4z, aH, af, aD, aB, aC, aA, aE, aG, z5z, z6z, ah, z7z, z8z, au, h, false_and, and_self]
theorem c_in18 (n a m : Int) (w : World) : CallR Try.prog 66 [.int .i64 n, .int .i64 a, .int .i64 m] w fun v w' => v = .bool (decide (a ≤ n ∧ n ≤ m)) ∧ w' = w := by
  apply F66_ok
  by_cases h : a ≤ n
  · simp -implicitDefEqProofs only [F66, ad, ax, am, aM, aN, aQ, aR, av, ak, aJ, aK, aS, aT, ay, ap, aU, aV, aX, aY, ae, ac, aj, ag, z1z, z2z, z3z, z4z, aH, af, aD, aB, aC, aA, aE, aG, z5z, z6z, ah, z7z, z8z, au, h, true_and, and_self]
  · simp -implicitDefEqProofs only [F66, ad, ax, am, aM, aN, aQ, aR, av, ak, aJ, aK, aS, aT, ay, ap, aU, aV, aX, aY, ae, ac, aj, ag, z1z, z2z, z3z, z4z, aH, af, aD, aB, aC, aA, aE, aG, z5z, z6z, ah, z7z, z8z, au, h, false_and, and_self]
def frM (k : Int) : Int := if ofK k = 0 then 0 else 63
def atM (k : Int) : Int := if ofK k = 0 then 0 else 999
def nM (k : Int) : Int := if k = 1 then 3 else if nB k then 65535 else 0
def mayO (o : OpV) : Bool := decide ((1 ≤ o.1 ∧ o.1 ≤ 12) ∧ (0 ≤ o.2.1 ∧ o.2.1 ≤ frM o.1) ∧ (0 ≤ o.2.2.1 ∧ o.2.2.1 ≤ atM o.1) ∧ (0 ≤ o.2.2.2.1 ∧ o.2.2.2.1 ≤ nM o.1) ∧ (vB o.1 = true ∨ o.2.2.2.2.1 = 0) ∧ (wB o.1 = true ∨ o.2.2.2.2.2 = 0))
theorem bD (o : OpV) : (opC o).toArray[0 + 0]? = some (.int .i64 o.1) := rfl
theorem op_1 (o : OpV) : (opC o).toArray[0 + 1]? = some (.int .i64 o.2.1) := rfl
theorem op_2 (o : OpV) : (opC o).toArray[0 + 2]? = some (.int .i64 o.2.2.1) := rfl
theorem op_3 (o : OpV) : (opC o).toArray[0 + 3]? = some (.int .i64 o.2.2.2.1) := rfl
theorem op_4 (o : OpV) : (opC o).toArray[0 + 4]? = some (.int .u64 o.2.2.2.2.1) := rfl
theorem op_5 (o : OpV) : (opC o).toArray[0 + 5]? = some (.int .u64 o.2.2.2.2.2) := rfl
theorem form_0 (k : Int) : (formC k).toArray[0 + 0]? = some (.string (nameK k)) := rfl
theorem form_1 (k : Int) : (formC k).toArray[0 + 1]? = some (.int .i64 (ofK k)) := rfl
theorem form_2 (k : Int) : (formC k).toArray[0 + 2]? = some (.bool (nB k)) := rfl
theorem form_3 (k : Int) : (formC k).toArray[0 + 3]? = some (.bool (vB k)) := rfl
theorem form_4 (k : Int) : (formC k).toArray[0 + 4]? = some (.bool (wB k)) := rfl
theorem name_ne (k : Int) : (!((nameK k).toList == (({ data := #[] } : ByteArray)).toList)) = decide (1 ≤ k ∧ k ≤ 12) := by
  have e : (({ data := #[] } : ByteArray)).toList = [] := ByteArray.toList_mk []
  rw [e]
  rcases kind_cases k with rfl | rfl | rfl | rfl | rfl | rfl | rfl | rfl | rfl | rfl | rfl | rfl | h
  case inr.inr.inr.inr.inr.inr.inr.inr.inr.inr.inr.inr =>
    have := formC_out h
    have e2 : nameK k = { data := #[] } := by
      have h0 := congrArg (fun l : List Value => l[0]?) this
      simp [formC] at h0; exact h0
    rw [e2, e]
    have : ¬ (1 ≤ k ∧ k ≤ 12) := by omega
    simp [this]
  all_goals decide +kernel
theorem mayO_eq (o : OpV) {b : Bool} (h : ((1 ≤ o.1 ∧ o.1 ≤ 12) ∧ (0 ≤ o.2.1 ∧ o.2.1 ≤ frM o.1) ∧ (0 ≤ o.2.2.1 ∧ o.2.2.1 ≤ atM o.1) ∧ (0 ≤ o.2.2.2.1 ∧ o.2.2.2.1 ≤ nM o.1) ∧ (vB o.1 = true ∨ o.2.2.2.2.1 = 0) ∧ (wB o.1 = true ∨ o.2.2.2.2.2 = 0)) ↔ b = true) : mayO o = b := by
  unfold mayO
  cases b
  · exact decide_eq_false fun h' => by have := h.1 h'; cases this
  · exact decide_eq_true (h.2 rfl)
set_option maxHeartbeats 1000000 in
theorem l_opMay1 {w w0 : World} (hw0 : Chg [] w0 w) {o : OpV} {g1 g3 : Nat} (h1 : hp w g1 = some (.cells (opC o).toArray 40)) (h3 : hp w g3 = some (.cells (formC o.1).toArray 170)) :
    P60_1 (.pointer (some ⟨g1, 0, none⟩)) (.pointer (some ⟨g3, 0, none⟩)) (.int .i64 (frM o.1)) (.int .i64 (atM o.1)) (.int .i64 (nM o.1)) w fun v w' => v = .bool (mayO o) ∧ Chg [] w0 w' := by
  apply L60_1_ok
  by_cases k1 : 1 ≤ o.1 ∧ o.1 ≤ 12
  rotate_left
  · simp -implicitDefEqProofs only [L60_1, ad, ax, am, aM, aN, aQ, aR, av, ak, aJ, aK, aS, aT, ay, ap, aU, aV, aX, aY, ae, ac, aj, ag, z1z, z2z, z3z, z4z, aH, af, aD, aB, aC, aA, aE, aG, z5z, z6z, ah, z7z, z8z, au, fa_170_0, ld_9, h3, form_0, be_neqstr, name_ne, k1]
    exact ⟨by rw [mayO_eq o (b := false) ⟨fun h => absurd h.1 k1, fun h => by cases h⟩], hw0⟩
  simp -implicitDefEqProofs only [L60_1, ad, ax, am, aM, aN, aQ, aR, av, ak, aJ, aK, aS, aT, ay, ap, aU, aV, aX, aY, ae, ac, aj, ag, z1z, z2z, z3z, z4z, aH, af, aD, aB, aC, aA, aE, aG, z5z, z6z, ah, z7z, z8z, au, fa_170_0, ld_9, h3, form_0, be_neqstr, name_ne, decide_eq_true k1, fa_40_1, bj, h1, op_1]
  refine (c_within _ _ _).step ?_
  by_cases k2 : 0 ≤ o.2.1 ∧ o.2.1 ≤ frM o.1
  rotate_left
  · simp -implicitDefEqProofs only [decide_eq_false k2, ad, ax, am, aM, aN, aQ, aR, av, ak, aJ, aK, aS, aT, ay, ap, aU, aV, aX, aY, ae, ac, aj, ag, z1z, z2z, z3z, z4z, aH, af, aD, aB, aC, aA, aE, aG, z5z, z6z, ah, z7z, z8z, au]
    exact ⟨by rw [mayO_eq o (b := false) ⟨fun h => absurd h.2.1 k2, fun h => by cases h⟩], hw0⟩
  simp -implicitDefEqProofs only [decide_eq_true k2, ad, ax, am, aM, aN, aQ, aR, av, ak, aJ, aK, aS, aT, ay, ap, aU, aV, aX, aY, ae, ac, aj, ag, z1z, z2z, z3z, z4z, aH, af, aD, aB, aC, aA, aE, aG, z5z, z6z, ah, z7z, z8z, au, fa_40_2, bj, h1, op_2]
  refine (c_within _ _ _).step ?_
  by_cases k3 : 0 ≤ o.2.2.1 ∧ o.2.2.1 ≤ atM o.1
  rotate_left
  · simp -implicitDefEqProofs only [decide_eq_false k3, ad, ax, am, aM, aN, aQ, aR, av, ak, aJ, aK, aS, aT, ay, ap, aU, aV, aX, aY, ae, ac, aj, ag, z1z, z2z, z3z, z4z, aH, af, aD, aB, aC, aA, aE, aG, z5z, z6z, ah, z7z, z8z, au]
    exact ⟨by rw [mayO_eq o (b := false) ⟨fun h => absurd h.2.2.1 k3, fun h => by cases h⟩], hw0⟩
  simp -implicitDefEqProofs only [decide_eq_true k3, ad, ax, am, aM, aN, aQ, aR, av, ak, aJ, aK, aS, aT, ay, ap, aU, aV, aX, aY, ae, ac, aj, ag, z1z, z2z, z3z, z4z, aH, af, aD, aB, aC, aA, aE, aG, z5z, z6z, ah, z7z, z8z, au, bT, bj, h1, op_3]
  refine (c_within _ _ _).step ?_
  by_cases k4 : 0 ≤ o.2.2.2.1 ∧ o.2.2.2.1 ≤ nM o.1
  rotate_left
  · simp -implicitDefEqProofs only [decide_eq_false k4, ad, ax, am, aM, aN, aQ, aR, av, ak, aJ, aK, aS, aT, ay, ap, aU, aV, aX, aY, ae, ac, aj, ag, z1z, z2z, z3z, z4z, aH, af, aD, aB, aC, aA, aE, aG, z5z, z6z, ah, z7z, z8z, au]
    exact ⟨by rw [mayO_eq o (b := false) ⟨fun h => absurd h.2.2.2.1 k4, fun h => by cases h⟩], hw0⟩
  simp -implicitDefEqProofs only [decide_eq_true k4, ad, ax, am, aM, aN, aQ, aR, av, ak, aJ, aK, aS, aT, ay, ap, aU, aV, aX, aY, ae, ac, aj, ag, z1z, z2z, z3z, z4z, aH, af, aD, aB, aC, aA, aE, aG, z5z, z6z, ah, z7z, z8z, au, fa_170_3, ld_4, h3, form_3]
  have last : ∀ b : Bool, (vB o.1 = true ∨ o.2.2.2.2.1 = 0) → ((wB o.1 = true ∨ o.2.2.2.2.2 = 0) ↔ b = true) → mayO o = b := fun b h5 h6 => mayO_eq o ⟨fun h => h6.1 h.2.2.2.2.2, fun h => ⟨k1, k2, k3, k4, h5, h6.2 h⟩⟩
  have no5 : ¬ (vB o.1 = true ∨ o.2.2.2.2.1 = 0) → mayO o = false := fun h5 => mayO_eq o ⟨fun h => absurd h.2.2.2.2.1 h5, fun h => by cases h⟩
  cases hv : vB o.1 with
  | true =>
    rw [hv] at last
    cases hww : wB o.1 with
    | true =>
      rw [hww] at last
      simp -implicitDefEqProofs only [ad, ax, am, aM, aN, aQ, aR, av, ak, aJ, aK, aS, aT, ay, ap, aU, aV, aX, aY, ae, ac, aj, ag, z1z, z2z, z3z, z4z, aH, af, aD, aB, aC, aA, aE, aG, z5z, z6z, ah, z7z, z8z, au, fa_170_4, ld_4, h3, form_4, hww]
      exact ⟨by rw [last true (.inl rfl) (by simp)], hw0⟩
    | false =>
      rw [hww] at last
      simp -implicitDefEqProofs only [ad, ax, am, aM, aN, aQ, aR, av, ak, aJ, aK, aS, aT, ay, ap, aU, aV, aX, aY, ae, ac, aj, ag, z1z, z2z, z3z, z4z, aH, af, aD, aB, aC, aA, aE, aG, z5z, z6z, ah, z7z, z8z, au, fa_170_4, ld_4, h3, form_4, hww, fa_40_5, ld_38, h1, op_5]
      exact ⟨by rw [last (o.2.2.2.2.2 == 0) (.inl rfl) (by simp)], hw0⟩
  | false =>
    rw [hv] at last no5
    by_cases k5 : o.2.2.2.2.1 = 0
    rotate_left
    · simp -implicitDefEqProofs only [ad, ax, am, aM, aN, aQ, aR, av, ak, aJ, aK, aS, aT, ay, ap, aU, aV, aX, aY, ae, ac, aj, ag, z1z, z2z, z3z, z4z, aH, af, aD, aB, aC, aA, aE, aG, z5z, z6z, ah, z7z, z8z, au, fa_40_4, ld_38, h1, op_4, eqf k5]
      exact ⟨by rw [no5 (by simp [k5])], hw0⟩
    have k5' : (o.2.2.2.2.1 == 0) = true := by rw [k5]; rfl
    cases hww : wB o.1 with
    | true =>
      rw [hww] at last
      simp -implicitDefEqProofs only [ad, ax, am, aM, aN, aQ, aR, av, ak, aJ, aK, aS, aT, ay, ap, aU, aV, aX, aY, ae, ac, aj, ag, z1z, z2z, z3z, z4z, aH, af, aD, aB, aC, aA, aE, aG, z5z, z6z, ah, z7z, z8z, au, fa_40_4, ld_38, h1, op_4, k5', fa_170_4, ld_4, h3, form_4, hww]
      exact ⟨by rw [last true (.inr k5) (by simp)], hw0⟩
    | false =>
      rw [hww] at last
      simp -implicitDefEqProofs only [ad, ax, am, aM, aN, aQ, aR, av, ak, aJ, aK, aS, aT, ay, ap, aU, aV, aX, aY, ae, ac, aj, ag, z1z, z2z, z3z, z4z, aH, af, aD, aB, aC, aA, aE, aG, z5z, z6z, ah, z7z, z8z, au, fa_40_4, ld_38, h1, op_4, k5', fa_170_4, ld_4, h3, form_4, hww, fa_40_5, ld_38, h1, op_5]
      exact ⟨by rw [last (o.2.2.2.2.2 == 0) (.inr k5) (by simp)], hw0⟩
theorem c_opMay (o : OpV) (w : World) : CallR Try.prog 60 [.agg (opC o).toArray] w fun v w' => v = .bool (mayO o) ∧ Chg [] w w' := by
  apply F60_ok
  have h1 : hp (w.alloc (.cells (opC o).toArray 40)) w.heap.size = some (.cells (opC o).toArray 40) := by rw [bc, if_pos rfl]
  have hc1 : Chg [] w (w.alloc (.cells (opC o).toArray 40)) := (Chg.refl _ _).alloc _
  have hlt : w.heap.size < (w.alloc (.cells (opC o).toArray 40)).heap.size := by simp
  simp -implicitDefEqProofs only [F60, bE, bA, ad, ax, am, aM, aN, aQ, aR, av, ak, aJ, aK, aS, aT, ay, ap, aU, aV, aX, aY, ae, ac, aj, ag, z1z, z2z, z3z, z4z, aH, af, aD, aB, aC, aA, aE, aG, z5z, z6z, ah, z7z, z8z, au, bq, bj, h1, bD]
  generalize w.alloc (.cells (opC o).toArray 40) = w1 at *
  generalize hg : w.heap.size = g1 at *
  refine (c_formOf o.1 w1).mono ?_
  rintro v w2 ⟨rfl, hc2⟩
  simp -implicitDefEqProofs only [al_170]
  rw [st_170 (by rfl) (by rfl) (by rw [bc, if_pos rfl]; rfl) (by rw [bc, if_pos rfl]; rfl), bc, if_pos rfl]
  simp -implicitDefEqProofs only [bM]
  generalize hz : w2.alloc _ = wa
  have hca : Chg [] w2 wa := by rw [← hz]; exact (Chg.refl _ _).alloc _
  have hza : wa.heap.size = w2.heap.size + 1 := by rw [← hz]; simp
  have hcp : Chg [] w2 (put wa w2.heap.size (formC o.1).toArray 170) := hca.put (.inr (Nat.le_refl _)) _ _
  have h3 : hp (put wa w2.heap.size (formC o.1).toArray 170) w2.heap.size = some (.cells (formC o.1).toArray 170) := by rw [put_heap, if_pos rfl, if_pos (by omega)]
  have h1 := (hc2.trans hcp).at h1 (by simp)
  have hcc := (hc1.trans hc2).trans hcp
  clear hz hca hza hcp
  generalize put wa w2.heap.size (formC o.1).toArray 170 = w3 at *
  generalize w2.heap.size = g3 at *
  simp -implicitDefEqProofs only [ad, ax, am, aM, aN, aQ, aR, av, ak, aJ, aK, aS, aT, ay, ap, aU, aV, aX, aY, ae, ac, aj, ag, z1z, z2z, z3z, z4z, aH, af, aD, aB, aC, aA, aE, aG, z5z, z6z, ah, z7z, z8z, au, fa_170_1, bj, h3, form_1]
  have zero : ∀ f a : Int, f = frM o.1 → a = atM o.1 → P60_0 (.pointer (some ⟨g1, 0, none⟩)) (.pointer (some ⟨g3, 0, none⟩)) (.int .i64 f) (.int .i64 a) (.int .i64 0) w3 fun v w' => v = .bool (mayO o) ∧ Chg [] w w' := by
    intro f a hf ha
    subst hf; subst ha
    apply L60_0_ok
    by_cases k1 : o.1 = 1
    · have k1' : (o.1 == 1) = true := by rw [k1]; rfl
      have e : (3 : Int) = nM o.1 := by simp [nM, k1]
      simp -implicitDefEqProofs only [L60_0, ad, ax, am, aM, aN, aQ, aR, av, ak, aJ, aK, aS, aT, ay, ap, aU, aV, aX, aY, ae, ac, aj, ag, z1z, z2z, z3z, z4z, aH, af, aD, aB, aC, aA, aE, aG, z5z, z6z, ah, z7z, z8z, au, bq, bj, h1, bD, k1']
      rw [e]
      exact l_opMay1 hcc h1 h3
    · cases hn : nB o.1 with
      | true =>
        have e : (65535 : Int) = nM o.1 := by simp [nM, k1, hn]
        simp -implicitDefEqProofs only [L60_0, ad, ax, am, aM, aN, aQ, aR, av, ak, aJ, aK, aS, aT, ay, ap, aU, aV, aX, aY, ae, ac, aj, ag, z1z, z2z, z3z, z4z, aH, af, aD, aB, aC, aA, aE, aG, z5z, z6z, ah, z7z, z8z, au, bq, bj, h1, bD, eqf k1, fa_170_2, ld_4, h3, form_2, hn]
        rw [e]
        exact l_opMay1 hcc h1 h3
      | false =>
        have e : (0 : Int) = nM o.1 := by simp [nM, k1, hn]
        simp -implicitDefEqProofs only [L60_0, ad, ax, am, aM, aN, aQ, aR, av, ak, aJ, aK, aS, aT, ay, ap, aU, aV, aX, aY, ae, ac, aj, ag, z1z, z2z, z3z, z4z, aH, af, aD, aB, aC, aA, aE, aG, z5z, z6z, ah, z7z, z8z, au, bq, bj, h1, bD, eqf k1, fa_170_2, ld_4, h3, form_2, hn]
        have := l_opMay1 (w0 := w) hcc h1 h3
        rw [← e] at this
        exact this
  by_cases k : ofK o.1 = 0
  · have k' : (ofK o.1 != 0) = false := by rw [k]; rfl
    simp -implicitDefEqProofs only [k', ad, ax, am, aM, aN, aQ, aR, av, ak, aJ, aK, aS, aT, ay, ap, aU, aV, aX, aY, ae, ac, aj, ag, z1z, z2z, z3z, z4z, aH, af, aD, aB, aC, aA, aE, aG, z5z, z6z, ah, z7z, z8z, au]
    exact zero 0 0 (by simp [frM, k]) (by simp [atM, k])
  · simp -implicitDefEqProofs only [bne_iff_ne.2 k, ad, ax, am, aM, aN, aQ, aR, av, ak, aJ, aK, aS, aT, ay, ap, aU, aV, aX, aY, ae, ac, aj, ag, z1z, z2z, z3z, z4z, aH, af, aD, aB, aC, aA, aE, aG, z5z, z6z, ah, z7z, z8z, au]
    exact zero 63 999 (by simp [frM, k]) (by simp [atM, k])
set_option maxHeartbeats 1000000 in
theorem l_refMay {w : World} {o : OpV} {g1 : Nat} (h1 : hp w g1 = some (.cells (opC o).toArray 40)) :
    P53_0 (.pointer (some ⟨g1, 0, none⟩)) (.int .i64 (nM o.1)) w fun v w' => v = .bool (mayO o) ∧ w' = w := by
  apply L53_0_ok
  simp -implicitDefEqProofs only [L53_0, ad, ax, am, aM, aN, aQ, aR, av, ak, aJ, aK, aS, aT, ay, ap, aU, aV, aX, aY, ae, ac, aj, ag, z1z, z2z, z3z, z4z, aH, af, aD, aB, aC, aA, aE, aG, z5z, z6z, ah, z7z, z8z, au, bq, bj, h1, bD]
  refine (c_in18 _ _ _ _).step ?_
  have no : ¬ ((1 ≤ o.1 ∧ o.1 ≤ 12) ∧ (0 ≤ o.2.1 ∧ o.2.1 ≤ frM o.1) ∧ (0 ≤ o.2.2.1 ∧ o.2.2.1 ≤ atM o.1) ∧ (0 ≤ o.2.2.2.1 ∧ o.2.2.2.1 ≤ nM o.1) ∧ (vB o.1 = true ∨ o.2.2.2.2.1 = 0) ∧ (wB o.1 = true ∨ o.2.2.2.2.2 = 0)) → mayO o = false := fun h => mayO_eq o ⟨fun h' => absurd h' h, fun h => by cases h⟩
  by_cases k1 : 1 ≤ o.1 ∧ o.1 ≤ 12
  rotate_left
  · simp -implicitDefEqProofs only [decide_eq_false k1, ad, ax, am, aM, aN, aQ, aR, av, ak, aJ, aK, aS, aT, ay, ap, aU, aV, aX, aY, ae, ac, aj, ag, z1z, z2z, z3z, z4z, aH, af, aD, aB, aC, aA, aE, aG, z5z, z6z, ah, z7z, z8z, au]
    exact ⟨by rw [no fun h => k1 h.1], trivial⟩
  simp -implicitDefEqProofs only [decide_eq_true k1, ad, ax, am, aM, aN, aQ, aR, av, ak, aJ, aK, aS, aT, ay, ap, aU, aV, aX, aY, ae, ac, aj, ag, z1z, z2z, z3z, z4z, aH, af, aD, aB, aC, aA, aE, aG, z5z, z6z, ah, z7z, z8z, au, bT, bj, h1, op_3]
  refine (c_in18 _ _ _ _).step ?_
  by_cases k4 : 0 ≤ o.2.2.2.1 ∧ o.2.2.2.1 ≤ nM o.1
  rotate_left
  · simp -implicitDefEqProofs only [decide_eq_false k4, ad, ax, am, aM, aN, aQ, aR, av, ak, aJ, aK, aS, aT, ay, ap, aU, aV, aX, aY, ae, ac, aj, ag, z1z, z2z, z3z, z4z, aH, af, aD, aB, aC, aA, aE, aG, z5z, z6z, ah, z7z, z8z, au]
    exact ⟨by rw [no fun h => k4 h.2.2.2.1], trivial⟩
  simp -implicitDefEqProofs only [decide_eq_true k4, ad, ax, am, aM, aN, aQ, aR, av, ak, aJ, aK, aS, aT, ay, ap, aU, aV, aX, aY, ae, ac, aj, ag, z1z, z2z, z3z, z4z, aH, af, aD, aB, aC, aA, aE, aG, z5z, z6z, ah, z7z, z8z, au, bq, bj, h1, bD]
  refine (c_HasV _ _).step ?_
  have rest : (vB o.1 = true ∨ o.2.2.2.2.1 = 0) → (wB o.1 = true ∨ o.2.2.2.2.2 = 0) →
      (wpB (pureRun Try.prog (Instr.fieldAt 40 (.pointer (some ⟨g1, 0, none⟩)) 0)) fun t44 =>
       wpB (ldv Try.prog 3 t44 w) fun t45 =>
       CallR Try.prog 63 [t45] w fun t46 w1 =>
       wpB (be Try.prog .eql 3 (.tmp 46) (.const (.int .i64 0)) t46 (.int .i64 0)) fun t47 =>
       cnd t47
        (wpB (pureRun Try.prog (Instr.fieldAt 40 (.pointer (some ⟨g1, 0, none⟩)) 1)) fun t48 =>
         wpB (ldv Try.prog 3 t48 w1) fun t49 =>
         wpB (be Try.prog .eql 3 (.tmp 49) (.const (.int .i64 0)) t49 (.int .i64 0)) fun t50 =>
         wpB (gd t50 true (pureRun Try.prog (Instr.fieldAt 40 (.pointer (some ⟨g1, 0, none⟩)) 2))) fun t52 =>
         wpB (gd t50 true (ldv Try.prog 3 t52 w1)) fun t53 =>
         wpB (gd t50 true (be Try.prog .eql 3 (.tmp 53) (.const (.int .i64 0)) t53 (.int .i64 0))) fun t54 =>
         wpB (pickv t50 (some t54) (some (.bool false))) fun t55 => t55 = .bool (mayO o) ∧ w1 = w)
        (wpB (pureRun Try.prog (Instr.fieldAt 40 (.pointer (some ⟨g1, 0, none⟩)) 1)) fun t56 =>
         wpB (ldv Try.prog 3 t56 w1) fun t57 =>
         CallR Try.prog 66 [t57, .int .i64 0, .int .i64 63] w1 fun t58 w' =>
         wpB (gd t58 true (pureRun Try.prog (Instr.fieldAt 40 (.pointer (some ⟨g1, 0, none⟩)) 2))) fun t60 =>
         wpB (gd t58 true (ldv Try.prog 3 t60 w')) fun t61 =>
         gE t58 true (CallR Try.prog 66 [t61, .int .i64 0, .int .i64 999] w') (fun t62 w' =>
         wpB (pickv t58 (some t62) (some (.bool false))) fun t63 => t63 = .bool (mayO o) ∧ w' = w) w')) := by
    intro h5 h6
    simp -implicitDefEqProofs only [ad, ax, am, aM, aN, aQ, aR, av, ak, aJ, aK, aS, aT, ay, ap, aU, aV, aX, aY, ae, ac, aj, ag, z1z, z2z, z3z, z4z, aH, af, aD, aB, aC, aA, aE, aG, z5z, z6z, ah, z7z, z8z, au, bq, bj, h1, bD]
    refine (c_Of _ _).step ?_
    have fin : ∀ b : Bool, (((0 ≤ o.2.1 ∧ o.2.1 ≤ frM o.1) ∧ (0 ≤ o.2.2.1 ∧ o.2.2.1 ≤ atM o.1)) ↔ b = true) → mayO o = b := fun b h => mayO_eq o ⟨fun h' => h.1 ⟨h'.2.1, h'.2.2.1⟩, fun h' => ⟨k1, (h.2 h').1, (h.2 h').2, k4, h5, h6⟩⟩
    by_cases k : ofK o.1 = 0
    · have k' : (ofK o.1 == 0) = true := by rw [k]; rfl
      have ef : frM o.1 = 0 := by simp [frM, k]
      have ea : atM o.1 = 0 := by simp [atM, k]
      rw [ef, ea] at fin
      by_cases z1 : o.2.1 = 0
      · have z1' : (o.2.1 == 0) = true := by rw [z1]; rfl
        simp -implicitDefEqProofs only [k', ad, ax, am, aM, aN, aQ, aR, av, ak, aJ, aK, aS, aT, ay, ap, aU, aV, aX, aY, ae, ac, aj, ag, z1z, z2z, z3z, z4z, aH, af, aD, aB, aC, aA, aE, aG, z5z, z6z, ah, z7z, z8z, au, fa_40_1, fa_40_2, bj, h1, op_1, op_2, z1']
        exact ⟨by rw [fin (o.2.2.1 == 0) (by simp; omega)], trivial⟩
      · simp -implicitDefEqProofs only [k', ad, ax, am, aM, aN, aQ, aR, av, ak, aJ, aK, aS, aT, ay, ap, aU, aV, aX, aY, ae, ac, aj, ag, z1z, z2z, z3z, z4z, aH, af, aD, aB, aC, aA, aE, aG, z5z, z6z, ah, z7z, z8z, au, fa_40_1, fa_40_2, bj, h1, op_1, op_2, eqf z1]
        exact ⟨by rw [fin false (by simp; omega)], trivial⟩
    · have ef : frM o.1 = 63 := by simp [frM, k]
      have ea : atM o.1 = 999 := by simp [atM, k]
      rw [ef, ea] at fin
      simp -implicitDefEqProofs only [eqf k, ad, ax, am, aM, aN, aQ, aR, av, ak, aJ, aK, aS, aT, ay, ap, aU, aV, aX, aY, ae, ac, aj, ag, z1z, z2z, z3z, z4z, aH, af, aD, aB, aC, aA, aE, aG, z5z, z6z, ah, z7z, z8z, au, fa_40_1, fa_40_2, bj, h1, op_1, op_2]
      refine (c_in18 _ _ _ _).step ?_
      by_cases z1 : 0 ≤ o.2.1 ∧ o.2.1 ≤ 63
      · simp -implicitDefEqProofs only [decide_eq_true z1, ad, ax, am, aM, aN, aQ, aR, av, ak, aJ, aK, aS, aT, ay, ap, aU, aV, aX, aY, ae, ac, aj, ag, z1z, z2z, z3z, z4z, aH, af, aD, aB, aC, aA, aE, aG, z5z, z6z, ah, z7z, z8z, au, fa_40_2, bj, h1, op_2]
        refine (c_in18 _ _ _ _).step ?_
        simp -implicitDefEqProofs only [ad, ax, am, aM, aN, aQ, aR, av, ak, aJ, aK, aS, aT, ay, ap, aU, aV, aX, aY, ae, ac, aj, ag, z1z, z2z, z3z, z4z, aH, af, aD, aB, aC, aA, aE, aG, z5z, z6z, ah, z7z, z8z, au]
        exact ⟨by rw [fin (decide (0 ≤ o.2.2.1 ∧ o.2.2.1 ≤ 999)) (by simp; omega)], trivial⟩
      · simp -implicitDefEqProofs only [decide_eq_false z1, ad, ax, am, aM, aN, aQ, aR, av, ak, aJ, aK, aS, aT, ay, ap, aU, aV, aX, aY, ae, ac, aj, ag, z1z, z2z, z3z, z4z, aH, af, aD, aB, aC, aA, aE, aG, z5z, z6z, ah, z7z, z8z, au]
        exact ⟨by rw [fin false (by simp; omega)], trivial⟩
  simp -implicitDefEqProofs only [ad, ax, am, aM, aN, aQ, aR, av, ak, aJ, aK, aS, aT, ay, ap, aU, aV, aX, aY, ae, ac, aj, ag, z1z, z2z, z3z, z4z, aH, af, aD, aB, aC, aA, aE, aG, z5z, z6z, ah, z7z, z8z, au, bq, bj, h1, bD] at rest
  have wq : wB o.1 = decide (o.1 = 9) := rfl
  have six : (vB o.1 = true ∨ o.2.2.2.2.1 = 0) → (o.1 = 9 ∨ o.2.2.2.2.2 = 0 → wB o.1 = true ∨ o.2.2.2.2.2 = 0) := fun _ h => by rw [wq]; simpa using h
  by_cases k9 : o.1 = 9
  · have k9' : (o.1 != 9) = false := by rw [k9]; rfl
    have hv : vB o.1 = true := by rw [k9]; decide
    rw [hv]
    have := rest (.inl hv) (.inl (by rw [wq]; simpa using k9))
    simp -implicitDefEqProofs only [ad, ax, am, aM, aN, aQ, aR, av, ak, aJ, aK, aS, aT, ay, ap, aU, aV, aX, aY, ae, ac, aj, ag, z1z, z2z, z3z, z4z, aH, af, aD, aB, aC, aA, aE, aG, z5z, z6z, ah, z7z, z8z, au, bq, bj, h1, bD, k9']
    exact this
  · cases hv : vB o.1 with
    | true =>
      by_cases k5 : o.2.2.2.2.2 = 0
      · have k5' : (o.2.2.2.2.2 != 0) = false := by rw [k5]; rfl
        have := rest (.inl hv) (.inr k5)
        simp -implicitDefEqProofs only [ad, ax, am, aM, aN, aQ, aR, av, ak, aJ, aK, aS, aT, ay, ap, aU, aV, aX, aY, ae, ac, aj, ag, z1z, z2z, z3z, z4z, aH, af, aD, aB, aC, aA, aE, aG, z5z, z6z, ah, z7z, z8z, au, bq, fa_40_5, bj, ld_38, h1, bD, op_5, bne_iff_ne.2 k9, k5']
        exact this
      · simp -implicitDefEqProofs only [ad, ax, am, aM, aN, aQ, aR, av, ak, aJ, aK, aS, aT, ay, ap, aU, aV, aX, aY, ae, ac, aj, ag, z1z, z2z, z3z, z4z, aH, af, aD, aB, aC, aA, aE, aG, z5z, z6z, ah, z7z, z8z, au, bq, fa_40_5, bj, ld_38, h1, bD, op_5, bne_iff_ne.2 k9, bne_iff_ne.2 k5]
        exact ⟨by rw [no fun h => by have := h.2.2.2.2.2; rw [wq] at this; simp [k9, k5] at this], trivial⟩
    | false =>
      by_cases k6 : o.2.2.2.2.1 = 0
      · have k6' : (o.2.2.2.2.1 != 0) = false := by rw [k6]; rfl
        by_cases k5 : o.2.2.2.2.2 = 0
        · have k5' : (o.2.2.2.2.2 != 0) = false := by rw [k5]; rfl
          have := rest (.inr k6) (.inr k5)
          simp -implicitDefEqProofs only [ad, ax, am, aM, aN, aQ, aR, av, ak, aJ, aK, aS, aT, ay, ap, aU, aV, aX, aY, ae, ac, aj, ag, z1z, z2z, z3z, z4z, aH, af, aD, aB, aC, aA, aE, aG, z5z, z6z, ah, z7z, z8z, au, bq, fa_40_4, fa_40_5, bj, ld_38, h1, bD, op_4, op_5, bne_iff_ne.2 k9, k5', k6']
          exact this
        · simp -implicitDefEqProofs only [ad, ax, am, aM, aN, aQ, aR, av, ak, aJ, aK, aS, aT, ay, ap, aU, aV, aX, aY, ae, ac, aj, ag, z1z, z2z, z3z, z4z, aH, af, aD, aB, aC, aA, aE, aG, z5z, z6z, ah, z7z, z8z, au, bq, fa_40_4, fa_40_5, bj, ld_38, h1, bD, op_4, op_5, bne_iff_ne.2 k9, bne_iff_ne.2 k5, k6']
          exact ⟨by rw [no fun h => by have := h.2.2.2.2.2; rw [wq] at this; simp [k9, k5] at this], trivial⟩
      · simp -implicitDefEqProofs only [ad, ax, am, aM, aN, aQ, aR, av, ak, aJ, aK, aS, aT, ay, ap, aU, aV, aX, aY, ae, ac, aj, ag, z1z, z2z, z3z, z4z, aH, af, aD, aB, aC, aA, aE, aG, z5z, z6z, ah, z7z, z8z, au, bq, fa_40_4, bj, ld_38, h1, bD, op_4, bne_iff_ne.2 k6]
        exact ⟨by rw [no fun h => by have := h.2.2.2.2.1; rw [hv] at this; simp [k6] at this], trivial⟩
theorem c_refMay (o : OpV) (w : World) : CallR Try.prog 53 [.agg (opC o).toArray] w fun v w' => v = .bool (mayO o) ∧ Chg [] w w' := by
  apply F53_ok
  have h1 : hp (w.alloc (.cells (opC o).toArray 40)) w.heap.size = some (.cells (opC o).toArray 40) := by rw [bc, if_pos rfl]
  have hc1 : Chg [] w (w.alloc (.cells (opC o).toArray 40)) := (Chg.refl _ _).alloc _
  have fin : P53_0 (.pointer (some ⟨w.heap.size, 0, none⟩)) (.int .i64 (nM o.1)) (w.alloc (.cells (opC o).toArray 40)) fun v w' => v = .bool (mayO o) ∧ Chg [] w w' := by
    have := l_refMay h1
    exact Part.mono this fun v w' ⟨h, e⟩ => ⟨h, by rw [e]; exact hc1⟩
  by_cases k1 : o.1 = 1
  · have k1' : (o.1 == 1) = true := by rw [k1]; rfl
    have e : nM o.1 = 3 := by simp [nM, k1]
    simp -implicitDefEqProofs only [F53, bE, bA, ad, ax, am, aM, aN, aQ, aR, av, ak, aJ, aK, aS, aT, ay, ap, aU, aV, aX, aY, ae, ac, aj, ag, z1z, z2z, z3z, z4z, aH, af, aD, aB, aC, aA, aE, aG, z5z, z6z, ah, z7z, z8z, au, bq, bj, h1, bD, k1']
    rw [e] at fin
    exact fin
  · simp -implicitDefEqProofs only [F53, bE, bA, ad, ax, am, aM, aN, aQ, aR, av, ak, aJ, aK, aS, aT, ay, ap, aU, aV, aX, aY, ae, ac, aj, ag, z1z, z2z, z3z, z4z, aH, af, aD, aB, aC, aA, aE, aG, z5z, z6z, ah, z7z, z8z, au, bq, bj, h1, bD, eqf k1]
    refine (c_HasN _ _).step ?_
    cases hn : nB o.1 with
    | true =>
      have e : nM o.1 = 65535 := by simp [nM, k1, hn]
      rw [e] at fin
      simp -implicitDefEqProofs only [ad, ax, am, aM, aN, aQ, aR, av, ak, aJ, aK, aS, aT, ay, ap, aU, aV, aX, aY, ae, ac, aj, ag, z1z, z2z, z3z, z4z, aH, af, aD, aB, aC, aA, aE, aG, z5z, z6z, ah, z7z, z8z, au]
      exact fin
    | false =>
      have e : nM o.1 = 0 := by simp [nM, k1, hn]
      rw [e] at fin
      simp -implicitDefEqProofs only [ad, ax, am, aM, aN, aQ, aR, av, ak, aJ, aK, aS, aT, ay, ap, aU, aV, aX, aY, ae, ac, aj, ag, z1z, z2z, z3z, z4z, aH, af, aD, aB, aC, aA, aE, aG, z5z, z6z, ah, z7z, z8z, au]
      exact fin
end Go.Proofs.Ytgamnncehjcdiaa

namespace Go.Proofs.Ytgamnncehjcdiaa
open Go Ev Go.RowKit

theorem tmod_cases2 (a m : Int) (hm : 0 < m) : (0 ≤ a.tmod m ∧ a.tmod m = a % m) ∨ (a.tmod m < 0 ∧ a.tmod m + m = a % m) := by
  have h1 := Int.emod_lt_of_pos a hm
  have h2 := Int.emod_nonneg a (b := m) (by omega)
  rcases Int.lt_or_le a 0 with h | h
  · have h5 := Int.tmod_eq_emod (a := a) (b := m)
    by_cases hd : 0 ≤ a ∨ m ∣ a
    · rw [if_pos hd] at h5
      left; omega
    · rw [if_neg hd] at h5
      have h6 : (m.natAbs : Int) = m := by omega
      rw [h6] at h5
      right; omega
  · left
    rw [Int.tmod_eq_emod_of_nonneg h]; omega
theorem c_Number (a m : Int) (w : World) (hm : 0 < m) (hm2 : m ≤ 4611686018427387904) : CallR Try.prog 22 [.int .i64 a, .int .i64 m] w fun v w' => v = .int .i64 (a % m) ∧ w' = w := by
  apply F22_ok
  have hlt := Int.emod_lt_of_pos a hm
  have hge := Int.emod_nonneg a (b := m) (by omega)
  simp -implicitDefEqProofs only [F22, bp_rem (show m ≠ 0 by omega), ad, ax, am, aM, aN, aQ, aR, av, ak, aJ, aK, aS, aT, ay, ap, aU, aV, aX, aY, ae, ac, aj, ag, z1z, z2z, z3z, z4z, aH, af, aD, aB, aC, aA, aE, aG, z5z, z6z, ah, z7z, z8z, au]
  rcases tmod_cases2 a m hm with ⟨h1, h2⟩ | ⟨h1, h2⟩
  · simp -implicitDefEqProofs only [show ¬ a.tmod m < 0 by omega, ad, ax, am, aM, aN, aQ, aR, av, ak, aJ, aK, aS, aT, ay, ap, aU, aV, aX, aY, ae, ac, aj, ag, z1z, z2z, z3z, z4z, aH, af, aD, aB, aC, aA, aE, aG, z5z, z6z, ah, z7z, z8z, au]
    apply L22_0_ok
    simp -implicitDefEqProofs only [L22_0, h2, and_self]
  · simp -implicitDefEqProofs only [h1, ad, ax, am, aM, aN, aQ, aR, av, ak, aJ, aK, aS, aT, ay, ap, aU, aV, aX, aY, ae, ac, aj, ag, z1z, z2z, z3z, z4z, aH, af, aD, aB, aC, aA, aE, aG, z5z, z6z, ah, z7z, z8z, au, bG]
    apply L22_0_ok
    simp -implicitDefEqProofs only [L22_0, h2, bC (n := a % m) (by omega) (by omega), and_self]
end Go.Proofs.Ytgamnncehjcdiaa

namespace Go.Proofs.Ytgamnncehjcdiaa.Ev
open Go Go.RowKit

abbrev Fp := Nat → Prop
def FDis (F G : Fp) : Prop := ∀ k, F k → G k → False
def none' : Fp := fun _ => False
structure ChgP (F : Fp) (w w' : World) : Prop where
  os : w'.os = w.os
  tape : w'.tape = w.tape
  output : w'.output = w.output
  size : w.heap.size ≤ w'.heap.size
  block : ∀ k, k < w.heap.size → ¬ F k → hp w' k = hp w k
structure UpdP (F F' : Fp) (w w' : World) : Prop where
  chg : ChgP F w w'
  sub : ∀ k, F' k → F k ∨ w.heap.size ≤ k
theorem ChgP.refl (F : Fp) (w : World) : ChgP F w w := ⟨rfl, rfl, rfl, Nat.le_refl _, fun _ _ _ => rfl⟩
theorem ChgP.mono {F G : Fp} {w w' : World} (h : ChgP F w w') (hs : ∀ k, F k → G k) : ChgP G w w' := ⟨h.os, h.tape, h.output, h.size, fun k hk hn => h.block k hk fun hm => hn (hs k hm)⟩
theorem ChgP.of {S : List Nat} {w w' : World} (h : Chg S w w') : ChgP (· ∈ S) w w' := ⟨h.os, h.tape, h.output, h.size, fun k hk hn => h.block k hk hn⟩
theorem ChgP.of0 {w w' : World} (h : Chg [] w w') (F : Fp) : ChgP F w w' := ⟨h.os, h.tape, h.output, h.size, fun k hk _ => h.block k hk (by simp)⟩
theorem UpdP.refl (F : Fp) (w : World) : UpdP F F w w := ⟨ChgP.refl _ _, fun k hk => .inl hk⟩
theorem UpdP.trans {F G H : Fp} {a b c : World} (h : UpdP F G a b) (k : UpdP G H b c) : UpdP F H a c :=
  ⟨⟨k.chg.os.trans h.chg.os, k.chg.tape.trans h.chg.tape, k.chg.output.trans h.chg.output, Nat.le_trans h.chg.size k.chg.size, fun i hi hn =>
    (k.chg.block i (Nat.lt_of_lt_of_le hi h.chg.size) fun hg => by rcases h.sub i hg with h1 | h1; exact hn h1; omega).trans (h.chg.block i hi hn)⟩,
   fun i hi => by
    rcases k.sub i hi with h1 | h1
    · exact h.sub i h1
    · exact .inr (Nat.le_trans h.chg.size h1)⟩
theorem UpdP.of0 {F : Fp} {a b : World} (k : Chg [] a b) : UpdP F F a b := ⟨ChgP.of0 k F, fun i hi => .inl hi⟩
theorem ChgP.at {F : Fp} {w w' : World} (h : ChgP F w w') {b : Nat} {o : Obj} (hb : hp w b = some o) (hn : ¬ F b) : hp w' b = some o := by rw [h.block b (bz hb) hn]; exact hb
theorem ChgP.row {F : Fp} {w w' : World} {base : Nat} {e : TypeId} {z : Nat} {v : Value} {n : Nat} {xs : List Value} (h : w.ownsRow base e z v n xs) (hc : ChgP F w w') (hn : ∀ k, v.ownBlock = some k → ¬ F k) : w'.ownsRow base e z v n xs := by
  refine ⟨h.1, h.2.imp id fun ⟨g, cap, cur, h1, h2, h3, h4⟩ => ⟨g, cap, cur, h1, h2, ?_, h4⟩⟩
  exact hc.at h3 (hn g (by rw [h1]; rfl))
abbrev Th := World → Fp → Value → Prop
structure OwnT (P : Th) : Prop where
  frame : ∀ {w w' : World} {F G : Fp} {v : Value}, P w F v → ChgP G w w' → FDis F G → P w' F v
  lt : ∀ {w : World} {F : Fp} {v : Value}, P w F v → ∀ k, F k → k < w.heap.size
  one : ∀ {w : World} {F : Fp} {v : Value}, P w F v → v.cells = #[v] ∧ v.oneCell' = true
def isV (u : Value) : Th := fun _ F v => v = u ∧ ∀ k, ¬ F k
theorem good_isV {u : Value} (h : u.cells = #[u] ∧ u.oneCell' = true) : OwnT (isV u) :=
  ⟨fun h _ _ => h, fun h k hk => absurd hk (h.2 k), fun h' => by rw [h'.1]; exact h⟩
structure Parts (w : World) (Ps : List Th) (xs : List Value) (Fs : Nat → Fp) : Prop where
  len : Ps.length = xs.length
  each : ∀ (k : Nat) (P : Th) (v : Value), Ps[k]? = some P → xs[k]? = some v → P w (Fs k) v
  dis : ∀ j k, j < Ps.length → k < Ps.length → j ≠ k → FDis (Fs j) (Fs k)
def under (n : Nat) (Fs : Nat → Fp) : Fp := fun b => ∃ k, k < n ∧ Fs k b
def fset (Fs : Nat → Fp) (k : Nat) (F : Fp) : Nat → Fp := fun j => if j = k then F else Fs j
theorem Parts.frame {w w' : World} {Ps : List Th} {xs : List Value} {Fs : Nat → Fp} {G : Fp} (h : Parts w Ps xs Fs) (hg : ∀ P ∈ Ps, OwnT P) (hc : ChgP G w w') (hd : FDis (under Ps.length Fs) G) : Parts w' Ps xs Fs :=
  ⟨h.len, fun k P v hP hv => (hg P (List.mem_of_getElem? hP)).frame (h.each k P v hP hv) hc fun b h1 h2 => hd b ⟨k, (List.getElem?_eq_some_iff.1 hP).1, h1⟩ h2, h.dis⟩
theorem Parts.lt {w : World} {Ps : List Th} {xs : List Value} {Fs : Nat → Fp} (h : Parts w Ps xs Fs) (hg : ∀ P ∈ Ps, OwnT P) : ∀ b, under Ps.length Fs b → b < w.heap.size := fun b ⟨k, hk, hb⟩ => by
  obtain ⟨P, hP⟩ : ∃ P, Ps[k]? = some P := ⟨_, List.getElem?_eq_getElem hk⟩
  obtain ⟨v, hv⟩ : ∃ v, xs[k]? = some v := ⟨_, List.getElem?_eq_getElem (by rw [← h.len]; exact hk)⟩
  exact (hg P (List.mem_of_getElem? hP)).lt (h.each k P v hP hv) b hb
theorem Parts.set {w w' : World} {Ps : List Th} {xs : List Value} {Fs : Nat → Fp} {k : Nat} {F' : Fp} {P' : Th} {v' : Value} (h : Parts w Ps xs Fs) (hg : ∀ P ∈ Ps, OwnT P) (hk : k < Ps.length) (u : UpdP (Fs k) F' w w') (hv : P' w' F' v') :
    Parts w' (Ps.set k P') (xs.set k v') (fset Fs k F') := by
  have apart : ∀ j, j < Ps.length → j ≠ k → FDis (Fs j) F' := fun j hj hne b h1 h2 => by
    rcases u.sub b h2 with h3 | h3
    · exact h.dis j k hj hk hne b h1 h3
    · have := h.lt hg b ⟨j, hj, h1⟩; omega
  refine ⟨by simp [h.len], fun j P v hP hv' => ?_, fun i j hi hj hij => ?_⟩
  · rw [List.getElem?_set] at hP hv'
    by_cases hjk : k = j
    · subst hjk
      rw [if_pos rfl, if_pos hk] at hP
      rw [if_pos rfl, if_pos (by rw [← h.len]; exact hk)] at hv'
      cases hP; cases hv'
      simpa [fset] using hv
    · rw [if_neg hjk] at hP hv'
      have hj := (List.getElem?_eq_some_iff.1 hP).1
      simp only [fset, if_neg (Ne.symm hjk)]
      exact (hg P (List.mem_of_getElem? hP)).frame (h.each j P v hP hv') u.chg (h.dis j k hj hk (Ne.symm hjk))
  · simp only [List.length_set] at hi hj
    unfold fset
    by_cases h1 : i = k
    · rw [if_pos h1, if_neg (by omega)]
      exact fun b a c => apart j hj (by omega) b c a
    · rw [if_neg h1]
      by_cases h2 : j = k
      · rw [if_pos h2]; exact apart i hi h1
      · rw [if_neg h2]; exact h.dis i j hi hj hij
theorem under_set {n k : Nat} {Fs : Nat → Fp} {F' : Fp} (b : Nat) (h : under n (fset Fs k F') b) : F' b ∨ under n Fs b := by
  obtain ⟨j, hj, hb⟩ := h
  unfold fset at hb
  split at hb
  · exact .inl hb
  · exact .inr ⟨j, hj, hb⟩
theorem Parts.app {w : World} {Ps Qs : List Th} {xs ys : List Value} {Fs Gs : Nat → Fp} (h : Parts w Ps xs Fs) (k : Parts w Qs ys Gs) (hd : FDis (under Ps.length Fs) (under Qs.length Gs)) :
    Parts w (Ps ++ Qs) (xs ++ ys) fun j => if j < Ps.length then Fs j else Gs (j - Ps.length) := by
  refine ⟨by simp [h.len, k.len], fun j P v hP hv => ?_, fun i j hi hj hij => ?_⟩
  · by_cases hj : j < Ps.length
    · rw [List.getElem?_append_left hj] at hP
      rw [List.getElem?_append_left (by rw [← h.len]; exact hj)] at hv
      simp only [if_pos hj]
      exact h.each j P v hP hv
    · rw [List.getElem?_append_right (by omega)] at hP
      rw [List.getElem?_append_right (by rw [← h.len]; omega), ← h.len] at hv
      simp only [if_neg hj]
      exact k.each _ P v hP hv
  · simp only [List.length_append] at hi hj
    by_cases h1 : i < Ps.length
    · by_cases h2 : j < Ps.length
      · simp only [if_pos h1, if_pos h2]; exact h.dis i j h1 h2 hij
      · simp only [if_pos h1, if_neg h2]
        exact fun b a c => hd b ⟨i, h1, a⟩ ⟨_, by omega, c⟩
    · by_cases h2 : j < Ps.length
      · simp only [if_neg h1, if_pos h2]
        exact fun b a c => hd b ⟨j, h2, c⟩ ⟨_, by omega, a⟩
      · simp only [if_neg h1, if_neg h2]
        exact k.dis _ _ (by omega) (by omega) (by omega)
theorem under_app {n m : Nat} {Fs Gs : Nat → Fp} (b : Nat) : under (n + m) (fun j => if j < n then Fs j else Gs (j - n)) b ↔ under n Fs b ∨ under m Gs b := by
  constructor
  · rintro ⟨j, hj, hb⟩
    by_cases h : j < n
    · rw [if_pos h] at hb; exact .inl ⟨j, h, hb⟩
    · rw [if_neg h] at hb; exact .inr ⟨j - n, by omega, hb⟩
  · rintro (⟨j, hj, hb⟩ | ⟨j, hj, hb⟩)
    · exact ⟨j, by omega, by simp only [if_pos hj]; exact hb⟩
    · exact ⟨n + j, by omega, by simp only [if_neg (show ¬ n + j < n by omega), Nat.add_sub_cancel_left]; exact hb⟩
def isRow (e : TypeId) (z n : Nat) (Ps : List Th) : Th := fun w F x => ∃ (xs : List Value) (Fs : Nat → Fp), w.ownsRow 0 e z x n xs ∧ Parts w Ps xs Fs ∧ (∀ b, under Ps.length Fs b → x.ownBlock ≠ some b) ∧ ∀ b, F b ↔ x.ownBlock = some b ∨ under Ps.length Fs b
theorem good_isRow {e : TypeId} {z n : Nat} {Ps : List Th} (hg : ∀ P ∈ Ps, OwnT P) : OwnT (isRow e z n Ps) := by
  refine ⟨fun ⟨xs, Fs, h1, h2, h3, h4⟩ hc hd => ⟨xs, Fs, hc.row h1 fun k hk hG => hd k ((h4 k).2 (.inl hk)) hG, h2.frame hg hc fun b a c => hd b ((h4 b).2 (.inr a)) c, h3, h4⟩, fun ⟨xs, Fs, h1, h2, h3, h4⟩ k hk => ?_, fun ⟨xs, Fs, h1, _⟩ => ?_⟩
  · rcases (h4 k).1 hk with h | h
    · exact (h1.lt k h).2
    · exact h2.lt hg k h
  · rcases h1.2 with ⟨rfl, _⟩ | ⟨g, cap, cur, rfl, _⟩ <;> exact ⟨rfl, rfl⟩
theorem isRow.nil {e : TypeId} {z : Nat} {w : World} : isRow e z 0 [] w none' (.slice none 0 0) :=
  ⟨[], fun _ => none', World.ownsRow_nil _ _ _ _, ⟨rfl, fun k P v h => by simp at h, fun j k h => by simp at h⟩, fun b ⟨k, hk, _⟩ => by simp at hk, fun b => ⟨fun h => h.elim, fun h => by rcases h with h | ⟨k, hk, _⟩; cases h; simp at hk⟩⟩
theorem ChgP.put (w : World) (g : Nat) (c : Array Value) (e : TypeId) : ChgP (fun b => b = g) w (Ev.put w g c e) := (ChgP.of (S := [g]) ((Chg.refl _ _).put (.inl (by simp)) c e)).mono fun k hk => by simpa using hk
theorem UpdP.put {F F' : Fp} {w w1 : World} (u : UpdP F F' w w1) {g : Nat} (hg : F' g) (c : Array Value) (e : TypeId) : UpdP F F' w (Ev.put w1 g c e) :=
  u.trans ⟨(ChgP.put w1 g c e).mono fun k hk => by rw [hk]; exact hg, fun k hk => .inl hk⟩
theorem set_same {α : Type} {l : List α} {k : Nat} {v : α} (h : l[k]? = some v) : l.set k v = l := by
  apply List.ext_getElem?
  intro j
  rw [List.getElem?_set]
  split
  · rename_i e; subst e
    rw [if_pos (List.getElem?_eq_some_iff.1 h).1, h]
  · rfl
theorem isRow.turn {e : TypeId} {z n : Nat} {Ps : List Th} {w w1 : World} {F F' : Fp} {x v : Value} {xs : List Value} {Fs : Nat → Fp} {k : Nat} {P' : Th} (h1 : w.ownsRow 0 e z x n xs) (h2 : Parts w Ps xs Fs) (h3 : ∀ b, under Ps.length Fs b → x.ownBlock ≠ some b) (h4 : ∀ b, F b ↔ x.ownBlock = some b ∨ under Ps.length Fs b)
    (hg : ∀ P ∈ Ps, OwnT P) (hk : k < Ps.length) (u : UpdP (Fs k) F' w w1) (hv : P' w1 F' v) :
    w1.ownsRow 0 e z x n xs ∧ Parts w1 (Ps.set k P') (xs.set k v) (fset Fs k F') ∧ (∀ b, under (Ps.set k P').length (fset Fs k F') b → x.ownBlock ≠ some b) ∧ UpdP F (fun b => x.ownBlock = some b ∨ under (Ps.set k P').length (fset Fs k F') b) w w1 := by
  refine ⟨u.chg.row h1 fun b hb hf => h3 b ⟨k, hk, hf⟩ hb, h2.set hg hk u hv, fun b hb hx => ?_, u.chg.mono fun b hb => (h4 b).2 (.inr ⟨k, hk, hb⟩), fun b hb => ?_⟩
  · rw [List.length_set] at hb
    rcases under_set b hb with h | h
    · rcases u.sub b h with h5 | h5
      · exact h3 b ⟨k, hk, h5⟩ hx
      · have := (h1.lt b hx).2; omega
    · exact h3 b h hx
  · rcases hb with hb | hb
    · exact .inl ((h4 b).2 (.inl hb))
    · rw [List.length_set] at hb
      rcases under_set b hb with h | h
      · rcases u.sub b h with h5 | h5
        · exact .inl ((h4 b).2 (.inr ⟨k, hk, h5⟩))
        · exact .inr h5
      · exact .inl ((h4 b).2 (.inr h))
theorem isRow.cell {e : TypeId} {z n : Nat} {Ps : List Th} {w : World} {F : Fp} {x : Value} (h : isRow e z n Ps w F x) (hg : ∀ P ∈ Ps, OwnT P) {k : Nat} {P : Th} (hP : Ps[k]? = some P) :
    ∃ (g c : Nat) (v : Value) (Fk : Fp), x = .slice (some ⟨g, 0, none⟩) n c ∧ F g ∧ ¬ Fk g ∧ (∀ b, Fk b → F b) ∧ ldC (hp w g) k = some v ∧ P w Fk v ∧
      (∀ w1 F' P', UpdP Fk F' w w1 → P' w1 F' v → ∃ F1, isRow e z n (Ps.set k P') w1 F1 x ∧ UpdP F F1 w w1) ∧
      (∀ w1 F' P' v', UpdP Fk F' w w1 → OwnT P' → P' w1 F' v' → okC (hp w1 g) (k + 1) = true ∧ ∃ F1, isRow e z n (Ps.set k P') (put w1 g ((getC (hp w1 g)).setIfInBounds k v') (getE (hp w1 g))) F1 x ∧ UpdP F F1 w (put w1 g ((getC (hp w1 g)).setIfInBounds k v') (getE (hp w1 g)))) := by
  obtain ⟨xs, Fs, h1, h2, h3, h4⟩ := h
  have hk := (List.getElem?_eq_some_iff.1 hP).1
  have hkx : k < xs.length := by rw [← h2.len]; exact hk
  obtain ⟨v, hv⟩ : ∃ v, xs[k]? = some v := ⟨_, List.getElem?_eq_getElem hkx⟩
  have hnz := h1.1
  obtain ⟨g, cap, hx, hld⟩ : ∃ g cap, x = .slice (some ⟨g, 0, none⟩) n cap ∧ ldC (hp w g) k = some v := by
    rcases h1.2 with ⟨rfl, h0⟩ | ⟨g, cap, cur, rfl, hbg, hgc, hnc, hcm, hcs, htake⟩
    · subst h0; omega
    · refine ⟨g, cap, rfl, ?_⟩
      have hg' : hp w g = some (.cells cur e (0, 0)) := hgc
      rw [hg', ah]
      have := hv
      rw [← htake, List.getElem?_take, if_pos (by omega)] at this
      simpa using this
  subst hx
  have hown : (Value.slice (some ⟨g, 0, none⟩) n cap).ownBlock = some g := rfl
  refine ⟨g, cap, v, Fs k, rfl, (h4 g).2 (.inl hown), fun hf => h3 g ⟨k, hk, hf⟩ hown, fun b hb => (h4 b).2 (.inr ⟨k, hk, hb⟩), hld, h2.each k P v hP hv, fun w1 F' P' u hp' => ?_, fun w1 F' P' v' u hgp hp' => ?_⟩
  · obtain ⟨a, b, c, d⟩ := isRow.turn h1 h2 h3 h4 hg hk u hp'
    rw [set_same hv] at b
    exact ⟨_, ⟨xs, _, a, b, c, fun _ => Iff.rfl⟩, d⟩
  · obtain ⟨a, b, c, d⟩ := isRow.turn h1 h2 h3 h4 hg hk u hp'
    obtain ⟨p1, p2⟩ := ownsRow_put (vs := [v']) a hown (o := k) (by simp; omega)
    refine ⟨p2, _, ⟨xs.set k v', fset Fs k F', ?_, b.frame (fun Q hQ => ?_) (ChgP.put w1 g _ _) (fun i hi hj => c i hi (by rw [hj]; exact hown)), c, fun _ => Iff.rfl⟩, d.put (.inl hown) _ _⟩
    · rw [← set_eq xs k v' hkx]; exact p1
    · rcases List.mem_or_eq_of_mem_set hQ with hq | hq
      · exact hg Q hq
      · rw [hq]; exact hgp
def isAt (e : TypeId) (g : Nat) (Ps : List Th) (w : World) (F : Fp) : Prop := ∃ (xs : List Value) (Fs : Nat → Fp), hp w g = some (.cells xs.toArray e) ∧ Parts w Ps xs Fs ∧ ¬ under Ps.length Fs g ∧ ∀ b, F b ↔ b = g ∨ under Ps.length Fs b
theorem isAt.frame {e : TypeId} {g : Nat} {Ps : List Th} {w w' : World} {F G : Fp} (h : isAt e g Ps w F) (hg : ∀ P ∈ Ps, OwnT P) (hc : ChgP G w w') (hd : FDis F G) : isAt e g Ps w' F := by
  obtain ⟨xs, Fs, h1, h2, h3, h4⟩ := h
  exact ⟨xs, Fs, hc.at h1 fun hG => hd g ((h4 g).2 (.inl rfl)) hG, h2.frame hg hc fun b a c => hd b ((h4 b).2 (.inr a)) c, h3, h4⟩
theorem isAt.lt {e : TypeId} {g : Nat} {Ps : List Th} {w : World} {F : Fp} (h : isAt e g Ps w F) (hg : ∀ P ∈ Ps, OwnT P) : ∀ k, F k → k < w.heap.size := fun k hk => by
  obtain ⟨xs, Fs, h1, h2, h3, h4⟩ := h
  rcases (h4 k).1 hk with h | h
  · subst h; exact bz h1
  · exact h2.lt hg k h
theorem isAt.cell {e : TypeId} {g : Nat} {Ps : List Th} {w : World} {F : Fp} (h : isAt e g Ps w F) (hg : ∀ P ∈ Ps, OwnT P) {k : Nat} {P : Th} (hP : Ps[k]? = some P) :
    ∃ (v : Value) (Fk : Fp), F g ∧ ¬ Fk g ∧ (∀ b, Fk b → F b) ∧ ldC (hp w g) k = some v ∧ P w Fk v ∧
      (∀ w1 F' P', UpdP Fk F' w w1 → P' w1 F' v → ∃ F1, isAt e g (Ps.set k P') w1 F1 ∧ UpdP F F1 w w1) ∧
      (∀ w1 F' P' v', UpdP Fk F' w w1 → OwnT P' → P' w1 F' v' → okC (hp w1 g) (k + 1) = true ∧ ∃ F1, isAt e g (Ps.set k P') (put w1 g ((getC (hp w1 g)).setIfInBounds k v') (getE (hp w1 g))) F1 ∧ UpdP F F1 w (put w1 g ((getC (hp w1 g)).setIfInBounds k v') (getE (hp w1 g)))) := by
  obtain ⟨xs, Fs, h1, h2, h3, h4⟩ := h
  have hk := (List.getElem?_eq_some_iff.1 hP).1
  have hkx : k < xs.length := by rw [← h2.len]; exact hk
  obtain ⟨v, hv⟩ : ∃ v, xs[k]? = some v := ⟨_, List.getElem?_eq_getElem hkx⟩
  have main : ∀ {w1 : World} {F' : Fp} {P' : Th} {v' : Value}, UpdP (Fs k) F' w w1 → P' w1 F' v' → hp w1 g = some (.cells xs.toArray e) ∧ Parts w1 (Ps.set k P') (xs.set k v') (fset Fs k F') ∧ ¬ under (Ps.set k P').length (fset Fs k F') g ∧ UpdP F (fun b => b = g ∨ under (Ps.set k P').length (fset Fs k F') b) w w1 := by
    intro w1 F' P' v' u hp'
    refine ⟨u.chg.at h1 fun hf => h3 ⟨k, hk, hf⟩, h2.set hg hk u hp', fun hb => ?_, u.chg.mono fun b hb => (h4 b).2 (.inr ⟨k, hk, hb⟩), fun b hb => ?_⟩
    · rw [List.length_set] at hb
      rcases under_set g hb with h | h
      · rcases u.sub g h with h5 | h5
        · exact h3 ⟨k, hk, h5⟩
        · have := bz h1; omega
      · exact h3 h
    · rcases hb with hb | hb
      · exact .inl ((h4 b).2 (.inl hb))
      · rw [List.length_set] at hb
        rcases under_set b hb with h | h
        · rcases u.sub b h with h5 | h5
          · exact .inl ((h4 b).2 (.inr ⟨k, hk, h5⟩))
          · exact .inr h5
        · exact .inl ((h4 b).2 (.inr h))
  refine ⟨v, Fs k, (h4 g).2 (.inl rfl), fun hf => h3 ⟨k, hk, hf⟩, fun b hb => (h4 b).2 (.inr ⟨k, hk, hb⟩), by rw [h1, ah]; simpa using hv, h2.each k P v hP hv, fun w1 F' P' u hp' => ?_, fun w1 F' P' v' u hgp hp' => ?_⟩
  · obtain ⟨a, b, c, d⟩ := main (v' := v) u hp'
    rw [set_same hv] at b
    exact ⟨_, ⟨xs, _, a, b, c, fun _ => Iff.rfl⟩, d⟩
  · obtain ⟨a, b, c, d⟩ := main u hp'
    refine ⟨by rw [a]; simp; omega, _, ⟨xs.set k v', fset Fs k F', ?_, b.frame (fun Q hQ => ?_) (ChgP.put w1 g _ _) (fun i hi hj => c (by rw [← hj]; exact hi)), c, fun _ => Iff.rfl⟩, d.put (.inl rfl) _ _⟩
    · rw [a, getC_some, bM, bv (bz a)]
      simp
    · rcases List.mem_or_eq_of_mem_set hQ with hq | hq
      · exact hg Q hq
      · rw [hq]; exact hgp
theorem isAt.new {e : TypeId} {Ps : List Th} {w : World} {xs : List Value} {Fs : Nat → Fp} (hp' : Parts w Ps xs Fs) (hg : ∀ P ∈ Ps, OwnT P) : isAt e w.heap.size Ps (w.alloc (.cells xs.toArray e)) (fun b => b = w.heap.size ∨ under Ps.length Fs b) := by
  refine ⟨xs, Fs, by rw [bc, if_pos rfl], hp'.frame hg (ChgP.of0 ((Chg.refl _ _).alloc _) none') (fun _ _ h => h), fun h => ?_, fun _ => Iff.rfl⟩
  have := hp'.lt hg _ h
  omega
theorem isRow.grow {e : TypeId} {z n m : Nat} {Ps Qs : List Th} {w w' : World} {F G : Fp} {x x' : Value} {ys : List Value} {Gs : Nat → Fp} (h : isRow e z n Ps w F x) (hg : ∀ P ∈ Ps, OwnT P) (hq : ∀ P ∈ Qs, OwnT P) (hy : Parts w Qs ys Gs) (hG : ∀ b, G b ↔ under Qs.length Gs b) (hd : FDis F G)
    (ho : ∀ xs, w.ownsRow 0 e z x n xs → w'.ownsRow 0 e z x' (n + m) (xs ++ ys)) (hgr : w.grownBy w' x.ownBlock) (hnb : NewB w x x') :
    ∃ F', isRow e z (n + m) (Ps ++ Qs) w' F' x' ∧ UpdP (fun b => F b ∨ G b) F' w w' ∧ ChgP F w w' := by
  obtain ⟨xs, Fs, h1, h2, h3, h4⟩ := h
  have hc : ChgP (fun b => x.ownBlock = some b) w w' := ⟨hgr.os, hgr.tape, hgr.output, hgr.size, fun k hk hn => hgr.block k hk fun e => hn e.symm⟩
  have hc' : ChgP F w w' := hc.mono fun b hb => (h4 b).2 (.inl hb)
  have a2 := h2.frame hg hc fun b hb hx => h3 b hb hx
  have b2 := hy.frame hq hc fun b hb hx => hd b ((h4 b).2 (.inl hx)) ((hG b).2 hb)
  have hdd : FDis (under Ps.length Fs) (under Qs.length Gs) := fun b hb hc => hd b ((h4 b).2 (.inr hb)) ((hG b).2 hc)
  have hnew : ∀ b, under (Ps ++ Qs).length (fun j => if j < Ps.length then Fs j else Gs (j - Ps.length)) b → x'.ownBlock ≠ some b := fun b hb hx' => by
    rw [List.length_append] at hb
    rcases (under_app b).1 hb with h | h
    · rcases hnb b hx' with h5 | h5
      · exact h3 b h h5
      · have := h2.lt hg b h; omega
    · rcases hnb b hx' with h5 | h5
      · exact hd b ((h4 b).2 (.inl h5)) ((hG b).2 h)
      · have := hy.lt hq b h; omega
  refine ⟨_, ⟨xs ++ ys, _, ho xs h1, a2.app b2 hdd, hnew, fun _ => Iff.rfl⟩, ⟨hc'.mono fun b hb => .inl hb, fun b hb => ?_⟩, hc'⟩
  rcases hb with hb | hb
  · rcases hnb b hb with h5 | h5
    · exact .inl (.inl ((h4 b).2 (.inl h5)))
    · exact .inr h5
  · rw [List.length_append] at hb
    rcases (under_app b).1 hb with h | h
    · exact .inl (.inl ((h4 b).2 (.inr h)))
    · exact .inl (.inr ((hG b).2 h))
theorem flatM_len {α β : Type} {f : α → List β} {z : Nat} (h : ∀ x, (f x).length = z) : ∀ L : List α, (L.flatMap f).length = L.length * z
  | [] => by simp
  | x :: xs => by rw [List.flatMap_cons, List.length_append, h x, flatM_len h xs, List.length_cons, Nat.add_mul]; omega
theorem flatM_get {α β : Type} {f : α → List β} {z : Nat} (h : ∀ x, (f x).length = z) : ∀ (L : List α) (i : Nat) (x : α), L[i]? = some x → ∀ k, k < z → (L.flatMap f)[i * z + k]? = (f x)[k]?
  | [], i, x, hx, k, hk => by simp at hx
  | y :: ys, 0, x, hx, k, hk => by
    simp at hx; subst hx
    rw [List.flatMap_cons, Nat.zero_mul, Nat.zero_add, List.getElem?_append_left (by rw [h]; exact hk)]
  | y :: ys, i + 1, x, hx, k, hk => by
    rw [List.flatMap_cons, show (i + 1) * z + k = (f y).length + (i * z + k) by rw [h, Nat.add_mul]; omega, List.getElem?_append_right (by omega), Nat.add_sub_cancel_left]
    exact flatM_get h ys i x (by simpa using hx) k hk
theorem flatM_set {α β : Type} {f : α → List β} {z : Nat} (h : ∀ x, (f x).length = z) {k : Nat} {p : β} (hk : k < z) {x x' : α} (hx : f x' = (f x).set k p) : ∀ (L : List α) (i : Nat), L[i]? = some x → (L.flatMap f).set (i * z + k) p = (L.set i x').flatMap f
  | [], i, hi => by simp at hi
  | y :: ys, 0, hi => by
    simp at hi; subst hi
    rw [List.flatMap_cons, Nat.zero_mul, Nat.zero_add, List.set_append_left _ _ (by rw [h]; exact hk), List.set_cons_zero, List.flatMap_cons, hx]
  | y :: ys, i + 1, hi => by
    rw [List.flatMap_cons, show (i + 1) * z + k = (f y).length + (i * z + k) by rw [h, Nat.add_mul]; omega, List.set_append_right _ _ (by omega), Nat.add_sub_cancel_left, flatM_set h hk hx ys i (by simpa using hi), List.set_cons_succ, List.flatMap_cons]
theorem isRow.rd {e : TypeId} {z n : Nat} {Ps : List Th} {w : World} {F : Fp} {x : Value} (h : isRow e z n Ps w F x) :
    ∃ A c xs Fs, x = .slice A n c ∧ RdV w A xs ∧ xs.length = n * z ∧ Parts w Ps xs Fs ∧ ∀ b, under Ps.length Fs b → F b := by
  obtain ⟨xs, Fs, h1, h2, h3, h4⟩ := h
  obtain ⟨A, c, e1, e2, _⟩ := rdV_of_own h1
  exact ⟨A, c, xs, Fs, e1, e2, h1.1, h2, fun b hb => (h4 b).2 (.inr hb)⟩
theorem Parts.flat {w : World} {us xs : List Value} {Fs : Nat → Fp} (h : Parts w (us.map isV) xs Fs) : xs = us := by
  apply List.ext_getElem?
  intro k
  rcases Nat.lt_or_ge k us.length with hk | hk
  · have hkx : k < xs.length := by have := h.len; simp at this; omega
    have := h.each k (isV us[k]) xs[k] (by simp [hk]) (List.getElem?_eq_getElem hkx)
    rw [List.getElem?_eq_getElem hkx, List.getElem?_eq_getElem hk, this.1]
  · have := h.len
    simp at this
    rw [List.getElem?_eq_none (by omega), List.getElem?_eq_none (by omega)]
theorem Parts.ofFlat {w : World} (us : List Value) : Parts w (us.map isV) us fun _ => none' :=
  ⟨by simp, fun k P v hP hv => by
    rw [List.getElem?_map, hv] at hP
    cases hP
    exact ⟨rfl, fun _ h => h⟩, fun _ _ _ _ _ b h _ => h⟩
theorem good_flat {us : List Value} (h : ∀ u ∈ us, u.cells = #[u] ∧ u.oneCell' = true) : ∀ P ∈ us.map isV, OwnT P := fun P hP => by
  obtain ⟨u, hu, rfl⟩ := List.mem_map.1 hP
  exact good_isV (h u hu)
theorem flat_own {e : TypeId} {z n : Nat} {us : List Value} {w : World} {F : Fp} {x : Value} (h : isRow e z n (us.map isV) w F x) : w.ownsRow 0 e z x n us ∧ ∀ b, F b → x.ownBlock = some b := by
  obtain ⟨xs, Fs, h1, h2, h3, h4⟩ := h
  rw [h2.flat] at h1
  refine ⟨h1, fun b hb => ?_⟩
  rcases (h4 b).1 hb with h5 | ⟨k, hk, hb'⟩
  · exact h5
  · obtain ⟨P, hP⟩ : ∃ P, (us.map isV)[k]? = some P := ⟨_, List.getElem?_eq_getElem hk⟩
    obtain ⟨v, hv⟩ : ∃ v, xs[k]? = some v := ⟨_, List.getElem?_eq_getElem (by rw [← h2.len]; exact hk)⟩
    have := h2.each k P v hP hv
    obtain ⟨u, _, rfl⟩ := List.mem_map.1 (List.mem_of_getElem? hP)
    exact absurd hb' (this.2 b)
theorem own_flat {e : TypeId} {z n : Nat} {us : List Value} {w : World} {x : Value} {base : Nat} (h : w.ownsRow base e z x n us) : isRow e z n (us.map isV) w (fun b => x.ownBlock = some b) x :=
  ⟨us, fun _ => none', ownsRow_mono h (Nat.zero_le _), Parts.ofFlat us, fun b ⟨_, _, hb⟩ => hb.elim, fun b => ⟨fun h => .inl h, fun h => by rcases h with h | ⟨_, _, h⟩; exact h; exact h.elim⟩⟩
end Go.Proofs.Ytgamnncehjcdiaa.Ev

