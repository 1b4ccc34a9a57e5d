/- Parts of the proof of ModelCopies, one behind the other. Conditions: none. -/
import Derived.Test.YtgamnncehjcdiaaGreatChecked
import Derived.Eval
import Derived.Laws.Tables
import Derived.Test.YtgamnncehjcdiaaGreatZModelCopies8
set_option linter.unusedSimpArgs false
set_option linter.unusedVariables false
set_option maxRecDepth 100000
namespace Go.Proofs.YtgamnncehjcdiaaGreat
open Go Ev
variable {w : World} {K : Value → World → Prop} {L : World → Prop}
@[simp] theorem ba {b o : Nat} : pureRun Tryz.prog (Instr.fieldAt 25 (.pointer (some ⟨b, o, none⟩)) 0) = some (.pointer (some ⟨b, o + 0, none⟩)) := am (g := false) (z := 1) (by kernel_rfl) (by decide)
@[simp] theorem fa_25_1 {b o : Nat} : pureRun Tryz.prog (Instr.fieldAt 25 (.pointer (some ⟨b, o, none⟩)) 1) = some (.pointer (some ⟨b, o + 1, none⟩)) := am (g := false) (z := 1) (by kernel_rfl) (by decide)
@[simp] theorem bm {b o : Nat} : pureRun Tryz.prog (Instr.fieldAt 25 (.pointer (some ⟨b, o, none⟩)) 2) = some (.pointer (some ⟨b, o + 2, none⟩)) := am (g := false) (z := 1) (by kernel_rfl) (by decide)
@[simp] theorem fa_25_3 {b o : Nat} : pureRun Tryz.prog (Instr.fieldAt 25 (.pointer (some ⟨b, o, none⟩)) 3) = some (.pointer (some ⟨b, o + 3, none⟩)) := am (g := false) (z := 1) (by kernel_rfl) (by decide)
@[simp] theorem fa_25_4 {b o : Nat} : pureRun Tryz.prog (Instr.fieldAt 25 (.pointer (some ⟨b, o, none⟩)) 4) = some (.pointer (some ⟨b, o + 4, none⟩)) := am (g := false) (z := 1) (by kernel_rfl) (by decide)
@[simp] theorem fa_28_0 {b o : Nat} : pureRun Tryz.prog (Instr.fieldAt 28 (.pointer (some ⟨b, o, none⟩)) 0) = some (.pointer (some ⟨b, o + 0, none⟩)) := am (g := false) (z := 1) (by kernel_rfl) (by decide)
@[simp] theorem fa_28_1 {b o : Nat} : pureRun Tryz.prog (Instr.fieldAt 28 (.pointer (some ⟨b, o, none⟩)) 1) = some (.pointer (some ⟨b, o + 1, none⟩)) := am (g := true) (z := 5) (by kernel_rfl) (by decide)
@[simp] theorem fa_28_2 {b o : Nat} : pureRun Tryz.prog (Instr.fieldAt 28 (.pointer (some ⟨b, o, none⟩)) 2) = some (.pointer (some ⟨b, o + 6, none⟩)) := am (g := false) (z := 1) (by kernel_rfl) (by decide)
@[simp] theorem fa_28_3 {b o : Nat} : pureRun Tryz.prog (Instr.fieldAt 28 (.pointer (some ⟨b, o, none⟩)) 3) = some (.pointer (some ⟨b, o + 7, none⟩)) := am (g := false) (z := 1) (by kernel_rfl) (by decide)
@[simp] theorem fa_33_0 {b o : Nat} : pureRun Tryz.prog (Instr.fieldAt 33 (.pointer (some ⟨b, o, none⟩)) 0) = some (.pointer (some ⟨b, o + 0, none⟩)) := am (g := false) (z := 1) (by kernel_rfl) (by decide)
@[simp] theorem fa_33_1 {b o : Nat} : pureRun Tryz.prog (Instr.fieldAt 33 (.pointer (some ⟨b, o, none⟩)) 1) = some (.pointer (some ⟨b, o + 1, none⟩)) := am (g := false) (z := 1) (by kernel_rfl) (by decide)
@[simp] theorem fa_33_2 {b o : Nat} : pureRun Tryz.prog (Instr.fieldAt 33 (.pointer (some ⟨b, o, none⟩)) 2) = some (.pointer (some ⟨b, o + 2, none⟩)) := am (g := false) (z := 1) (by kernel_rfl) (by decide)
@[simp] theorem fa_33_3 {b o : Nat} : pureRun Tryz.prog (Instr.fieldAt 33 (.pointer (some ⟨b, o, none⟩)) 3) = some (.pointer (some ⟨b, o + 3, none⟩)) := am (g := false) (z := 1) (by kernel_rfl) (by decide)
@[simp] theorem fa_33_4 {b o : Nat} : pureRun Tryz.prog (Instr.fieldAt 33 (.pointer (some ⟨b, o, none⟩)) 4) = some (.pointer (some ⟨b, o + 4, none⟩)) := am (g := false) (z := 1) (by kernel_rfl) (by decide)
@[simp] theorem fa_33_5 {b o : Nat} : pureRun Tryz.prog (Instr.fieldAt 33 (.pointer (some ⟨b, o, none⟩)) 5) = some (.pointer (some ⟨b, o + 5, none⟩)) := am (g := false) (z := 1) (by kernel_rfl) (by decide)
@[simp] theorem fa_37_0 {b o : Nat} : pureRun Tryz.prog (Instr.fieldAt 37 (.pointer (some ⟨b, o, none⟩)) 0) = some (.pointer (some ⟨b, o + 0, none⟩)) := am (g := false) (z := 1) (by kernel_rfl) (by decide)
@[simp] theorem fa_37_1 {b o : Nat} : pureRun Tryz.prog (Instr.fieldAt 37 (.pointer (some ⟨b, o, none⟩)) 1) = some (.pointer (some ⟨b, o + 1, none⟩)) := am (g := false) (z := 1) (by kernel_rfl) (by decide)
@[simp] theorem aj {b o : Nat} : pureRun Tryz.prog (Instr.fieldAt 39 (.pointer (some ⟨b, o, none⟩)) 0) = some (.pointer (some ⟨b, o + 0, none⟩)) := am (g := false) (z := 1) (by kernel_rfl) (by decide)
@[simp] theorem fa_39_1 {b o : Nat} : pureRun Tryz.prog (Instr.fieldAt 39 (.pointer (some ⟨b, o, none⟩)) 1) = some (.pointer (some ⟨b, o + 1, none⟩)) := am (g := false) (z := 1) (by kernel_rfl) (by decide)
@[simp] theorem fa_39_2 {b o : Nat} : pureRun Tryz.prog (Instr.fieldAt 39 (.pointer (some ⟨b, o, none⟩)) 2) = some (.pointer (some ⟨b, o + 2, none⟩)) := am (g := false) (z := 1) (by kernel_rfl) (by decide)
@[simp] theorem aN {b o : Nat} : pureRun Tryz.prog (Instr.fieldAt 39 (.pointer (some ⟨b, o, none⟩)) 3) = some (.pointer (some ⟨b, o + 3, none⟩)) := am (g := false) (z := 1) (by kernel_rfl) (by decide)
@[simp] theorem bn {b o : Nat} : pureRun Tryz.prog (Instr.fieldAt 39 (.pointer (some ⟨b, o, none⟩)) 4) = some (.pointer (some ⟨b, o + 4, none⟩)) := am (g := false) (z := 1) (by kernel_rfl) (by decide)
@[simp] theorem fa_39_5 {b o : Nat} : pureRun Tryz.prog (Instr.fieldAt 39 (.pointer (some ⟨b, o, none⟩)) 5) = some (.pointer (some ⟨b, o + 5, none⟩)) := am (g := false) (z := 1) (by kernel_rfl) (by decide)
@[simp] theorem fa_46_0 {b o : Nat} : pureRun Tryz.prog (Instr.fieldAt 46 (.pointer (some ⟨b, o, none⟩)) 0) = some (.pointer (some ⟨b, o + 0, none⟩)) := am (g := true) (z := 6) (by kernel_rfl) (by decide)
@[simp] theorem fa_46_1 {b o : Nat} : pureRun Tryz.prog (Instr.fieldAt 46 (.pointer (some ⟨b, o, none⟩)) 1) = some (.pointer (some ⟨b, o + 6, none⟩)) := am (g := false) (z := 1) (by kernel_rfl) (by decide)
@[simp] theorem fa_46_2 {b o : Nat} : pureRun Tryz.prog (Instr.fieldAt 46 (.pointer (some ⟨b, o, none⟩)) 2) = some (.pointer (some ⟨b, o + 7, none⟩)) := am (g := false) (z := 1) (by kernel_rfl) (by decide)
@[simp] theorem fa_46_3 {b o : Nat} : pureRun Tryz.prog (Instr.fieldAt 46 (.pointer (some ⟨b, o, none⟩)) 3) = some (.pointer (some ⟨b, o + 8, none⟩)) := am (g := false) (z := 1) (by kernel_rfl) (by decide)
@[simp] theorem fa_74_0 {b o : Nat} : pureRun Tryz.prog (Instr.fieldAt 74 (.pointer (some ⟨b, o, none⟩)) 0) = some (.pointer (some ⟨b, o + 0, none⟩)) := am (g := true) (z := 6) (by kernel_rfl) (by decide)
@[simp] theorem fa_74_1 {b o : Nat} : pureRun Tryz.prog (Instr.fieldAt 74 (.pointer (some ⟨b, o, none⟩)) 1) = some (.pointer (some ⟨b, o + 6, none⟩)) := am (g := false) (z := 1) (by kernel_rfl) (by decide)
@[simp] theorem fa_74_2 {b o : Nat} : pureRun Tryz.prog (Instr.fieldAt 74 (.pointer (some ⟨b, o, none⟩)) 2) = some (.pointer (some ⟨b, o + 7, none⟩)) := am (g := false) (z := 1) (by kernel_rfl) (by decide)
@[simp] theorem fa_74_3 {b o : Nat} : pureRun Tryz.prog (Instr.fieldAt 74 (.pointer (some ⟨b, o, none⟩)) 3) = some (.pointer (some ⟨b, o + 8, none⟩)) := am (g := false) (z := 1) (by kernel_rfl) (by decide)
@[simp] theorem fa_74_4 {b o : Nat} : pureRun Tryz.prog (Instr.fieldAt 74 (.pointer (some ⟨b, o, none⟩)) 4) = some (.pointer (some ⟨b, o + 9, none⟩)) := am (g := false) (z := 1) (by kernel_rfl) (by decide)
@[simp] theorem fa_77_0 {b o : Nat} : pureRun Tryz.prog (Instr.fieldAt 77 (.pointer (some ⟨b, o, none⟩)) 0) = some (.pointer (some ⟨b, o + 0, none⟩)) := am (g := false) (z := 1) (by kernel_rfl) (by decide)
@[simp] theorem fa_77_1 {b o : Nat} : pureRun Tryz.prog (Instr.fieldAt 77 (.pointer (some ⟨b, o, none⟩)) 1) = some (.pointer (some ⟨b, o + 1, none⟩)) := am (g := false) (z := 1) (by kernel_rfl) (by decide)
@[simp] theorem fa_81_0 {b o : Nat} : pureRun Tryz.prog (Instr.fieldAt 81 (.pointer (some ⟨b, o, none⟩)) 0) = some (.pointer (some ⟨b, o + 0, none⟩)) := am (g := false) (z := 1) (by kernel_rfl) (by decide)
@[simp] theorem fa_81_1 {b o : Nat} : pureRun Tryz.prog (Instr.fieldAt 81 (.pointer (some ⟨b, o, none⟩)) 1) = some (.pointer (some ⟨b, o + 1, none⟩)) := am (g := false) (z := 1) (by kernel_rfl) (by decide)
@[simp] theorem fa_84_0 {b o : Nat} : pureRun Tryz.prog (Instr.fieldAt 84 (.pointer (some ⟨b, o, none⟩)) 0) = some (.pointer (some ⟨b, o + 0, none⟩)) := am (g := false) (z := 1) (by kernel_rfl) (by decide)
@[simp] theorem fa_84_1 {b o : Nat} : pureRun Tryz.prog (Instr.fieldAt 84 (.pointer (some ⟨b, o, none⟩)) 1) = some (.pointer (some ⟨b, o + 1, none⟩)) := am (g := false) (z := 1) (by kernel_rfl) (by decide)
@[simp] theorem fa_88_0 {b o : Nat} : pureRun Tryz.prog (Instr.fieldAt 88 (.pointer (some ⟨b, o, none⟩)) 0) = some (.pointer (some ⟨b, o + 0, none⟩)) := am (g := true) (z := 2) (by kernel_rfl) (by decide)
@[simp] theorem fa_88_1 {b o : Nat} : pureRun Tryz.prog (Instr.fieldAt 88 (.pointer (some ⟨b, o, none⟩)) 1) = some (.pointer (some ⟨b, o + 2, none⟩)) := am (g := false) (z := 1) (by kernel_rfl) (by decide)
@[simp] theorem fa_88_2 {b o : Nat} : pureRun Tryz.prog (Instr.fieldAt 88 (.pointer (some ⟨b, o, none⟩)) 2) = some (.pointer (some ⟨b, o + 3, none⟩)) := am (g := false) (z := 1) (by kernel_rfl) (by decide)
@[simp] theorem fa_88_3 {b o : Nat} : pureRun Tryz.prog (Instr.fieldAt 88 (.pointer (some ⟨b, o, none⟩)) 3) = some (.pointer (some ⟨b, o + 4, none⟩)) := am (g := false) (z := 1) (by kernel_rfl) (by decide)
@[simp] theorem fa_88_4 {b o : Nat} : pureRun Tryz.prog (Instr.fieldAt 88 (.pointer (some ⟨b, o, none⟩)) 4) = some (.pointer (some ⟨b, o + 5, none⟩)) := am (g := false) (z := 1) (by kernel_rfl) (by decide)
@[simp] theorem fa_88_5 {b o : Nat} : pureRun Tryz.prog (Instr.fieldAt 88 (.pointer (some ⟨b, o, none⟩)) 5) = some (.pointer (some ⟨b, o + 6, none⟩)) := am (g := false) (z := 1) (by kernel_rfl) (by decide)
@[simp] theorem fa_108_0 {b o : Nat} : pureRun Tryz.prog (Instr.fieldAt 108 (.pointer (some ⟨b, o, none⟩)) 0) = some (.pointer (some ⟨b, o + 0, none⟩)) := am (g := true) (z := 6) (by kernel_rfl) (by decide)
@[simp] theorem fa_108_1 {b o : Nat} : pureRun Tryz.prog (Instr.fieldAt 108 (.pointer (some ⟨b, o, none⟩)) 1) = some (.pointer (some ⟨b, o + 6, none⟩)) := am (g := false) (z := 1) (by kernel_rfl) (by decide)
@[simp] theorem fa_108_2 {b o : Nat} : pureRun Tryz.prog (Instr.fieldAt 108 (.pointer (some ⟨b, o, none⟩)) 2) = some (.pointer (some ⟨b, o + 7, none⟩)) := am (g := false) (z := 1) (by kernel_rfl) (by decide)
@[simp] theorem fa_108_3 {b o : Nat} : pureRun Tryz.prog (Instr.fieldAt 108 (.pointer (some ⟨b, o, none⟩)) 3) = some (.pointer (some ⟨b, o + 8, none⟩)) := am (g := false) (z := 1) (by kernel_rfl) (by decide)
@[simp] theorem aJ {b o : Nat} : pureRun Tryz.prog (Instr.fieldAt 108 (.pointer (some ⟨b, o, none⟩)) 4) = some (.pointer (some ⟨b, o + 9, none⟩)) := am (g := false) (z := 1) (by kernel_rfl) (by decide)
@[simp] theorem fa_108_5 {b o : Nat} : pureRun Tryz.prog (Instr.fieldAt 108 (.pointer (some ⟨b, o, none⟩)) 5) = some (.pointer (some ⟨b, o + 10, none⟩)) := am (g := false) (z := 1) (by kernel_rfl) (by decide)
@[simp] theorem fa_108_6 {b o : Nat} : pureRun Tryz.prog (Instr.fieldAt 108 (.pointer (some ⟨b, o, none⟩)) 6) = some (.pointer (some ⟨b, o + 11, none⟩)) := am (g := false) (z := 1) (by kernel_rfl) (by decide)
@[simp] theorem fa_130_0 {b o : Nat} : pureRun Tryz.prog (Instr.fieldAt 130 (.pointer (some ⟨b, o, none⟩)) 0) = some (.pointer (some ⟨b, o + 0, none⟩)) := am (g := false) (z := 1) (by kernel_rfl) (by decide)
@[simp] theorem fa_130_1 {b o : Nat} : pureRun Tryz.prog (Instr.fieldAt 130 (.pointer (some ⟨b, o, none⟩)) 1) = some (.pointer (some ⟨b, o + 1, none⟩)) := am (g := false) (z := 1) (by kernel_rfl) (by decide)
@[simp] theorem fa_130_2 {b o : Nat} : pureRun Tryz.prog (Instr.fieldAt 130 (.pointer (some ⟨b, o, none⟩)) 2) = some (.pointer (some ⟨b, o + 2, none⟩)) := am (g := false) (z := 1) (by kernel_rfl) (by decide)
@[simp] theorem fa_130_3 {b o : Nat} : pureRun Tryz.prog (Instr.fieldAt 130 (.pointer (some ⟨b, o, none⟩)) 3) = some (.pointer (some ⟨b, o + 3, none⟩)) := am (g := false) (z := 1) (by kernel_rfl) (by decide)
@[simp] theorem fa_130_4 {b o : Nat} : pureRun Tryz.prog (Instr.fieldAt 130 (.pointer (some ⟨b, o, none⟩)) 4) = some (.pointer (some ⟨b, o + 4, none⟩)) := am (g := false) (z := 1) (by kernel_rfl) (by decide)
@[simp] theorem fa_130_5 {b o : Nat} : pureRun Tryz.prog (Instr.fieldAt 130 (.pointer (some ⟨b, o, none⟩)) 5) = some (.pointer (some ⟨b, o + 5, none⟩)) := am (g := false) (z := 1) (by kernel_rfl) (by decide)
@[simp] theorem fa_130_6 {b o : Nat} : pureRun Tryz.prog (Instr.fieldAt 130 (.pointer (some ⟨b, o, none⟩)) 6) = some (.pointer (some ⟨b, o + 6, none⟩)) := am (g := false) (z := 1) (by kernel_rfl) (by decide)
@[simp] theorem fa_130_7 {b o : Nat} : pureRun Tryz.prog (Instr.fieldAt 130 (.pointer (some ⟨b, o, none⟩)) 7) = some (.pointer (some ⟨b, o + 7, none⟩)) := am (g := false) (z := 1) (by kernel_rfl) (by decide)
@[simp] theorem fa_138_0 {b o : Nat} : pureRun Tryz.prog (Instr.fieldAt 138 (.pointer (some ⟨b, o, none⟩)) 0) = some (.pointer (some ⟨b, o + 0, none⟩)) := am (g := false) (z := 1) (by kernel_rfl) (by decide)
@[simp] theorem fa_138_1 {b o : Nat} : pureRun Tryz.prog (Instr.fieldAt 138 (.pointer (some ⟨b, o, none⟩)) 1) = some (.pointer (some ⟨b, o + 1, none⟩)) := am (g := false) (z := 1) (by kernel_rfl) (by decide)
@[simp] theorem fa_138_2 {b o : Nat} : pureRun Tryz.prog (Instr.fieldAt 138 (.pointer (some ⟨b, o, none⟩)) 2) = some (.pointer (some ⟨b, o + 2, none⟩)) := am (g := false) (z := 1) (by kernel_rfl) (by decide)
@[simp] theorem fa_138_3 {b o : Nat} : pureRun Tryz.prog (Instr.fieldAt 138 (.pointer (some ⟨b, o, none⟩)) 3) = some (.pointer (some ⟨b, o + 3, none⟩)) := am (g := false) (z := 1) (by kernel_rfl) (by decide)
@[simp] theorem fa_138_4 {b o : Nat} : pureRun Tryz.prog (Instr.fieldAt 138 (.pointer (some ⟨b, o, none⟩)) 4) = some (.pointer (some ⟨b, o + 4, none⟩)) := am (g := false) (z := 1) (by kernel_rfl) (by decide)
@[simp] theorem fi_138_1 {x0 x1 x2 x3 x4 : Value} : pureRun Tryz.prog (Instr.field 138 (.agg #[x0, x1, x2, x3, x4]) 1) = some x1 := pr_field1 (off := 1) (z := 1) (by kernel_rfl) rfl
theorem sz_3 : (Tryz.prog.info? 3).map (·.size) = some 1 := by kernel_rfl
theorem ag_3 : (Tryz.prog.underlying 3).map isAggD = some false := by kernel_rfl
@[simp] theorem af {b o : Nat} : ldv Tryz.prog 3 (.pointer (some ⟨b, o, none⟩)) w = ldC (hp w b) o := ldv_blk ag_3
theorem sz_4 : (Tryz.prog.info? 4).map (·.size) = some 1 := by kernel_rfl
theorem ag_4 : (Tryz.prog.underlying 4).map isAggD = some false := by kernel_rfl
@[simp] theorem ld_4 {b o : Nat} : ldv Tryz.prog 4 (.pointer (some ⟨b, o, none⟩)) w = ldC (hp w b) o := ldv_blk ag_4
theorem ag_9 : (Tryz.prog.underlying 9).map isAggD = some false := by kernel_rfl
@[simp] theorem ld_9 {b o : Nat} : ldv Tryz.prog 9 (.pointer (some ⟨b, o, none⟩)) w = ldC (hp w b) o := ldv_blk ag_9
theorem sz_22 : (Tryz.prog.info? 22).map (·.size) = some 1 := by kernel_rfl
theorem ag_22 : (Tryz.prog.underlying 22).map isAggD = some false := by kernel_rfl
@[simp] theorem aY {b o : Nat} : ldv Tryz.prog 22 (.pointer (some ⟨b, o, none⟩)) w = ldC (hp w b) o := ldv_blk ag_22
theorem ag_23 : (Tryz.prog.underlying 23).map isAggD = some false := by kernel_rfl
@[simp] theorem aU {b o : Nat} : ldv Tryz.prog 23 (.pointer (some ⟨b, o, none⟩)) w = ldC (hp w b) o := ldv_blk ag_23
theorem sz_25 : (Tryz.prog.info? 25).map (·.size) = some 5 := by kernel_rfl
theorem ag_25 : (Tryz.prog.underlying 25).map isAggD = some true := by kernel_rfl
theorem ld_25 {b o : Nat} : ldv Tryz.prog 25 (.pointer (some ⟨b, o, none⟩)) w = (ldL (hp w b) o 5).map fun l => .agg l.toArray := ldv_L ag_25 sz_25
theorem sz_26 : (Tryz.prog.info? 26).map (·.size) = some 1 := by kernel_rfl
theorem ag_26 : (Tryz.prog.underlying 26).map isAggD = some false := by kernel_rfl
@[simp] theorem ld_26 {b o : Nat} : ldv Tryz.prog 26 (.pointer (some ⟨b, o, none⟩)) w = ldC (hp w b) o := ldv_blk ag_26
theorem sz_28 : (Tryz.prog.info? 28).map (·.size) = some 8 := by kernel_rfl
theorem ag_28 : (Tryz.prog.underlying 28).map isAggD = some true := by kernel_rfl
theorem sz_33 : (Tryz.prog.info? 33).map (·.size) = some 6 := by kernel_rfl
theorem ag_33 : (Tryz.prog.underlying 33).map isAggD = some true := by kernel_rfl
theorem ld_33 {b o : Nat} : ldv Tryz.prog 33 (.pointer (some ⟨b, o, none⟩)) w = (ldL (hp w b) o 6).map fun l => .agg l.toArray := ldv_L ag_33 sz_33
theorem sz_39 : (Tryz.prog.info? 39).map (·.size) = some 6 := by kernel_rfl
theorem ag_39 : (Tryz.prog.underlying 39).map isAggD = some true := by kernel_rfl
theorem ld_39 {b o : Nat} : ldv Tryz.prog 39 (.pointer (some ⟨b, o, none⟩)) w = (ldL (hp w b) o 6).map fun l => .agg l.toArray := ldv_L ag_39 sz_39
theorem ag_42 : (Tryz.prog.underlying 42).map isAggD = some false := by kernel_rfl
@[simp] theorem ld_42 {b o : Nat} : ldv Tryz.prog 42 (.pointer (some ⟨b, o, none⟩)) w = ldC (hp w b) o := ldv_blk ag_42
theorem ag_43 : (Tryz.prog.underlying 43).map isAggD = some false := by kernel_rfl
@[simp] theorem ld_43 {b o : Nat} : ldv Tryz.prog 43 (.pointer (some ⟨b, o, none⟩)) w = ldC (hp w b) o := ldv_blk ag_43
theorem sz_44 : (Tryz.prog.info? 44).map (·.size) = some 1 := by kernel_rfl
theorem ag_44 : (Tryz.prog.underlying 44).map isAggD = some false := by kernel_rfl
@[simp] theorem ld_44 {b o : Nat} : ldv Tryz.prog 44 (.pointer (some ⟨b, o, none⟩)) w = ldC (hp w b) o := ldv_blk ag_44
theorem sz_70 : (Tryz.prog.info? 70).map (·.size) = some 1 := by kernel_rfl
theorem ag_70 : (Tryz.prog.underlying 70).map isAggD = some false := by kernel_rfl
@[simp] theorem ld_70 {b o : Nat} : ldv Tryz.prog 70 (.pointer (some ⟨b, o, none⟩)) w = ldC (hp w b) o := ldv_blk ag_70
theorem sz_71 : (Tryz.prog.info? 71).map (·.size) = some 1 := by kernel_rfl
theorem ag_71 : (Tryz.prog.underlying 71).map isAggD = some false := by kernel_rfl
@[simp] theorem ld_71 {b o : Nat} : ldv Tryz.prog 71 (.pointer (some ⟨b, o, none⟩)) w = ldC (hp w b) o := ldv_blk ag_71
theorem sz_72 : (Tryz.prog.info? 72).map (·.size) = some 1 := by kernel_rfl
theorem ag_72 : (Tryz.prog.underlying 72).map isAggD = some false := by kernel_rfl
@[simp] theorem ld_72 {b o : Nat} : ldv Tryz.prog 72 (.pointer (some ⟨b, o, none⟩)) w = ldC (hp w b) o := ldv_blk ag_72
theorem sz_74 : (Tryz.prog.info? 74).map (·.size) = some 10 := by kernel_rfl
theorem ag_74 : (Tryz.prog.underlying 74).map isAggD = some true := by kernel_rfl
theorem sz_77 : (Tryz.prog.info? 77).map (·.size) = some 2 := by kernel_rfl
theorem ag_77 : (Tryz.prog.underlying 77).map isAggD = some true := by kernel_rfl
theorem ld_77 {b o : Nat} : ldv Tryz.prog 77 (.pointer (some ⟨b, o, none⟩)) w = (ldL (hp w b) o 2).map fun l => .agg l.toArray := ldv_L ag_77 sz_77
theorem sz_79 : (Tryz.prog.info? 79).map (·.size) = some 1 := by kernel_rfl
theorem ag_79 : (Tryz.prog.underlying 79).map isAggD = some false := by kernel_rfl
@[simp] theorem ld_79 {b o : Nat} : ldv Tryz.prog 79 (.pointer (some ⟨b, o, none⟩)) w = ldC (hp w b) o := ldv_blk ag_79
theorem sz_81 : (Tryz.prog.info? 81).map (·.size) = some 2 := by kernel_rfl
theorem ag_81 : (Tryz.prog.underlying 81).map isAggD = some true := by kernel_rfl
theorem ld_81 {b o : Nat} : ldv Tryz.prog 81 (.pointer (some ⟨b, o, none⟩)) w = (ldL (hp w b) o 2).map fun l => .agg l.toArray := ldv_L ag_81 sz_81
theorem sz_84 : (Tryz.prog.info? 84).map (·.size) = some 2 := by kernel_rfl
theorem ag_84 : (Tryz.prog.underlying 84).map isAggD = some true := by kernel_rfl
theorem ld_84 {b o : Nat} : ldv Tryz.prog 84 (.pointer (some ⟨b, o, none⟩)) w = (ldL (hp w b) o 2).map fun l => .agg l.toArray := ldv_L ag_84 sz_84
theorem sz_86 : (Tryz.prog.info? 86).map (·.size) = some 1 := by kernel_rfl
theorem ag_86 : (Tryz.prog.underlying 86).map isAggD = some false := by kernel_rfl
@[simp] theorem ld_86 {b o : Nat} : ldv Tryz.prog 86 (.pointer (some ⟨b, o, none⟩)) w = ldC (hp w b) o := ldv_blk ag_86
theorem sz_88 : (Tryz.prog.info? 88).map (·.size) = some 7 := by kernel_rfl
theorem ag_88 : (Tryz.prog.underlying 88).map isAggD = some true := by kernel_rfl
theorem ld_88 {b o : Nat} : ldv Tryz.prog 88 (.pointer (some ⟨b, o, none⟩)) w = (ldL (hp w b) o 7).map fun l => .agg l.toArray := ldv_L ag_88 sz_88
theorem sz_93 : (Tryz.prog.info? 93).map (·.size) = some 1 := by kernel_rfl
theorem ag_93 : (Tryz.prog.underlying 93).map isAggD = some false := by kernel_rfl
@[simp] theorem ld_93 {b o : Nat} : ldv Tryz.prog 93 (.pointer (some ⟨b, o, none⟩)) w = ldC (hp w b) o := ldv_blk ag_93
theorem sz_105 : (Tryz.prog.info? 105).map (·.size) = some 1 := by kernel_rfl
theorem ag_105 : (Tryz.prog.underlying 105).map isAggD = some false := by kernel_rfl
@[simp] theorem aM {b o : Nat} : ldv Tryz.prog 105 (.pointer (some ⟨b, o, none⟩)) w = ldC (hp w b) o := ldv_blk ag_105
theorem ag_106 : (Tryz.prog.underlying 106).map isAggD = some false := by kernel_rfl
@[simp] theorem ld_106 {b o : Nat} : ldv Tryz.prog 106 (.pointer (some ⟨b, o, none⟩)) w = ldC (hp w b) o := ldv_blk ag_106
theorem sz_115 : (Tryz.prog.info? 115).map (·.size) = some 1 := by kernel_rfl
theorem ag_115 : (Tryz.prog.underlying 115).map isAggD = some false := by kernel_rfl
@[simp] theorem ld_115 {b o : Nat} : ldv Tryz.prog 115 (.pointer (some ⟨b, o, none⟩)) w = ldC (hp w b) o := ldv_blk ag_115
theorem sz_130 : (Tryz.prog.info? 130).map (·.size) = some 8 := by kernel_rfl
theorem ag_130 : (Tryz.prog.underlying 130).map isAggD = some true := by kernel_rfl
theorem ld_130 {b o : Nat} : ldv Tryz.prog 130 (.pointer (some ⟨b, o, none⟩)) w = (ldL (hp w b) o 8).map fun l => .agg l.toArray := ldv_L ag_130 sz_130
theorem sz_131 : (Tryz.prog.info? 131).map (·.size) = some 1 := by kernel_rfl
theorem ag_131 : (Tryz.prog.underlying 131).map isAggD = some false := by kernel_rfl
@[simp] theorem ld_131 {b o : Nat} : ldv Tryz.prog 131 (.pointer (some ⟨b, o, none⟩)) w = ldC (hp w b) o := ldv_blk ag_131
theorem sz_136 : (Tryz.prog.info? 136).map (·.size) = some 2 := by kernel_rfl
theorem ag_136 : (Tryz.prog.underlying 136).map isAggD = some true := by kernel_rfl
theorem ld_136 {b o : Nat} : ldv Tryz.prog 136 (.pointer (some ⟨b, o, none⟩)) w = (ldL (hp w b) o 2).map fun l => .agg l.toArray := ldv_L ag_136 sz_136
theorem sz_138 : (Tryz.prog.info? 138).map (·.size) = some 5 := by kernel_rfl
theorem ag_138 : (Tryz.prog.underlying 138).map isAggD = some true := by kernel_rfl
theorem ld_138 {b o : Nat} : ldv Tryz.prog 138 (.pointer (some ⟨b, o, none⟩)) w = (ldL (hp w b) o 5).map fun l => .agg l.toArray := ldv_L ag_138 sz_138
theorem st_3 {b o : Nat} {v : Value} (hv : v.cells = #[v]) (h1 : v.oneCell' = true) (h : okC (hp w b) (o + 1) = true) : effu Tryz.prog (Instr.storeAt 3 (.pointer (some ⟨b, o, none⟩)) v) w L = L (put w b ((getC (hp w b)).setIfInBounds o v) (getE (hp w b))) := bu sz_3 hv h1 h
theorem st_4 {b o : Nat} {v : Value} (hv : v.cells = #[v]) (h1 : v.oneCell' = true) (h : okC (hp w b) (o + 1) = true) : effu Tryz.prog (Instr.storeAt 4 (.pointer (some ⟨b, o, none⟩)) v) w L = L (put w b ((getC (hp w b)).setIfInBounds o v) (getE (hp w b))) := bu sz_4 hv h1 h
theorem st_22 {b o : Nat} {v : Value} (hv : v.cells = #[v]) (h1 : v.oneCell' = true) (h : okC (hp w b) (o + 1) = true) : effu Tryz.prog (Instr.storeAt 22 (.pointer (some ⟨b, o, none⟩)) v) w L = L (put w b ((getC (hp w b)).setIfInBounds o v) (getE (hp w b))) := bu sz_22 hv h1 h
theorem st_25 {b : Nat} {c : Array Value} (hc : c.size = 5) (h1 : c.toList.all (·.oneCell') = true) (h : okC (hp w b) 5 = true) (hs : (getC (hp w b)).size = 5) : effu Tryz.prog (Instr.storeAt 25 (.pointer (some ⟨b, 0, none⟩)) (.agg c)) w L = L (put w b c (getE (hp w b))) := effu_storeW sz_25 hc h1 (by decide) h hs
theorem st_26 {b o : Nat} {v : Value} (hv : v.cells = #[v]) (h1 : v.oneCell' = true) (h : okC (hp w b) (o + 1) = true) : effu Tryz.prog (Instr.storeAt 26 (.pointer (some ⟨b, o, none⟩)) v) w L = L (put w b ((getC (hp w b)).setIfInBounds o v) (getE (hp w b))) := bu sz_26 hv h1 h
theorem st_28 {b : Nat} {c : Array Value} (hc : c.size = 8) (h1 : c.toList.all (·.oneCell') = true) (h : okC (hp w b) 8 = true) (hs : (getC (hp w b)).size = 8) : effu Tryz.prog (Instr.storeAt 28 (.pointer (some ⟨b, 0, none⟩)) (.agg c)) w L = L (put w b c (getE (hp w b))) := effu_storeW sz_28 hc h1 (by decide) h hs
theorem st_33 {b : Nat} {c : Array Value} (hc : c.size = 6) (h1 : c.toList.all (·.oneCell') = true) (h : okC (hp w b) 6 = true) (hs : (getC (hp w b)).size = 6) : effu Tryz.prog (Instr.storeAt 33 (.pointer (some ⟨b, 0, none⟩)) (.agg c)) w L = L (put w b c (getE (hp w b))) := effu_storeW sz_33 hc h1 (by decide) h hs
theorem st_39 {b : Nat} {c : Array Value} (hc : c.size = 6) (h1 : c.toList.all (·.oneCell') = true) (h : okC (hp w b) 6 = true) (hs : (getC (hp w b)).size = 6) : effu Tryz.prog (Instr.storeAt 39 (.pointer (some ⟨b, 0, none⟩)) (.agg c)) w L = L (put w b c (getE (hp w b))) := effu_storeW sz_39 hc h1 (by decide) h hs
theorem st_44 {b o : Nat} {v : Value} (hv : v.cells = #[v]) (h1 : v.oneCell' = true) (h : okC (hp w b) (o + 1) = true) : effu Tryz.prog (Instr.storeAt 44 (.pointer (some ⟨b, o, none⟩)) v) w L = L (put w b ((getC (hp w b)).setIfInBounds o v) (getE (hp w b))) := bu sz_44 hv h1 h
theorem st_70 {b o : Nat} {v : Value} (hv : v.cells = #[v]) (h1 : v.oneCell' = true) (h : okC (hp w b) (o + 1) = true) : effu Tryz.prog (Instr.storeAt 70 (.pointer (some ⟨b, o, none⟩)) v) w L = L (put w b ((getC (hp w b)).setIfInBounds o v) (getE (hp w b))) := bu sz_70 hv h1 h
theorem st_71 {b o : Nat} {v : Value} (hv : v.cells = #[v]) (h1 : v.oneCell' = true) (h : okC (hp w b) (o + 1) = true) : effu Tryz.prog (Instr.storeAt 71 (.pointer (some ⟨b, o, none⟩)) v) w L = L (put w b ((getC (hp w b)).setIfInBounds o v) (getE (hp w b))) := bu sz_71 hv h1 h
theorem st_72 {b o : Nat} {v : Value} (hv : v.cells = #[v]) (h1 : v.oneCell' = true) (h : okC (hp w b) (o + 1) = true) : effu Tryz.prog (Instr.storeAt 72 (.pointer (some ⟨b, o, none⟩)) v) w L = L (put w b ((getC (hp w b)).setIfInBounds o v) (getE (hp w b))) := bu sz_72 hv h1 h
theorem st_74 {b : Nat} {c : Array Value} (hc : c.size = 10) (h1 : c.toList.all (·.oneCell') = true) (h : okC (hp w b) 10 = true) (hs : (getC (hp w b)).size = 10) : effu Tryz.prog (Instr.storeAt 74 (.pointer (some ⟨b, 0, none⟩)) (.agg c)) w L = L (put w b c (getE (hp w b))) := effu_storeW sz_74 hc h1 (by decide) h hs
theorem st_77 {b : Nat} {c : Array Value} (hc : c.size = 2) (h1 : c.toList.all (·.oneCell') = true) (h : okC (hp w b) 2 = true) (hs : (getC (hp w b)).size = 2) : effu Tryz.prog (Instr.storeAt 77 (.pointer (some ⟨b, 0, none⟩)) (.agg c)) w L = L (put w b c (getE (hp w b))) := effu_storeW sz_77 hc h1 (by decide) h hs
theorem st_79 {b o : Nat} {v : Value} (hv : v.cells = #[v]) (h1 : v.oneCell' = true) (h : okC (hp w b) (o + 1) = true) : effu Tryz.prog (Instr.storeAt 79 (.pointer (some ⟨b, o, none⟩)) v) w L = L (put w b ((getC (hp w b)).setIfInBounds o v) (getE (hp w b))) := bu sz_79 hv h1 h
theorem st_81 {b : Nat} {c : Array Value} (hc : c.size = 2) (h1 : c.toList.all (·.oneCell') = true) (h : okC (hp w b) 2 = true) (hs : (getC (hp w b)).size = 2) : effu Tryz.prog (Instr.storeAt 81 (.pointer (some ⟨b, 0, none⟩)) (.agg c)) w L = L (put w b c (getE (hp w b))) := effu_storeW sz_81 hc h1 (by decide) h hs
theorem st_84 {b : Nat} {c : Array Value} (hc : c.size = 2) (h1 : c.toList.all (·.oneCell') = true) (h : okC (hp w b) 2 = true) (hs : (getC (hp w b)).size = 2) : effu Tryz.prog (Instr.storeAt 84 (.pointer (some ⟨b, 0, none⟩)) (.agg c)) w L = L (put w b c (getE (hp w b))) := effu_storeW sz_84 hc h1 (by decide) h hs
theorem st_86 {b o : Nat} {v : Value} (hv : v.cells = #[v]) (h1 : v.oneCell' = true) (h : okC (hp w b) (o + 1) = true) : effu Tryz.prog (Instr.storeAt 86 (.pointer (some ⟨b, o, none⟩)) v) w L = L (put w b ((getC (hp w b)).setIfInBounds o v) (getE (hp w b))) := bu sz_86 hv h1 h
theorem st_88 {b : Nat} {c : Array Value} (hc : c.size = 7) (h1 : c.toList.all (·.oneCell') = true) (h : okC (hp w b) 7 = true) (hs : (getC (hp w b)).size = 7) : effu Tryz.prog (Instr.storeAt 88 (.pointer (some ⟨b, 0, none⟩)) (.agg c)) w L = L (put w b c (getE (hp w b))) := effu_storeW sz_88 hc h1 (by decide) h hs
theorem st_93 {b o : Nat} {v : Value} (hv : v.cells = #[v]) (h1 : v.oneCell' = true) (h : okC (hp w b) (o + 1) = true) : effu Tryz.prog (Instr.storeAt 93 (.pointer (some ⟨b, o, none⟩)) v) w L = L (put w b ((getC (hp w b)).setIfInBounds o v) (getE (hp w b))) := bu sz_93 hv h1 h
theorem st_105 {b o : Nat} {v : Value} (hv : v.cells = #[v]) (h1 : v.oneCell' = true) (h : okC (hp w b) (o + 1) = true) : effu Tryz.prog (Instr.storeAt 105 (.pointer (some ⟨b, o, none⟩)) v) w L = L (put w b ((getC (hp w b)).setIfInBounds o v) (getE (hp w b))) := bu sz_105 hv h1 h
theorem st_130 {b : Nat} {c : Array Value} (hc : c.size = 8) (h1 : c.toList.all (·.oneCell') = true) (h : okC (hp w b) 8 = true) (hs : (getC (hp w b)).size = 8) : effu Tryz.prog (Instr.storeAt 130 (.pointer (some ⟨b, 0, none⟩)) (.agg c)) w L = L (put w b c (getE (hp w b))) := effu_storeW sz_130 hc h1 (by decide) h hs
theorem st_131 {b o : Nat} {v : Value} (hv : v.cells = #[v]) (h1 : v.oneCell' = true) (h : okC (hp w b) (o + 1) = true) : effu Tryz.prog (Instr.storeAt 131 (.pointer (some ⟨b, o, none⟩)) v) w L = L (put w b ((getC (hp w b)).setIfInBounds o v) (getE (hp w b))) := bu sz_131 hv h1 h
theorem st_138 {b : Nat} {c : Array Value} (hc : c.size = 5) (h1 : c.toList.all (·.oneCell') = true) (h : okC (hp w b) 5 = true) (hs : (getC (hp w b)).size = 5) : effu Tryz.prog (Instr.storeAt 138 (.pointer (some ⟨b, 0, none⟩)) (.agg c)) w L = L (put w b c (getE (hp w b))) := effu_storeW sz_138 hc h1 (by decide) h hs
@[simp] theorem al_25 {x : Value} : effv Tryz.prog (Instr.alloc 25 true x) w K = K (.pointer (some ⟨w.heap.size, 0, none⟩)) (w.alloc (.cells #[.int .i64 0, .int .i64 0, .int .i64 0, .int .i64 0, .int .i64 0] 25)) := effv_alloc (z := (.agg #[.int .i64 0, .int .i64 0, .int .i64 0, .int .i64 0, .int .i64 0])) (by kernel_rfl)
@[simp] theorem al_28 {x : Value} : effv Tryz.prog (Instr.alloc 28 true x) w K = K (.pointer (some ⟨w.heap.size, 0, none⟩)) (w.alloc (.cells #[.int .i64 0, .int .i64 0, .int .i64 0, .int .i64 0, .int .i64 0, .int .i64 0, .int .i64 0, .int .u64 0] 28)) := effv_alloc (z := (.agg #[.int .i64 0, .int .i64 0, .int .i64 0, .int .i64 0, .int .i64 0, .int .i64 0, .int .i64 0, .int .u64 0])) (by kernel_rfl)
@[simp] theorem al_33 {x : Value} : effv Tryz.prog (Instr.alloc 33 true x) w K = K (.pointer (some ⟨w.heap.size, 0, none⟩)) (w.alloc (.cells #[.int .i64 0, .int .i64 0, .int .i64 0, .int .i64 0, .int .i64 0, .int .i64 0] 33)) := effv_alloc (z := (.agg #[.int .i64 0, .int .i64 0, .int .i64 0, .int .i64 0, .int .i64 0, .int .i64 0])) (by kernel_rfl)
@[simp] theorem al_39 {x : Value} : effv Tryz.prog (Instr.alloc 39 true x) w K = K (.pointer (some ⟨w.heap.size, 0, none⟩)) (w.alloc (.cells #[.int .i64 0, .int .i64 0, .int .i64 0, .int .i64 0, .int .u64 0, .int .u64 0] 39)) := effv_alloc (z := (.agg #[.int .i64 0, .int .i64 0, .int .i64 0, .int .i64 0, .int .u64 0, .int .u64 0])) (by kernel_rfl)
@[simp] theorem al_74 {x : Value} : effv Tryz.prog (Instr.alloc 74 true x) w K = K (.pointer (some ⟨w.heap.size, 0, none⟩)) (w.alloc (.cells #[.int .i64 0, .int .i64 0, .int .i64 0, .int .i64 0, .int .i64 0, .int .i64 0, .bool false, .slice none 0 0, .slice none 0 0, .slice none 0 0] 74)) := effv_alloc (z := (.agg #[.int .i64 0, .int .i64 0, .int .i64 0, .int .i64 0, .int .i64 0, .int .i64 0, .bool false, .slice none 0 0, .slice none 0 0, .slice none 0 0])) (by kernel_rfl)
@[simp] theorem al_77 {x : Value} : effv Tryz.prog (Instr.alloc 77 true x) w K = K (.pointer (some ⟨w.heap.size, 0, none⟩)) (w.alloc (.cells #[.int .i64 0, .int .i64 0] 77)) := effv_alloc (z := (.agg #[.int .i64 0, .int .i64 0])) (by kernel_rfl)
@[simp] theorem al_81 {x : Value} : effv Tryz.prog (Instr.alloc 81 true x) w K = K (.pointer (some ⟨w.heap.size, 0, none⟩)) (w.alloc (.cells #[.int .i64 0, .slice none 0 0] 81)) := effv_alloc (z := (.agg #[.int .i64 0, .slice none 0 0])) (by kernel_rfl)
@[simp] theorem al_84 {x : Value} : effv Tryz.prog (Instr.alloc 84 true x) w K = K (.pointer (some ⟨w.heap.size, 0, none⟩)) (w.alloc (.cells #[.int .i64 0, .int .i64 0] 84)) := effv_alloc (z := (.agg #[.int .i64 0, .int .i64 0])) (by kernel_rfl)
@[simp] theorem al_88 {x : Value} : effv Tryz.prog (Instr.alloc 88 true x) w K = K (.pointer (some ⟨w.heap.size, 0, none⟩)) (w.alloc (.cells #[.int .i64 0, .int .i64 0, .int .i64 0, .int .i64 0, .slice none 0 0, .slice none 0 0, .slice none 0 0] 88)) := effv_alloc (z := (.agg #[.int .i64 0, .int .i64 0, .int .i64 0, .int .i64 0, .slice none 0 0, .slice none 0 0, .slice none 0 0])) (by kernel_rfl)
@[simp] theorem al_130 {x : Value} : effv Tryz.prog (Instr.alloc 130 true x) w K = K (.pointer (some ⟨w.heap.size, 0, none⟩)) (w.alloc (.cells #[.int .i64 0, .int .i64 0, .int .i64 0, .int .i64 0, .bool false, .slice none 0 0, .slice none 0 0, .slice none 0 0] 130)) := effv_alloc (z := (.agg #[.int .i64 0, .int .i64 0, .int .i64 0, .int .i64 0, .bool false, .slice none 0 0, .slice none 0 0, .slice none 0 0])) (by kernel_rfl)
@[simp] theorem al_138 {x : Value} : effv Tryz.prog (Instr.alloc 138 true x) w K = K (.pointer (some ⟨w.heap.size, 0, none⟩)) (w.alloc (.cells #[.string { data := #[] }, .int .i64 0, .bool false, .bool false, .bool false] 138)) := effv_alloc (z := (.agg #[.string { data := #[] }, .int .i64 0, .bool false, .bool false, .bool false])) (by kernel_rfl)
@[simp] theorem bd_25_  : pureRun Tryz.prog (Instr.build 25 #[]) = some (.agg #[(.int .i64 0), (.int .i64 0), (.int .i64 0), (.int .i64 0), (.int .i64 0)]) := au fun w => run_build w 25 _ _ (by kernel_rfl)
@[simp] theorem bd_25_0_1 {x0 : Int} {x1 : Int} : pureRun Tryz.prog (Instr.build 25 #[(0, (.int .i64 x0)), (1, (.int .i64 x1))]) = some (.agg #[(.int .i64 x0), (.int .i64 x1), (.int .i64 0), (.int .i64 0), (.int .i64 0)]) := au fun w => run_build w 25 _ _ (by kernel_rfl)
@[simp] theorem bd_25_0_1_2_3_4 {x0 : Int} {x1 : Int} {x2 : Int} {x3 : Int} {x4 : Int} : pureRun Tryz.prog (Instr.build 25 #[(0, (.int .i64 x0)), (1, (.int .i64 x1)), (2, (.int .i64 x2)), (3, (.int .i64 x3)), (4, (.int .i64 x4))]) = some (.agg #[(.int .i64 x0), (.int .i64 x1), (.int .i64 x2), (.int .i64 x3), (.int .i64 x4)]) := au fun w => run_build w 25 _ _ (by kernel_rfl)
@[simp] theorem bd_25_0_1_2_4 {x0 : Int} {x1 : Int} {x2 : Int} {x4 : Int} : pureRun Tryz.prog (Instr.build 25 #[(0, (.int .i64 x0)), (1, (.int .i64 x1)), (2, (.int .i64 x2)), (4, (.int .i64 x4))]) = some (.agg #[(.int .i64 x0), (.int .i64 x1), (.int .i64 x2), (.int .i64 0), (.int .i64 x4)]) := au fun w => run_build w 25 _ _ (by kernel_rfl)
@[simp] theorem bd_25_1 {x1 : Int} : pureRun Tryz.prog (Instr.build 25 #[(1, (.int .i64 x1))]) = some (.agg #[(.int .i64 0), (.int .i64 x1), (.int .i64 0), (.int .i64 0), (.int .i64 0)]) := au fun w => run_build w 25 _ _ (by kernel_rfl)
@[simp] theorem bd_28_  : pureRun Tryz.prog (Instr.build 28 #[]) = some (.agg #[(.int .i64 0), (.int .i64 0), (.int .i64 0), (.int .i64 0), (.int .i64 0), (.int .i64 0), (.int .i64 0), (.int .u64 0)]) := au fun w => run_build w 28 _ _ (by kernel_rfl)
@[simp] theorem bd_28_0 {x0 : Int} : pureRun Tryz.prog (Instr.build 28 #[(0, (.int .i64 x0))]) = some (.agg #[(.int .i64 x0), (.int .i64 0), (.int .i64 0), (.int .i64 0), (.int .i64 0), (.int .i64 0), (.int .i64 0), (.int .u64 0)]) := au fun w => run_build w 28 _ _ (by kernel_rfl)
@[simp] theorem bd_28_0_2_3 {x0 : Int} {x2 : Int} {x3 : Int} : pureRun Tryz.prog (Instr.build 28 #[(0, (.int .i64 x0)), (2, (.int .i64 x2)), (3, (.int .u64 x3))]) = some (.agg #[(.int .i64 x0), (.int .i64 0), (.int .i64 0), (.int .i64 0), (.int .i64 0), (.int .i64 0), (.int .i64 x2), (.int .u64 x3)]) := au fun w => run_build w 28 _ _ (by kernel_rfl)
@[simp] theorem bd_28_1 {x1_0 x1_1 x1_2 x1_3 x1_4 : Value} : pureRun Tryz.prog (Instr.build 28 #[(1, (.agg #[x1_0, x1_1, x1_2, x1_3, x1_4]))]) = some (.agg #[(.int .i64 0), x1_0, x1_1, x1_2, x1_3, x1_4, (.int .i64 0), (.int .u64 0)]) := au fun w => run_build w 28 _ _ (by kernel_rfl)
@[simp] theorem bd_28_2 {x2 : Int} : pureRun Tryz.prog (Instr.build 28 #[(2, (.int .i64 x2))]) = some (.agg #[(.int .i64 0), (.int .i64 0), (.int .i64 0), (.int .i64 0), (.int .i64 0), (.int .i64 0), (.int .i64 x2), (.int .u64 0)]) := au fun w => run_build w 28 _ _ (by kernel_rfl)
@[simp] theorem bd_28_3 {x3 : Int} : pureRun Tryz.prog (Instr.build 28 #[(3, (.int .u64 x3))]) = some (.agg #[(.int .i64 0), (.int .i64 0), (.int .i64 0), (.int .i64 0), (.int .i64 0), (.int .i64 0), (.int .i64 0), (.int .u64 x3)]) := au fun w => run_build w 28 _ _ (by kernel_rfl)
@[simp] theorem bd_33_0_1_2_3_4_5 {x0 : Int} {x1 : Int} {x2 : Int} {x3 : Int} {x4 : Int} {x5 : Int} : pureRun Tryz.prog (Instr.build 33 #[(0, (.int .i64 x0)), (1, (.int .i64 x1)), (2, (.int .i64 x2)), (3, (.int .i64 x3)), (4, (.int .i64 x4)), (5, (.int .i64 x5))]) = some (.agg #[(.int .i64 x0), (.int .i64 x1), (.int .i64 x2), (.int .i64 x3), (.int .i64 x4), (.int .i64 x5)]) := au fun w => run_build w 33 _ _ (by kernel_rfl)
@[simp] theorem bd_33_0_1_2_3_5 {x0 : Int} {x1 : Int} {x2 : Int} {x3 : Int} {x5 : Int} : pureRun Tryz.prog (Instr.build 33 #[(0, (.int .i64 x0)), (1, (.int .i64 x1)), (2, (.int .i64 x2)), (3, (.int .i64 x3)), (5, (.int .i64 x5))]) = some (.agg #[(.int .i64 x0), (.int .i64 x1), (.int .i64 x2), (.int .i64 x3), (.int .i64 0), (.int .i64 x5)]) := au fun w => run_build w 33 _ _ (by kernel_rfl)
@[simp] theorem bd_37_0 {x0 : Option Addr} {y0 z0 : Nat} : pureRun Tryz.prog (Instr.build 37 #[(0, (.slice x0 y0 z0))]) = some (.agg #[(.slice x0 y0 z0), (.int .i64 0)]) := au fun w => run_build w 37 _ _ (by kernel_rfl)
@[simp] theorem bd_39_0 {x0 : Int} : pureRun Tryz.prog (Instr.build 39 #[(0, (.int .i64 x0))]) = some (.agg #[(.int .i64 x0), (.int .i64 0), (.int .i64 0), (.int .i64 0), (.int .u64 0), (.int .u64 0)]) := au fun w => run_build w 39 _ _ (by kernel_rfl)
@[simp] theorem bd_39_1_2 {x1 : Int} {x2 : Int} : pureRun Tryz.prog (Instr.build 39 #[(1, (.int .i64 x1)), (2, (.int .i64 x2))]) = some (.agg #[(.int .i64 0), (.int .i64 x1), (.int .i64 x2), (.int .i64 0), (.int .u64 0), (.int .u64 0)]) := au fun w => run_build w 39 _ _ (by kernel_rfl)
@[simp] theorem bd_46_0_1_2 {x0_0 x0_1 x0_2 x0_3 x0_4 x0_5 : Value} {x1 : Option Addr} {x2 : Option Addr} : pureRun Tryz.prog (Instr.build 46 #[(0, (.agg #[x0_0, x0_1, x0_2, x0_3, x0_4, x0_5])), (1, (.pointer x1)), (2, (.pointer x2))]) = some (.agg #[x0_0, x0_1, x0_2, x0_3, x0_4, x0_5, (.pointer x1), (.pointer x2), (.slice none 0 0)]) := au fun w => run_build w 46 _ _ (by kernel_rfl)
@[simp] theorem bd_74_0_2_4 {x0_0 x0_1 x0_2 x0_3 x0_4 x0_5 : Value} {x2 : Option Addr} {y2 z2 : Nat} {x4 : Option Addr} {y4 z4 : Nat} : pureRun Tryz.prog (Instr.build 74 #[(0, (.agg #[x0_0, x0_1, x0_2, x0_3, x0_4, x0_5])), (2, (.slice x2 y2 z2)), (4, (.slice x4 y4 z4))]) = some (.agg #[x0_0, x0_1, x0_2, x0_3, x0_4, x0_5, (.bool false), (.slice x2 y2 z2), (.slice none 0 0), (.slice x4 y4 z4)]) := au fun w => run_build w 74 _ _ (by kernel_rfl)
@[simp] theorem bd_77_0_1 {x0 : Int} {x1 : Int} : pureRun Tryz.prog (Instr.build 77 #[(0, (.int .i64 x0)), (1, (.int .i64 x1))]) = some (.agg #[(.int .i64 x0), (.int .i64 x1)]) := au fun w => run_build w 77 _ _ (by kernel_rfl)
@[simp] theorem bd_84_0_1 {x0 : Int} {x1 : Int} : pureRun Tryz.prog (Instr.build 84 #[(0, (.int .i64 x0)), (1, (.int .i64 x1))]) = some (.agg #[(.int .i64 x0), (.int .i64 x1)]) := au fun w => run_build w 84 _ _ (by kernel_rfl)
@[simp] theorem bd_88_0_1 {x0_0 x0_1 : Value} {x1 : Int} : pureRun Tryz.prog (Instr.build 88 #[(0, (.agg #[x0_0, x0_1])), (1, (.int .i64 x1))]) = some (.agg #[x0_0, x0_1, (.int .i64 x1), (.int .i64 0), (.slice none 0 0), (.slice none 0 0), (.slice none 0 0)]) := au fun w => run_build w 88 _ _ (by kernel_rfl)
@[simp] theorem bd_108_0_1_2_3_5_6 {x0_0 x0_1 x0_2 x0_3 x0_4 x0_5 : Value} {x1 : Bool} {x2 : Option Addr} {y2 z2 : Nat} {x3 : Option Addr} {y3 z3 : Nat} {x5 : Option Addr} {y5 z5 : Nat} {x6 : Option Addr} {y6 z6 : Nat} : pureRun Tryz.prog (Instr.build 108 #[(0, (.agg #[x0_0, x0_1, x0_2, x0_3, x0_4, x0_5])), (1, (.bool x1)), (2, (.slice x2 y2 z2)), (3, (.slice x3 y3 z3)), (5, (.slice x5 y5 z5)), (6, (.slice x6 y6 z6))]) = some (.agg #[x0_0, x0_1, x0_2, x0_3, x0_4, x0_5, (.bool x1), (.slice x2 y2 z2), (.slice x3 y3 z3), (.slice none 0 0), (.slice x5 y5 z5), (.slice x6 y6 z6)]) := au fun w => run_build w 108 _ _ (by kernel_rfl)
@[simp] theorem bd_130_0_1_2_4 {x0 : Int} {x1 : Int} {x2 : Int} {x4 : Bool} : pureRun Tryz.prog (Instr.build 130 #[(0, (.int .i64 x0)), (1, (.int .i64 x1)), (2, (.int .i64 x2)), (4, (.bool x4))]) = some (.agg #[(.int .i64 x0), (.int .i64 x1), (.int .i64 x2), (.int .i64 0), (.bool x4), (.slice none 0 0), (.slice none 0 0), (.slice none 0 0)]) := au fun w => run_build w 130 _ _ (by kernel_rfl)
@[simp] theorem bd_136_0_1 {x0 : Int} {x1 : Int} : pureRun Tryz.prog (Instr.build 136 #[(0, (.int .i64 x0)), (1, (.int .i64 x1))]) = some (.agg #[(.int .i64 x0), (.int .i64 x1)]) := au fun w => run_build w 136 _ _ (by kernel_rfl)
@[simp] theorem bd_138_  : pureRun Tryz.prog (Instr.build 138 #[]) = some (.agg #[(.string { data := #[] }), (.int .i64 0), (.bool false), (.bool false), (.bool false)]) := au fun w => run_build w 138 _ _ (by kernel_rfl)
@[simp] theorem bd_138_0 {x0 : ByteArray} : pureRun Tryz.prog (Instr.build 138 #[(0, (.string x0))]) = some (.agg #[(.string x0), (.int .i64 0), (.bool false), (.bool false), (.bool false)]) := au fun w => run_build w 138 _ _ (by kernel_rfl)
@[simp] theorem bd_138_0_1 {x0 : ByteArray} {x1 : Int} : pureRun Tryz.prog (Instr.build 138 #[(0, (.string x0)), (1, (.int .i64 x1))]) = some (.agg #[(.string x0), (.int .i64 x1), (.bool false), (.bool false), (.bool false)]) := au fun w => run_build w 138 _ _ (by kernel_rfl)
@[simp] theorem bd_138_0_1_2 {x0 : ByteArray} {x1 : Int} {x2 : Bool} : pureRun Tryz.prog (Instr.build 138 #[(0, (.string x0)), (1, (.int .i64 x1)), (2, (.bool x2))]) = some (.agg #[(.string x0), (.int .i64 x1), (.bool x2), (.bool false), (.bool false)]) := au fun w => run_build w 138 _ _ (by kernel_rfl)
@[simp] theorem bd_138_0_1_2_3 {x0 : ByteArray} {x1 : Int} {x2 : Bool} {x3 : Bool} : pureRun Tryz.prog (Instr.build 138 #[(0, (.string x0)), (1, (.int .i64 x1)), (2, (.bool x2)), (3, (.bool x3))]) = some (.agg #[(.string x0), (.int .i64 x1), (.bool x2), (.bool x3), (.bool false)]) := au fun w => run_build w 138 _ _ (by kernel_rfl)
@[simp] theorem bd_138_0_1_2_3_4 {x0 : ByteArray} {x1 : Int} {x2 : Bool} {x3 : Bool} {x4 : Bool} : pureRun Tryz.prog (Instr.build 138 #[(0, (.string x0)), (1, (.int .i64 x1)), (2, (.bool x2)), (3, (.bool x3)), (4, (.bool x4))]) = some (.agg #[(.string x0), (.int .i64 x1), (.bool x2), (.bool x3), (.bool x4)]) := au fun w => run_build w 138 _ _ (by kernel_rfl)
@[simp] theorem bd_138_0_2 {x0 : ByteArray} {x2 : Bool} : pureRun Tryz.prog (Instr.build 138 #[(0, (.string x0)), (2, (.bool x2))]) = some (.agg #[(.string x0), (.int .i64 0), (.bool x2), (.bool false), (.bool false)]) := au fun w => run_build w 138 _ _ (by kernel_rfl)
theorem inf_3 : ∃ i, Tryz.prog.info? 3 = some i ∧ i.zero = some (.int .i64 0) ∧ i.size = 1 ∧ i.bytes = 8 := ⟨Tryz.t3, by kernel_rfl, rfl, rfl, rfl⟩
theorem inf_25 : ∃ i, Tryz.prog.info? 25 = some i ∧ i.zero = some (.agg #[.int .i64 0, .int .i64 0, .int .i64 0, .int .i64 0, .int .i64 0]) ∧ i.size = 5 ∧ i.bytes = 40 := ⟨Tryz.t25, by kernel_rfl, rfl, rfl, rfl⟩
theorem inf_77 : ∃ i, Tryz.prog.info? 77 = some i ∧ i.zero = some (.agg #[.int .i64 0, .int .i64 0]) ∧ i.size = 2 ∧ i.bytes = 16 := ⟨Tryz.t77, by kernel_rfl, rfl, rfl, rfl⟩
theorem inf_88 : ∃ i, Tryz.prog.info? 88 = some i ∧ i.zero = some (.agg #[.int .i64 0, .int .i64 0, .int .i64 0, .int .i64 0, .slice none 0 0, .slice none 0 0, .slice none 0 0]) ∧ i.size = 7 ∧ i.bytes = 104 := ⟨Tryz.t88, by kernel_rfl, rfl, rfl, rfl⟩
theorem inf_81 : ∃ i, Tryz.prog.info? 81 = some i ∧ i.zero = some (.agg #[.int .i64 0, .slice none 0 0]) ∧ i.size = 2 ∧ i.bytes = 32 := ⟨Tryz.t81, by kernel_rfl, rfl, rfl, rfl⟩
theorem inf_84 : ∃ i, Tryz.prog.info? 84 = some i ∧ i.zero = some (.agg #[.int .i64 0, .int .i64 0]) ∧ i.size = 2 ∧ i.bytes = 16 := ⟨Tryz.t84, by kernel_rfl, rfl, rfl, rfl⟩
theorem inf_93 : ∃ i, Tryz.prog.info? 93 = some i ∧ i.zero = some (.slice none 0 0) ∧ i.size = 1 ∧ i.bytes = 24 := ⟨Tryz.t93, by kernel_rfl, rfl, rfl, rfl⟩
theorem inf_26 : ∃ i, Tryz.prog.info? 26 = some i ∧ i.zero = some (.int .u64 0) ∧ i.size = 1 ∧ i.bytes = 8 := ⟨Tryz.t26, by kernel_rfl, rfl, rfl, rfl⟩
theorem inf_130 : ∃ i, Tryz.prog.info? 130 = some i ∧ i.zero = some (.agg #[.int .i64 0, .int .i64 0, .int .i64 0, .int .i64 0, .bool false, .slice none 0 0, .slice none 0 0, .slice none 0 0]) ∧ i.size = 8 ∧ i.bytes = 112 := ⟨Tryz.t130, by kernel_rfl, rfl, rfl, rfl⟩
theorem inf_131 : ∃ i, Tryz.prog.info? 131 = some i ∧ i.zero = some (.slice none 0 0) ∧ i.size = 1 ∧ i.bytes = 24 := ⟨Tryz.t131, by kernel_rfl, rfl, rfl, rfl⟩
theorem inf_39 : ∃ i, Tryz.prog.info? 39 = some i ∧ i.zero = some (.agg #[.int .i64 0, .int .i64 0, .int .i64 0, .int .i64 0, .int .u64 0, .int .u64 0]) ∧ i.size = 6 ∧ i.bytes = 48 := ⟨Tryz.t39, by kernel_rfl, rfl, rfl, rfl⟩
theorem inf_136 : ∃ i, Tryz.prog.info? 136 = some i ∧ i.zero = some (.agg #[.int .i64 0, .int .i64 0]) ∧ i.size = 2 ∧ i.bytes = 16 := ⟨Tryz.t136, by kernel_rfl, rfl, rfl, rfl⟩
theorem ps_22 {x0 : Int} {x : Value} {base n : Nat} {xs : List Value} (h1 : ∀ u ∈ ([(.int .i64 x0)] : List Value), u.oneCell' = true) (hown : w.ownsRow base 3 1 x n xs) (hn : n + 1 ≤ 1048577) (hbase : base ≤ w.heap.size) (hk : ∀ x' w', w'.ownsRow base 3 1 x' (n + 1) (xs ++ [(.int .i64 x0)]) → w.grownBy w' x.ownBlock → NewB w x x' → K x' w') :
    effv Tryz.prog (Instr.buildSlice 22 1 #[(0, (.int .i64 x0))]) w fun y w1 => effv Tryz.prog (Builtin.append_ #[22, 22] 22 #[x, y]) w1 K := by
  obtain ⟨i, hi, hz, hs, hb⟩ := inf_3
  exact eff_pushN (cs := [(.int .i64 x0)]) Tryz.underlying22 hi hz hs rfl (by decide) (by decide) (by kernel_rfl) rfl h1 hown (by unfold maxLen; omega) (by rw [hb]; omega) hbase hk
@[simp] theorem bs_22_1 {x0 : Int} : effv Tryz.prog (Instr.buildSlice 22 1 #[(0, (.int .i64 x0))]) w K = K (.slice (some ⟨w.heap.size, 0, none⟩) 1 1) (w.alloc (.cells #[(.int .i64 x0)] 3)) := by
  obtain ⟨i, hi, hz, hs, hb⟩ := inf_3
  exact aX (z := 1) Tryz.underlying22 hi hz hs (by decide) (by decide) (by kernel_rfl)
@[simp] theorem bs_22_2 {x0 : Int} {x1 : Int} : effv Tryz.prog (Instr.buildSlice 22 2 #[(0, (.int .i64 x0)), (1, (.int .i64 x1))]) w K = K (.slice (some ⟨w.heap.size, 0, none⟩) 2 2) (w.alloc (.cells #[(.int .i64 x0), (.int .i64 x1)] 3)) := by
  obtain ⟨i, hi, hz, hs, hb⟩ := inf_3
  exact aX (z := 1) Tryz.underlying22 hi hz hs (by decide) (by decide) (by kernel_rfl)
@[simp] theorem bs_22_6 {x0 : Int} {x1 : Int} {x2 : Int} {x3 : Int} {x4 : Int} {x5 : Int} : effv Tryz.prog (Instr.buildSlice 22 6 #[(0, (.int .i64 x0)), (1, (.int .i64 x1)), (2, (.int .i64 x2)), (3, (.int .i64 x3)), (4, (.int .i64 x4)), (5, (.int .i64 x5))]) w K = K (.slice (some ⟨w.heap.size, 0, none⟩) 6 6) (w.alloc (.cells #[(.int .i64 x0), (.int .i64 x1), (.int .i64 x2), (.int .i64 x3), (.int .i64 x4), (.int .i64 x5)] 3)) := by
  obtain ⟨i, hi, hz, hs, hb⟩ := inf_3
  exact aX (z := 1) Tryz.underlying22 hi hz hs (by decide) (by decide) (by kernel_rfl)
@[simp] theorem bs_22_9 {x0 : Int} {x1 : Int} {x2 : Int} {x3 : Int} {x4 : Int} {x5 : Int} {x6 : Int} {x7 : Int} {x8 : Int} : effv Tryz.prog (Instr.buildSlice 22 9 #[(0, (.int .i64 x0)), (1, (.int .i64 x1)), (2, (.int .i64 x2)), (3, (.int .i64 x3)), (4, (.int .i64 x4)), (5, (.int .i64 x5)), (6, (.int .i64 x6)), (7, (.int .i64 x7)), (8, (.int .i64 x8))]) w K = K (.slice (some ⟨w.heap.size, 0, none⟩) 9 9) (w.alloc (.cells #[(.int .i64 x0), (.int .i64 x1), (.int .i64 x2), (.int .i64 x3), (.int .i64 x4), (.int .i64 x5), (.int .i64 x6), (.int .i64 x7), (.int .i64 x8)] 3)) := by
  obtain ⟨i, hi, hz, hs, hb⟩ := inf_3
  exact aX (z := 1) Tryz.underlying22 hi hz hs (by decide) (by decide) (by kernel_rfl)
@[simp] theorem bs_22_23 {x0 : Int} {x1 : Int} {x2 : Int} {x3 : Int} {x4 : Int} {x5 : Int} {x6 : Int} {x7 : Int} {x8 : Int} {x9 : Int} {x10 : Int} {x11 : Int} {x12 : Int} {x13 : Int} {x14 : Int} {x15 : Int} {x16 : Int} {x17 : Int} {x18 : Int} {x19 : Int} {x20 : Int} {x21 : Int} {x22 : Int} : effv Tryz.prog (Instr.buildSlice 22 23 #[(0, (.int .i64 x0)), (1, (.int .i64 x1)), (2, (.int .i64 x2)), (3, (.int .i64 x3)), (4, (.int .i64 x4)), (5, (.int .i64 x5)), (6, (.int .i64 x6)), (7, (.int .i64 x7)), (8, (.int .i64 x8)), (9, (.int .i64 x9)), (10, (.int .i64 x10)), (11, (.int .i64 x11)), (12, (.int .i64 x12)), (13, (.int .i64 x13)), (14, (.int .i64 x14)), (15, (.int .i64 x15)), (16, (.int .i64 x16)), (17, (.int .i64 x17)), (18, (.int .i64 x18)), (19, (.int .i64 x19)), (20, (.int .i64 x20)), (21, (.int .i64 x21)), (22, (.int .i64 x22))]) w K = K (.slice (some ⟨w.heap.size, 0, none⟩) 23 23) (w.alloc (.cells #[(.int .i64 x0), (.int .i64 x1), (.int .i64 x2), (.int .i64 x3), (.int .i64 x4), (.int .i64 x5), (.int .i64 x6), (.int .i64 x7), (.int .i64 x8), (.int .i64 x9), (.int .i64 x10), (.int .i64 x11), (.int .i64 x12), (.int .i64 x13), (.int .i64 x14), (.int .i64 x15), (.int .i64 x16), (.int .i64 x17), (.int .i64 x18), (.int .i64 x19), (.int .i64 x20), (.int .i64 x21), (.int .i64 x22)] 3)) := by
  obtain ⟨i, hi, hz, hs, hb⟩ := inf_3
  exact aX (z := 1) Tryz.underlying22 hi hz hs (by decide) (by decide) (by kernel_rfl)
theorem ps_44 {x0_0 x0_1 x0_2 x0_3 x0_4 : Value} {x : Value} {base n : Nat} {xs : List Value} (h1 : ∀ u ∈ ([x0_0, x0_1, x0_2, x0_3, x0_4] : List Value), u.oneCell' = true) (hown : w.ownsRow base 25 5 x n xs) (hn : n + 1 ≤ 1048577) (hbase : base ≤ w.heap.size) (hk : ∀ x' w', w'.ownsRow base 25 5 x' (n + 1) (xs ++ [x0_0, x0_1, x0_2, x0_3, x0_4]) → w.grownBy w' x.ownBlock → NewB w x x' → K x' w') :
    effv Tryz.prog (Instr.buildSlice 44 1 #[(0, (.agg #[x0_0, x0_1, x0_2, x0_3, x0_4]))]) w fun y w1 => effv Tryz.prog (Builtin.append_ #[44, 44] 44 #[x, y]) w1 K := by
  obtain ⟨i, hi, hz, hs, hb⟩ := inf_25
  exact eff_pushN (cs := [x0_0, x0_1, x0_2, x0_3, x0_4]) Tryz.underlying44 hi hz hs rfl (by decide) (by decide) (by kernel_rfl) rfl h1 hown (by unfold maxLen; omega) (by rw [hb]; omega) hbase hk
@[simp] theorem bs_44_1 {x0_0 x0_1 x0_2 x0_3 x0_4 : Value} : effv Tryz.prog (Instr.buildSlice 44 1 #[(0, (.agg #[x0_0, x0_1, x0_2, x0_3, x0_4]))]) w K = K (.slice (some ⟨w.heap.size, 0, none⟩) 1 1) (w.alloc (.cells #[x0_0, x0_1, x0_2, x0_3, x0_4] 25)) := by
  obtain ⟨i, hi, hz, hs, hb⟩ := inf_25
  exact aX (z := 5) Tryz.underlying44 hi hz hs (by decide) (by decide) (by kernel_rfl)
theorem ps_71 {x0_0 x0_1 x0_2 x0_3 x0_4 x0_5 x0_6 : Value} {x : Value} {base n : Nat} {xs : List Value} (h1 : ∀ u ∈ ([x0_0, x0_1, x0_2, x0_3, x0_4, x0_5, x0_6] : List Value), u.oneCell' = true) (hown : w.ownsRow base 88 7 x n xs) (hn : n + 1 ≤ 1048577) (hbase : base ≤ w.heap.size) (hk : ∀ x' w', w'.ownsRow base 88 7 x' (n + 1) (xs ++ [x0_0, x0_1, x0_2, x0_3, x0_4, x0_5, x0_6]) → w.grownBy w' x.ownBlock → NewB w x x' → K x' w') :
    effv Tryz.prog (Instr.buildSlice 71 1 #[(0, (.agg #[x0_0, x0_1, x0_2, x0_3, x0_4, x0_5, x0_6]))]) w fun y w1 => effv Tryz.prog (Builtin.append_ #[71, 71] 71 #[x, y]) w1 K := by
  obtain ⟨i, hi, hz, hs, hb⟩ := inf_88
  exact eff_pushN (cs := [x0_0, x0_1, x0_2, x0_3, x0_4, x0_5, x0_6]) Tryz.underlying71 hi hz hs rfl (by decide) (by decide) (by kernel_rfl) rfl h1 hown (by unfold maxLen; omega) (by rw [hb]; omega) hbase hk
@[simp] theorem bs_71_1 {x0_0 x0_1 x0_2 x0_3 x0_4 x0_5 x0_6 : Value} : effv Tryz.prog (Instr.buildSlice 71 1 #[(0, (.agg #[x0_0, x0_1, x0_2, x0_3, x0_4, x0_5, x0_6]))]) w K = K (.slice (some ⟨w.heap.size, 0, none⟩) 1 1) (w.alloc (.cells #[x0_0, x0_1, x0_2, x0_3, x0_4, x0_5, x0_6] 88)) := by
  obtain ⟨i, hi, hz, hs, hb⟩ := inf_88
  exact aX (z := 7) Tryz.underlying71 hi hz hs (by decide) (by decide) (by kernel_rfl)
theorem ps_79 {x0_0 x0_1 : Value} {x : Value} {base n : Nat} {xs : List Value} (h1 : ∀ u ∈ ([x0_0, x0_1] : List Value), u.oneCell' = true) (hown : w.ownsRow base 84 2 x n xs) (hn : n + 1 ≤ 1048577) (hbase : base ≤ w.heap.size) (hk : ∀ x' w', w'.ownsRow base 84 2 x' (n + 1) (xs ++ [x0_0, x0_1]) → w.grownBy w' x.ownBlock → NewB w x x' → K x' w') :
    effv Tryz.prog (Instr.buildSlice 79 1 #[(0, (.agg #[x0_0, x0_1]))]) w fun y w1 => effv Tryz.prog (Builtin.append_ #[79, 79] 79 #[x, y]) w1 K := by
  obtain ⟨i, hi, hz, hs, hb⟩ := inf_84
  exact eff_pushN (cs := [x0_0, x0_1]) Tryz.underlying79 hi hz hs rfl (by decide) (by decide) (by kernel_rfl) rfl h1 hown (by unfold maxLen; omega) (by rw [hb]; omega) hbase hk
@[simp] theorem bs_79_1 {x0_0 x0_1 : Value} : effv Tryz.prog (Instr.buildSlice 79 1 #[(0, (.agg #[x0_0, x0_1]))]) w K = K (.slice (some ⟨w.heap.size, 0, none⟩) 1 1) (w.alloc (.cells #[x0_0, x0_1] 84)) := by
  obtain ⟨i, hi, hz, hs, hb⟩ := inf_84
  exact aX (z := 2) Tryz.underlying79 hi hz hs (by decide) (by decide) (by kernel_rfl)
theorem ps_86 {x0 : Option Addr} {y0 z0 : Nat} {x : Value} {base n : Nat} {xs : List Value} (h1 : ∀ u ∈ ([(.slice x0 y0 z0)] : List Value), u.oneCell' = true) (hown : w.ownsRow base 93 1 x n xs) (hn : n + 1 ≤ 1048577) (hbase : base ≤ w.heap.size) (hk : ∀ x' w', w'.ownsRow base 93 1 x' (n + 1) (xs ++ [(.slice x0 y0 z0)]) → w.grownBy w' x.ownBlock → NewB w x x' → K x' w') :
    effv Tryz.prog (Instr.buildSlice 86 1 #[(0, (.slice x0 y0 z0))]) w fun y w1 => effv Tryz.prog (Builtin.append_ #[86, 86] 86 #[x, y]) w1 K := by
  obtain ⟨i, hi, hz, hs, hb⟩ := inf_93
  exact eff_pushN (cs := [(.slice x0 y0 z0)]) Tryz.underlying86 hi hz hs rfl (by decide) (by decide) (by kernel_rfl) rfl h1 hown (by unfold maxLen; omega) (by rw [hb]; omega) hbase hk
@[simp] theorem bs_86_1 {x0 : Option Addr} {y0 z0 : Nat} : effv Tryz.prog (Instr.buildSlice 86 1 #[(0, (.slice x0 y0 z0))]) w K = K (.slice (some ⟨w.heap.size, 0, none⟩) 1 1) (w.alloc (.cells #[(.slice x0 y0 z0)] 93)) := by
  obtain ⟨i, hi, hz, hs, hb⟩ := inf_93
  exact aX (z := 1) Tryz.underlying86 hi hz hs (by decide) (by decide) (by kernel_rfl)
theorem inf_23 : ∃ i, Tryz.prog.info? 23 = some i ∧ i.zero = some (.int .i64 0) ∧ i.size = 1 ∧ i.bytes = 8 := ⟨Tryz.t23, by kernel_rfl, rfl, rfl, rfl⟩
@[simp] theorem bs_104_6 {x0 : Int} {x1 : Int} {x2 : Int} {x3 : Int} {x4 : Int} {x5 : Int} : effv Tryz.prog (Instr.buildSlice 104 6 #[(0, (.int .i64 x0)), (1, (.int .i64 x1)), (2, (.int .i64 x2)), (3, (.int .i64 x3)), (4, (.int .i64 x4)), (5, (.int .i64 x5))]) w K = K (.slice (some ⟨w.heap.size, 0, none⟩) 6 6) (w.alloc (.cells #[(.int .i64 x0), (.int .i64 x1), (.int .i64 x2), (.int .i64 x3), (.int .i64 x4), (.int .i64 x5)] 23)) := by
  obtain ⟨i, hi, hz, hs, hb⟩ := inf_23
  exact aX (z := 1) Tryz.underlying104 hi hz hs (by decide) (by decide) (by kernel_rfl)
theorem ps_105 {x0_0 x0_1 x0_2 x0_3 x0_4 x0_5 x0_6 x0_7 : Value} {x : Value} {base n : Nat} {xs : List Value} (h1 : ∀ u ∈ ([x0_0, x0_1, x0_2, x0_3, x0_4, x0_5, x0_6, x0_7] : List Value), u.oneCell' = true) (hown : w.ownsRow base 130 8 x n xs) (hn : n + 1 ≤ 1048577) (hbase : base ≤ w.heap.size) (hk : ∀ x' w', w'.ownsRow base 130 8 x' (n + 1) (xs ++ [x0_0, x0_1, x0_2, x0_3, x0_4, x0_5, x0_6, x0_7]) → w.grownBy w' x.ownBlock → NewB w x x' → K x' w') :
    effv Tryz.prog (Instr.buildSlice 105 1 #[(0, (.agg #[x0_0, x0_1, x0_2, x0_3, x0_4, x0_5, x0_6, x0_7]))]) w fun y w1 => effv Tryz.prog (Builtin.append_ #[105, 105] 105 #[x, y]) w1 K := by
  obtain ⟨i, hi, hz, hs, hb⟩ := inf_130
  exact eff_pushN (cs := [x0_0, x0_1, x0_2, x0_3, x0_4, x0_5, x0_6, x0_7]) Tryz.underlying105 hi hz hs rfl (by decide) (by decide) (by kernel_rfl) rfl h1 hown (by unfold maxLen; omega) (by rw [hb]; omega) hbase hk
@[simp] theorem bs_105_1 {x0_0 x0_1 x0_2 x0_3 x0_4 x0_5 x0_6 x0_7 : Value} : effv Tryz.prog (Instr.buildSlice 105 1 #[(0, (.agg #[x0_0, x0_1, x0_2, x0_3, x0_4, x0_5, x0_6, x0_7]))]) w K = K (.slice (some ⟨w.heap.size, 0, none⟩) 1 1) (w.alloc (.cells #[x0_0, x0_1, x0_2, x0_3, x0_4, x0_5, x0_6, x0_7] 130)) := by
  obtain ⟨i, hi, hz, hs, hb⟩ := inf_130
  exact aX (z := 8) Tryz.underlying105 hi hz hs (by decide) (by decide) (by kernel_rfl)
theorem ps_115 {x0_0 x0_1 x0_2 x0_3 x0_4 x0_5 : Value} {x : Value} {base n : Nat} {xs : List Value} (h1 : ∀ u ∈ ([x0_0, x0_1, x0_2, x0_3, x0_4, x0_5] : List Value), u.oneCell' = true) (hown : w.ownsRow base 39 6 x n xs) (hn : n + 1 ≤ 1048577) (hbase : base ≤ w.heap.size) (hk : ∀ x' w', w'.ownsRow base 39 6 x' (n + 1) (xs ++ [x0_0, x0_1, x0_2, x0_3, x0_4, x0_5]) → w.grownBy w' x.ownBlock → NewB w x x' → K x' w') :
    effv Tryz.prog (Instr.buildSlice 115 1 #[(0, (.agg #[x0_0, x0_1, x0_2, x0_3, x0_4, x0_5]))]) w fun y w1 => effv Tryz.prog (Builtin.append_ #[115, 115] 115 #[x, y]) w1 K := by
  obtain ⟨i, hi, hz, hs, hb⟩ := inf_39
  exact eff_pushN (cs := [x0_0, x0_1, x0_2, x0_3, x0_4, x0_5]) Tryz.underlying115 hi hz hs rfl (by decide) (by decide) (by kernel_rfl) rfl h1 hown (by unfold maxLen; omega) (by rw [hb]; omega) hbase hk
@[simp] theorem bs_115_1 {x0_0 x0_1 x0_2 x0_3 x0_4 x0_5 : Value} : effv Tryz.prog (Instr.buildSlice 115 1 #[(0, (.agg #[x0_0, x0_1, x0_2, x0_3, x0_4, x0_5]))]) w K = K (.slice (some ⟨w.heap.size, 0, none⟩) 1 1) (w.alloc (.cells #[x0_0, x0_1, x0_2, x0_3, x0_4, x0_5] 39)) := by
  obtain ⟨i, hi, hz, hs, hb⟩ := inf_39
  exact aX (z := 6) Tryz.underlying115 hi hz hs (by decide) (by decide) (by kernel_rfl)
theorem ps_131 {x0_0 x0_1 : Value} {x : Value} {base n : Nat} {xs : List Value} (h1 : ∀ u ∈ ([x0_0, x0_1] : List Value), u.oneCell' = true) (hown : w.ownsRow base 136 2 x n xs) (hn : n + 1 ≤ 1048577) (hbase : base ≤ w.heap.size) (hk : ∀ x' w', w'.ownsRow base 136 2 x' (n + 1) (xs ++ [x0_0, x0_1]) → w.grownBy w' x.ownBlock → NewB w x x' → K x' w') :
    effv Tryz.prog (Instr.buildSlice 131 1 #[(0, (.agg #[x0_0, x0_1]))]) w fun y w1 => effv Tryz.prog (Builtin.append_ #[131, 131] 131 #[x, y]) w1 K := by
  obtain ⟨i, hi, hz, hs, hb⟩ := inf_136
  exact eff_pushN (cs := [x0_0, x0_1]) Tryz.underlying131 hi hz hs rfl (by decide) (by decide) (by kernel_rfl) rfl h1 hown (by unfold maxLen; omega) (by rw [hb]; omega) hbase hk
@[simp] theorem bs_131_1 {x0_0 x0_1 : Value} : effv Tryz.prog (Instr.buildSlice 131 1 #[(0, (.agg #[x0_0, x0_1]))]) w K = K (.slice (some ⟨w.heap.size, 0, none⟩) 1 1) (w.alloc (.cells #[x0_0, x0_1] 136)) := by
  obtain ⟨i, hi, hz, hs, hb⟩ := inf_136
  exact aX (z := 2) Tryz.underlying131 hi hz hs (by decide) (by decide) (by kernel_rfl)
theorem inf_138 : ∃ i, Tryz.prog.info? 138 = some i ∧ i.zero = some (.agg #[.string { data := #[] }, .int .i64 0, .bool false, .bool false, .bool false]) ∧ i.size = 5 ∧ i.bytes = 32 := ⟨Tryz.t138, by kernel_rfl, rfl, rfl, rfl⟩
@[simp] theorem bs_151_13 {x0_0 x0_1 x0_2 x0_3 x0_4 : Value} {x1_0 x1_1 x1_2 x1_3 x1_4 : Value} {x2_0 x2_1 x2_2 x2_3 x2_4 : Value} {x3_0 x3_1 x3_2 x3_3 x3_4 : Value} {x4_0 x4_1 x4_2 x4_3 x4_4 : Value} {x5_0 x5_1 x5_2 x5_3 x5_4 : Value} {x6_0 x6_1 x6_2 x6_3 x6_4 : Value} {x7_0 x7_1 x7_2 x7_3 x7_4 : Value} {x8_0 x8_1 x8_2 x8_3 x8_4 : Value} {x9_0 x9_1 x9_2 x9_3 x9_4 : Value} {x10_0 x10_1 x10_2 x10_3 x10_4 : Value} {x11_0 x11_1 x11_2 x11_3 x11_4 : Value} {x12_0 x12_1 x12_2 x12_3 x12_4 : Value} : effv Tryz.prog (Instr.buildSlice 151 13 #[(0, (.agg #[x0_0, x0_1, x0_2, x0_3, x0_4])), (1, (.agg #[x1_0, x1_1, x1_2, x1_3, x1_4])), (2, (.agg #[x2_0, x2_1, x2_2, x2_3, x2_4])), (3, (.agg #[x3_0, x3_1, x3_2, x3_3, x3_4])), (4, (.agg #[x4_0, x4_1, x4_2, x4_3, x4_4])), (5, (.agg #[x5_0, x5_1, x5_2, x5_3, x5_4])), (6, (.agg #[x6_0, x6_1, x6_2, x6_3, x6_4])), (7, (.agg #[x7_0, x7_1, x7_2, x7_3, x7_4])), (8, (.agg #[x8_0, x8_1, x8_2, x8_3, x8_4])), (9, (.agg #[x9_0, x9_1, x9_2, x9_3, x9_4])), (10, (.agg #[x10_0, x10_1, x10_2, x10_3, x10_4])), (11, (.agg #[x11_0, x11_1, x11_2, x11_3, x11_4])), (12, (.agg #[x12_0, x12_1, x12_2, x12_3, x12_4]))]) w K = K (.slice (some ⟨w.heap.size, 0, none⟩) 13 13) (w.alloc (.cells #[x0_0, x0_1, x0_2, x0_3, x0_4, x1_0, x1_1, x1_2, x1_3, x1_4, x2_0, x2_1, x2_2, x2_3, x2_4, x3_0, x3_1, x3_2, x3_3, x3_4, x4_0, x4_1, x4_2, x4_3, x4_4, x5_0, x5_1, x5_2, x5_3, x5_4, x6_0, x6_1, x6_2, x6_3, x6_4, x7_0, x7_1, x7_2, x7_3, x7_4, x8_0, x8_1, x8_2, x8_3, x8_4, x9_0, x9_1, x9_2, x9_3, x9_4, x10_0, x10_1, x10_2, x10_3, x10_4, x11_0, x11_1, x11_2, x11_3, x11_4, x12_0, x12_1, x12_2, x12_3, x12_4] 138)) := by
  obtain ⟨i, hi, hz, hs, hb⟩ := inf_138
  exact aX (z := 5) Tryz.underlying151 hi hz hs (by decide) (by decide) (by kernel_rfl)
@[simp] theorem len_22 {A : Option Addr} {n c : Nat} : pureRun Tryz.prog (Builtin.len_ #[22] 3 #[.slice A n c]) = some (.int .i64 n) := pr_len Tryz.underlying22
@[simp] theorem len_44 {A : Option Addr} {n c : Nat} : pureRun Tryz.prog (Builtin.len_ #[44] 3 #[.slice A n c]) = some (.int .i64 n) := pr_len Tryz.underlying44
@[simp] theorem len_70 {A : Option Addr} {n c : Nat} : pureRun Tryz.prog (Builtin.len_ #[70] 3 #[.slice A n c]) = some (.int .i64 n) := pr_len Tryz.underlying70
@[simp] theorem len_71 {A : Option Addr} {n c : Nat} : pureRun Tryz.prog (Builtin.len_ #[71] 3 #[.slice A n c]) = some (.int .i64 n) := pr_len Tryz.underlying71
@[simp] theorem len_72 {A : Option Addr} {n c : Nat} : pureRun Tryz.prog (Builtin.len_ #[72] 3 #[.slice A n c]) = some (.int .i64 n) := pr_len Tryz.underlying72
@[simp] theorem len_79 {A : Option Addr} {n c : Nat} : pureRun Tryz.prog (Builtin.len_ #[79] 3 #[.slice A n c]) = some (.int .i64 n) := pr_len Tryz.underlying79
@[simp] theorem len_86 {A : Option Addr} {n c : Nat} : pureRun Tryz.prog (Builtin.len_ #[86] 3 #[.slice A n c]) = some (.int .i64 n) := pr_len Tryz.underlying86
@[simp] theorem len_93 {A : Option Addr} {n c : Nat} : pureRun Tryz.prog (Builtin.len_ #[93] 3 #[.slice A n c]) = some (.int .i64 n) := pr_len Tryz.underlying93
@[simp] theorem len_105 {A : Option Addr} {n c : Nat} : pureRun Tryz.prog (Builtin.len_ #[105] 3 #[.slice A n c]) = some (.int .i64 n) := pr_len Tryz.underlying105
@[simp] theorem len_113 {A : Option Addr} {n c : Nat} : pureRun Tryz.prog (Builtin.len_ #[113] 3 #[.slice A n c]) = some (.int .i64 n) := pr_len Tryz.underlying113
@[simp] theorem len_115 {A : Option Addr} {n c : Nat} : pureRun Tryz.prog (Builtin.len_ #[115] 3 #[.slice A n c]) = some (.int .i64 n) := pr_len Tryz.underlying115
@[simp] theorem len_131 {A : Option Addr} {n c : Nat} : pureRun Tryz.prog (Builtin.len_ #[131] 3 #[.slice A n c]) = some (.int .i64 n) := pr_len Tryz.underlying131
@[simp] theorem len_151 {A : Option Addr} {n c : Nat} : pureRun Tryz.prog (Builtin.len_ #[151] 3 #[.slice A n c]) = some (.int .i64 n) := pr_len Tryz.underlying151
@[simp] theorem cv_3_26 {a : Int} : pureRun Tryz.prog (convert 3 26 (.int .i64 a)) = some (.int .u64 ((IntKind.u64).wrap a)) := pr_conv Tryz.underlying3 Tryz.underlying26
theorem ia_22 {b p n c : Nat} {j : IntKind} {i : Int} (h0 : 0 ≤ i) (h1 : i < n) : pureRun Tryz.prog (Instr.indexAt 22 (.slice (some ⟨b, p, none⟩) n c) (.int j i)) = some (.pointer (some ⟨b, p + i.toNat * 1, none⟩)) := by rw [← addr_add]; exact pr_index (z := 1) Tryz.underlying22 (by kernel_rfl) h0 h1
theorem ia_70 {b p n c : Nat} {j : IntKind} {i : Int} (h0 : 0 ≤ i) (h1 : i < n) : pureRun Tryz.prog (Instr.indexAt 70 (.slice (some ⟨b, p, none⟩) n c) (.int j i)) = some (.pointer (some ⟨b, p + i.toNat * 2, none⟩)) := by rw [← addr_add]; exact pr_index (z := 2) Tryz.underlying70 (by kernel_rfl) h0 h1
theorem ia_71 {b p n c : Nat} {j : IntKind} {i : Int} (h0 : 0 ≤ i) (h1 : i < n) : pureRun Tryz.prog (Instr.indexAt 71 (.slice (some ⟨b, p, none⟩) n c) (.int j i)) = some (.pointer (some ⟨b, p + i.toNat * 7, none⟩)) := by rw [← addr_add]; exact pr_index (z := 7) Tryz.underlying71 (by kernel_rfl) h0 h1
theorem ia_72 {b p n c : Nat} {j : IntKind} {i : Int} (h0 : 0 ≤ i) (h1 : i < n) : pureRun Tryz.prog (Instr.indexAt 72 (.slice (some ⟨b, p, none⟩) n c) (.int j i)) = some (.pointer (some ⟨b, p + i.toNat * 2, none⟩)) := by rw [← addr_add]; exact pr_index (z := 2) Tryz.underlying72 (by kernel_rfl) h0 h1
theorem ia_86 {b p n c : Nat} {j : IntKind} {i : Int} (h0 : 0 ≤ i) (h1 : i < n) : pureRun Tryz.prog (Instr.indexAt 86 (.slice (some ⟨b, p, none⟩) n c) (.int j i)) = some (.pointer (some ⟨b, p + i.toNat * 1, none⟩)) := by rw [← addr_add]; exact pr_index (z := 1) Tryz.underlying86 (by kernel_rfl) h0 h1
theorem ia_93 {b p n c : Nat} {j : IntKind} {i : Int} (h0 : 0 ≤ i) (h1 : i < n) : pureRun Tryz.prog (Instr.indexAt 93 (.slice (some ⟨b, p, none⟩) n c) (.int j i)) = some (.pointer (some ⟨b, p + i.toNat * 1, none⟩)) := by rw [← addr_add]; exact pr_index (z := 1) Tryz.underlying93 (by kernel_rfl) h0 h1
theorem ia_104 {b p n c : Nat} {j : IntKind} {i : Int} (h0 : 0 ≤ i) (h1 : i < n) : pureRun Tryz.prog (Instr.indexAt 104 (.slice (some ⟨b, p, none⟩) n c) (.int j i)) = some (.pointer (some ⟨b, p + i.toNat * 1, none⟩)) := by rw [← addr_add]; exact pr_index (z := 1) Tryz.underlying104 (by kernel_rfl) h0 h1
theorem ia_105 {b p n c : Nat} {j : IntKind} {i : Int} (h0 : 0 ≤ i) (h1 : i < n) : pureRun Tryz.prog (Instr.indexAt 105 (.slice (some ⟨b, p, none⟩) n c) (.int j i)) = some (.pointer (some ⟨b, p + i.toNat * 8, none⟩)) := by rw [← addr_add]; exact pr_index (z := 8) Tryz.underlying105 (by kernel_rfl) h0 h1
theorem ia_106 {b p n c : Nat} {j : IntKind} {i : Int} (h0 : 0 ≤ i) (h1 : i < n) : pureRun Tryz.prog (Instr.indexAt 106 (.slice (some ⟨b, p, none⟩) n c) (.int j i)) = some (.pointer (some ⟨b, p + i.toNat * 1, none⟩)) := by rw [← addr_add]; exact pr_index (z := 1) Tryz.underlying106 (by kernel_rfl) h0 h1
theorem ia_151 {b p n c : Nat} {j : IntKind} {i : Int} (h0 : 0 ≤ i) (h1 : i < n) : pureRun Tryz.prog (Instr.indexAt 151 (.slice (some ⟨b, p, none⟩) n c) (.int j i)) = some (.pointer (some ⟨b, p + i.toNat * 5, none⟩)) := by rw [← addr_add]; exact pr_index (z := 5) Tryz.underlying151 (by kernel_rfl) h0 h1
theorem ei_25 {d : Nat} {x0 y0 : Int} {x1 y1 : Int} {x2 y2 : Int} {x3 y3 : Int} {x4 y4 : Int} : (Op.equalIn (d + 2) 25 (.agg #[(.int .i64 x0), (.int .i64 x1), (.int .i64 x2), (.int .i64 x3), (.int .i64 x4)]) (.agg #[(.int .i64 y0), (.int .i64 y1), (.int .i64 y2), (.int .i64 y3), (.int .i64 y4)])).run Tryz.prog w = .ok ((x0 == y0) && ((x1 == y1) && ((x2 == y2) && ((x3 == y3) && ((x4 == y4) && (true)))))) w :=
  eqIn_struct (d := d + 1) (fs := [(true, 3, 0), (true, 3, 1), (true, 3, 2), (true, 3, 3), (true, 3, 4)]) (by kernel_rfl) (by kernel_rfl) (by kernel_rfl) (bq (aK (by kernel_rfl) rfl) (aK (by kernel_rfl) rfl) (bt Tryz.underlying3) (bq (aK (by kernel_rfl) rfl) (aK (by kernel_rfl) rfl) (bt Tryz.underlying3) (bq (aK (by kernel_rfl) rfl) (aK (by kernel_rfl) rfl) (bt Tryz.underlying3) (bq (aK (by kernel_rfl) rfl) (aK (by kernel_rfl) rfl) (bt Tryz.underlying3) (bq (aK (by kernel_rfl) rfl) (aK (by kernel_rfl) rfl) (bt Tryz.underlying3) eqF_nil)))))
@[simp] theorem be_eql_25 {x y : Operand} {x0 y0 : Int} {x1 y1 : Int} {x2 y2 : Int} {x3 y3 : Int} {x4 y4 : Int} : be Tryz.prog .eql 25 x y (.agg #[(.int .i64 x0), (.int .i64 x1), (.int .i64 x2), (.int .i64 x3), (.int .i64 x4)]) (.agg #[(.int .i64 y0), (.int .i64 y1), (.int .i64 y2), (.int .i64 y3), (.int .i64 y4)]) = some (.bool (((x0 == y0) && ((x1 == y1) && ((x2 == y2) && ((x3 == y3) && ((x4 == y4) && (true)))))))) := be_eqls (by kernel_rfl) fun w => ei_25 (d := 9998)
@[simp] theorem be_neq_25 {x y : Operand} {x0 y0 : Int} {x1 y1 : Int} {x2 y2 : Int} {x3 y3 : Int} {x4 y4 : Int} : be Tryz.prog .neq 25 x y (.agg #[(.int .i64 x0), (.int .i64 x1), (.int .i64 x2), (.int .i64 x3), (.int .i64 x4)]) (.agg #[(.int .i64 y0), (.int .i64 y1), (.int .i64 y2), (.int .i64 y3), (.int .i64 y4)]) = some (.bool (!((x0 == y0) && ((x1 == y1) && ((x2 == y2) && ((x3 == y3) && ((x4 == y4) && (true)))))))) := be_neqs (by kernel_rfl) fun w => ei_25 (d := 9998)
theorem ei_28 {d : Nat} {x0 y0 : Int} {x1 y1 : Int} {x2 y2 : Int} {x3 y3 : Int} {x4 y4 : Int} {x5 y5 : Int} {x6 y6 : Int} {x7 y7 : Int} : (Op.equalIn (d + 3) 28 (.agg #[(.int .i64 x0), (.int .i64 x1), (.int .i64 x2), (.int .i64 x3), (.int .i64 x4), (.int .i64 x5), (.int .i64 x6), (.int .u64 x7)]) (.agg #[(.int .i64 y0), (.int .i64 y1), (.int .i64 y2), (.int .i64 y3), (.int .i64 y4), (.int .i64 y5), (.int .i64 y6), (.int .u64 y7)])).run Tryz.prog w = .ok ((x0 == y0) && (((x1 == y1) && ((x2 == y2) && ((x3 == y3) && ((x4 == y4) && ((x5 == y5) && (true)))))) && ((x6 == y6) && ((x7 == y7) && (true))))) w :=
  eqIn_struct (d := d + 2) (fs := [(true, 23, 0), (true, 25, 1), (true, 3, 6), (true, 26, 7)]) (by kernel_rfl) (by kernel_rfl) (by kernel_rfl) (bq (aK (by kernel_rfl) rfl) (aK (by kernel_rfl) rfl) (bt Tryz.underlying23) (bq (part_ag (n := 5) (by kernel_rfl) (by kernel_rfl)) (part_ag (n := 5) (by kernel_rfl) (by kernel_rfl)) (ei_25 (d := d + 0)) (bq (aK (by kernel_rfl) rfl) (aK (by kernel_rfl) rfl) (bt Tryz.underlying3) (bq (aK (by kernel_rfl) rfl) (aK (by kernel_rfl) rfl) (bt Tryz.underlying26) eqF_nil))))
@[simp] theorem be_eql_28 {x y : Operand} {x0 y0 : Int} {x1 y1 : Int} {x2 y2 : Int} {x3 y3 : Int} {x4 y4 : Int} {x5 y5 : Int} {x6 y6 : Int} {x7 y7 : Int} : be Tryz.prog .eql 28 x y (.agg #[(.int .i64 x0), (.int .i64 x1), (.int .i64 x2), (.int .i64 x3), (.int .i64 x4), (.int .i64 x5), (.int .i64 x6), (.int .u64 x7)]) (.agg #[(.int .i64 y0), (.int .i64 y1), (.int .i64 y2), (.int .i64 y3), (.int .i64 y4), (.int .i64 y5), (.int .i64 y6), (.int .u64 y7)]) = some (.bool (((x0 == y0) && (((x1 == y1) && ((x2 == y2) && ((x3 == y3) && ((x4 == y4) && ((x5 == y5) && (true)))))) && ((x6 == y6) && ((x7 == y7) && (true))))))) := be_eqls (by kernel_rfl) fun w => ei_28 (d := 9997)
@[simp] theorem be_neq_28 {x y : Operand} {x0 y0 : Int} {x1 y1 : Int} {x2 y2 : Int} {x3 y3 : Int} {x4 y4 : Int} {x5 y5 : Int} {x6 y6 : Int} {x7 y7 : Int} : be Tryz.prog .neq 28 x y (.agg #[(.int .i64 x0), (.int .i64 x1), (.int .i64 x2), (.int .i64 x3), (.int .i64 x4), (.int .i64 x5), (.int .i64 x6), (.int .u64 x7)]) (.agg #[(.int .i64 y0), (.int .i64 y1), (.int .i64 y2), (.int .i64 y3), (.int .i64 y4), (.int .i64 y5), (.int .i64 y6), (.int .u64 y7)]) = some (.bool (!((x0 == y0) && (((x1 == y1) && ((x2 == y2) && ((x3 == y3) && ((x4 == y4) && ((x5 == y5) && (true)))))) && ((x6 == y6) && ((x7 == y7) && (true))))))) := be_neqs (by kernel_rfl) fun w => ei_28 (d := 9997)
theorem ei_33 {d : Nat} {x0 y0 : Int} {x1 y1 : Int} {x2 y2 : Int} {x3 y3 : Int} {x4 y4 : Int} {x5 y5 : Int} : (Op.equalIn (d + 2) 33 (.agg #[(.int .i64 x0), (.int .i64 x1), (.int .i64 x2), (.int .i64 x3), (.int .i64 x4), (.int .i64 x5)]) (.agg #[(.int .i64 y0), (.int .i64 y1), (.int .i64 y2), (.int .i64 y3), (.int .i64 y4), (.int .i64 y5)])).run Tryz.prog w = .ok ((x0 == y0) && ((x1 == y1) && ((x2 == y2) && ((x3 == y3) && ((x4 == y4) && ((x5 == y5) && (true))))))) w :=
  eqIn_struct (d := d + 1) (fs := [(true, 3, 0), (true, 3, 1), (true, 3, 2), (true, 3, 3), (true, 3, 4), (true, 3, 5)]) (by kernel_rfl) (by kernel_rfl) (by kernel_rfl) (bq (aK (by kernel_rfl) rfl) (aK (by kernel_rfl) rfl) (bt Tryz.underlying3) (bq (aK (by kernel_rfl) rfl) (aK (by kernel_rfl) rfl) (bt Tryz.underlying3) (bq (aK (by kernel_rfl) rfl) (aK (by kernel_rfl) rfl) (bt Tryz.underlying3) (bq (aK (by kernel_rfl) rfl) (aK (by kernel_rfl) rfl) (bt Tryz.underlying3) (bq (aK (by kernel_rfl) rfl) (aK (by kernel_rfl) rfl) (bt Tryz.underlying3) (bq (aK (by kernel_rfl) rfl) (aK (by kernel_rfl) rfl) (bt Tryz.underlying3) eqF_nil))))))
@[simp] theorem be_eql_33 {x y : Operand} {x0 y0 : Int} {x1 y1 : Int} {x2 y2 : Int} {x3 y3 : Int} {x4 y4 : Int} {x5 y5 : Int} : be Tryz.prog .eql 33 x y (.agg #[(.int .i64 x0), (.int .i64 x1), (.int .i64 x2), (.int .i64 x3), (.int .i64 x4), (.int .i64 x5)]) (.agg #[(.int .i64 y0), (.int .i64 y1), (.int .i64 y2), (.int .i64 y3), (.int .i64 y4), (.int .i64 y5)]) = some (.bool (((x0 == y0) && ((x1 == y1) && ((x2 == y2) && ((x3 == y3) && ((x4 == y4) && ((x5 == y5) && (true))))))))) := be_eqls (by kernel_rfl) fun w => ei_33 (d := 9998)
@[simp] theorem be_neq_33 {x y : Operand} {x0 y0 : Int} {x1 y1 : Int} {x2 y2 : Int} {x3 y3 : Int} {x4 y4 : Int} {x5 y5 : Int} : be Tryz.prog .neq 33 x y (.agg #[(.int .i64 x0), (.int .i64 x1), (.int .i64 x2), (.int .i64 x3), (.int .i64 x4), (.int .i64 x5)]) (.agg #[(.int .i64 y0), (.int .i64 y1), (.int .i64 y2), (.int .i64 y3), (.int .i64 y4), (.int .i64 y5)]) = some (.bool (!((x0 == y0) && ((x1 == y1) && ((x2 == y2) && ((x3 == y3) && ((x4 == y4) && ((x5 == y5) && (true))))))))) := be_neqs (by kernel_rfl) fun w => ei_33 (d := 9998)
theorem ei_77 {d : Nat} {x0 y0 : Int} {x1 y1 : Int} : (Op.equalIn (d + 2) 77 (.agg #[(.int .i64 x0), (.int .i64 x1)]) (.agg #[(.int .i64 y0), (.int .i64 y1)])).run Tryz.prog w = .ok ((x0 == y0) && ((x1 == y1) && (true))) w :=
  eqIn_struct (d := d + 1) (fs := [(true, 3, 0), (true, 3, 1)]) (by kernel_rfl) (by kernel_rfl) (by kernel_rfl) (bq (aK (by kernel_rfl) rfl) (aK (by kernel_rfl) rfl) (bt Tryz.underlying3) (bq (aK (by kernel_rfl) rfl) (aK (by kernel_rfl) rfl) (bt Tryz.underlying3) eqF_nil))
@[simp] theorem be_eql_77 {x y : Operand} {x0 y0 : Int} {x1 y1 : Int} : be Tryz.prog .eql 77 x y (.agg #[(.int .i64 x0), (.int .i64 x1)]) (.agg #[(.int .i64 y0), (.int .i64 y1)]) = some (.bool (((x0 == y0) && ((x1 == y1) && (true))))) := be_eqls (by kernel_rfl) fun w => ei_77 (d := 9998)
@[simp] theorem be_neq_77 {x y : Operand} {x0 y0 : Int} {x1 y1 : Int} : be Tryz.prog .neq 77 x y (.agg #[(.int .i64 x0), (.int .i64 x1)]) (.agg #[(.int .i64 y0), (.int .i64 y1)]) = some (.bool (!((x0 == y0) && ((x1 == y1) && (true))))) := be_neqs (by kernel_rfl) fun w => ei_77 (d := 9998)
theorem ei_84 {d : Nat} {x0 y0 : Int} {x1 y1 : Int} : (Op.equalIn (d + 2) 84 (.agg #[(.int .i64 x0), (.int .i64 x1)]) (.agg #[(.int .i64 y0), (.int .i64 y1)])).run Tryz.prog w = .ok ((x0 == y0) && ((x1 == y1) && (true))) w :=
  eqIn_struct (d := d + 1) (fs := [(true, 3, 0), (true, 3, 1)]) (by kernel_rfl) (by kernel_rfl) (by kernel_rfl) (bq (aK (by kernel_rfl) rfl) (aK (by kernel_rfl) rfl) (bt Tryz.underlying3) (bq (aK (by kernel_rfl) rfl) (aK (by kernel_rfl) rfl) (bt Tryz.underlying3) eqF_nil))
@[simp] theorem be_eql_84 {x y : Operand} {x0 y0 : Int} {x1 y1 : Int} : be Tryz.prog .eql 84 x y (.agg #[(.int .i64 x0), (.int .i64 x1)]) (.agg #[(.int .i64 y0), (.int .i64 y1)]) = some (.bool (((x0 == y0) && ((x1 == y1) && (true))))) := be_eqls (by kernel_rfl) fun w => ei_84 (d := 9998)
@[simp] theorem be_neq_84 {x y : Operand} {x0 y0 : Int} {x1 y1 : Int} : be Tryz.prog .neq 84 x y (.agg #[(.int .i64 x0), (.int .i64 x1)]) (.agg #[(.int .i64 y0), (.int .i64 y1)]) = some (.bool (!((x0 == y0) && ((x1 == y1) && (true))))) := be_neqs (by kernel_rfl) fun w => ei_84 (d := 9998)
theorem ei_136 {d : Nat} {x0 y0 : Int} {x1 y1 : Int} : (Op.equalIn (d + 2) 136 (.agg #[(.int .i64 x0), (.int .i64 x1)]) (.agg #[(.int .i64 y0), (.int .i64 y1)])).run Tryz.prog w = .ok ((x0 == y0) && ((x1 == y1) && (true))) w :=
  eqIn_struct (d := d + 1) (fs := [(true, 3, 0), (true, 3, 1)]) (by kernel_rfl) (by kernel_rfl) (by kernel_rfl) (bq (aK (by kernel_rfl) rfl) (aK (by kernel_rfl) rfl) (bt Tryz.underlying3) (bq (aK (by kernel_rfl) rfl) (aK (by kernel_rfl) rfl) (bt Tryz.underlying3) eqF_nil))
@[simp] theorem be_eql_136 {x y : Operand} {x0 y0 : Int} {x1 y1 : Int} : be Tryz.prog .eql 136 x y (.agg #[(.int .i64 x0), (.int .i64 x1)]) (.agg #[(.int .i64 y0), (.int .i64 y1)]) = some (.bool (((x0 == y0) && ((x1 == y1) && (true))))) := be_eqls (by kernel_rfl) fun w => ei_136 (d := 9998)
@[simp] theorem be_neq_136 {x y : Operand} {x0 y0 : Int} {x1 y1 : Int} : be Tryz.prog .neq 136 x y (.agg #[(.int .i64 x0), (.int .i64 x1)]) (.agg #[(.int .i64 y0), (.int .i64 y1)]) = some (.bool (!((x0 == y0) && ((x1 == y1) && (true))))) := be_neqs (by kernel_rfl) fun w => ei_136 (d := 9998)
end Go.Proofs.YtgamnncehjcdiaaGreat

namespace Go.Proofs.YtgamnncehjcdiaaGreat
open Go Ev
theorem mixed : Tryz.prog.follows .mixedOrders = true := Checked.mixed Tryz.checked
theorem ag : EntOk Tryz.prog (entR 3 113) := entOk_of (by kernel_rfl)
noncomputable def C7 : Code := (Tryz.f7.body).getD .skip
noncomputable def H7 : Hints := ⟨[], [], []⟩
def F7 (a0 : Value) (w : World) (Q : Value → World → Prop) : Prop :=
  effv Tryz.prog (Instr.alloc 33 true (.tuple #[])) w fun t2 w =>
  CallR Tryz.prog 23 [a0, (.int .i64 4)] w fun t5 w =>
  wpB (bp Tryz.prog .quo 3 a0 (.int .i64 4)) fun t7 =>
  CallR Tryz.prog 23 [t7, (.int .i64 8)] w fun t8 w =>
  wpB (bp Tryz.prog .quo 3 a0 (.int .i64 32)) fun t10 =>
  CallR Tryz.prog 23 [t10, (.int .i64 2)] w fun t11 w =>
  wpB (bp Tryz.prog .quo 3 a0 (.int .i64 64)) fun t13 =>
  CallR Tryz.prog 23 [t13, (.int .i64 4)] w fun t14 w =>
  wpB (bp Tryz.prog .quo 3 a0 (.int .i64 256)) fun t16 =>
  CallR Tryz.prog 23 [t16, (.int .i64 4)] w fun t17 w =>
  wpB (bp Tryz.prog .quo 3 a0 (.int .i64 1024)) fun t19 =>
  CallR Tryz.prog 23 [t19, (.int .i64 3)] w fun t20 w =>
  effv Tryz.prog (Instr.buildSlice 22 6 #[(0, t5), (1, t8), (2, t11), (3, t14), (4, t17), (5, t20)]) w fun t21 w =>
  wpB (pureRun Tryz.prog (Instr.build 37 #[(0, t21)])) fun t22 =>
  effv Tryz.prog (Instr.box 37 t22) w fun t23 w =>
  CallR Tryz.prog 24 [t23, (.int .i64 4)] w fun t25 w =>
  wpB (bp Tryz.prog .add 3 (.int .i64 1) t25) fun t26 =>
  CallR Tryz.prog 24 [t23, (.int .i64 8)] w fun t28 w =>
  wpB (bp Tryz.prog .add 3 (.int .i64 1) t28) fun t29 =>
  CallR Tryz.prog 24 [t23, (.int .i64 2)] w fun t31 w =>
  wpB (bp Tryz.prog .mul 3 (.int .i64 8) t31) fun t32 =>
  wpB (bp Tryz.prog .add 3 (.int .i64 8) t32) fun t33 =>
  CallR Tryz.prog 24 [t23, (.int .i64 4)] w fun t35 w =>
  wpB (bp Tryz.prog .add 3 (.int .i64 1) t35) fun t36 =>
  CallR Tryz.prog 24 [t23, (.int .i64 4)] w fun t38 w =>
  CallR Tryz.prog 24 [t23, (.int .i64 3)] w fun t40 w =>
  wpB (bp Tryz.prog .add 3 (.int .i64 1) t40) fun t41 =>
  wpB (pureRun Tryz.prog (Instr.build 33 #[(0, t26), (1, t29), (2, t33), (3, t36), (4, t38), (5, t41)])) fun t42 =>
  effu Tryz.prog (Instr.storeAt 33 t2 t42) w fun w =>
  wpB (ldv Tryz.prog 33 t2 w) fun r2 => Q r2 w
theorem F7_ok {a0 : Value} {w : World} {Q : Value → World → Prop} (h : F7 a0 w Q) : CallR Tryz.prog 7 [a0] w Q :=
  ah mixed ag Tryz.func7 (c := C7) rfl H7 (Nat.le_of_ble_eq_true rfl) (by kernel_rfl) h

noncomputable def C8 : Code := (Tryz.f8.body).getD .skip
noncomputable def H8 : Hints := ⟨[], [(7, [0, 1, 5, 6, 7, 8])], [(5, (.ask 3 17 (.ask 7 17 (.leaf [0, 1, 2, 3, 4, 5, 6, 7, 8, 9, 10, 11, 12, 13, 14, 15, 16, 17, 18, 19, 20, 21]) (.leaf [0, 1, 2, 4, 5, 6, 10, 11, 12, 13, 3, 14, 15, 16, 17, 7, 8, 9, 18, 19, 20, 21])) (.ask 7 17 (.leaf [0, 1, 2, 4, 5, 6, 10, 11, 12, 13, 7, 8, 9, 14, 15, 16, 17, 18, 3, 19, 20, 21]) (.leaf [0, 1, 2, 4, 5, 6, 10, 11, 12, 13, 14, 15, 16, 17, 3, 7, 8, 9, 18, 19, 20, 21])))), (7, (.ask 11 7 (.ask 12 7 (.leaf [0, 1, 2, 3, 4, 8, 5, 6, 11, 12, 7, 9, 10, 13, 14, 15]) (.ask 12 9 (.leaf [0, 1, 2, 3, 4, 8, 5, 6, 11, 7, 12, 9, 10, 13, 14, 15]) (.ask 12 14 (.leaf [0, 1, 2, 3, 4, 8, 5, 6, 11, 7, 9, 10, 13, 12, 14, 15]) (.leaf [0, 1, 2, 3, 4, 8, 5, 6, 11, 7, 9, 10, 13, 14, 12, 15])))) (.ask 12 7 (.ask 11 9 (.leaf [0, 1, 2, 3, 4, 8, 5, 6, 12, 7, 11, 9, 10, 13, 14, 15]) (.leaf [0, 1, 2, 3, 4, 8, 5, 6, 12, 7, 9, 10, 13, 11, 14, 15])) (.ask 11 9 (.ask 12 9 (.leaf [0, 1, 2, 3, 4, 8, 5, 6, 7, 11, 12, 9, 10, 13, 14, 15]) (.ask 12 14 (.leaf [0, 1, 2, 3, 4, 8, 5, 6, 7, 11, 9, 10, 13, 12, 14, 15]) (.leaf [0, 1, 2, 3, 4, 8, 5, 6, 7, 11, 9, 10, 13, 14, 12, 15]))) (.ask 12 9 (.leaf [0, 1, 2, 3, 4, 8, 5, 6, 7, 12, 9, 10, 13, 11, 14, 15]) (.ask 12 14 (.leaf [0, 1, 2, 3, 4, 5, 6, 7, 8, 9, 10, 11, 12, 13, 14, 15]) (.leaf [0, 1, 2, 3, 4, 8, 5, 6, 7, 9, 10, 13, 11, 14, 12, 15])))))))]⟩
noncomputable def T8_0 : List It := [.jn (nav [1, 1, 1, 1, 1] C8)]
def P8_0 (x0 x1 x5 x6 x7 x8 : Value) (w : World) (Q : Value → World → Prop) : Prop := Part Tryz.prog 8 T8_0 [0, 1, 5, 6, 7, 8] [x0, x1, x5, x6, x7, x8] w Q
def F8 (a0 a1 : Value) (w : World) (Q : Value → World → Prop) : Prop :=
  effv Tryz.prog (Instr.alloc 39 true (.tuple #[])) w fun t5 w =>
  effv Tryz.prog (Instr.alloc 25 true (.tuple #[])) w fun t6 w =>
  CallR Tryz.prog 25 [a1, (.slice none 0 0)] w fun t10 w =>
  effv Tryz.prog (Instr.alloc 39 true (.tuple #[])) w fun t7 w =>
  effu Tryz.prog (Instr.storeAt 39 t7 t10) w fun w =>
  wpB (pureRun Tryz.prog (Instr.fieldAt 39 t7 1)) fun t11 =>
  effu Tryz.prog (Instr.storeAt 3 t11 (.int .i64 0)) w fun w =>
  wpB (pureRun Tryz.prog (Instr.fieldAt 39 t7 2)) fun t12 =>
  effu Tryz.prog (Instr.storeAt 3 t12 (.int .i64 0)) w fun w =>
  wpB (pureRun Tryz.prog (Instr.build 25 #[])) fun t13 =>
  effv Tryz.prog (Instr.alloc 25 true (.tuple #[])) w fun t8 w =>
  effu Tryz.prog (Instr.storeAt 25 t8 t13) w fun w =>
  wpB (nilv a0) fun t15 =>
  wpB (pureRun Tryz.prog (Instr.fieldAt 46 t15 3)) fun t16 =>
  wpB (ldv Tryz.prog 44 t16 w) fun t17 =>
  wpB (pureRun Tryz.prog (Builtin.len_ #[44] 3 #[t17])) fun t18 =>
  wpB (bp Tryz.prog .gtr 3 t18 (.int .i64 0)) fun t19 =>
  gE t19 true (CallR Tryz.prog 24 [(gv t19 true a1), (.int .i64 10)] w) (fun t22 w =>
  wpB (gd t19 true (bp Tryz.prog .gtr 3 t22 (.int .i64 0))) fun t23 =>
  wpB (pickv t19 (some t23) (some (.bool false))) fun t24 =>
  cnd t24
  (((wpB (nilv a0) fun t26 =>
  wpB (pureRun Tryz.prog (Instr.fieldAt 46 t26 3)) fun t27 =>
  wpB (ldv Tryz.prog 44 t27 w.drew) fun t28 =>
  wpB (nilv a0) fun t30 =>
  wpB (pureRun Tryz.prog (Instr.fieldAt 46 t30 3)) fun t31 =>
  wpB (ldv Tryz.prog 44 t31 w.drew) fun t32 =>
  wpB (pureRun Tryz.prog (Builtin.len_ #[44] 3 #[t32])) fun t33 =>
  wpB (bp Tryz.prog .sub 3 t33 (.int .i64 1)) fun t34 =>
  wpB (nilv a0) fun t37 =>
  wpB (pureRun Tryz.prog (Instr.fieldAt 46 t37 3)) fun t38 =>
  wpB (ldv Tryz.prog 44 t38 w.drew) fun t39 =>
  wpB (pureRun Tryz.prog (Builtin.len_ #[44] 3 #[t39])) fun t40 =>
  wpB (pureRun Tryz.prog (Builtin.min_ #[3, 3] 3 #[t40, (.int .i64 8)])) fun t41 =>
  CallR Tryz.prog 24 [a1, t41] w.drew fun t42 w =>
  wpB (bp Tryz.prog .sub 3 t34 t42) fun t43 =>
  wpB (pureRun Tryz.prog (Instr.indexAt 44 t28 t43)) fun t44 =>
  wpB (ldv Tryz.prog 25 t44 w) fun t45 =>
  effu Tryz.prog (Instr.storeAt 25 t8 t45) w fun w =>
  P8_0 a0 a1 t5 t6 t7 t8 w Q) ∧
  (wpB (nilv a0) fun t26_1 =>
  wpB (pureRun Tryz.prog (Instr.fieldAt 46 t26_1 3)) fun t27_1 =>
  wpB (nilv a0) fun t30_1 =>
  wpB (pureRun Tryz.prog (Instr.fieldAt 46 t30_1 3)) fun t31_1 =>
  wpB (nilv a0) fun t37_1 =>
  wpB (pureRun Tryz.prog (Instr.fieldAt 46 t37_1 3)) fun t38_1 =>
  wpB (ldv Tryz.prog 44 t27_1 w.drew) fun t28_1 =>
  wpB (ldv Tryz.prog 44 t38_1 w.drew) fun t39_1 =>
  wpB (pureRun Tryz.prog (Builtin.len_ #[44] 3 #[t39_1])) fun t40_1 =>
  wpB (pureRun Tryz.prog (Builtin.min_ #[3, 3] 3 #[t40_1, (.int .i64 8)])) fun t41_1 =>
  CallR Tryz.prog 24 [a1, t41_1] w.drew fun t42_1 w =>
  wpB (ldv Tryz.prog 44 t31_1 w) fun t32_1 =>
  wpB (pureRun Tryz.prog (Builtin.len_ #[44] 3 #[t32_1])) fun t33_1 =>
  wpB (bp Tryz.prog .sub 3 t33_1 (.int .i64 1)) fun t34_1 =>
  wpB (bp Tryz.prog .sub 3 t34_1 t42_1) fun t43_1 =>
  wpB (pureRun Tryz.prog (Instr.indexAt 44 t28_1 t43_1)) fun t44_1 =>
  wpB (ldv Tryz.prog 25 t44_1 w) fun t45_1 =>
  effu Tryz.prog (Instr.storeAt 25 t8 t45_1) w fun w =>
  P8_0 a0 a1 t5 t6 t7 t8 w Q)) ∧
  ((wpB (nilv a0) fun t26_2 =>
  wpB (pureRun Tryz.prog (Instr.fieldAt 46 t26_2 3)) fun t27_2 =>
  wpB (nilv a0) fun t30_2 =>
  wpB (pureRun Tryz.prog (Instr.fieldAt 46 t30_2 3)) fun t31_2 =>
  wpB (nilv a0) fun t37_2 =>
  wpB (pureRun Tryz.prog (Instr.fieldAt 46 t37_2 3)) fun t38_2 =>
  wpB (ldv Tryz.prog 44 t31_2 w.drew) fun t32_2 =>
  wpB (pureRun Tryz.prog (Builtin.len_ #[44] 3 #[t32_2])) fun t33_2 =>
  wpB (bp Tryz.prog .sub 3 t33_2 (.int .i64 1)) fun t34_2 =>
  wpB (ldv Tryz.prog 44 t38_2 w.drew) fun t39_2 =>
  wpB (pureRun Tryz.prog (Builtin.len_ #[44] 3 #[t39_2])) fun t40_2 =>
  wpB (pureRun Tryz.prog (Builtin.min_ #[3, 3] 3 #[t40_2, (.int .i64 8)])) fun t41_2 =>
  CallR Tryz.prog 24 [a1, t41_2] w.drew fun t42_2 w =>
  wpB (bp Tryz.prog .sub 3 t34_2 t42_2) fun t43_2 =>
  wpB (ldv Tryz.prog 44 t27_2 w) fun t28_2 =>
  wpB (pureRun Tryz.prog (Instr.indexAt 44 t28_2 t43_2)) fun t44_2 =>
  wpB (ldv Tryz.prog 25 t44_2 w) fun t45_2 =>
  effu Tryz.prog (Instr.storeAt 25 t8 t45_2) w fun w =>
  P8_0 a0 a1 t5 t6 t7 t8 w Q) ∧
  (wpB (nilv a0) fun t26_3 =>
  wpB (pureRun Tryz.prog (Instr.fieldAt 46 t26_3 3)) fun t27_3 =>
  wpB (nilv a0) fun t30_3 =>
  wpB (pureRun Tryz.prog (Instr.fieldAt 46 t30_3 3)) fun t31_3 =>
  wpB (nilv a0) fun t37_3 =>
  wpB (pureRun Tryz.prog (Instr.fieldAt 46 t37_3 3)) fun t38_3 =>
  wpB (ldv Tryz.prog 44 t38_3 w.drew) fun t39_3 =>
  wpB (pureRun Tryz.prog (Builtin.len_ #[44] 3 #[t39_3])) fun t40_3 =>
  wpB (pureRun Tryz.prog (Builtin.min_ #[3, 3] 3 #[t40_3, (.int .i64 8)])) fun t41_3 =>
  CallR Tryz.prog 24 [a1, t41_3] w.drew fun t42_3 w =>
  wpB (ldv Tryz.prog 44 t27_3 w) fun t28_3 =>
  wpB (ldv Tryz.prog 44 t31_3 w) fun t32_3 =>
  wpB (pureRun Tryz.prog (Builtin.len_ #[44] 3 #[t32_3])) fun t33_3 =>
  wpB (bp Tryz.prog .sub 3 t33_3 (.int .i64 1)) fun t34_3 =>
  wpB (bp Tryz.prog .sub 3 t34_3 t42_3) fun t43_3 =>
  wpB (pureRun Tryz.prog (Instr.indexAt 44 t28_3 t43_3)) fun t44_3 =>
  wpB (ldv Tryz.prog 25 t44_3 w) fun t45_3 =>
  effu Tryz.prog (Instr.storeAt 25 t8 t45_3) w fun w =>
  P8_0 a0 a1 t5 t6 t7 t8 w Q)))
  (CallR Tryz.prog 24 [a1, (.int .i64 6)] w fun t47 w =>
  wpB (bp Tryz.prog .sub 3 t47 (.int .i64 1)) fun t48 =>
  CallR Tryz.prog 24 [a1, (.int .i64 3)] w fun t50 w =>
  CallR Tryz.prog 24 [a1, (.int .i64 3)] w fun t52 w =>
  CallR Tryz.prog 24 [a1, (.int .i64 3)] w fun t54 w =>
  CallR Tryz.prog 24 [a1, (.int .i64 3)] w fun t56 w =>
  wpB (pureRun Tryz.prog (Instr.build 25 #[(0, t48), (1, t50), (2, t52), (3, t54), (4, t56)])) fun t57 =>
  effu Tryz.prog (Instr.storeAt 25 t8 t57) w fun w =>
  P8_0 a0 a1 t5 t6 t7 t8 w Q)) w
def L8_0 (x0 x1 x5 x6 x7 x8 : Value) (w : World) (Q : Value → World → Prop) : Prop :=
  ((wpB (nilv x0) fun t60 =>
  wpB (pureRun Tryz.prog (Instr.fieldAt 46 t60 0)) fun t61 =>
  wpB (pureRun Tryz.prog (Instr.fieldAt 33 t61 0)) fun t62 =>
  wpB (ldv Tryz.prog 3 t62 w.drew) fun t63 =>
  wpB (bp Tryz.prog .add 3 t63 (.int .i64 1)) fun t64 =>
  wpB (ldv Tryz.prog 39 x7 w.drew) fun t69 =>
  wpB (ldv Tryz.prog 25 x8 w.drew) fun t70 =>
  CallR Tryz.prog 24 [x1, t64] w.drew fun t65 w =>
  CallR Tryz.prog 24 [x1, (.int .i64 2)] w fun t67 w =>
  wpB (bp Tryz.prog .sub 3 t65 t67) fun t68 =>
  effu Tryz.prog (Instr.storeAt 39 x5 t69) w fun w =>
  effu Tryz.prog (Instr.storeAt 25 x6 t70) w fun w =>
  wpB (ldv Tryz.prog 39 x5 w) fun r5 => wpB (ldv Tryz.prog 25 x6 w) fun r6 => Q (.tuple #[t68, r5, r6]) w) ∧
  ((wpB (nilv x0) fun t60_1 =>
  wpB (pureRun Tryz.prog (Instr.fieldAt 46 t60_1 0)) fun t61_1 =>
  wpB (pureRun Tryz.prog (Instr.fieldAt 33 t61_1 0)) fun t62_1 =>
  wpB (ldv Tryz.prog 3 t62_1 w.drew) fun t63_1 =>
  wpB (bp Tryz.prog .add 3 t63_1 (.int .i64 1)) fun t64_1 =>
  wpB (ldv Tryz.prog 39 x7 w.drew) fun t69_1 =>
  CallR Tryz.prog 24 [x1, t64_1] w.drew fun t65_1 w =>
  wpB (ldv Tryz.prog 25 x8 w) fun t70_1 =>
  CallR Tryz.prog 24 [x1, (.int .i64 2)] w fun t67_1 w =>
  wpB (bp Tryz.prog .sub 3 t65_1 t67_1) fun t68_1 =>
  effu Tryz.prog (Instr.storeAt 39 x5 t69_1) w fun w =>
  effu Tryz.prog (Instr.storeAt 25 x6 t70_1) w fun w =>
  wpB (ldv Tryz.prog 39 x5 w) fun r5_1 => wpB (ldv Tryz.prog 25 x6 w) fun r6_1 => Q (.tuple #[t68_1, r5_1, r6_1]) w) ∧
  ((wpB (nilv x0) fun t60_2 =>
  wpB (pureRun Tryz.prog (Instr.fieldAt 46 t60_2 0)) fun t61_2 =>
  wpB (pureRun Tryz.prog (Instr.fieldAt 33 t61_2 0)) fun t62_2 =>
  wpB (ldv Tryz.prog 3 t62_2 w.drew) fun t63_2 =>
  wpB (bp Tryz.prog .add 3 t63_2 (.int .i64 1)) fun t64_2 =>
  wpB (ldv Tryz.prog 39 x7 w.drew) fun t69_2 =>
  CallR Tryz.prog 24 [x1, t64_2] w.drew fun t65_2 w =>
  CallR Tryz.prog 24 [x1, (.int .i64 2)] w fun t67_2 w =>
  wpB (bp Tryz.prog .sub 3 t65_2 t67_2) fun t68_2 =>
  wpB (ldv Tryz.prog 25 x8 w) fun t70_2 =>
  effu Tryz.prog (Instr.storeAt 39 x5 t69_2) w fun w =>
  effu Tryz.prog (Instr.storeAt 25 x6 t70_2) w fun w =>
  wpB (ldv Tryz.prog 39 x5 w) fun r5_2 => wpB (ldv Tryz.prog 25 x6 w) fun r6_2 => Q (.tuple #[t68_2, r5_2, r6_2]) w) ∧
  (wpB (nilv x0) fun t60_3 =>
  wpB (pureRun Tryz.prog (Instr.fieldAt 46 t60_3 0)) fun t61_3 =>
  wpB (pureRun Tryz.prog (Instr.fieldAt 33 t61_3 0)) fun t62_3 =>
  wpB (ldv Tryz.prog 3 t62_3 w.drew) fun t63_3 =>
  wpB (bp Tryz.prog .add 3 t63_3 (.int .i64 1)) fun t64_3 =>
  wpB (ldv Tryz.prog 39 x7 w.drew) fun t69_3 =>
  CallR Tryz.prog 24 [x1, t64_3] w.drew fun t65_3 w =>
  CallR Tryz.prog 24 [x1, (.int .i64 2)] w fun t67_3 w =>
  wpB (bp Tryz.prog .sub 3 t65_3 t67_3) fun t68_3 =>
  effu Tryz.prog (Instr.storeAt 39 x5 t69_3) w fun w =>
  wpB (ldv Tryz.prog 25 x8 w) fun t70_3 =>
  effu Tryz.prog (Instr.storeAt 25 x6 t70_3) w fun w =>
  wpB (ldv Tryz.prog 39 x5 w) fun r5_3 => wpB (ldv Tryz.prog 25 x6 w) fun r6_3 => Q (.tuple #[t68_3, r5_3, r6_3]) w)))) ∧
  (((wpB (nilv x0) fun t60_4 =>
  wpB (pureRun Tryz.prog (Instr.fieldAt 46 t60_4 0)) fun t61_4 =>
  wpB (pureRun Tryz.prog (Instr.fieldAt 33 t61_4 0)) fun t62_4 =>
  wpB (ldv Tryz.prog 3 t62_4 w.drew) fun t63_4 =>
  wpB (bp Tryz.prog .add 3 t63_4 (.int .i64 1)) fun t64_4 =>
  wpB (ldv Tryz.prog 25 x8 w.drew) fun t70_4 =>
  CallR Tryz.prog 24 [x1, t64_4] w.drew fun t65_4 w =>
  wpB (ldv Tryz.prog 39 x7 w) fun t69_4 =>
  CallR Tryz.prog 24 [x1, (.int .i64 2)] w fun t67_4 w =>
  wpB (bp Tryz.prog .sub 3 t65_4 t67_4) fun t68_4 =>
  effu Tryz.prog (Instr.storeAt 39 x5 t69_4) w fun w =>
  effu Tryz.prog (Instr.storeAt 25 x6 t70_4) w fun w =>
  wpB (ldv Tryz.prog 39 x5 w) fun r5_4 => wpB (ldv Tryz.prog 25 x6 w) fun r6_4 => Q (.tuple #[t68_4, r5_4, r6_4]) w) ∧
  (wpB (nilv x0) fun t60_5 =>
  wpB (pureRun Tryz.prog (Instr.fieldAt 46 t60_5 0)) fun t61_5 =>
  wpB (pureRun Tryz.prog (Instr.fieldAt 33 t61_5 0)) fun t62_5 =>
  wpB (ldv Tryz.prog 3 t62_5 w.drew) fun t63_5 =>
  wpB (bp Tryz.prog .add 3 t63_5 (.int .i64 1)) fun t64_5 =>
  wpB (ldv Tryz.prog 25 x8 w.drew) fun t70_5 =>
  CallR Tryz.prog 24 [x1, t64_5] w.drew fun t65_5 w =>
  CallR Tryz.prog 24 [x1, (.int .i64 2)] w fun t67_5 w =>
  wpB (bp Tryz.prog .sub 3 t65_5 t67_5) fun t68_5 =>
  wpB (ldv Tryz.prog 39 x7 w) fun t69_5 =>
  effu Tryz.prog (Instr.storeAt 39 x5 t69_5) w fun w =>
  effu Tryz.prog (Instr.storeAt 25 x6 t70_5) w fun w =>
  wpB (ldv Tryz.prog 39 x5 w) fun r5_5 => wpB (ldv Tryz.prog 25 x6 w) fun r6_5 => Q (.tuple #[t68_5, r5_5, r6_5]) w)) ∧
  (((wpB (nilv x0) fun t60_6 =>
  wpB (pureRun Tryz.prog (Instr.fieldAt 46 t60_6 0)) fun t61_6 =>
  wpB (pureRun Tryz.prog (Instr.fieldAt 33 t61_6 0)) fun t62_6 =>
  wpB (ldv Tryz.prog 3 t62_6 w.drew) fun t63_6 =>
  wpB (bp Tryz.prog .add 3 t63_6 (.int .i64 1)) fun t64_6 =>
  CallR Tryz.prog 24 [x1, t64_6] w.drew fun t65_6 w =>
  wpB (ldv Tryz.prog 39 x7 w) fun t69_6 =>
  wpB (ldv Tryz.prog 25 x8 w) fun t70_6 =>
  CallR Tryz.prog 24 [x1, (.int .i64 2)] w fun t67_6 w =>
  wpB (bp Tryz.prog .sub 3 t65_6 t67_6) fun t68_6 =>
  effu Tryz.prog (Instr.storeAt 39 x5 t69_6) w fun w =>
  effu Tryz.prog (Instr.storeAt 25 x6 t70_6) w fun w =>
  wpB (ldv Tryz.prog 39 x5 w) fun r5_6 => wpB (ldv Tryz.prog 25 x6 w) fun r6_6 => Q (.tuple #[t68_6, r5_6, r6_6]) w) ∧
  ((wpB (nilv x0) fun t60_7 =>
  wpB (pureRun Tryz.prog (Instr.fieldAt 46 t60_7 0)) fun t61_7 =>
  wpB (pureRun Tryz.prog (Instr.fieldAt 33 t61_7 0)) fun t62_7 =>
  wpB (ldv Tryz.prog 3 t62_7 w.drew) fun t63_7 =>
  wpB (bp Tryz.prog .add 3 t63_7 (.int .i64 1)) fun t64_7 =>
  CallR Tryz.prog 24 [x1, t64_7] w.drew fun t65_7 w =>
  wpB (ldv Tryz.prog 39 x7 w) fun t69_7 =>
  CallR Tryz.prog 24 [x1, (.int .i64 2)] w fun t67_7 w =>
  wpB (bp Tryz.prog .sub 3 t65_7 t67_7) fun t68_7 =>
  wpB (ldv Tryz.prog 25 x8 w) fun t70_7 =>
  effu Tryz.prog (Instr.storeAt 39 x5 t69_7) w fun w =>
  effu Tryz.prog (Instr.storeAt 25 x6 t70_7) w fun w =>
  wpB (ldv Tryz.prog 39 x5 w) fun r5_7 => wpB (ldv Tryz.prog 25 x6 w) fun r6_7 => Q (.tuple #[t68_7, r5_7, r6_7]) w) ∧
  (wpB (nilv x0) fun t60_8 =>
  wpB (pureRun Tryz.prog (Instr.fieldAt 46 t60_8 0)) fun t61_8 =>
  wpB (pureRun Tryz.prog (Instr.fieldAt 33 t61_8 0)) fun t62_8 =>
  wpB (ldv Tryz.prog 3 t62_8 w.drew) fun t63_8 =>
  wpB (bp Tryz.prog .add 3 t63_8 (.int .i64 1)) fun t64_8 =>
  CallR Tryz.prog 24 [x1, t64_8] w.drew fun t65_8 w =>
  wpB (ldv Tryz.prog 39 x7 w) fun t69_8 =>
  CallR Tryz.prog 24 [x1, (.int .i64 2)] w fun t67_8 w =>
  wpB (bp Tryz.prog .sub 3 t65_8 t67_8) fun t68_8 =>
  effu Tryz.prog (Instr.storeAt 39 x5 t69_8) w fun w =>
  wpB (ldv Tryz.prog 25 x8 w) fun t70_8 =>
  effu Tryz.prog (Instr.storeAt 25 x6 t70_8) w fun w =>
  wpB (ldv Tryz.prog 39 x5 w) fun r5_8 => wpB (ldv Tryz.prog 25 x6 w) fun r6_8 => Q (.tuple #[t68_8, r5_8, r6_8]) w))) ∧
  ((wpB (nilv x0) fun t60_9 =>
  wpB (pureRun Tryz.prog (Instr.fieldAt 46 t60_9 0)) fun t61_9 =>
  wpB (pureRun Tryz.prog (Instr.fieldAt 33 t61_9 0)) fun t62_9 =>
  wpB (ldv Tryz.prog 3 t62_9 w.drew) fun t63_9 =>
  wpB (bp Tryz.prog .add 3 t63_9 (.int .i64 1)) fun t64_9 =>
  CallR Tryz.prog 24 [x1, t64_9] w.drew fun t65_9 w =>
  wpB (ldv Tryz.prog 25 x8 w) fun t70_9 =>
  CallR Tryz.prog 24 [x1, (.int .i64 2)] w fun t67_9 w =>
  wpB (bp Tryz.prog .sub 3 t65_9 t67_9) fun t68_9 =>
  wpB (ldv Tryz.prog 39 x7 w) fun t69_9 =>
  effu Tryz.prog (Instr.storeAt 39 x5 t69_9) w fun w =>
  effu Tryz.prog (Instr.storeAt 25 x6 t70_9) w fun w =>
  wpB (ldv Tryz.prog 39 x5 w) fun r5_9 => wpB (ldv Tryz.prog 25 x6 w) fun r6_9 => Q (.tuple #[t68_9, r5_9, r6_9]) w) ∧
  ((wpB (nilv x0) fun t60_10 =>
  wpB (pureRun Tryz.prog (Instr.fieldAt 46 t60_10 0)) fun t61_10 =>
  wpB (pureRun Tryz.prog (Instr.fieldAt 33 t61_10 0)) fun t62_10 =>
  wpB (ldv Tryz.prog 3 t62_10 w.drew) fun t63_10 =>
  wpB (bp Tryz.prog .add 3 t63_10 (.int .i64 1)) fun t64_10 =>
  CallR Tryz.prog 24 [x1, t64_10] w.drew fun t65_10 w =>
  CallR Tryz.prog 24 [x1, (.int .i64 2)] w fun t67_10 w =>
  wpB (bp Tryz.prog .sub 3 t65_10 t67_10) fun t68_10 =>
  wpB (ldv Tryz.prog 39 x7 w) fun t69_10 =>
  wpB (ldv Tryz.prog 25 x8 w) fun t70_10 =>
  effu Tryz.prog (Instr.storeAt 39 x5 t69_10) w fun w =>
  effu Tryz.prog (Instr.storeAt 25 x6 t70_10) w fun w =>
  wpB (ldv Tryz.prog 39 x5 w) fun r5_10 => wpB (ldv Tryz.prog 25 x6 w) fun r6_10 => Q (.tuple #[t68_10, r5_10, r6_10]) w) ∧
  (wpB (nilv x0) fun t60_11 =>
  wpB (pureRun Tryz.prog (Instr.fieldAt 46 t60_11 0)) fun t61_11 =>
  wpB (pureRun Tryz.prog (Instr.fieldAt 33 t61_11 0)) fun t62_11 =>
  wpB (ldv Tryz.prog 3 t62_11 w.drew) fun t63_11 =>
  wpB (bp Tryz.prog .add 3 t63_11 (.int .i64 1)) fun t64_11 =>
  CallR Tryz.prog 24 [x1, t64_11] w.drew fun t65_11 w =>
  CallR Tryz.prog 24 [x1, (.int .i64 2)] w fun t67_11 w =>
  wpB (bp Tryz.prog .sub 3 t65_11 t67_11) fun t68_11 =>
  wpB (ldv Tryz.prog 39 x7 w) fun t69_11 =>
  effu Tryz.prog (Instr.storeAt 39 x5 t69_11) w fun w =>
  wpB (ldv Tryz.prog 25 x8 w) fun t70_11 =>
  effu Tryz.prog (Instr.storeAt 25 x6 t70_11) w fun w =>
  wpB (ldv Tryz.prog 39 x5 w) fun r5_11 => wpB (ldv Tryz.prog 25 x6 w) fun r6_11 => Q (.tuple #[t68_11, r5_11, r6_11]) w)))))
theorem F8_ok {a0 a1 : Value} {w : World} {Q : Value → World → Prop} (h : F8 a0 a1 w Q) : CallR Tryz.prog 8 [a0, a1] w Q :=
  ah mixed ag Tryz.func8 (c := C8) rfl H8 (Nat.le_of_ble_eq_true rfl) (by kernel_rfl) h
theorem L8_0_ok {x0 x1 x5 x6 x7 x8 : Value} {w : World} {Q : Value → World → Prop} (h : L8_0 x0 x1 x5 x6 x7 x8 w Q) : P8_0 x0 x1 x5 x6 x7 x8 w Q :=
  ar mixed ag Tryz.func8 H8 (by kernel_rfl) h

noncomputable def C9 : Code := (Tryz.f9.body).getD .skip
noncomputable def H9 : Hints := ⟨[], [(6, [1, 3])], []⟩
noncomputable def T9_0 : List It := [.jn (nav [1, 1, 1] C9)]
def P9_0 (x1 x3 : Value) (w : World) (Q : Value → World → Prop) : Prop := Part Tryz.prog 9 T9_0 [1, 3] [x1, x3] w Q
def F9 (a0 : Value) (w : World) (Q : Value → World → Prop) : Prop :=
  effv Tryz.prog (Instr.box 39 a0) w fun t1 w =>
  wpB (pureRun Tryz.prog (Instr.fieldAt 39 t1 0)) fun t5 =>
  wpB (ldv Tryz.prog 3 t5 w) fun t6 =>
  wpB (be Tryz.prog .eql 3 (.tmp 6) (.const (.int .i64 1)) t6 (.int .i64 1)) fun t7 =>
  cnd t7
  (P9_0 t1 (.int .i64 3) w Q)
  (wpB (pureRun Tryz.prog (Instr.fieldAt 39 t1 0)) fun t9 =>
  wpB (ldv Tryz.prog 3 t9 w) fun t10 =>
  CallR Tryz.prog 26 [t10] w fun t11 w =>
  cnd t11
  (P9_0 t1 (.int .i64 65535) w Q)
  (P9_0 t1 (.int .i64 0) w Q))
def L9_0 (x1 x3 : Value) (w : World) (Q : Value → World → Prop) : Prop :=
  wpB (pureRun Tryz.prog (Instr.fieldAt 39 x1 0)) fun t12 =>
  wpB (ldv Tryz.prog 3 t12 w) fun t13 =>
  CallR Tryz.prog 27 [t13, (.int .i64 1), (.int .i64 12)] w fun t14 w =>
  wpB (pureRun Tryz.prog (Op.unary .not t14)) fun t15 =>
  wpB (gd t15 false (pureRun Tryz.prog (Instr.fieldAt 39 x1 3))) fun t17 =>
  wpB (gd t15 false (ldv Tryz.prog 3 t17 w)) fun t18 =>
  gE t15 false (CallR Tryz.prog 27 [t18, (.int .i64 0), (gv t15 false x3)] w) (fun t20 w =>
  wpB (gd t15 false (pureRun Tryz.prog (Op.unary .not t20))) fun t21 =>
  wpB (pickv t15 (some (.bool true)) (some t21)) fun t22 =>
  wpB (gd t22 false (pureRun Tryz.prog (Instr.fieldAt 39 x1 0))) fun t24 =>
  wpB (gd t22 false (ldv Tryz.prog 3 t24 w)) fun t25 =>
  gE t22 false (CallR Tryz.prog 28 [t25] w) (fun t26 w =>
  wpB (gd t22 false (pureRun Tryz.prog (Op.unary .not t26))) fun t27 =>
  wpB (gd (gv t22 false t27) true (pureRun Tryz.prog (Instr.fieldAt 39 x1 4))) fun t29 =>
  wpB (gd (gv t22 false t27) true (ldv Tryz.prog 26 t29 w)) fun t30 =>
  wpB (gd (gv t22 false t27) true (be Tryz.prog .neq 26 (.tmp 30) (.const (.int .u64 0)) t30 (.int .u64 0))) fun t31 =>
  wpB (gd t22 false (pickv (gv t22 false t27) (some t31) (some (.bool false)))) fun t32 =>
  wpB (pickv t22 (some (.bool true)) (some t32)) fun t33 =>
  wpB (gd t33 false (pureRun Tryz.prog (Instr.fieldAt 39 x1 0))) fun t35 =>
  wpB (gd t33 false (ldv Tryz.prog 3 t35 w)) fun t36 =>
  wpB (gd t33 false (be Tryz.prog .neq 3 (.tmp 36) (.const (.int .i64 9)) t36 (.int .i64 9))) fun t37 =>
  wpB (gd (gv t33 false t37) true (pureRun Tryz.prog (Instr.fieldAt 39 x1 5))) fun t39 =>
  wpB (gd (gv t33 false t37) true (ldv Tryz.prog 26 t39 w)) fun t40 =>
  wpB (gd (gv t33 false t37) true (be Tryz.prog .neq 26 (.tmp 40) (.const (.int .u64 0)) t40 (.int .u64 0))) fun t41 =>
  wpB (gd t33 false (pickv (gv t33 false t37) (some t41) (some (.bool false)))) fun t42 =>
  wpB (pickv t33 (some (.bool true)) (some t42)) fun t43 =>
  cnd t43
  (Q (.bool false) w)
  (wpB (pureRun Tryz.prog (Instr.fieldAt 39 x1 0)) fun t44 =>
  wpB (ldv Tryz.prog 3 t44 w) fun t45 =>
  CallR Tryz.prog 29 [t45] w fun t46 w =>
  wpB (be Tryz.prog .eql 3 (.tmp 46) (.const (.int .i64 0)) t46 (.int .i64 0)) fun t47 =>
  cnd t47
  (wpB (pureRun Tryz.prog (Instr.fieldAt 39 x1 1)) fun t48 =>
  wpB (ldv Tryz.prog 3 t48 w) fun t49 =>
  wpB (be Tryz.prog .eql 3 (.tmp 49) (.const (.int .i64 0)) t49 (.int .i64 0)) fun t50 =>
  wpB (gd t50 true (pureRun Tryz.prog (Instr.fieldAt 39 x1 2))) fun t52 =>
  wpB (gd t50 true (ldv Tryz.prog 3 t52 w)) fun t53 =>
  wpB (gd t50 true (be Tryz.prog .eql 3 (.tmp 53) (.const (.int .i64 0)) t53 (.int .i64 0))) fun t54 =>
  wpB (pickv t50 (some t54) (some (.bool false))) fun t55 =>
  Q t55 w)
  (wpB (pureRun Tryz.prog (Instr.fieldAt 39 x1 1)) fun t56 =>
  wpB (ldv Tryz.prog 3 t56 w) fun t57 =>
  CallR Tryz.prog 27 [t57, (.int .i64 0), (.int .i64 63)] w fun t58 w =>
  wpB (gd t58 true (pureRun Tryz.prog (Instr.fieldAt 39 x1 2))) fun t60 =>
  wpB (gd t58 true (ldv Tryz.prog 3 t60 w)) fun t61 =>
  gE t58 true (CallR Tryz.prog 27 [t61, (.int .i64 0), (.int .i64 999)] w) (fun t62 w =>
  wpB (pickv t58 (some t62) (some (.bool false))) fun t63 =>
  Q t63 w) w))) w) w
theorem F9_ok {a0 : Value} {w : World} {Q : Value → World → Prop} (h : F9 a0 w Q) : CallR Tryz.prog 9 [a0] w Q :=
  ah mixed ag Tryz.func9 (c := C9) rfl H9 (Nat.le_of_ble_eq_true rfl) (by kernel_rfl) h
theorem L9_0_ok {x1 x3 : Value} {w : World} {Q : Value → World → Prop} (h : L9_0 x1 x3 w Q) : P9_0 x1 x3 w Q :=
  ar mixed ag Tryz.func9 H9 (by kernel_rfl) h

noncomputable def C23 : Code := (Tryz.f23.body).getD .skip
noncomputable def H23 : Hints := ⟨[], [(4, [5])], []⟩
noncomputable def T23_0 : List It := [.jn (nav [1, 1, 1] C23)]
def P23_0 (x5 : Value) (w : World) (Q : Value → World → Prop) : Prop := Part Tryz.prog 23 T23_0 [5] [x5] w Q
def F23 (a0 a1 : Value) (w : World) (Q : Value → World → Prop) : Prop :=
  wpB (bp Tryz.prog .rem 3 a0 a1) fun t8 =>
  wpB (bp Tryz.prog .lss 3 t8 (.int .i64 0)) fun t10 =>
  cnd t10
  (wpB (bp Tryz.prog .add 3 t8 a1) fun t13 =>
  P23_0 t13 w Q)
  (P23_0 t8 w Q)
def L23_0 (x5 : Value) (w : World) (Q : Value → World → Prop) : Prop :=
  Q x5 w
theorem F23_ok {a0 a1 : Value} {w : World} {Q : Value → World → Prop} (h : F23 a0 a1 w Q) : CallR Tryz.prog 23 [a0, a1] w Q :=
  ah mixed ag Tryz.func23 (c := C23) rfl H23 (Nat.le_of_ble_eq_true rfl) (by kernel_rfl) h
theorem L23_0_ok {x5 : Value} {w : World} {Q : Value → World → Prop} (h : L23_0 x5 w Q) : P23_0 x5 w Q :=
  ar mixed ag Tryz.func23 H23 (by kernel_rfl) h

noncomputable def C24 : Code := (Tryz.f24.body).getD .skip
noncomputable def H24 : Hints := ⟨[], [(4, [0, 1, 5])], [(2, (.leaf [0, 1, 2, 3, 4, 5, 6, 7, 8, 9])), (3, (.leaf [0, 1, 2, 3, 4, 5, 6, 7, 8, 9, 10]))]⟩
noncomputable def T24_0 : List It := [.jn (nav [1, 1, 1] C24)]
def P24_0 (x0 x1 x5 : Value) (w : World) (Q : Value → World → Prop) : Prop := Part Tryz.prog 24 T24_0 [0, 1, 5] [x0, x1, x5] w Q
def F24 (a0 a1 : Value) (w : World) (Q : Value → World → Prop) : Prop :=
  wpB (nilv a0) fun t7 =>
  wpB (pureRun Tryz.prog (Instr.fieldAt 37 t7 1)) fun t8 =>
  wpB (ldv Tryz.prog 3 t8 w.drew) fun t9 =>
  wpB (nilv a0) fun t11 =>
  wpB (pureRun Tryz.prog (Instr.fieldAt 37 t11 0)) fun t12 =>
  wpB (ldv Tryz.prog 22 t12 w.drew) fun t13 =>
  wpB (pureRun Tryz.prog (Builtin.len_ #[22] 3 #[t13])) fun t14 =>
  wpB (bp Tryz.prog .lss 3 t9 t14) fun t15 =>
  cnd t15
  (wpB (nilv a0) fun t17 =>
  wpB (pureRun Tryz.prog (Instr.fieldAt 37 t17 0)) fun t18 =>
  wpB (ldv Tryz.prog 22 t18 w.drew.drew) fun t19 =>
  wpB (nilv a0) fun t21 =>
  wpB (pureRun Tryz.prog (Instr.fieldAt 37 t21 1)) fun t22 =>
  wpB (ldv Tryz.prog 3 t22 w.drew.drew) fun t23 =>
  wpB (pureRun Tryz.prog (Instr.indexAt 22 t19 t23)) fun t24 =>
  wpB (ldv Tryz.prog 3 t24 w.drew.drew) fun t25 =>
  P24_0 a0 a1 t25 w.drew.drew Q)
  (P24_0 a0 a1 (.int .i64 0) w.drew Q)
def L24_0 (x0 x1 x5 : Value) (w : World) (Q : Value → World → Prop) : Prop :=
  wpB (nilv x0) fun t27 =>
  wpB (pureRun Tryz.prog (Instr.fieldAt 37 t27 1)) fun t28 =>
  wpB (ldv Tryz.prog 3 t28 w) fun t29 =>
  wpB (bp Tryz.prog .add 3 t29 (.int .i64 1)) fun t30 =>
  wpB (nilv x0) fun t31 =>
  wpB (pureRun Tryz.prog (Instr.fieldAt 37 t31 1)) fun t32 =>
  effu Tryz.prog (Instr.storeAt 3 t32 t30) w fun w =>
  CallR Tryz.prog 23 [x5, x1] w fun t35 w =>
  Q t35 w
theorem F24_ok {a0 a1 : Value} {w : World} {Q : Value → World → Prop} (h : F24 a0 a1 w Q) : CallR Tryz.prog 24 [a0, a1] w Q :=
  ah mixed ag Tryz.func24 (c := C24) rfl H24 (Nat.le_of_ble_eq_true rfl) (by kernel_rfl) h
theorem L24_0_ok {x0 x1 x5 : Value} {w : World} {Q : Value → World → Prop} (h : L24_0 x0 x1 x5 w Q) : P24_0 x0 x1 x5 w Q :=
  ar mixed ag Tryz.func24 H24 (by kernel_rfl) h

noncomputable def C25 : Code := (Tryz.f25.body).getD .skip
noncomputable def H25 : Hints := ⟨[], [(13, [0, 1, 4, 6, 7, 20, 28]), (21, [0, 1, 4, 6, 51]), (22, [0, 1, 4, 6, 7]), (24, [0, 1, 4, 6, 7]), (26, [0, 1, 4, 6, 7]), (32, [4, 6])], [(31, (.ask 3 5 (.leaf [0, 1, 2, 3, 4, 5, 6, 7]) (.leaf [0, 2, 1, 4, 5, 3, 6, 7])))]⟩
noncomputable def T25_0 : List It := [.jn (nav [1, 1, 1, 1, 0, 1, 4, 1, 3, 1] C25), .blk 0, .jn (nav [1, 1, 1, 1, 1] C25)]
noncomputable def T25_1 : List It := [.jn (nav [1, 1, 1, 1, 1] C25)]
noncomputable def T25_2 : List It := [.jn (nav [1, 1, 1, 1, 0, 1, 4, 1, 3, 1, 3, 1, 3, 1, 3, 1] C25), .blk 0, .jn (nav [1, 1, 1, 1, 1] C25)]
noncomputable def T25_3 : List It := [.jn (nav [1, 1, 1, 1, 1, 1] C25)]
noncomputable def T25_4 : List It := [.jn (nav [1, 1, 1, 1, 1, 1, 1] C25)]
noncomputable def T25_5 : List It := [.jn (nav [1, 1, 1, 1, 1, 1, 1, 1, 1, 1, 1] C25)]
def P25_0 (x0 x1 x4 x6 x7 x20 x28 : Value) (w : World) (Q : Value → World → Prop) : Prop := Part Tryz.prog 25 T25_0 [0, 1, 4, 6, 7, 20, 28] [x0, x1, x4, x6, x7, x20, x28] w Q
def P25_1 (x0 x1 x4 x6 x7 : Value) (w : World) (Q : Value → World → Prop) : Prop := Part Tryz.prog 25 T25_1 [0, 1, 4, 6, 7] [x0, x1, x4, x6, x7] w Q
def P25_2 (x0 x1 x4 x6 x51 : Value) (w : World) (Q : Value → World → Prop) : Prop := Part Tryz.prog 25 T25_2 [0, 1, 4, 6, 51] [x0, x1, x4, x6, x51] w Q
def P25_3 (x0 x1 x4 x6 x7 : Value) (w : World) (Q : Value → World → Prop) : Prop := Part Tryz.prog 25 T25_3 [0, 1, 4, 6, 7] [x0, x1, x4, x6, x7] w Q
def P25_4 (x0 x1 x4 x6 x7 : Value) (w : World) (Q : Value → World → Prop) : Prop := Part Tryz.prog 25 T25_4 [0, 1, 4, 6, 7] [x0, x1, x4, x6, x7] w Q
def P25_5 (x4 x6 : Value) (w : World) (Q : Value → World → Prop) : Prop := Part Tryz.prog 25 T25_5 [4, 6] [x4, x6] w Q
def F25 (a0 a1 : Value) (w : World) (Q : Value → World → Prop) : Prop :=
  effv Tryz.prog (Instr.alloc 39 true (.tuple #[])) w fun t4 w =>
  CallR Tryz.prog 58 [] w fun t10 w =>
  wpB (pureRun Tryz.prog (Builtin.len_ #[22] 3 #[t10])) fun t14 =>
  CallR Tryz.prog 24 [a0, t14] w fun t15 w =>
  wpB (pureRun Tryz.prog (Instr.indexAt 22 t10 t15)) fun t16 =>
  wpB (ldv Tryz.prog 3 t16 w) fun t17 =>
  wpB (pureRun Tryz.prog (Instr.build 39 #[(0, t17)])) fun t18 =>
  effv Tryz.prog (Instr.alloc 39 true (.tuple #[])) w fun t6 w =>
  effu Tryz.prog (Instr.storeAt 39 t6 t18) w fun w =>
  wpB (pureRun Tryz.prog (Instr.fieldAt 39 t6 0)) fun t19 =>
  wpB (ldv Tryz.prog 3 t19 w) fun t20 =>
  wpB (be Tryz.prog .eql 3 (.tmp 20) (.const (.int .i64 1)) t20 (.int .i64 1)) fun t23 =>
  cnd t23
  (CallR Tryz.prog 24 [a0, (.int .i64 4)] w fun t25 w =>
  wpB (pureRun Tryz.prog (Instr.fieldAt 39 t6 3)) fun t26 =>
  effu Tryz.prog (Instr.storeAt 3 t26 t25) w fun w =>
  wpB (ldv Tryz.prog 39 t6 w) fun t27 =>
  effu Tryz.prog (Instr.storeAt 39 t4 t27) w fun w =>
  wpB (ldv Tryz.prog 39 t4 w) fun r4 => Q r4 w)
  (wpB (be Tryz.prog .eql 3 (.tmp 20) (.const (.int .i64 6)) t20 (.int .i64 6)) fun t29 =>
  cnd t29
  (P25_0 a0 a1 t4 t6 (.int .i64 1) t20 t29 w Q)
  (wpB (be Tryz.prog .eql 3 (.tmp 20) (.const (.int .i64 7)) t20 (.int .i64 7)) fun t30 =>
  cnd t30
  (P25_0 a0 a1 t4 t6 (.int .i64 1) t20 t30 w Q)
  (wpB (be Tryz.prog .eql 3 (.tmp 20) (.const (.int .i64 8)) t20 (.int .i64 8)) fun t31 =>
  cnd t31
  (P25_0 a0 a1 t4 t6 (.int .i64 1) t20 t31 w Q)
  (wpB (be Tryz.prog .eql 3 (.tmp 20) (.const (.int .i64 9)) t20 (.int .i64 9)) fun t32 =>
  P25_0 a0 a1 t4 t6 (.int .i64 1) t20 t32 w Q))))
def L25_0 (x0 x1 x4 x6 x7 x20 x28 : Value) (w : World) (Q : Value → World → Prop) : Prop :=
  cnd x28
  (CallR Tryz.prog 24 [x0, (.int .i64 5)] w fun t34 w =>
  wpB (pureRun Tryz.prog (Instr.fieldAt 39 x6 3)) fun t35 =>
  effu Tryz.prog (Instr.storeAt 3 t35 t34) w fun w =>
  P25_1 x0 x1 x4 x6 (.int .i64 2) w Q)
  (wpB (be Tryz.prog .eql 3 (.tmp 20) (.const (.int .i64 2)) x20 (.int .i64 2)) fun t37 =>
  cnd t37
  (effv Tryz.prog (Instr.buildSlice 22 9 #[(0, (.int .i64 1)), (1, (.int .i64 2)), (2, (.int .i64 3)), (3, (.int .i64 5)), (4, (.int .i64 8)), (5, (.int .i64 9)), (6, (.int .i64 16)), (7, (.int .i64 17)), (8, (.int .i64 0))]) w fun t38 w =>
  CallR Tryz.prog 24 [x0, (.int .i64 9)] w fun t40 w =>
  wpB (pureRun Tryz.prog (Instr.indexAt 22 t38 t40)) fun t41 =>
  wpB (ldv Tryz.prog 3 t41 w) fun t42 =>
  wpB (pureRun Tryz.prog (Instr.fieldAt 39 x6 3)) fun t43 =>
  effu Tryz.prog (Instr.storeAt 3 t43 t42) w fun w =>
  P25_1 x0 x1 x4 x6 x7 w Q)
  (wpB (be Tryz.prog .eql 3 (.tmp 20) (.const (.int .i64 5)) x20 (.int .i64 5)) fun t45 =>
  cnd t45
  (effv Tryz.prog (Instr.buildSlice 22 2 #[(0, (.int .i64 1)), (1, (.int .i64 2))]) w fun t46 w =>
  CallR Tryz.prog 24 [x0, (.int .i64 2)] w fun t48 w =>
  wpB (pureRun Tryz.prog (Instr.indexAt 22 t46 t48)) fun t49 =>
  wpB (ldv Tryz.prog 3 t49 w) fun t50 =>
  P25_1 x0 x1 x4 x6 t50 w Q)
  (wpB (be Tryz.prog .eql 3 (.tmp 20) (.const (.int .i64 10)) x20 (.int .i64 10)) fun t52 =>
  cnd t52
  (P25_2 x0 x1 x4 x6 t52 w Q)
  (wpB (be Tryz.prog .eql 3 (.tmp 20) (.const (.int .i64 12)) x20 (.int .i64 12)) fun t53 =>
  P25_2 x0 x1 x4 x6 t53 w Q))))
def L25_1 (x0 x1 x4 x6 x7 : Value) (w : World) (Q : Value → World → Prop) : Prop :=
  wpB (pureRun Tryz.prog (Instr.fieldAt 39 x6 0)) fun t54 =>
  wpB (ldv Tryz.prog 3 t54 w) fun t55 =>
  wpB (be Tryz.prog .eql 3 (.tmp 55) (.const (.int .i64 7)) t55 (.int .i64 7)) fun t56 =>
  wpB (gd t56 false (pureRun Tryz.prog (Instr.fieldAt 39 x6 0))) fun t58 =>
  wpB (gd t56 false (ldv Tryz.prog 3 t58 w)) fun t59 =>
  wpB (gd t56 false (be Tryz.prog .eql 3 (.tmp 59) (.const (.int .i64 8)) t59 (.int .i64 8))) fun t60 =>
  wpB (pickv t56 (some (.bool true)) (some t60)) fun t61 =>
  wpB (gd t61 false (pureRun Tryz.prog (Instr.fieldAt 39 x6 0))) fun t63 =>
  wpB (gd t61 false (ldv Tryz.prog 3 t63 w)) fun t64 =>
  wpB (gd t61 false (be Tryz.prog .eql 3 (.tmp 64) (.const (.int .i64 9)) t64 (.int .i64 9))) fun t65 =>
  wpB (pickv t61 (some (.bool true)) (some t65)) fun t66 =>
  cnd t66
  (CallR Tryz.prog 24 [x0, (.int .i64 3)] w fun t68 w =>
  wpB (pureRun Tryz.prog (convert 3 26 t68)) fun t69 =>
  wpB (pureRun Tryz.prog (Instr.fieldAt 39 x6 4)) fun t70 =>
  effu Tryz.prog (Instr.storeAt 26 t70 t69) w fun w =>
  P25_3 x0 x1 x4 x6 x7 w Q)
  (P25_3 x0 x1 x4 x6 x7 w Q)
def L25_2 (x0 x1 x4 x6 x51 : Value) (w : World) (Q : Value → World → Prop) : Prop :=
  cnd x51
  (P25_1 x0 x1 x4 x6 (.int .i64 1) w Q)
  (wpB (ldv Tryz.prog 39 x6 w) fun t21 =>
  effu Tryz.prog (Instr.storeAt 39 x4 t21) w fun w =>
  wpB (ldv Tryz.prog 39 x4 w) fun r4 => Q r4 w)
def L25_3 (x0 x1 x4 x6 x7 : Value) (w : World) (Q : Value → World → Prop) : Prop :=
  wpB (pureRun Tryz.prog (Instr.fieldAt 39 x6 0)) fun t71 =>
  wpB (ldv Tryz.prog 3 t71 w) fun t72 =>
  wpB (be Tryz.prog .eql 3 (.tmp 72) (.const (.int .i64 9)) t72 (.int .i64 9)) fun t73 =>
  cnd t73
  (CallR Tryz.prog 24 [x0, (.int .i64 4)] w fun t75 w =>
  wpB (pureRun Tryz.prog (convert 3 26 t75)) fun t76 =>
  wpB (pureRun Tryz.prog (Instr.fieldAt 39 x6 5)) fun t77 =>
  effu Tryz.prog (Instr.storeAt 26 t77 t76) w fun w =>
  P25_4 x0 x1 x4 x6 x7 w Q)
  (P25_4 x0 x1 x4 x6 x7 w Q)
def L25_4 (x0 x1 x4 x6 x7 : Value) (w : World) (Q : Value → World → Prop) : Prop :=
  CallR Tryz.prog 59 [x1, x7] w fun t80 w =>
  wpB (pureRun Tryz.prog (Builtin.len_ #[115] 3 #[t80])) fun t82 =>
  wpB (be Tryz.prog .eql 3 (.tmp 82) (.const (.int .i64 0)) t82 (.int .i64 0)) fun t83 =>
  gE t83 false (CallR Tryz.prog 24 [(gv t83 false x0), (.int .i64 12)] w) (fun t86 w =>
  wpB (gd t83 false (be Tryz.prog .eql 3 (.tmp 86) (.const (.int .i64 0)) t86 (.int .i64 0))) fun t87 =>
  wpB (pickv t83 (some (.bool true)) (some t87)) fun t88 =>
  cnd t88
  (CallR Tryz.prog 24 [x0, (.int .i64 5)] w fun t90 w =>
  CallR Tryz.prog 24 [x0, (.int .i64 9)] w fun t92 w =>
  wpB (pureRun Tryz.prog (Instr.fieldAt 39 x6 1)) fun t93 =>
  effu Tryz.prog (Instr.storeAt 3 t93 t90) w fun w =>
  wpB (pureRun Tryz.prog (Instr.fieldAt 39 x6 2)) fun t94 =>
  effu Tryz.prog (Instr.storeAt 3 t94 t92) w fun w =>
  wpB (ldv Tryz.prog 39 x6 w) fun t95 =>
  effu Tryz.prog (Instr.storeAt 39 x4 t95) w fun w =>
  wpB (ldv Tryz.prog 39 x4 w) fun r4 => Q r4 w)
  (wpB (pureRun Tryz.prog (Builtin.len_ #[115] 3 #[t80])) fun t99 =>
  CallR Tryz.prog 24 [x0, t99] w fun t100 w =>
  wpB (pureRun Tryz.prog (Instr.indexAt 115 t80 t100)) fun t101 =>
  wpB (ldv Tryz.prog 39 t101 w) fun t102 =>
  effv Tryz.prog (Instr.alloc 39 true (.tuple #[])) w fun t9 w =>
  effu Tryz.prog (Instr.storeAt 39 t9 t102) w fun w =>
  (wpB (pureRun Tryz.prog (Instr.fieldAt 39 t9 1)) fun t103 =>
  wpB (ldv Tryz.prog 3 t103 w.drew) fun t104 =>
  wpB (pureRun Tryz.prog (Instr.fieldAt 39 t9 2)) fun t105 =>
  wpB (ldv Tryz.prog 3 t105 w.drew) fun t106 =>
  wpB (pureRun Tryz.prog (Instr.fieldAt 39 x6 1)) fun t107 =>
  effu Tryz.prog (Instr.storeAt 3 t107 t104) w.drew fun w =>
  wpB (pureRun Tryz.prog (Instr.fieldAt 39 x6 2)) fun t108 =>
  effu Tryz.prog (Instr.storeAt 3 t108 t106) w fun w =>
  P25_5 x4 x6 w Q) ∧
  (wpB (pureRun Tryz.prog (Instr.fieldAt 39 t9 1)) fun t103_1 =>
  wpB (pureRun Tryz.prog (Instr.fieldAt 39 t9 2)) fun t105_1 =>
  wpB (ldv Tryz.prog 3 t103_1 w.drew) fun t104_1 =>
  wpB (pureRun Tryz.prog (Instr.fieldAt 39 x6 1)) fun t107_1 =>
  effu Tryz.prog (Instr.storeAt 3 t107_1 t104_1) w.drew fun w =>
  wpB (ldv Tryz.prog 3 t105_1 w) fun t106_1 =>
  wpB (pureRun Tryz.prog (Instr.fieldAt 39 x6 2)) fun t108_1 =>
  effu Tryz.prog (Instr.storeAt 3 t108_1 t106_1) w fun w =>
  P25_5 x4 x6 w Q))) w
def L25_5 (x4 x6 : Value) (w : World) (Q : Value → World → Prop) : Prop :=
  wpB (ldv Tryz.prog 39 x6 w) fun t109 =>
  effu Tryz.prog (Instr.storeAt 39 x4 t109) w fun w =>
  wpB (ldv Tryz.prog 39 x4 w) fun r4 => Q r4 w
theorem F25_ok {a0 a1 : Value} {w : World} {Q : Value → World → Prop} (h : F25 a0 a1 w Q) : CallR Tryz.prog 25 [a0, a1] w Q :=
  ah mixed ag Tryz.func25 (c := C25) rfl H25 (Nat.le_of_ble_eq_true rfl) (by kernel_rfl) h
theorem L25_0_ok {x0 x1 x4 x6 x7 x20 x28 : Value} {w : World} {Q : Value → World → Prop} (h : L25_0 x0 x1 x4 x6 x7 x20 x28 w Q) : P25_0 x0 x1 x4 x6 x7 x20 x28 w Q :=
  ar mixed ag Tryz.func25 H25 (by kernel_rfl) h
theorem L25_1_ok {x0 x1 x4 x6 x7 : Value} {w : World} {Q : Value → World → Prop} (h : L25_1 x0 x1 x4 x6 x7 w Q) : P25_1 x0 x1 x4 x6 x7 w Q :=
  ar mixed ag Tryz.func25 H25 (by kernel_rfl) h
theorem L25_2_ok {x0 x1 x4 x6 x51 : Value} {w : World} {Q : Value → World → Prop} (h : L25_2 x0 x1 x4 x6 x51 w Q) : P25_2 x0 x1 x4 x6 x51 w Q :=
  ar mixed ag Tryz.func25 H25 (by kernel_rfl) h
theorem L25_3_ok {x0 x1 x4 x6 x7 : Value} {w : World} {Q : Value → World → Prop} (h : L25_3 x0 x1 x4 x6 x7 w Q) : P25_3 x0 x1 x4 x6 x7 w Q :=
  ar mixed ag Tryz.func25 H25 (by kernel_rfl) h
theorem L25_4_ok {x0 x1 x4 x6 x7 : Value} {w : World} {Q : Value → World → Prop} (h : L25_4 x0 x1 x4 x6 x7 w Q) : P25_4 x0 x1 x4 x6 x7 w Q :=
  ar mixed ag Tryz.func25 H25 (by kernel_rfl) h
theorem L25_5_ok {x4 x6 : Value} {w : World} {Q : Value → World → Prop} (h : L25_5 x4 x6 w Q) : P25_5 x4 x6 w Q :=
  ar mixed ag Tryz.func25 H25 (by kernel_rfl) h

noncomputable def C26 : Code := (Tryz.f26.body).getD .skip
noncomputable def H26 : Hints := ⟨[], [], []⟩
def F26 (a0 : Value) (w : World) (Q : Value → World → Prop) : Prop :=
  wpB (be Tryz.prog .eql 3 (.tmp 3) (.const (.int .i64 1)) a0 (.int .i64 1)) fun t4 =>
  wpB (gd t4 false (be Tryz.prog .eql 3 (.tmp 6) (.const (.int .i64 2)) (gv t4 false a0) (.int .i64 2))) fun t7 =>
  wpB (pickv t4 (some (.bool true)) (some t7)) fun t8 =>
  wpB (gd t8 false (bp Tryz.prog .geq 3 (gv t8 false a0) (.int .i64 6))) fun t11 =>
  wpB (gd (gv t8 false t11) true (bp Tryz.prog .leq 3 (gv (gv t8 false t11) true a0) (.int .i64 9))) fun t14 =>
  wpB (gd t8 false (pickv (gv t8 false t11) (some t14) (some (.bool false)))) fun t15 =>
  wpB (pickv t8 (some (.bool true)) (some t15)) fun t16 =>
  Q t16 w
theorem F26_ok {a0 : Value} {w : World} {Q : Value → World → Prop} (h : F26 a0 w Q) : CallR Tryz.prog 26 [a0] w Q :=
  ah mixed ag Tryz.func26 (c := C26) rfl H26 (Nat.le_of_ble_eq_true rfl) (by kernel_rfl) h

noncomputable def C27 : Code := (Tryz.f27.body).getD .skip
noncomputable def H27 : Hints := ⟨[], [], []⟩
def F27 (a0 a1 a2 : Value) (w : World) (Q : Value → World → Prop) : Prop :=
  wpB (bp Tryz.prog .geq 3 a0 a1) fun t9 =>
  wpB (gd t9 true (bp Tryz.prog .leq 3 (gv t9 true a0) (gv t9 true a2))) fun t13 =>
  wpB (pickv t9 (some t13) (some (.bool false))) fun t14 =>
  Q t14 w
theorem F27_ok {a0 a1 a2 : Value} {w : World} {Q : Value → World → Prop} (h : F27 a0 a1 a2 w Q) : CallR Tryz.prog 27 [a0, a1, a2] w Q :=
  ah mixed ag Tryz.func27 (c := C27) rfl H27 (Nat.le_of_ble_eq_true rfl) (by kernel_rfl) h

noncomputable def C28 : Code := (Tryz.f28.body).getD .skip
noncomputable def H28 : Hints := ⟨[], [], []⟩
def F28 (a0 : Value) (w : World) (Q : Value → World → Prop) : Prop :=
  wpB (bp Tryz.prog .geq 3 a0 (.int .i64 7)) fun t4 =>
  wpB (gd t4 true (bp Tryz.prog .leq 3 (gv t4 true a0) (.int .i64 9))) fun t7 =>
  wpB (pickv t4 (some t7) (some (.bool false))) fun t8 =>
  Q t8 w
theorem F28_ok {a0 : Value} {w : World} {Q : Value → World → Prop} (h : F28 a0 w Q) : CallR Tryz.prog 28 [a0] w Q :=
  ah mixed ag Tryz.func28 (c := C28) rfl H28 (Nat.le_of_ble_eq_true rfl) (by kernel_rfl) h

noncomputable def C29 : Code := (Tryz.f29.body).getD .skip
noncomputable def H29 : Hints := ⟨[], [(5, [3, 4]), (10, [3, 8])], []⟩
noncomputable def T29_0 : List It := [.jn (nav [1, 0, 1, 4, 1] C29), .blk 0, .jn (nav [1, 1] C29)]
noncomputable def T29_1 : List It := [.jn (nav [1, 0, 1, 4, 1, 3, 1] C29), .blk 0, .jn (nav [1, 1] C29)]
def P29_0 (x3 x4 : Value) (w : World) (Q : Value → World → Prop) : Prop := Part Tryz.prog 29 T29_0 [3, 4] [x3, x4] w Q
def P29_1 (x3 x8 : Value) (w : World) (Q : Value → World → Prop) : Prop := Part Tryz.prog 29 T29_1 [3, 8] [x3, x8] w Q
def F29 (a0 : Value) (w : World) (Q : Value → World → Prop) : Prop :=
  wpB (be Tryz.prog .eql 3 (.tmp 3) (.const (.int .i64 2)) a0 (.int .i64 2)) fun t5 =>
  cnd t5
  (P29_0 a0 t5 w Q)
  (wpB (be Tryz.prog .eql 3 (.tmp 3) (.const (.int .i64 10)) a0 (.int .i64 10)) fun t6 =>
  cnd t6
  (P29_0 a0 t6 w Q)
  (wpB (be Tryz.prog .eql 3 (.tmp 3) (.const (.int .i64 12)) a0 (.int .i64 12)) fun t7 =>
  P29_0 a0 t7 w Q))
def L29_0 (x3 x4 : Value) (w : World) (Q : Value → World → Prop) : Prop :=
  cnd x4
  (Q (.int .i64 1) w)
  (wpB (be Tryz.prog .eql 3 (.tmp 3) (.const (.int .i64 6)) x3 (.int .i64 6)) fun t9 =>
  cnd t9
  (P29_1 x3 t9 w Q)
  (wpB (be Tryz.prog .eql 3 (.tmp 3) (.const (.int .i64 7)) x3 (.int .i64 7)) fun t10 =>
  cnd t10
  (P29_1 x3 t10 w Q)
  (wpB (be Tryz.prog .eql 3 (.tmp 3) (.const (.int .i64 8)) x3 (.int .i64 8)) fun t11 =>
  cnd t11
  (P29_1 x3 t11 w Q)
  (wpB (be Tryz.prog .eql 3 (.tmp 3) (.const (.int .i64 9)) x3 (.int .i64 9)) fun t12 =>
  P29_1 x3 t12 w Q))))
def L29_1 (x3 x8 : Value) (w : World) (Q : Value → World → Prop) : Prop :=
  cnd x8
  (Q (.int .i64 2) w)
  (wpB (be Tryz.prog .eql 3 (.tmp 3) (.const (.int .i64 5)) x3 (.int .i64 5)) fun t14 =>
  cnd t14
  (Q (.int .i64 3) w)
  (Q (.int .i64 0) w))
theorem F29_ok {a0 : Value} {w : World} {Q : Value → World → Prop} (h : F29 a0 w Q) : CallR Tryz.prog 29 [a0] w Q :=
  ah mixed ag Tryz.func29 (c := C29) rfl H29 (Nat.le_of_ble_eq_true rfl) (by kernel_rfl) h
theorem L29_0_ok {x3 x4 : Value} {w : World} {Q : Value → World → Prop} (h : L29_0 x3 x4 w Q) : P29_0 x3 x4 w Q :=
  ar mixed ag Tryz.func29 H29 (by kernel_rfl) h
theorem L29_1_ok {x3 x8 : Value} {w : World} {Q : Value → World → Prop} (h : L29_1 x3 x8 w Q) : P29_1 x3 x8 w Q :=
  ar mixed ag Tryz.func29 H29 (by kernel_rfl) h

noncomputable def C58 : Code := (Tryz.f58.body).getD .skip
noncomputable def H58 : Hints := ⟨[], [], []⟩
def F58 (w : World) (Q : Value → World → Prop) : Prop :=
  effv Tryz.prog (Instr.buildSlice 22 23 #[(0, (.int .i64 1)), (1, (.int .i64 1)), (2, (.int .i64 2)), (3, (.int .i64 2)), (4, (.int .i64 2)), (5, (.int .i64 3)), (6, (.int .i64 3)), (7, (.int .i64 5)), (8, (.int .i64 5)), (9, (.int .i64 5)), (10, (.int .i64 6)), (11, (.int .i64 7)), (12, (.int .i64 7)), (13, (.int .i64 8)), (14, (.int .i64 9)), (15, (.int .i64 6)), (16, (.int .i64 4)), (17, (.int .i64 10)), (18, (.int .i64 10)), (19, (.int .i64 11)), (20, (.int .i64 11)), (21, (.int .i64 12)), (22, (.int .i64 0))]) w fun t1 w =>
  Q t1 w
theorem F58_ok {w : World} {Q : Value → World → Prop} (h : F58  w Q) : CallR Tryz.prog 58 [] w Q :=
  ah mixed ag Tryz.func58 (c := C58) rfl H58 (Nat.le_of_ble_eq_true rfl) (by kernel_rfl) h

noncomputable def C59 : Code := (Tryz.f59.body).getD .skip
noncomputable def H59 : Hints := ⟨[(3, [0, 1, 5, 6]), (6, [0, 1, 5, 6, 7])], [(7, [0, 1, 5, 6, 7])], []⟩
noncomputable def T59_0 : List It := [.lp (nav [1, 1, 0, 1, 4, 5] C59), .blk 0, .jn (nav [1, 1, 1] C59)]
noncomputable def T59_1 : List It := [.lp (nav [1, 1, 0, 1, 4, 5, 1, 0, 4, 1, 4, 5] C59), .blk 2, .blk 1, .jn (nav [1, 1, 0, 1, 4, 5, 1, 1] C59), .lp (nav [1, 1, 0, 1, 4, 5] C59), .blk 0, .jn (nav [1, 1, 1] C59)]
noncomputable def T59_2 : List It := [.jn (nav [1, 1, 0, 1, 4, 5, 1, 0, 4, 1, 4, 5, 1, 1] C59), .lp (nav [1, 1, 0, 1, 4, 5, 1, 0, 4, 1, 4, 5] C59), .blk 2, .blk 1, .jn (nav [1, 1, 0, 1, 4, 5, 1, 1] C59), .lp (nav [1, 1, 0, 1, 4, 5] C59), .blk 0, .jn (nav [1, 1, 1] C59)]
def P59_0 (x0 x1 x5 x6 : Value) (w : World) (Q : Value → World → Prop) : Prop := Part Tryz.prog 59 T59_0 [0, 1, 5, 6] [x0, x1, x5, x6] w Q
def P59_1 (x0 x1 x5 x6 x7 : Value) (w : World) (Q : Value → World → Prop) : Prop := Part Tryz.prog 59 T59_1 [0, 1, 5, 6, 7] [x0, x1, x5, x6, x7] w Q
def P59_2 (x0 x1 x5 x6 x7 : Value) (w : World) (Q : Value → World → Prop) : Prop := Part Tryz.prog 59 T59_2 [0, 1, 5, 6, 7] [x0, x1, x5, x6, x7] w Q
def F59 (a0 a1 : Value) (w : World) (Q : Value → World → Prop) : Prop :=
  P59_0 a0 a1 (.slice none 0 0) (.int .i64 0) w Q
def L59_0 (x0 x1 x5 x6 : Value) (w : World) (Q : Value → World → Prop) : Prop :=
  wpB (pureRun Tryz.prog (Builtin.len_ #[113] 3 #[x0])) fun t10 =>
  wpB (bp Tryz.prog .lss 3 x6 t10) fun t11 =>
  cnd t11
  (P59_1 x0 x1 x5 x6 (.int .i64 0) w Q)
  (Q x5 w)
def L59_1 (x0 x1 x5 x6 x7 : Value) (w : World) (Q : Value → World → Prop) : Prop :=
  wpB (pureRun Tryz.prog (Instr.indexAt 113 x0 x6)) fun t17 =>
  wpB (ldv Tryz.prog 115 t17 w) fun t18 =>
  wpB (pureRun Tryz.prog (Builtin.len_ #[115] 3 #[t18])) fun t19 =>
  wpB (bp Tryz.prog .lss 3 x7 t19) fun t20 =>
  cnd t20
  (wpB (pureRun Tryz.prog (Instr.indexAt 113 x0 x6)) fun t25 =>
  wpB (ldv Tryz.prog 115 t25 w) fun t26 =>
  wpB (pureRun Tryz.prog (Instr.indexAt 115 t26 x7)) fun t28 =>
  wpB (pureRun Tryz.prog (Instr.fieldAt 39 t28 0)) fun t29 =>
  wpB (ldv Tryz.prog 3 t29 w) fun t30 =>
  wpB (be Tryz.prog .eql 3 (.tmp 30) (.tmp 31) t30 x1) fun t32 =>
  cnd t32
  (wpB (pureRun Tryz.prog (Instr.build 39 #[(1, x6), (2, x7)])) fun t36 =>
  effv Tryz.prog (Instr.buildSlice 115 1 #[(0, t36)]) w fun t37 w =>
  effv Tryz.prog (Builtin.append_ #[115, 115] 115 #[x5, t37]) w fun t38 w =>
  P59_2 x0 x1 t38 x6 x7 w Q)
  (P59_2 x0 x1 x5 x6 x7 w Q))
  (wpB (bp Tryz.prog .add 3 x6 (.int .i64 1)) fun t13 =>
  P59_0 x0 x1 x5 t13 w Q)
def L59_2 (x0 x1 x5 x6 x7 : Value) (w : World) (Q : Value → World → Prop) : Prop :=
  wpB (bp Tryz.prog .add 3 x7 (.int .i64 1)) fun t22 =>
  P59_1 x0 x1 x5 x6 t22 w Q
theorem F59_ok {a0 a1 : Value} {w : World} {Q : Value → World → Prop} (h : F59 a0 a1 w Q) : CallR Tryz.prog 59 [a0, a1] w Q :=
  ah mixed ag Tryz.func59 (c := C59) rfl H59 (Nat.le_of_ble_eq_true rfl) (by kernel_rfl) h
theorem L59_0_ok {x0 x1 x5 x6 : Value} {w : World} {Q : Value → World → Prop} (h : L59_0 x0 x1 x5 x6 w Q) : P59_0 x0 x1 x5 x6 w Q :=
  aQ mixed ag Tryz.func59 H59 (by kernel_rfl) h
theorem L59_1_ok {x0 x1 x5 x6 x7 : Value} {w : World} {Q : Value → World → Prop} (h : L59_1 x0 x1 x5 x6 x7 w Q) : P59_1 x0 x1 x5 x6 x7 w Q :=
  aQ mixed ag Tryz.func59 H59 (by kernel_rfl) h
theorem L59_2_ok {x0 x1 x5 x6 x7 : Value} {w : World} {Q : Value → World → Prop} (h : L59_2 x0 x1 x5 x6 x7 w Q) : P59_2 x0 x1 x5 x6 x7 w Q :=
  ar mixed ag Tryz.func59 H59 (by kernel_rfl) h

noncomputable def C60 : Code := (Tryz.f60.body).getD .skip
noncomputable def H60 : Hints := ⟨[], [(5, [1, 3, 4, 5, 6]), (9, [1, 3, 4, 5, 6])], []⟩
noncomputable def T60_0 : List It := [.jn (nav [1, 1, 1, 1] C60)]
noncomputable def T60_1 : List It := [.jn (nav [1, 1, 1, 1, 1] C60)]
def P60_0 (x1 x3 x4 x5 x6 : Value) (w : World) (Q : Value → World → Prop) : Prop := Part Tryz.prog 60 T60_0 [1, 3, 4, 5, 6] [x1, x3, x4, x5, x6] w Q
def P60_1 (x1 x3 x4 x5 x6 : Value) (w : World) (Q : Value → World → Prop) : Prop := Part Tryz.prog 60 T60_1 [1, 3, 4, 5, 6] [x1, x3, x4, x5, x6] w Q
def F60 (a0 : Value) (w : World) (Q : Value → World → Prop) : Prop :=
  effv Tryz.prog (Instr.box 39 a0) w fun t1 w =>
  wpB (pureRun Tryz.prog (Instr.fieldAt 39 t1 0)) fun t7 =>
  wpB (ldv Tryz.prog 3 t7 w) fun t8 =>
  CallR Tryz.prog 90 [t8] w fun t9 w =>
  effv Tryz.prog (Instr.alloc 138 true (.tuple #[])) w fun t3 w =>
  effu Tryz.prog (Instr.storeAt 138 t3 t9) w fun w =>
  wpB (pureRun Tryz.prog (Instr.fieldAt 138 t3 1)) fun t10 =>
  wpB (ldv Tryz.prog 3 t10 w) fun t11 =>
  wpB (be Tryz.prog .neq 3 (.tmp 11) (.const (.int .i64 0)) t11 (.int .i64 0)) fun t12 =>
  cnd t12
  (P60_0 t1 t3 (.int .i64 63) (.int .i64 999) (.int .i64 0) w Q)
  (P60_0 t1 t3 (.int .i64 0) (.int .i64 0) (.int .i64 0) w Q)
def L60_0 (x1 x3 x4 x5 x6 : Value) (w : World) (Q : Value → World → Prop) : Prop :=
  wpB (pureRun Tryz.prog (Instr.fieldAt 39 x1 0)) fun t14 =>
  wpB (ldv Tryz.prog 3 t14 w) fun t15 =>
  wpB (be Tryz.prog .eql 3 (.tmp 15) (.const (.int .i64 1)) t15 (.int .i64 1)) fun t16 =>
  cnd t16
  (P60_1 x1 x3 x4 x5 (.int .i64 3) w Q)
  (wpB (pureRun Tryz.prog (Instr.fieldAt 138 x3 2)) fun t18 =>
  wpB (ldv Tryz.prog 4 t18 w) fun t19 =>
  cnd t19
  (P60_1 x1 x3 x4 x5 (.int .i64 65535) w Q)
  (P60_1 x1 x3 x4 x5 x6 w Q))
def L60_1 (x1 x3 x4 x5 x6 : Value) (w : World) (Q : Value → World → Prop) : Prop :=
  wpB (pureRun Tryz.prog (Instr.fieldAt 138 x3 0)) fun t20 =>
  wpB (ldv Tryz.prog 9 t20 w) fun t21 =>
  wpB (be Tryz.prog .neq 9 (.tmp 21) (.const (.string { data := #[] })) t21 (.string { data := #[] })) fun t22 =>
  wpB (gd t22 true (pureRun Tryz.prog (Instr.fieldAt 39 x1 1))) fun t24 =>
  wpB (gd t22 true (ldv Tryz.prog 3 t24 w)) fun t25 =>
  gE t22 true (CallR Tryz.prog 91 [t25, (gv t22 true x4)] w) (fun t27 w =>
  wpB (pickv t22 (some t27) (some (.bool false))) fun t28 =>
  wpB (gd t28 true (pureRun Tryz.prog (Instr.fieldAt 39 x1 2))) fun t30 =>
  wpB (gd t28 true (ldv Tryz.prog 3 t30 w)) fun t31 =>
  gE t28 true (CallR Tryz.prog 91 [t31, (gv t28 true x5)] w) (fun t33 w =>
  wpB (pickv t28 (some t33) (some (.bool false))) fun t34 =>
  wpB (gd t34 true (pureRun Tryz.prog (Instr.fieldAt 39 x1 3))) fun t36 =>
  wpB (gd t34 true (ldv Tryz.prog 3 t36 w)) fun t37 =>
  gE t34 true (CallR Tryz.prog 91 [t37, (gv t34 true x6)] w) (fun t39 w =>
  wpB (pickv t34 (some t39) (some (.bool false))) fun t40 =>
  wpB (gd t40 true (pureRun Tryz.prog (Instr.fieldAt 138 x3 3))) fun t42 =>
  wpB (gd t40 true (ldv Tryz.prog 4 t42 w)) fun t43 =>
  wpB (gd (gv t40 true t43) false (pureRun Tryz.prog (Instr.fieldAt 39 x1 4))) fun t45 =>
  wpB (gd (gv t40 true t43) false (ldv Tryz.prog 26 t45 w)) fun t46 =>
  wpB (gd (gv t40 true t43) false (be Tryz.prog .eql 26 (.tmp 46) (.const (.int .u64 0)) t46 (.int .u64 0))) fun t47 =>
  wpB (gd t40 true (pickv (gv t40 true t43) (some (.bool true)) (some t47))) fun t48 =>
  wpB (pickv t40 (some t48) (some (.bool false))) fun t49 =>
  wpB (gd t49 true (pureRun Tryz.prog (Instr.fieldAt 138 x3 4))) fun t51 =>
  wpB (gd t49 true (ldv Tryz.prog 4 t51 w)) fun t52 =>
  wpB (gd (gv t49 true t52) false (pureRun Tryz.prog (Instr.fieldAt 39 x1 5))) fun t54 =>
  wpB (gd (gv t49 true t52) false (ldv Tryz.prog 26 t54 w)) fun t55 =>
  wpB (gd (gv t49 true t52) false (be Tryz.prog .eql 26 (.tmp 55) (.const (.int .u64 0)) t55 (.int .u64 0))) fun t56 =>
  wpB (gd t49 true (pickv (gv t49 true t52) (some (.bool true)) (some t56))) fun t57 =>
  wpB (pickv t49 (some t57) (some (.bool false))) fun t58 =>
  Q t58 w) w) w) w
theorem F60_ok {a0 : Value} {w : World} {Q : Value → World → Prop} (h : F60 a0 w Q) : CallR Tryz.prog 60 [a0] w Q :=
  ah mixed ag Tryz.func60 (c := C60) rfl H60 (Nat.le_of_ble_eq_true rfl) (by kernel_rfl) h
theorem L60_0_ok {x1 x3 x4 x5 x6 : Value} {w : World} {Q : Value → World → Prop} (h : L60_0 x1 x3 x4 x5 x6 w Q) : P60_0 x1 x3 x4 x5 x6 w Q :=
  ar mixed ag Tryz.func60 H60 (by kernel_rfl) h
theorem L60_1_ok {x1 x3 x4 x5 x6 : Value} {w : World} {Q : Value → World → Prop} (h : L60_1 x1 x3 x4 x5 x6 w Q) : P60_1 x1 x3 x4 x5 x6 w Q :=
  ar mixed ag Tryz.func60 H60 (by kernel_rfl) h

noncomputable def C75 : Code := (Tryz.f75.body).getD .skip
noncomputable def H75 : Hints := ⟨[], [], []⟩
def F75 (a0 : Value) (w : World) (Q : Value → World → Prop) : Prop :=
  CallR Tryz.prog 90 [a0] w fun t4 w =>
  wpB (pureRun Tryz.prog (Instr.field 138 t4 1)) fun t5 =>
  Q t5 w
theorem F75_ok {a0 : Value} {w : World} {Q : Value → World → Prop} (h : F75 a0 w Q) : CallR Tryz.prog 75 [a0] w Q :=
  ah mixed ag Tryz.func75 (c := C75) rfl H75 (Nat.le_of_ble_eq_true rfl) (by kernel_rfl) h

noncomputable def C90 : Code := (Tryz.f90.body).getD .skip
noncomputable def H90 : Hints := ⟨[], [], []⟩
def F90 (a0 : Value) (w : World) (Q : Value → World → Prop) : Prop :=
  effv Tryz.prog (Instr.alloc 138 true (.tuple #[])) w fun t2 w =>
  wpB (pureRun Tryz.prog (Instr.build 138 #[])) fun t4 =>
  wpB (pureRun Tryz.prog (Instr.build 138 #[(0, (.string { data := #[99, 114, 101, 97, 116, 101] })), (2, (.bool true))])) fun t5 =>
  wpB (pureRun Tryz.prog (Instr.build 138 #[(0, (.string { data := #[97, 108, 108, 111, 99] })), (1, (.int .i64 1)), (2, (.bool true))])) fun t6 =>
  wpB (pureRun Tryz.prog (Instr.build 138 #[(0, (.string { data := #[112, 105, 110] }))])) fun t7 =>
  wpB (pureRun Tryz.prog (Instr.build 138 #[(0, (.string { data := #[117, 110, 112, 105, 110] }))])) fun t8 =>
  wpB (pureRun Tryz.prog (Instr.build 138 #[(0, (.string { data := #[104, 111, 108, 100] })), (1, (.int .i64 3))])) fun t9 =>
  wpB (pureRun Tryz.prog (Instr.build 138 #[(0, (.string { data := #[108, 111, 97, 100] })), (1, (.int .i64 2)), (2, (.bool true))])) fun t10 =>
  wpB (pureRun Tryz.prog (Instr.build 138 #[(0, (.string { data := #[115, 116, 111, 114, 101] })), (1, (.int .i64 2)), (2, (.bool true)), (3, (.bool true))])) fun t11 =>
  wpB (pureRun Tryz.prog (Instr.build 138 #[(0, (.string { data := #[97, 100, 100] })), (1, (.int .i64 2)), (2, (.bool true)), (3, (.bool true))])) fun t12 =>
  wpB (pureRun Tryz.prog (Instr.build 138 #[(0, (.string { data := #[99, 97, 115] })), (1, (.int .i64 2)), (2, (.bool true)), (3, (.bool true)), (4, (.bool true))])) fun t13 =>
  wpB (pureRun Tryz.prog (Instr.build 138 #[(0, (.string { data := #[102, 114, 101, 101] })), (1, (.int .i64 1))])) fun t14 =>
  wpB (pureRun Tryz.prog (Instr.build 138 #[(0, (.string { data := #[99, 111, 108, 108, 101, 99, 116] }))])) fun t15 =>
  wpB (pureRun Tryz.prog (Instr.build 138 #[(0, (.string { data := #[115, 116, 97, 116, 115] })), (1, (.int .i64 1))])) fun t16 =>
  effv Tryz.prog (Instr.buildSlice 151 13 #[(0, t4), (1, t5), (2, t6), (3, t7), (4, t8), (5, t9), (6, t10), (7, t11), (8, t12), (9, t13), (10, t14), (11, t15), (12, t16)]) w fun t17 w =>
  wpB (bp Tryz.prog .lss 3 a0 (.int .i64 1)) fun t19 =>
  wpB (gd t19 false (pureRun Tryz.prog (Builtin.len_ #[151] 3 #[(gv t19 false t17)]))) fun t23 =>
  wpB (gd t19 false (bp Tryz.prog .geq 3 (gv t19 false a0) t23)) fun t24 =>
  wpB (pickv t19 (some (.bool true)) (some t24)) fun t25 =>
  cnd t25
  (wpB (pureRun Tryz.prog (Instr.indexAt 151 t17 (.int .i64 0))) fun t27 =>
  wpB (ldv Tryz.prog 138 t27 w) fun t28 =>
  effu Tryz.prog (Instr.storeAt 138 t2 t28) w fun w =>
  wpB (ldv Tryz.prog 138 t2 w) fun r2 => Q r2 w)
  (wpB (pureRun Tryz.prog (Instr.indexAt 151 t17 a0)) fun t31 =>
  wpB (ldv Tryz.prog 138 t31 w) fun t32 =>
  effu Tryz.prog (Instr.storeAt 138 t2 t32) w fun w =>
  wpB (ldv Tryz.prog 138 t2 w) fun r2_1 => Q r2_1 w)
theorem F90_ok {a0 : Value} {w : World} {Q : Value → World → Prop} (h : F90 a0 w Q) : CallR Tryz.prog 90 [a0] w Q :=
  ah mixed ag Tryz.func90 (c := C90) rfl H90 (Nat.le_of_ble_eq_true rfl) (by kernel_rfl) h

noncomputable def C91 : Code := (Tryz.f91.body).getD .skip
noncomputable def H91 : Hints := ⟨[], [], []⟩
def F91 (a0 a1 : Value) (w : World) (Q : Value → World → Prop) : Prop :=
  wpB (bp Tryz.prog .geq 3 a0 (.int .i64 0)) fun t6 =>
  wpB (gd t6 true (bp Tryz.prog .leq 3 (gv t6 true a0) (gv t6 true a1))) fun t10 =>
  wpB (pickv t6 (some t10) (some (.bool false))) fun t11 =>
  Q t11 w
theorem F91_ok {a0 a1 : Value} {w : World} {Q : Value → World → Prop} (h : F91 a0 a1 w Q) : CallR Tryz.prog 91 [a0, a1] w Q :=
  ah mixed ag Tryz.func91 (c := C91) rfl H91 (Nat.le_of_ble_eq_true rfl) (by kernel_rfl) h
end Go.Proofs.YtgamnncehjcdiaaGreat

namespace Go.Proofs.YtgamnncehjcdiaaGreat
open Go Ev Go.RowKit

def ofK (k : Int) : Int := if k = 2 ∨ k = 10 ∨ k = 12 then 1 else if 6 ≤ k ∧ k ≤ 9 then 2 else if k = 5 then 3 else 0
def nB (k : Int) : Bool := decide (k = 1 ∨ k = 2 ∨ (6 ≤ k ∧ k ≤ 9))
def vB (k : Int) : Bool := decide (7 ≤ k ∧ k ≤ 9)
def wB (k : Int) : Bool := decide (k = 9)
theorem kind_cases (k : Int) : k = 1 ∨ k = 2 ∨ k = 3 ∨ k = 4 ∨ k = 5 ∨ k = 6 ∨ k = 7 ∨ k = 8 ∨ k = 9 ∨ k = 10 ∨ k = 11 ∨ k = 12 ∨ (k < 1 ∨ 12 < k) := by omega
theorem eqf {k c : Int} (h : k ≠ c) : (k == c) = false := by simpa using h
theorem c_Of (k : Int) (w : World) : CallR Tryz.prog 29 [.int .i64 k] w fun v w' => v = .int .i64 (ofK k) ∧ w' = w := by
  rcases kind_cases k with rfl | rfl | rfl | rfl | rfl | rfl | rfl | rfl | rfl | rfl | rfl | rfl | h
  all_goals
    apply F29_ok
    try simp -implicitDefEqProofs [F29]
    try rw [eqf (show k ≠ 2 by omega), eqf (show k ≠ 10 by omega), eqf (show k ≠ 12 by omega)]
    try simp -implicitDefEqProofs only [cnd_false]
    try apply L29_0_ok
    try simp -implicitDefEqProofs [L29_0]
    try rw [eqf (show k ≠ 6 by omega), eqf (show k ≠ 7 by omega), eqf (show k ≠ 8 by omega), eqf (show k ≠ 9 by omega)]
    try simp -implicitDefEqProofs only [cnd_false]
    try apply L29_1_ok
    try simp -implicitDefEqProofs [L29_1]
    try rw [eqf (show k ≠ 5 by omega)]
    try simp -implicitDefEqProofs only [cnd_false]
    try (simp [ofK]; done)
    try (rw [ofK, if_neg (by omega), if_neg (by omega), if_neg (by omega)])
theorem c_HasN (k : Int) (w : World) : CallR Tryz.prog 26 [.int .i64 k] w fun v w' => v = .bool (nB k) ∧ w' = w := by
  apply F26_ok
  by_cases h1 : k = 1 <;> by_cases h2 : k = 2 <;> by_cases h6 : 6 ≤ k <;> by_cases h9 : k ≤ 9 <;> simp -implicitDefEqProofs [F26, h1, h2, h6, h9, eqf, nB] <;> omega
theorem c_HasV (k : Int) (w : World) : CallR Tryz.prog 28 [.int .i64 k] w fun v w' => v = .bool (vB k) ∧ w' = w := by
  apply F28_ok
  by_cases h6 : 7 ≤ k <;> by_cases h9 : k ≤ 9 <;> simp -implicitDefEqProofs [F28, h6, h9, vB]
def nameK (k : Int) : ByteArray :=
  if k = 1 then { data := #[99, 114, 101, 97, 116, 101] } else if k = 2 then { data := #[97, 108, 108, 111, 99] } else if k = 3 then { data := #[112, 105, 110] } else if k = 4 then { data := #[117, 110, 112, 105, 110] }
  else if k = 5 then { data := #[104, 111, 108, 100] } else if k = 6 then { data := #[108, 111, 97, 100] } else if k = 7 then { data := #[115, 116, 111, 114, 101] } else if k = 8 then { data := #[97, 100, 100] }
  else if k = 9 then { data := #[99, 97, 115] } else if k = 10 then { data := #[102, 114, 101, 101] } else if k = 11 then { data := #[99, 111, 108, 108, 101, 99, 116] } else if k = 12 then { data := #[115, 116, 97, 116, 115] } else { data := #[] }
def formC (k : Int) : List Value := [.string (nameK k), .int .i64 (ofK k), .bool (nB k), .bool (vB k), .bool (wB k)]
theorem formC_out {k : Int} (h : k < 1 ∨ 12 < k) : formC k = [.string { data := #[] }, .int .i64 0, .bool false, .bool false, .bool false] := by
  have e1 : nameK k = { data := #[] } := by
    unfold nameK
    rw [if_neg (by omega), if_neg (by omega), if_neg (by omega), if_neg (by omega), if_neg (by omega), if_neg (by omega), if_neg (by omega), if_neg (by omega), if_neg (by omega), if_neg (by omega), if_neg (by omega), if_neg (by omega)]
  have e2 : ofK k = 0 := by rw [ofK, if_neg (by omega), if_neg (by omega), if_neg (by omega)]
  have e3 : nB k = false := by simp [nB]; omega
  have e4 : vB k = false := by simp [vB]; omega
  have e5 : wB k = false := by simp [wB]; omega
  rw [formC, e1, e2, e3, e4, e5]
theorem c_formOf (k : Int) (w : World) : CallR Tryz.prog 90 [.int .i64 k] w fun v w' => v = .agg (formC k).toArray ∧ Chg [] w w' := by
  have hb : ∀ w' : World, w' = w → Chg [] w w' := fun w' h => h ▸ Chg.refl _ _
  have hch : ∀ c1 c2 c3 : Array Value, Chg [] w (put ((w.alloc (.cells c1 138)).alloc (.cells c2 138)) w.heap.size c3 138) := fun c1 c2 c3 => (((Chg.refl [] w).alloc _).alloc _).put (.inr (Nat.le_refl _)) _ _
  rcases kind_cases k with rfl | rfl | rfl | rfl | rfl | rfl | rfl | rfl | rfl | rfl | rfl | rfl | h
  case inr.inr.inr.inr.inr.inr.inr.inr.inr.inr.inr.inr =>
    apply F90_ok
    rw [formC_out h]
    rcases h with h | h
    · have h' : k < 1 := h
      simp -implicitDefEqProofs [F90, h', ia_151, ld_138, st_138, hch]
    · have h1 : ¬ k < 1 := by omega
      have h2 : (13 : Int) ≤ k := by omega
      simp -implicitDefEqProofs [F90, h1, h2, ia_151, ld_138, st_138, hch]
  all_goals
    apply F90_ok
    simp -implicitDefEqProofs [F90, ia_151, ld_138, st_138, formC, nameK, ofK, nB, vB, wB, hch]
theorem c_opOf (k : Int) (w : World) : CallR Tryz.prog 75 [.int .i64 k] w fun v w' => v = .int .i64 (ofK k) ∧ Chg [] w w' := by
  apply F75_ok
  refine (c_formOf k w).mono ?_
  rintro v w1 ⟨rfl, hc⟩
  simp -implicitDefEqProofs [F75, formC, hc]
end Go.Proofs.YtgamnncehjcdiaaGreat

namespace Go.Proofs.YtgamnncehjcdiaaGreat
open Go Ev Go.RowKit

abbrev OpV := Int × Int × Int × Int × Int × Int
def opC (o : OpV) : List Value := [.int .i64 o.1, .int .i64 o.2.1, .int .i64 o.2.2.1, .int .i64 o.2.2.2.1, .int .u64 o.2.2.2.2.1, .int .u64 o.2.2.2.2.2]
theorem opC_len (o : OpV) : (opC o).length = 6 := rfl
end Go.Proofs.YtgamnncehjcdiaaGreat

namespace Go.Proofs.YtgamnncehjcdiaaGreat
open Go Ev Go.RowKit

theorem tup0 (a b : Value) : pureRun Tryz.prog (Instr.extract (.tuple #[a, b]) 0) = some a := by rw [pr_extract]; rfl
theorem tup1 (a b : Value) : pureRun Tryz.prog (Instr.extract (.tuple #[a, b]) 1) = some b := by rw [pr_extract]; rfl
theorem c_within (n m : Int) (w : World) : CallR Tryz.prog 91 [.int .i64 n, .int .i64 m] w fun v w' => v = .bool (decide (0 ≤ n ∧ n ≤ m)) ∧ w' = w := by
  apply F91_ok
  by_cases h : 0 ≤ n
  · have e : decide (0 ≤ n ∧ n ≤ m) = decide (n ≤ m) := by simp [h]
    simp -implicitDefEqProofs only [F91, zS, h, e, and_self]
    exact ⟨by simp, trivial⟩
  · simp -implicitDefEqProofs only [F91, zS, h, false_and, and_self]
theorem c_in18 (n a m : Int) (w : World) : CallR Tryz.prog 27 [.int .i64 n, .int .i64 a, .int .i64 m] w fun v w' => v = .bool (decide (a ≤ n ∧ n ≤ m)) ∧ w' = w := by
  apply F27_ok
  by_cases h : a ≤ n
  · simp -implicitDefEqProofs only [F27, zS, h, true_and, and_self]
  · simp -implicitDefEqProofs only [F27, zS, h, false_and, and_self]
def frM (k : Int) : Int := if ofK k = 0 then 0 else 63
def atM (k : Int) : Int := if ofK k = 0 then 0 else 999
def nM (k : Int) : Int := if k = 1 then 3 else if nB k then 65535 else 0
def mayO (o : OpV) : Bool := decide ((1 ≤ o.1 ∧ o.1 ≤ 12) ∧ (0 ≤ o.2.1 ∧ o.2.1 ≤ frM o.1) ∧ (0 ≤ o.2.2.1 ∧ o.2.2.1 ≤ atM o.1) ∧ (0 ≤ o.2.2.2.1 ∧ o.2.2.2.1 ≤ nM o.1) ∧ (vB o.1 = true ∨ o.2.2.2.2.1 = 0) ∧ (wB o.1 = true ∨ o.2.2.2.2.2 = 0))
theorem aC (o : OpV) : (opC o).toArray[0 + 0]? = some (.int .i64 o.1) := rfl
theorem op_1 (o : OpV) : (opC o).toArray[0 + 1]? = some (.int .i64 o.2.1) := rfl
theorem op_2 (o : OpV) : (opC o).toArray[0 + 2]? = some (.int .i64 o.2.2.1) := rfl
theorem op_3 (o : OpV) : (opC o).toArray[0 + 3]? = some (.int .i64 o.2.2.2.1) := rfl
theorem op_4 (o : OpV) : (opC o).toArray[0 + 4]? = some (.int .u64 o.2.2.2.2.1) := rfl
theorem op_5 (o : OpV) : (opC o).toArray[0 + 5]? = some (.int .u64 o.2.2.2.2.2) := rfl
theorem form_0 (k : Int) : (formC k).toArray[0 + 0]? = some (.string (nameK k)) := rfl
theorem form_1 (k : Int) : (formC k).toArray[0 + 1]? = some (.int .i64 (ofK k)) := rfl
theorem form_2 (k : Int) : (formC k).toArray[0 + 2]? = some (.bool (nB k)) := rfl
theorem form_3 (k : Int) : (formC k).toArray[0 + 3]? = some (.bool (vB k)) := rfl
theorem form_4 (k : Int) : (formC k).toArray[0 + 4]? = some (.bool (wB k)) := rfl
theorem name_ne (k : Int) : (!((nameK k).toList == (({ data := #[] } : ByteArray)).toList)) = decide (1 ≤ k ∧ k ≤ 12) := by
  have e : (({ data := #[] } : ByteArray)).toList = [] := ByteArray.toList_mk []
  rw [e]
  rcases kind_cases k with rfl | rfl | rfl | rfl | rfl | rfl | rfl | rfl | rfl | rfl | rfl | rfl | h
  case inr.inr.inr.inr.inr.inr.inr.inr.inr.inr.inr.inr =>
    have := formC_out h
    have e2 : nameK k = { data := #[] } := by
      have h0 := congrArg (fun l : List Value => l[0]?) this
      simp [formC] at h0; exact h0
    rw [e2, e]
    have : ¬ (1 ≤ k ∧ k ≤ 12) := by omega
    simp [this]
  all_goals decide +kernel
theorem mayO_eq (o : OpV) {b : Bool} (h : ((1 ≤ o.1 ∧ o.1 ≤ 12) ∧ (0 ≤ o.2.1 ∧ o.2.1 ≤ frM o.1) ∧ (0 ≤ o.2.2.1 ∧ o.2.2.1 ≤ atM o.1) ∧ (0 ≤ o.2.2.2.1 ∧ o.2.2.2.1 ≤ nM o.1) ∧ (vB o.1 = true ∨ o.2.2.2.2.1 = 0) ∧ (wB o.1 = true ∨ o.2.2.2.2.2 = 0)) ↔ b = true) : mayO o = b := by
  unfold mayO
  cases b
  · exact decide_eq_false fun h' => by have := h.1 h'; cases this
  · exact decide_eq_true (h.2 rfl)
set_option maxHeartbeats 1000000 in
theorem l_opMay1 {w w0 : World} (hw0 : Chg [] w0 w) {o : OpV} {g1 g3 : Nat} (h1 : hp w g1 = some (.cells (opC o).toArray 39)) (h3 : hp w g3 = some (.cells (formC o.1).toArray 138)) :
    P60_1 (.pointer (some ⟨g1, 0, none⟩)) (.pointer (some ⟨g3, 0, none⟩)) (.int .i64 (frM o.1)) (.int .i64 (atM o.1)) (.int .i64 (nM o.1)) w fun v w' => v = .bool (mayO o) ∧ Chg [] w0 w' := by
  apply L60_1_ok
  by_cases k1 : 1 ≤ o.1 ∧ o.1 ≤ 12
  rotate_left
  · simp -implicitDefEqProofs only [L60_1, zS, fa_138_0, ld_9, h3, form_0, be_neqstr, name_ne, k1]
    exact ⟨by rw [mayO_eq o (b := false) ⟨fun h => absurd h.1 k1, fun h => by cases h⟩], hw0⟩
  simp -implicitDefEqProofs only [L60_1, zS, fa_138_0, ld_9, h3, form_0, be_neqstr, name_ne, decide_eq_true k1, fa_39_1, af, h1, op_1]
  refine (c_within _ _ _).step ?_
  by_cases k2 : 0 ≤ o.2.1 ∧ o.2.1 ≤ frM o.1
  rotate_left
  · simp -implicitDefEqProofs only [decide_eq_false k2, zS]
    exact ⟨by rw [mayO_eq o (b := false) ⟨fun h => absurd h.2.1 k2, fun h => by cases h⟩], hw0⟩
  simp -implicitDefEqProofs only [decide_eq_true k2, zS, fa_39_2, af, h1, op_2]
  refine (c_within _ _ _).step ?_
  by_cases k3 : 0 ≤ o.2.2.1 ∧ o.2.2.1 ≤ atM o.1
  rotate_left
  · simp -implicitDefEqProofs only [decide_eq_false k3, zS]
    exact ⟨by rw [mayO_eq o (b := false) ⟨fun h => absurd h.2.2.1 k3, fun h => by cases h⟩], hw0⟩
  simp -implicitDefEqProofs only [decide_eq_true k3, zS, aN, af, h1, op_3]
  refine (c_within _ _ _).step ?_
  by_cases k4 : 0 ≤ o.2.2.2.1 ∧ o.2.2.2.1 ≤ nM o.1
  rotate_left
  · simp -implicitDefEqProofs only [decide_eq_false k4, zS]
    exact ⟨by rw [mayO_eq o (b := false) ⟨fun h => absurd h.2.2.2.1 k4, fun h => by cases h⟩], hw0⟩
  simp -implicitDefEqProofs only [decide_eq_true k4, zS, fa_138_3, ld_4, h3, form_3]
  have last : ∀ b : Bool, (vB o.1 = true ∨ o.2.2.2.2.1 = 0) → ((wB o.1 = true ∨ o.2.2.2.2.2 = 0) ↔ b = true) → mayO o = b := fun b h5 h6 => mayO_eq o ⟨fun h => h6.1 h.2.2.2.2.2, fun h => ⟨k1, k2, k3, k4, h5, h6.2 h⟩⟩
  have no5 : ¬ (vB o.1 = true ∨ o.2.2.2.2.1 = 0) → mayO o = false := fun h5 => mayO_eq o ⟨fun h => absurd h.2.2.2.2.1 h5, fun h => by cases h⟩
  cases hv : vB o.1 with
  | true =>
    rw [hv] at last
    cases hww : wB o.1 with
    | true =>
      rw [hww] at last
      simp -implicitDefEqProofs only [zS, fa_138_4, ld_4, h3, form_4, hww]
      exact ⟨by rw [last true (.inl rfl) (by simp)], hw0⟩
    | false =>
      rw [hww] at last
      simp -implicitDefEqProofs only [zS, fa_138_4, ld_4, h3, form_4, hww, fa_39_5, ld_26, h1, op_5]
      exact ⟨by rw [last (o.2.2.2.2.2 == 0) (.inl rfl) (by simp)], hw0⟩
  | false =>
    rw [hv] at last no5
    by_cases k5 : o.2.2.2.2.1 = 0
    rotate_left
    · simp -implicitDefEqProofs only [zS, bn, ld_26, h1, op_4, eqf k5]
      exact ⟨by rw [no5 (by simp [k5])], hw0⟩
    have k5' : (o.2.2.2.2.1 == 0) = true := by rw [k5]; rfl
    cases hww : wB o.1 with
    | true =>
      rw [hww] at last
      simp -implicitDefEqProofs only [zS, bn, ld_26, h1, op_4, k5', fa_138_4, ld_4, h3, form_4, hww]
      exact ⟨by rw [last true (.inr k5) (by simp)], hw0⟩
    | false =>
      rw [hww] at last
      simp -implicitDefEqProofs only [zS, bn, ld_26, h1, op_4, k5', fa_138_4, ld_4, h3, form_4, hww, fa_39_5, ld_26, h1, op_5]
      exact ⟨by rw [last (o.2.2.2.2.2 == 0) (.inr k5) (by simp)], hw0⟩
theorem c_opMay (o : OpV) (w : World) : CallR Tryz.prog 60 [.agg (opC o).toArray] w fun v w' => v = .bool (mayO o) ∧ Chg [] w w' := by
  apply F60_ok
  have h1 : hp (w.alloc (.cells (opC o).toArray 39)) w.heap.size = some (.cells (opC o).toArray 39) := by rw [ac, if_pos rfl]
  have hc1 : Chg [] w (w.alloc (.cells (opC o).toArray 39)) := (Chg.refl _ _).alloc _
  have hlt : w.heap.size < (w.alloc (.cells (opC o).toArray 39)).heap.size := by simp
  simp -implicitDefEqProofs only [F60, aE, aB, zS, aj, af, h1, aC]
  generalize w.alloc (.cells (opC o).toArray 39) = w1 at *
  generalize hg : w.heap.size = g1 at *
  refine (c_formOf o.1 w1).mono ?_
  rintro v w2 ⟨rfl, hc2⟩
  simp -implicitDefEqProofs only [al_138]
  rw [st_138 (by rfl) (by rfl) (by rw [ac, if_pos rfl]; rfl) (by rw [ac, if_pos rfl]; rfl), ac, if_pos rfl]
  simp -implicitDefEqProofs only [aD]
  generalize hz : w2.alloc _ = wa
  have hca : Chg [] w2 wa := by rw [← hz]; exact (Chg.refl _ _).alloc _
  have hza : wa.heap.size = w2.heap.size + 1 := by rw [← hz]; simp
  have hcp : Chg [] w2 (put wa w2.heap.size (formC o.1).toArray 138) := hca.put (.inr (Nat.le_refl _)) _ _
  have h3 : hp (put wa w2.heap.size (formC o.1).toArray 138) w2.heap.size = some (.cells (formC o.1).toArray 138) := by rw [put_heap, if_pos rfl, if_pos (by omega)]
  have h1 := (hc2.trans hcp).at h1 (by simp)
  have hcc := (hc1.trans hc2).trans hcp
  clear hz hca hza hcp
  generalize put wa w2.heap.size (formC o.1).toArray 138 = w3 at *
  generalize w2.heap.size = g3 at *
  simp -implicitDefEqProofs only [zS, fa_138_1, af, h3, form_1]
  have zero : ∀ f a : Int, f = frM o.1 → a = atM o.1 → P60_0 (.pointer (some ⟨g1, 0, none⟩)) (.pointer (some ⟨g3, 0, none⟩)) (.int .i64 f) (.int .i64 a) (.int .i64 0) w3 fun v w' => v = .bool (mayO o) ∧ Chg [] w w' := by
    intro f a hf ha
    subst hf; subst ha
    apply L60_0_ok
    by_cases k1 : o.1 = 1
    · have k1' : (o.1 == 1) = true := by rw [k1]; rfl
      have e : (3 : Int) = nM o.1 := by simp [nM, k1]
      simp -implicitDefEqProofs only [L60_0, zS, aj, af, h1, aC, k1']
      rw [e]
      exact l_opMay1 hcc h1 h3
    · cases hn : nB o.1 with
      | true =>
        have e : (65535 : Int) = nM o.1 := by simp [nM, k1, hn]
        simp -implicitDefEqProofs only [L60_0, zS, aj, af, h1, aC, eqf k1, fa_138_2, ld_4, h3, form_2, hn]
        rw [e]
        exact l_opMay1 hcc h1 h3
      | false =>
        have e : (0 : Int) = nM o.1 := by simp [nM, k1, hn]
        simp -implicitDefEqProofs only [L60_0, zS, aj, af, h1, aC, eqf k1, fa_138_2, ld_4, h3, form_2, hn]
        have := l_opMay1 (w0 := w) hcc h1 h3
        rw [← e] at this
        exact this
  by_cases k : ofK o.1 = 0
  · have k' : (ofK o.1 != 0) = false := by rw [k]; rfl
    simp -implicitDefEqProofs only [k', zS]
    exact zero 0 0 (by simp [frM, k]) (by simp [atM, k])
  · simp -implicitDefEqProofs only [bne_iff_ne.2 k, zS]
    exact zero 63 999 (by simp [frM, k]) (by simp [atM, k])
set_option maxHeartbeats 1000000 in
theorem l_refMay {w : World} {o : OpV} {g1 : Nat} (h1 : hp w g1 = some (.cells (opC o).toArray 39)) :
    P9_0 (.pointer (some ⟨g1, 0, none⟩)) (.int .i64 (nM o.1)) w fun v w' => v = .bool (mayO o) ∧ w' = w := by
  apply L9_0_ok
  simp -implicitDefEqProofs only [L9_0, zS, aj, af, h1, aC]
  refine (c_in18 _ _ _ _).step ?_
  have no : ¬ ((1 ≤ o.1 ∧ o.1 ≤ 12) ∧ (0 ≤ o.2.1 ∧ o.2.1 ≤ frM o.1) ∧ (0 ≤ o.2.2.1 ∧ o.2.2.1 ≤ atM o.1) ∧ (0 ≤ o.2.2.2.1 ∧ o.2.2.2.1 ≤ nM o.1) ∧ (vB o.1 = true ∨ o.2.2.2.2.1 = 0) ∧ (wB o.1 = true ∨ o.2.2.2.2.2 = 0)) → mayO o = false := fun h => mayO_eq o ⟨fun h' => absurd h' h, fun h => by cases h⟩
  by_cases k1 : 1 ≤ o.1 ∧ o.1 ≤ 12
  rotate_left
  · simp -implicitDefEqProofs only [decide_eq_false k1, zS]
    exact ⟨by rw [no fun h => k1 h.1], trivial⟩
  simp -implicitDefEqProofs only [decide_eq_true k1, zS, aN, af, h1, op_3]
  refine (c_in18 _ _ _ _).step ?_
  by_cases k4 : 0 ≤ o.2.2.2.1 ∧ o.2.2.2.1 ≤ nM o.1
  rotate_left
  · simp -implicitDefEqProofs only [decide_eq_false k4, zS]
    exact ⟨by rw [no fun h => k4 h.2.2.2.1], trivial⟩
  simp -implicitDefEqProofs only [decide_eq_true k4, zS, aj, af, h1, aC]
  refine (c_HasV _ _).step ?_
  have rest : (vB o.1 = true ∨ o.2.2.2.2.1 = 0) → (wB o.1 = true ∨ o.2.2.2.2.2 = 0) →
      (wpB (pureRun Tryz.prog (Instr.fieldAt 39 (.pointer (some ⟨g1, 0, none⟩)) 0)) fun t44 =>
       wpB (ldv Tryz.prog 3 t44 w) fun t45 =>
       CallR Tryz.prog 29 [t45] w fun t46 w1 =>
       wpB (be Tryz.prog .eql 3 (.tmp 46) (.const (.int .i64 0)) t46 (.int .i64 0)) fun t47 =>
       cnd t47
        (wpB (pureRun Tryz.prog (Instr.fieldAt 39 (.pointer (some ⟨g1, 0, none⟩)) 1)) fun t48 =>
         wpB (ldv Tryz.prog 3 t48 w1) fun t49 =>
         wpB (be Tryz.prog .eql 3 (.tmp 49) (.const (.int .i64 0)) t49 (.int .i64 0)) fun t50 =>
         wpB (gd t50 true (pureRun Tryz.prog (Instr.fieldAt 39 (.pointer (some ⟨g1, 0, none⟩)) 2))) fun t52 =>
         wpB (gd t50 true (ldv Tryz.prog 3 t52 w1)) fun t53 =>
         wpB (gd t50 true (be Tryz.prog .eql 3 (.tmp 53) (.const (.int .i64 0)) t53 (.int .i64 0))) fun t54 =>
         wpB (pickv t50 (some t54) (some (.bool false))) fun t55 => t55 = .bool (mayO o) ∧ w1 = w)
        (wpB (pureRun Tryz.prog (Instr.fieldAt 39 (.pointer (some ⟨g1, 0, none⟩)) 1)) fun t56 =>
         wpB (ldv Tryz.prog 3 t56 w1) fun t57 =>
         CallR Tryz.prog 27 [t57, .int .i64 0, .int .i64 63] w1 fun t58 w' =>
         wpB (gd t58 true (pureRun Tryz.prog (Instr.fieldAt 39 (.pointer (some ⟨g1, 0, none⟩)) 2))) fun t60 =>
         wpB (gd t58 true (ldv Tryz.prog 3 t60 w')) fun t61 =>
         gE t58 true (CallR Tryz.prog 27 [t61, .int .i64 0, .int .i64 999] w') (fun t62 w' =>
         wpB (pickv t58 (some t62) (some (.bool false))) fun t63 => t63 = .bool (mayO o) ∧ w' = w) w')) := by
    intro h5 h6
    simp -implicitDefEqProofs only [zS, aj, af, h1, aC]
    refine (c_Of _ _).step ?_
    have fin : ∀ b : Bool, (((0 ≤ o.2.1 ∧ o.2.1 ≤ frM o.1) ∧ (0 ≤ o.2.2.1 ∧ o.2.2.1 ≤ atM o.1)) ↔ b = true) → mayO o = b := fun b h => mayO_eq o ⟨fun h' => h.1 ⟨h'.2.1, h'.2.2.1⟩, fun h' => ⟨k1, (h.2 h').1, (h.2 h').2, k4, h5, h6⟩⟩
    by_cases k : ofK o.1 = 0
    · have k' : (ofK o.1 == 0) = true := by rw [k]; rfl
      have ef : frM o.1 = 0 := by simp [frM, k]
      have ea : atM o.1 = 0 := by simp [atM, k]
      rw [ef, ea] at fin
      by_cases z1 : o.2.1 = 0
      · have z1' : (o.2.1 == 0) = true := by rw [z1]; rfl
        simp -implicitDefEqProofs only [k', zS, fa_39_1, fa_39_2, af, h1, op_1, op_2, z1']
        exact ⟨by rw [fin (o.2.2.1 == 0) (by simp; omega)], trivial⟩
      · simp -implicitDefEqProofs only [k', zS, fa_39_1, fa_39_2, af, h1, op_1, op_2, eqf z1]
        exact ⟨by rw [fin false (by simp; omega)], trivial⟩
    · have ef : frM o.1 = 63 := by simp [frM, k]
      have ea : atM o.1 = 999 := by simp [atM, k]
      rw [ef, ea] at fin
      simp -implicitDefEqProofs only [eqf k, zS, fa_39_1, fa_39_2, af, h1, op_1, op_2]
      refine (c_in18 _ _ _ _).step ?_
      by_cases z1 : 0 ≤ o.2.1 ∧ o.2.1 ≤ 63
      · simp -implicitDefEqProofs only [decide_eq_true z1, zS, fa_39_2, af, h1, op_2]
        refine (c_in18 _ _ _ _).step ?_
        simp -implicitDefEqProofs only [zS]
        exact ⟨by rw [fin (decide (0 ≤ o.2.2.1 ∧ o.2.2.1 ≤ 999)) (by simp; omega)], trivial⟩
      · simp -implicitDefEqProofs only [decide_eq_false z1, zS]
        exact ⟨by rw [fin false (by simp; omega)], trivial⟩
  simp -implicitDefEqProofs only [zS, aj, af, h1, aC] at rest
  have wq : wB o.1 = decide (o.1 = 9) := rfl
  have six : (vB o.1 = true ∨ o.2.2.2.2.1 = 0) → (o.1 = 9 ∨ o.2.2.2.2.2 = 0 → wB o.1 = true ∨ o.2.2.2.2.2 = 0) := fun _ h => by rw [wq]; simpa using h
  by_cases k9 : o.1 = 9
  · have k9' : (o.1 != 9) = false := by rw [k9]; rfl
    have hv : vB o.1 = true := by rw [k9]; decide
    rw [hv]
    have := rest (.inl hv) (.inl (by rw [wq]; simpa using k9))
    simp -implicitDefEqProofs only [zS, aj, af, h1, aC, k9']
    exact this
  · cases hv : vB o.1 with
    | true =>
      by_cases k5 : o.2.2.2.2.2 = 0
      · have k5' : (o.2.2.2.2.2 != 0) = false := by rw [k5]; rfl
        have := rest (.inl hv) (.inr k5)
        simp -implicitDefEqProofs only [zS, aj, fa_39_5, af, ld_26, h1, aC, op_5, bne_iff_ne.2 k9, k5']
        exact this
      · simp -implicitDefEqProofs only [zS, aj, fa_39_5, af, ld_26, h1, aC, op_5, bne_iff_ne.2 k9, bne_iff_ne.2 k5]
        exact ⟨by rw [no fun h => by have := h.2.2.2.2.2; rw [wq] at this; simp [k9, k5] at this], trivial⟩
    | false =>
      by_cases k6 : o.2.2.2.2.1 = 0
      · have k6' : (o.2.2.2.2.1 != 0) = false := by rw [k6]; rfl
        by_cases k5 : o.2.2.2.2.2 = 0
        · have k5' : (o.2.2.2.2.2 != 0) = false := by rw [k5]; rfl
          have := rest (.inr k6) (.inr k5)
          simp -implicitDefEqProofs only [zS, aj, bn, fa_39_5, af, ld_26, h1, aC, op_4, op_5, bne_iff_ne.2 k9, k5', k6']
          exact this
        · simp -implicitDefEqProofs only [zS, aj, bn, fa_39_5, af, ld_26, h1, aC, op_4, op_5, bne_iff_ne.2 k9, bne_iff_ne.2 k5, k6']
          exact ⟨by rw [no fun h => by have := h.2.2.2.2.2; rw [wq] at this; simp [k9, k5] at this], trivial⟩
      · simp -implicitDefEqProofs only [zS, aj, bn, af, ld_26, h1, aC, op_4, bne_iff_ne.2 k6]
        exact ⟨by rw [no fun h => by have := h.2.2.2.2.1; rw [hv] at this; simp [k6] at this], trivial⟩
theorem c_refMay (o : OpV) (w : World) : CallR Tryz.prog 9 [.agg (opC o).toArray] w fun v w' => v = .bool (mayO o) ∧ Chg [] w w' := by
  apply F9_ok
  have h1 : hp (w.alloc (.cells (opC o).toArray 39)) w.heap.size = some (.cells (opC o).toArray 39) := by rw [ac, if_pos rfl]
  have hc1 : Chg [] w (w.alloc (.cells (opC o).toArray 39)) := (Chg.refl _ _).alloc _
  have fin : P9_0 (.pointer (some ⟨w.heap.size, 0, none⟩)) (.int .i64 (nM o.1)) (w.alloc (.cells (opC o).toArray 39)) fun v w' => v = .bool (mayO o) ∧ Chg [] w w' := by
    have := l_refMay h1
    exact Part.mono this fun v w' ⟨h, e⟩ => ⟨h, by rw [e]; exact hc1⟩
  by_cases k1 : o.1 = 1
  · have k1' : (o.1 == 1) = true := by rw [k1]; rfl
    have e : nM o.1 = 3 := by simp [nM, k1]
    simp -implicitDefEqProofs only [F9, aE, aB, zS, aj, af, h1, aC, k1']
    rw [e] at fin
    exact fin
  · simp -implicitDefEqProofs only [F9, aE, aB, zS, aj, af, h1, aC, eqf k1]
    refine (c_HasN _ _).step ?_
    cases hn : nB o.1 with
    | true =>
      have e : nM o.1 = 65535 := by simp [nM, k1, hn]
      rw [e] at fin
      simp -implicitDefEqProofs only [zS]
      exact fin
    | false =>
      have e : nM o.1 = 0 := by simp [nM, k1, hn]
      rw [e] at fin
      simp -implicitDefEqProofs only [zS]
      exact fin
end Go.Proofs.YtgamnncehjcdiaaGreat

namespace Go.Proofs.YtgamnncehjcdiaaGreat
open Go Ev Go.RowKit

theorem tmod_cases2 (a m : Int) (hm : 0 < m) : (0 ≤ a.tmod m ∧ a.tmod m = a % m) ∨ (a.tmod m < 0 ∧ a.tmod m + m = a % m) := by
  have h1 := Int.emod_lt_of_pos a hm
  have h2 := Int.emod_nonneg a (b := m) (by omega)
  rcases Int.lt_or_le a 0 with h | h
  · have h5 := Int.tmod_eq_emod (a := a) (b := m)
    by_cases hd : 0 ≤ a ∨ m ∣ a
    · rw [if_pos hd] at h5
      left; omega
    · rw [if_neg hd] at h5
      have h6 : (m.natAbs : Int) = m := by omega
      rw [h6] at h5
      right; omega
  · left
    rw [Int.tmod_eq_emod_of_nonneg h]; omega
theorem c_Number (a m : Int) (w : World) (hm : 0 < m) (hm2 : m ≤ 4611686018427387904) : CallR Tryz.prog 23 [.int .i64 a, .int .i64 m] w fun v w' => v = .int .i64 (a % m) ∧ w' = w := by
  apply F23_ok
  have hlt := Int.emod_lt_of_pos a hm
  have hge := Int.emod_nonneg a (b := m) (by omega)
  simp -implicitDefEqProofs only [F23, bp_rem (show m ≠ 0 by omega), zS]
  rcases tmod_cases2 a m hm with ⟨h1, h2⟩ | ⟨h1, h2⟩
  · simp -implicitDefEqProofs only [show ¬ a.tmod m < 0 by omega, zS]
    apply L23_0_ok
    simp -implicitDefEqProofs only [L23_0, h2, and_self]
  · simp -implicitDefEqProofs only [h1, zS, aA]
    apply L23_0_ok
    simp -implicitDefEqProofs only [L23_0, h2, az (n := a % m) (by omega) (by omega), and_self]
end Go.Proofs.YtgamnncehjcdiaaGreat

namespace Go.Proofs.YtgamnncehjcdiaaGreat.Ev
open Go Go.RowKit

abbrev Fp := Nat → Prop
def FDis (F G : Fp) : Prop := ∀ k, F k → G k → False
def none' : Fp := fun _ => False
structure ChgP (F : Fp) (w w' : World) : Prop where
  os : w'.os = w.os
  tape : w'.tape = w.tape
  output : w'.output = w.output
  size : w.heap.size ≤ w'.heap.size
  block : ∀ k, k < w.heap.size → ¬ F k → hp w' k = hp w k
structure UpdP (F F' : Fp) (w w' : World) : Prop where
  chg : ChgP F w w'
  sub : ∀ k, F' k → F k ∨ w.heap.size ≤ k
theorem ChgP.refl (F : Fp) (w : World) : ChgP F w w := ⟨rfl, rfl, rfl, Nat.le_refl _, fun _ _ _ => rfl⟩
theorem ChgP.mono {F G : Fp} {w w' : World} (h : ChgP F w w') (hs : ∀ k, F k → G k) : ChgP G w w' := ⟨h.os, h.tape, h.output, h.size, fun k hk hn => h.block k hk fun hm => hn (hs k hm)⟩
theorem ChgP.of {S : List Nat} {w w' : World} (h : Chg S w w') : ChgP (· ∈ S) w w' := ⟨h.os, h.tape, h.output, h.size, fun k hk hn => h.block k hk hn⟩
theorem ChgP.of0 {w w' : World} (h : Chg [] w w') (F : Fp) : ChgP F w w' := ⟨h.os, h.tape, h.output, h.size, fun k hk _ => h.block k hk (by simp)⟩
theorem UpdP.refl (F : Fp) (w : World) : UpdP F F w w := ⟨ChgP.refl _ _, fun k hk => .inl hk⟩
theorem UpdP.trans {F G H : Fp} {a b c : World} (h : UpdP F G a b) (k : UpdP G H b c) : UpdP F H a c :=
  ⟨⟨k.chg.os.trans h.chg.os, k.chg.tape.trans h.chg.tape, k.chg.output.trans h.chg.output, Nat.le_trans h.chg.size k.chg.size, fun i hi hn =>
    (k.chg.block i (Nat.lt_of_lt_of_le hi h.chg.size) fun hg => by rcases h.sub i hg with h1 | h1; exact hn h1; omega).trans (h.chg.block i hi hn)⟩,
   fun i hi => by
    rcases k.sub i hi with h1 | h1
    · exact h.sub i h1
    · exact .inr (Nat.le_trans h.chg.size h1)⟩
theorem UpdP.of0 {F : Fp} {a b : World} (k : Chg [] a b) : UpdP F F a b := ⟨ChgP.of0 k F, fun i hi => .inl hi⟩
theorem ChgP.at {F : Fp} {w w' : World} (h : ChgP F w w') {b : Nat} {o : Obj} (hb : hp w b = some o) (hn : ¬ F b) : hp w' b = some o := by rw [h.block b (av hb) hn]; exact hb
theorem ChgP.row {F : Fp} {w w' : World} {base : Nat} {e : TypeId} {z : Nat} {v : Value} {n : Nat} {xs : List Value} (h : w.ownsRow base e z v n xs) (hc : ChgP F w w') (hn : ∀ k, v.ownBlock = some k → ¬ F k) : w'.ownsRow base e z v n xs := by
  refine ⟨h.1, h.2.imp id fun ⟨g, cap, cur, h1, h2, h3, h4⟩ => ⟨g, cap, cur, h1, h2, ?_, h4⟩⟩
  exact hc.at h3 (hn g (by rw [h1]; rfl))
abbrev Th := World → Fp → Value → Prop
structure OwnT (P : Th) : Prop where
  frame : ∀ {w w' : World} {F G : Fp} {v : Value}, P w F v → ChgP G w w' → FDis F G → P w' F v
  lt : ∀ {w : World} {F : Fp} {v : Value}, P w F v → ∀ k, F k → k < w.heap.size
  one : ∀ {w : World} {F : Fp} {v : Value}, P w F v → v.cells = #[v] ∧ v.oneCell' = true
def isV (u : Value) : Th := fun _ F v => v = u ∧ ∀ k, ¬ F k
theorem good_isV {u : Value} (h : u.cells = #[u] ∧ u.oneCell' = true) : OwnT (isV u) :=
  ⟨fun h _ _ => h, fun h k hk => absurd hk (h.2 k), fun h' => by rw [h'.1]; exact h⟩
structure Parts (w : World) (Ps : List Th) (xs : List Value) (Fs : Nat → Fp) : Prop where
  len : Ps.length = xs.length
  each : ∀ (k : Nat) (P : Th) (v : Value), Ps[k]? = some P → xs[k]? = some v → P w (Fs k) v
  dis : ∀ j k, j < Ps.length → k < Ps.length → j ≠ k → FDis (Fs j) (Fs k)
def under (n : Nat) (Fs : Nat → Fp) : Fp := fun b => ∃ k, k < n ∧ Fs k b
def fset (Fs : Nat → Fp) (k : Nat) (F : Fp) : Nat → Fp := fun j => if j = k then F else Fs j
theorem Parts.frame {w w' : World} {Ps : List Th} {xs : List Value} {Fs : Nat → Fp} {G : Fp} (h : Parts w Ps xs Fs) (hg : ∀ P ∈ Ps, OwnT P) (hc : ChgP G w w') (hd : FDis (under Ps.length Fs) G) : Parts w' Ps xs Fs :=
  ⟨h.len, fun k P v hP hv => (hg P (List.mem_of_getElem? hP)).frame (h.each k P v hP hv) hc fun b h1 h2 => hd b ⟨k, (List.getElem?_eq_some_iff.1 hP).1, h1⟩ h2, h.dis⟩
theorem Parts.lt {w : World} {Ps : List Th} {xs : List Value} {Fs : Nat → Fp} (h : Parts w Ps xs Fs) (hg : ∀ P ∈ Ps, OwnT P) : ∀ b, under Ps.length Fs b → b < w.heap.size := fun b ⟨k, hk, hb⟩ => by
  obtain ⟨P, hP⟩ : ∃ P, Ps[k]? = some P := ⟨_, List.getElem?_eq_getElem hk⟩
  obtain ⟨v, hv⟩ : ∃ v, xs[k]? = some v := ⟨_, List.getElem?_eq_getElem (by rw [← h.len]; exact hk)⟩
  exact (hg P (List.mem_of_getElem? hP)).lt (h.each k P v hP hv) b hb
theorem Parts.set {w w' : World} {Ps : List Th} {xs : List Value} {Fs : Nat → Fp} {k : Nat} {F' : Fp} {P' : Th} {v' : Value} (h : Parts w Ps xs Fs) (hg : ∀ P ∈ Ps, OwnT P) (hk : k < Ps.length) (u : UpdP (Fs k) F' w w') (hv : P' w' F' v') :
    Parts w' (Ps.set k P') (xs.set k v') (fset Fs k F') := by
  have apart : ∀ j, j < Ps.length → j ≠ k → FDis (Fs j) F' := fun j hj hne b h1 h2 => by
    rcases u.sub b h2 with h3 | h3
    · exact h.dis j k hj hk hne b h1 h3
    · have := h.lt hg b ⟨j, hj, h1⟩; omega
  refine ⟨by simp [h.len], fun j P v hP hv' => ?_, fun i j hi hj hij => ?_⟩
  · rw [List.getElem?_set] at hP hv'
    by_cases hjk : k = j
    · subst hjk
      rw [if_pos rfl, if_pos hk] at hP
      rw [if_pos rfl, if_pos (by rw [← h.len]; exact hk)] at hv'
      cases hP; cases hv'
      simpa [fset] using hv
    · rw [if_neg hjk] at hP hv'
      have hj := (List.getElem?_eq_some_iff.1 hP).1
      simp only [fset, if_neg (Ne.symm hjk)]
      exact (hg P (List.mem_of_getElem? hP)).frame (h.each j P v hP hv') u.chg (h.dis j k hj hk (Ne.symm hjk))
  · simp only [List.length_set] at hi hj
    unfold fset
    by_cases h1 : i = k
    · rw [if_pos h1, if_neg (by omega)]
      exact fun b a c => apart j hj (by omega) b c a
    · rw [if_neg h1]
      by_cases h2 : j = k
      · rw [if_pos h2]; exact apart i hi h1
      · rw [if_neg h2]; exact h.dis i j hi hj hij
theorem under_set {n k : Nat} {Fs : Nat → Fp} {F' : Fp} (b : Nat) (h : under n (fset Fs k F') b) : F' b ∨ under n Fs b := by
  obtain ⟨j, hj, hb⟩ := h
  unfold fset at hb
  split at hb
  · exact .inl hb
  · exact .inr ⟨j, hj, hb⟩
theorem Parts.app {w : World} {Ps Qs : List Th} {xs ys : List Value} {Fs Gs : Nat → Fp} (h : Parts w Ps xs Fs) (k : Parts w Qs ys Gs) (hd : FDis (under Ps.length Fs) (under Qs.length Gs)) :
    Parts w (Ps ++ Qs) (xs ++ ys) fun j => if j < Ps.length then Fs j else Gs (j - Ps.length) := by
  refine ⟨by simp [h.len, k.len], fun j P v hP hv => ?_, fun i j hi hj hij => ?_⟩
  · by_cases hj : j < Ps.length
    · rw [List.getElem?_append_left hj] at hP
      rw [List.getElem?_append_left (by rw [← h.len]; exact hj)] at hv
      simp only [if_pos hj]
      exact h.each j P v hP hv
    · rw [List.getElem?_append_right (by omega)] at hP
      rw [List.getElem?_append_right (by rw [← h.len]; omega), ← h.len] at hv
      simp only [if_neg hj]
      exact k.each _ P v hP hv
  · simp only [List.length_append] at hi hj
    by_cases h1 : i < Ps.length
    · by_cases h2 : j < Ps.length
      · simp only [if_pos h1, if_pos h2]; exact h.dis i j h1 h2 hij
      · simp only [if_pos h1, if_neg h2]
        exact fun b a c => hd b ⟨i, h1, a⟩ ⟨_, by omega, c⟩
    · by_cases h2 : j < Ps.length
      · simp only [if_neg h1, if_pos h2]
        exact fun b a c => hd b ⟨j, h2, c⟩ ⟨_, by omega, a⟩
      · simp only [if_neg h1, if_neg h2]
        exact k.dis _ _ (by omega) (by omega) (by omega)
theorem under_app {n m : Nat} {Fs Gs : Nat → Fp} (b : Nat) : under (n + m) (fun j => if j < n then Fs j else Gs (j - n)) b ↔ under n Fs b ∨ under m Gs b := by
  constructor
  · rintro ⟨j, hj, hb⟩
    by_cases h : j < n
    · rw [if_pos h] at hb; exact .inl ⟨j, h, hb⟩
    · rw [if_neg h] at hb; exact .inr ⟨j - n, by omega, hb⟩
  · rintro (⟨j, hj, hb⟩ | ⟨j, hj, hb⟩)
    · exact ⟨j, by omega, by simp only [if_pos hj]; exact hb⟩
    · exact ⟨n + j, by omega, by simp only [if_neg (show ¬ n + j < n by omega), Nat.add_sub_cancel_left]; exact hb⟩
def isRow (e : TypeId) (z n : Nat) (Ps : List Th) : Th := fun w F x => ∃ (xs : List Value) (Fs : Nat → Fp), w.ownsRow 0 e z x n xs ∧ Parts w Ps xs Fs ∧ (∀ b, under Ps.length Fs b → x.ownBlock ≠ some b) ∧ ∀ b, F b ↔ x.ownBlock = some b ∨ under Ps.length Fs b
theorem bk {e : TypeId} {z n : Nat} {Ps : List Th} (hg : ∀ P ∈ Ps, OwnT P) : OwnT (isRow e z n Ps) := by
  refine ⟨fun ⟨xs, Fs, h1, h2, h3, h4⟩ hc hd => ⟨xs, Fs, hc.row h1 fun k hk hG => hd k ((h4 k).2 (.inl hk)) hG, h2.frame hg hc fun b a c => hd b ((h4 b).2 (.inr a)) c, h3, h4⟩, fun ⟨xs, Fs, h1, h2, h3, h4⟩ k hk => ?_, fun ⟨xs, Fs, h1, _⟩ => ?_⟩
  · rcases (h4 k).1 hk with h | h
    · exact (h1.lt k h).2
    · exact h2.lt hg k h
  · rcases h1.2 with ⟨rfl, _⟩ | ⟨g, cap, cur, rfl, _⟩ <;> exact ⟨rfl, rfl⟩
theorem isRow.nil {e : TypeId} {z : Nat} {w : World} : isRow e z 0 [] w none' (.slice none 0 0) :=
  ⟨[], fun _ => none', World.ownsRow_nil _ _ _ _, ⟨rfl, fun k P v h => by simp at h, fun j k h => by simp at h⟩, fun b ⟨k, hk, _⟩ => by simp at hk, fun b => ⟨fun h => h.elim, fun h => by rcases h with h | ⟨k, hk, _⟩; cases h; simp at hk⟩⟩
theorem ChgP.put (w : World) (g : Nat) (c : Array Value) (e : TypeId) : ChgP (fun b => b = g) w (Ev.put w g c e) := (ChgP.of (S := [g]) ((Chg.refl _ _).put (.inl (by simp)) c e)).mono fun k hk => by simpa using hk
theorem UpdP.put {F F' : Fp} {w w1 : World} (u : UpdP F F' w w1) {g : Nat} (hg : F' g) (c : Array Value) (e : TypeId) : UpdP F F' w (Ev.put w1 g c e) :=
  u.trans ⟨(ChgP.put w1 g c e).mono fun k hk => by rw [hk]; exact hg, fun k hk => .inl hk⟩
theorem set_same {α : Type} {l : List α} {k : Nat} {v : α} (h : l[k]? = some v) : l.set k v = l := by
  apply List.ext_getElem?
  intro j
  rw [List.getElem?_set]
  split
  · rename_i e; subst e
    rw [if_pos (List.getElem?_eq_some_iff.1 h).1, h]
  · rfl
theorem isRow.turn {e : TypeId} {z n : Nat} {Ps : List Th} {w w1 : World} {F F' : Fp} {x v : Value} {xs : List Value} {Fs : Nat → Fp} {k : Nat} {P' : Th} (h1 : w.ownsRow 0 e z x n xs) (h2 : Parts w Ps xs Fs) (h3 : ∀ b, under Ps.length Fs b → x.ownBlock ≠ some b) (h4 : ∀ b, F b ↔ x.ownBlock = some b ∨ under Ps.length Fs b)
    (hg : ∀ P ∈ Ps, OwnT P) (hk : k < Ps.length) (u : UpdP (Fs k) F' w w1) (hv : P' w1 F' v) :
    w1.ownsRow 0 e z x n xs ∧ Parts w1 (Ps.set k P') (xs.set k v) (fset Fs k F') ∧ (∀ b, under (Ps.set k P').length (fset Fs k F') b → x.ownBlock ≠ some b) ∧ UpdP F (fun b => x.ownBlock = some b ∨ under (Ps.set k P').length (fset Fs k F') b) w w1 := by
  refine ⟨u.chg.row h1 fun b hb hf => h3 b ⟨k, hk, hf⟩ hb, h2.set hg hk u hv, fun b hb hx => ?_, u.chg.mono fun b hb => (h4 b).2 (.inr ⟨k, hk, hb⟩), fun b hb => ?_⟩
  · rw [List.length_set] at hb
    rcases under_set b hb with h | h
    · rcases u.sub b h with h5 | h5
      · exact h3 b ⟨k, hk, h5⟩ hx
      · have := (h1.lt b hx).2; omega
    · exact h3 b h hx
  · rcases hb with hb | hb
    · exact .inl ((h4 b).2 (.inl hb))
    · rw [List.length_set] at hb
      rcases under_set b hb with h | h
      · rcases u.sub b h with h5 | h5
        · exact .inl ((h4 b).2 (.inr ⟨k, hk, h5⟩))
        · exact .inr h5
      · exact .inl ((h4 b).2 (.inr h))
theorem isRow.cell {e : TypeId} {z n : Nat} {Ps : List Th} {w : World} {F : Fp} {x : Value} (h : isRow e z n Ps w F x) (hg : ∀ P ∈ Ps, OwnT P) {k : Nat} {P : Th} (hP : Ps[k]? = some P) :
    ∃ (g c : Nat) (v : Value) (Fk : Fp), x = .slice (some ⟨g, 0, none⟩) n c ∧ F g ∧ ¬ Fk g ∧ (∀ b, Fk b → F b) ∧ ldC (hp w g) k = some v ∧ P w Fk v ∧
      (∀ w1 F' P', UpdP Fk F' w w1 → P' w1 F' v → ∃ F1, isRow e z n (Ps.set k P') w1 F1 x ∧ UpdP F F1 w w1) ∧
      (∀ w1 F' P' v', UpdP Fk F' w w1 → OwnT P' → P' w1 F' v' → okC (hp w1 g) (k + 1) = true ∧ ∃ F1, isRow e z n (Ps.set k P') (put w1 g ((getC (hp w1 g)).setIfInBounds k v') (getE (hp w1 g))) F1 x ∧ UpdP F F1 w (put w1 g ((getC (hp w1 g)).setIfInBounds k v') (getE (hp w1 g)))) := by
  obtain ⟨xs, Fs, h1, h2, h3, h4⟩ := h
  have hk := (List.getElem?_eq_some_iff.1 hP).1
  have hkx : k < xs.length := by rw [← h2.len]; exact hk
  obtain ⟨v, hv⟩ : ∃ v, xs[k]? = some v := ⟨_, List.getElem?_eq_getElem hkx⟩
  have hnz := h1.1
  obtain ⟨g, cap, hx, hld⟩ : ∃ g cap, x = .slice (some ⟨g, 0, none⟩) n cap ∧ ldC (hp w g) k = some v := by
    rcases h1.2 with ⟨rfl, h0⟩ | ⟨g, cap, cur, rfl, hbg, hgc, hnc, hcm, hcs, htake⟩
    · subst h0; omega
    · refine ⟨g, cap, rfl, ?_⟩
      have hg' : hp w g = some (.cells cur e (0, 0)) := hgc
      rw [hg', ldC_some]
      have := hv
      rw [← htake, List.getElem?_take, if_pos (by omega)] at this
      simpa using this
  subst hx
  have hown : (Value.slice (some ⟨g, 0, none⟩) n cap).ownBlock = some g := rfl
  refine ⟨g, cap, v, Fs k, rfl, (h4 g).2 (.inl hown), fun hf => h3 g ⟨k, hk, hf⟩ hown, fun b hb => (h4 b).2 (.inr ⟨k, hk, hb⟩), hld, h2.each k P v hP hv, fun w1 F' P' u hp' => ?_, fun w1 F' P' v' u hgp hp' => ?_⟩
  · obtain ⟨a, b, c, d⟩ := isRow.turn h1 h2 h3 h4 hg hk u hp'
    rw [set_same hv] at b
    exact ⟨_, ⟨xs, _, a, b, c, fun _ => Iff.rfl⟩, d⟩
  · obtain ⟨a, b, c, d⟩ := isRow.turn h1 h2 h3 h4 hg hk u hp'
    obtain ⟨p1, p2⟩ := ownsRow_put (vs := [v']) a hown (o := k) (by simp; omega)
    refine ⟨p2, _, ⟨xs.set k v', fset Fs k F', ?_, b.frame (fun Q hQ => ?_) (ChgP.put w1 g _ _) (fun i hi hj => c i hi (by rw [hj]; exact hown)), c, fun _ => Iff.rfl⟩, d.put (.inl hown) _ _⟩
    · rw [← set_eq xs k v' hkx]; exact p1
    · rcases List.mem_or_eq_of_mem_set hQ with hq | hq
      · exact hg Q hq
      · rw [hq]; exact hgp
def isAt (e : TypeId) (g : Nat) (Ps : List Th) (w : World) (F : Fp) : Prop := ∃ (xs : List Value) (Fs : Nat → Fp), hp w g = some (.cells xs.toArray e) ∧ Parts w Ps xs Fs ∧ ¬ under Ps.length Fs g ∧ ∀ b, F b ↔ b = g ∨ under Ps.length Fs b
theorem isAt.frame {e : TypeId} {g : Nat} {Ps : List Th} {w w' : World} {F G : Fp} (h : isAt e g Ps w F) (hg : ∀ P ∈ Ps, OwnT P) (hc : ChgP G w w') (hd : FDis F G) : isAt e g Ps w' F := by
  obtain ⟨xs, Fs, h1, h2, h3, h4⟩ := h
  exact ⟨xs, Fs, hc.at h1 fun hG => hd g ((h4 g).2 (.inl rfl)) hG, h2.frame hg hc fun b a c => hd b ((h4 b).2 (.inr a)) c, h3, h4⟩
theorem isAt.lt {e : TypeId} {g : Nat} {Ps : List Th} {w : World} {F : Fp} (h : isAt e g Ps w F) (hg : ∀ P ∈ Ps, OwnT P) : ∀ k, F k → k < w.heap.size := fun k hk => by
  obtain ⟨xs, Fs, h1, h2, h3, h4⟩ := h
  rcases (h4 k).1 hk with h | h
  · subst h; exact av h1
  · exact h2.lt hg k h
theorem isAt.cell {e : TypeId} {g : Nat} {Ps : List Th} {w : World} {F : Fp} (h : isAt e g Ps w F) (hg : ∀ P ∈ Ps, OwnT P) {k : Nat} {P : Th} (hP : Ps[k]? = some P) :
    ∃ (v : Value) (Fk : Fp), F g ∧ ¬ Fk g ∧ (∀ b, Fk b → F b) ∧ ldC (hp w g) k = some v ∧ P w Fk v ∧
      (∀ w1 F' P', UpdP Fk F' w w1 → P' w1 F' v → ∃ F1, isAt e g (Ps.set k P') w1 F1 ∧ UpdP F F1 w w1) ∧
      (∀ w1 F' P' v', UpdP Fk F' w w1 → OwnT P' → P' w1 F' v' → okC (hp w1 g) (k + 1) = true ∧ ∃ F1, isAt e g (Ps.set k P') (put w1 g ((getC (hp w1 g)).setIfInBounds k v') (getE (hp w1 g))) F1 ∧ UpdP F F1 w (put w1 g ((getC (hp w1 g)).setIfInBounds k v') (getE (hp w1 g)))) := by
  obtain ⟨xs, Fs, h1, h2, h3, h4⟩ := h
  have hk := (List.getElem?_eq_some_iff.1 hP).1
  have hkx : k < xs.length := by rw [← h2.len]; exact hk
  obtain ⟨v, hv⟩ : ∃ v, xs[k]? = some v := ⟨_, List.getElem?_eq_getElem hkx⟩
  have main : ∀ {w1 : World} {F' : Fp} {P' : Th} {v' : Value}, UpdP (Fs k) F' w w1 → P' w1 F' v' → hp w1 g = some (.cells xs.toArray e) ∧ Parts w1 (Ps.set k P') (xs.set k v') (fset Fs k F') ∧ ¬ under (Ps.set k P').length (fset Fs k F') g ∧ UpdP F (fun b => b = g ∨ under (Ps.set k P').length (fset Fs k F') b) w w1 := by
    intro w1 F' P' v' u hp'
    refine ⟨u.chg.at h1 fun hf => h3 ⟨k, hk, hf⟩, h2.set hg hk u hp', fun hb => ?_, u.chg.mono fun b hb => (h4 b).2 (.inr ⟨k, hk, hb⟩), fun b hb => ?_⟩
    · rw [List.length_set] at hb
      rcases under_set g hb with h | h
      · rcases u.sub g h with h5 | h5
        · exact h3 ⟨k, hk, h5⟩
        · have := av h1; omega
      · exact h3 h
    · rcases hb with hb | hb
      · exact .inl ((h4 b).2 (.inl hb))
      · rw [List.length_set] at hb
        rcases under_set b hb with h | h
        · rcases u.sub b h with h5 | h5
          · exact .inl ((h4 b).2 (.inr ⟨k, hk, h5⟩))
          · exact .inr h5
        · exact .inl ((h4 b).2 (.inr h))
  refine ⟨v, Fs k, (h4 g).2 (.inl rfl), fun hf => h3 ⟨k, hk, hf⟩, fun b hb => (h4 b).2 (.inr ⟨k, hk, hb⟩), by rw [h1, ldC_some]; simpa using hv, h2.each k P v hP hv, fun w1 F' P' u hp' => ?_, fun w1 F' P' v' u hgp hp' => ?_⟩
  · obtain ⟨a, b, c, d⟩ := main (v' := v) u hp'
    rw [set_same hv] at b
    exact ⟨_, ⟨xs, _, a, b, c, fun _ => Iff.rfl⟩, d⟩
  · obtain ⟨a, b, c, d⟩ := main u hp'
    refine ⟨by rw [a]; simp; omega, _, ⟨xs.set k v', fset Fs k F', ?_, b.frame (fun Q hQ => ?_) (ChgP.put w1 g _ _) (fun i hi hj => c (by rw [← hj]; exact hi)), c, fun _ => Iff.rfl⟩, d.put (.inl rfl) _ _⟩
    · rw [a, br, aD, ap (av a)]
      simp
    · rcases List.mem_or_eq_of_mem_set hQ with hq | hq
      · exact hg Q hq
      · rw [hq]; exact hgp
theorem isAt.new {e : TypeId} {Ps : List Th} {w : World} {xs : List Value} {Fs : Nat → Fp} (hp' : Parts w Ps xs Fs) (hg : ∀ P ∈ Ps, OwnT P) : isAt e w.heap.size Ps (w.alloc (.cells xs.toArray e)) (fun b => b = w.heap.size ∨ under Ps.length Fs b) := by
  refine ⟨xs, Fs, by rw [ac, if_pos rfl], hp'.frame hg (ChgP.of0 ((Chg.refl _ _).alloc _) none') (fun _ _ h => h), fun h => ?_, fun _ => Iff.rfl⟩
  have := hp'.lt hg _ h
  omega
theorem isRow.grow {e : TypeId} {z n m : Nat} {Ps Qs : List Th} {w w' : World} {F G : Fp} {x x' : Value} {ys : List Value} {Gs : Nat → Fp} (h : isRow e z n Ps w F x) (hg : ∀ P ∈ Ps, OwnT P) (hq : ∀ P ∈ Qs, OwnT P) (hy : Parts w Qs ys Gs) (hG : ∀ b, G b ↔ under Qs.length Gs b) (hd : FDis F G)
    (ho : ∀ xs, w.ownsRow 0 e z x n xs → w'.ownsRow 0 e z x' (n + m) (xs ++ ys)) (hgr : w.grownBy w' x.ownBlock) (hnb : NewB w x x') :
    ∃ F', isRow e z (n + m) (Ps ++ Qs) w' F' x' ∧ UpdP (fun b => F b ∨ G b) F' w w' ∧ ChgP F w w' := by
  obtain ⟨xs, Fs, h1, h2, h3, h4⟩ := h
  have hc : ChgP (fun b => x.ownBlock = some b) w w' := ⟨hgr.os, hgr.tape, hgr.output, hgr.size, fun k hk hn => hgr.block k hk fun e => hn e.symm⟩
  have hc' : ChgP F w w' := hc.mono fun b hb => (h4 b).2 (.inl hb)
  have a2 := h2.frame hg hc fun b hb hx => h3 b hb hx
  have b2 := hy.frame hq hc fun b hb hx => hd b ((h4 b).2 (.inl hx)) ((hG b).2 hb)
  have hdd : FDis (under Ps.length Fs) (under Qs.length Gs) := fun b hb hc => hd b ((h4 b).2 (.inr hb)) ((hG b).2 hc)
  have hnew : ∀ b, under (Ps ++ Qs).length (fun j => if j < Ps.length then Fs j else Gs (j - Ps.length)) b → x'.ownBlock ≠ some b := fun b hb hx' => by
    rw [List.length_append] at hb
    rcases (under_app b).1 hb with h | h
    · rcases hnb b hx' with h5 | h5
      · exact h3 b h h5
      · have := h2.lt hg b h; omega
    · rcases hnb b hx' with h5 | h5
      · exact hd b ((h4 b).2 (.inl h5)) ((hG b).2 h)
      · have := hy.lt hq b h; omega
  refine ⟨_, ⟨xs ++ ys, _, ho xs h1, a2.app b2 hdd, hnew, fun _ => Iff.rfl⟩, ⟨hc'.mono fun b hb => .inl hb, fun b hb => ?_⟩, hc'⟩
  rcases hb with hb | hb
  · rcases hnb b hb with h5 | h5
    · exact .inl (.inl ((h4 b).2 (.inl h5)))
    · exact .inr h5
  · rw [List.length_append] at hb
    rcases (under_app b).1 hb with h | h
    · exact .inl (.inl ((h4 b).2 (.inr h)))
    · exact .inl (.inr ((hG b).2 h))
theorem flatM_len {α β : Type} {f : α → List β} {z : Nat} (h : ∀ x, (f x).length = z) : ∀ L : List α, (L.flatMap f).length = L.length * z
  | [] => by simp
  | x :: xs => by rw [List.flatMap_cons, List.length_append, h x, flatM_len h xs, List.length_cons, Nat.add_mul]; omega
theorem aR {α β : Type} {f : α → List β} {z : Nat} (h : ∀ x, (f x).length = z) : ∀ (L : List α) (i : Nat) (x : α), L[i]? = some x → ∀ k, k < z → (L.flatMap f)[i * z + k]? = (f x)[k]?
  | [], i, x, hx, k, hk => by simp at hx
  | y :: ys, 0, x, hx, k, hk => by
    simp at hx; subst hx
    rw [List.flatMap_cons, Nat.zero_mul, Nat.zero_add, List.getElem?_append_left (by rw [h]; exact hk)]
  | y :: ys, i + 1, x, hx, k, hk => by
    rw [List.flatMap_cons, show (i + 1) * z + k = (f y).length + (i * z + k) by rw [h, Nat.add_mul]; omega, List.getElem?_append_right (by omega), Nat.add_sub_cancel_left]
    exact aR h ys i x (by simpa using hx) k hk
theorem flatM_set {α β : Type} {f : α → List β} {z : Nat} (h : ∀ x, (f x).length = z) {k : Nat} {p : β} (hk : k < z) {x x' : α} (hx : f x' = (f x).set k p) : ∀ (L : List α) (i : Nat), L[i]? = some x → (L.flatMap f).set (i * z + k) p = (L.set i x').flatMap f
  | [], i, hi => by simp at hi
  | y :: ys, 0, hi => by
    simp at hi; subst hi
    rw [List.flatMap_cons, Nat.zero_mul, Nat.zero_add, List.set_append_left _ _ (by rw [h]; exact hk), List.set_cons_zero, List.flatMap_cons, hx]
  | y :: ys, i + 1, hi => by
    rw [List.flatMap_cons, show (i + 1) * z + k = (f y).length + (i * z + k) by rw [h, Nat.add_mul]; omega, List.set_append_right _ _ (by omega), Nat.add_sub_cancel_left, flatM_set h hk hx ys i (by simpa using hi), List.set_cons_succ, List.flatMap_cons]
theorem isRow.rd {e : TypeId} {z n : Nat} {Ps : List Th} {w : World} {F : Fp} {x : Value} (h : isRow e z n Ps w F x) :
    ∃ A c xs Fs, x = .slice A n c ∧ RdV w A xs ∧ xs.length = n * z ∧ Parts w Ps xs Fs ∧ ∀ b, under Ps.length Fs b → F b := by
  obtain ⟨xs, Fs, h1, h2, h3, h4⟩ := h
  obtain ⟨A, c, e1, e2, _⟩ := rdV_of_own h1
  exact ⟨A, c, xs, Fs, e1, e2, h1.1, h2, fun b hb => (h4 b).2 (.inr hb)⟩
theorem Parts.flat {w : World} {us xs : List Value} {Fs : Nat → Fp} (h : Parts w (us.map isV) xs Fs) : xs = us := by
  apply List.ext_getElem?
  intro k
  rcases Nat.lt_or_ge k us.length with hk | hk
  · have hkx : k < xs.length := by have := h.len; simp at this; omega
    have := h.each k (isV us[k]) xs[k] (by simp [hk]) (List.getElem?_eq_getElem hkx)
    rw [List.getElem?_eq_getElem hkx, List.getElem?_eq_getElem hk, this.1]
  · have := h.len
    simp at this
    rw [List.getElem?_eq_none (by omega), List.getElem?_eq_none (by omega)]
theorem Parts.ofFlat {w : World} (us : List Value) : Parts w (us.map isV) us fun _ => none' :=
  ⟨by simp, fun k P v hP hv => by
    rw [List.getElem?_map, hv] at hP
    cases hP
    exact ⟨rfl, fun _ h => h⟩, fun _ _ _ _ _ b h _ => h⟩
theorem good_flat {us : List Value} (h : ∀ u ∈ us, u.cells = #[u] ∧ u.oneCell' = true) : ∀ P ∈ us.map isV, OwnT P := fun P hP => by
  obtain ⟨u, hu, rfl⟩ := List.mem_map.1 hP
  exact good_isV (h u hu)
theorem flat_own {e : TypeId} {z n : Nat} {us : List Value} {w : World} {F : Fp} {x : Value} (h : isRow e z n (us.map isV) w F x) : w.ownsRow 0 e z x n us ∧ ∀ b, F b → x.ownBlock = some b := by
  obtain ⟨xs, Fs, h1, h2, h3, h4⟩ := h
  rw [h2.flat] at h1
  refine ⟨h1, fun b hb => ?_⟩
  rcases (h4 b).1 hb with h5 | ⟨k, hk, hb'⟩
  · exact h5
  · obtain ⟨P, hP⟩ : ∃ P, (us.map isV)[k]? = some P := ⟨_, List.getElem?_eq_getElem hk⟩
    obtain ⟨v, hv⟩ : ∃ v, xs[k]? = some v := ⟨_, List.getElem?_eq_getElem (by rw [← h2.len]; exact hk)⟩
    have := h2.each k P v hP hv
    obtain ⟨u, _, rfl⟩ := List.mem_map.1 (List.mem_of_getElem? hP)
    exact absurd hb' (this.2 b)
theorem own_flat {e : TypeId} {z n : Nat} {us : List Value} {w : World} {x : Value} {base : Nat} (h : w.ownsRow base e z x n us) : isRow e z n (us.map isV) w (fun b => x.ownBlock = some b) x :=
  ⟨us, fun _ => none', ownsRow_mono h (Nat.zero_le _), Parts.ofFlat us, fun b ⟨_, _, hb⟩ => hb.elim, fun b => ⟨fun h => .inl h, fun h => by rcases h with h | ⟨_, _, h⟩; exact h; exact h.elim⟩⟩
end Go.Proofs.YtgamnncehjcdiaaGreat.Ev

