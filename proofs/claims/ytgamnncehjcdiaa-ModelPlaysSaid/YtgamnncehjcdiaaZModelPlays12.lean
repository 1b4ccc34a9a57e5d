/- Parts of the proof of ModelPlays, one behind the other. Conditions: none. -/
import Derived.Test.YtgamnncehjcdiaaChecked
import Derived.Eval
import Derived.Test.YtgamnncehjcdiaaZModelPlays11
set_option linter.unusedSimpArgs false
set_option linter.unusedVariables false
set_option maxRecDepth 100000
namespace Go.Proofs.Ytgamnncehjcdiaa
open Go Ev
noncomputable def C51 : Code := (Try.f51.body).getD .skip
noncomputable def H51 : Hints := ⟨[], [], []⟩
def F51 (a0 a1 : Value) (w : World) (Q : Value → World → Prop) : Prop :=
  wpB (bp Try.prog .lss 3 a1 (Go.Value.int Go.IntKind.i64 0)) fun t6 =>
  wpB (gd t6 false (nilv (gv t6 false a0))) fun t10 =>
  wpB (gd t6 false (pureRun Try.prog (Instr.fieldAt 154 t10 0))) fun t11 =>
  wpB (gd t6 false (pureRun Try.prog (Instr.fieldAt 74 t11 3))) fun t12 =>
  wpB (gd t6 false (ldv Try.prog 3 t12 w)) fun t13 =>
  wpB (gd t6 false (bp Try.prog .geq 3 (gv t6 false a1) t13)) fun t14 =>
  wpB (pickv t6 (some (Go.Value.bool true)) (some t14)) fun t15 =>
  wpB (gd t15 false (nilv (gv t15 false a0))) fun t18 =>
  wpB (gd t15 false (pureRun Try.prog (Instr.fieldAt 154 t18 2))) fun t19 =>
  wpB (gd t15 false (ldv Try.prog 23 t19 w)) fun t20 =>
  wpB (gd t15 false (pureRun Try.prog (Instr.indexAt 23 t20 (gv t15 false a1)))) fun t22 =>
  wpB (gd t15 false (ldv Try.prog 3 t22 w)) fun t23 =>
  wpB (gd t15 false (be Try.prog .neq 3 (.tmp 23) (.const (Go.Value.int Go.IntKind.i64 2)) t23 (Go.Value.int Go.IntKind.i64 2))) fun t24 =>
  wpB (pickv t15 (some (Go.Value.bool true)) (some t24)) fun t25 =>
  cnd t25
  (Q (Go.Value.bool false) w)
  (wpB (nilv a0) fun t27 =>
  wpB (pureRun Try.prog (Instr.fieldAt 154 t27 2)) fun t28 =>
  wpB (ldv Try.prog 23 t28 w) fun t29 =>
  wpB (pureRun Try.prog (Instr.indexAt 23 t29 a1)) fun t31 =>
  effu Try.prog (Instr.storeAt 3 t31 (Go.Value.int Go.IntKind.i64 0)) w fun w =>
  Q (Go.Value.bool true) w)
theorem F51_ok {a0 a1 : Value} {w : World} {Q : Value → World → Prop} (h : F51 a0 a1 w Q) : CallR Try.prog 51 [a0, a1] w Q :=
  have e : evC Try.prog (entR 3 143) 51 32 H51 Q C51 [] (entryE 0 [a0, a1]) w (contT Try.prog (entR 3 143) 51 32 H51 Try.f51.results.toList Q []) = F51 a0 a1 w Q := by kernel_rfl
  bt (fn := Try.f51) mixed bn Try.func51 (c := C51) rfl H51 (Nat.le_of_ble_eq_true rfl) (e.mpr h)

noncomputable def C52 : Code := (Try.f52.body).getD .skip
noncomputable def H52 : Hints := ⟨[], [(7, [0, 1, 5, 6, 7, 8])], [(5, (.ask 3 17 (.ask 7 17 (.leaf [0, 1, 2, 3, 4, 5, 6, 7, 8, 9, 10, 11, 12, 13, 14, 15, 16, 17, 18, 19, 20, 21]) (.leaf [0, 1, 2, 4, 5, 6, 10, 11, 12, 13, 3, 14, 15, 16, 17, 7, 8, 9, 18, 19, 20, 21])) (.ask 7 17 (.leaf [0, 1, 2, 4, 5, 6, 10, 11, 12, 13, 7, 8, 9, 14, 15, 16, 17, 18, 3, 19, 20, 21]) (.leaf [0, 1, 2, 4, 5, 6, 10, 11, 12, 13, 14, 15, 16, 17, 3, 7, 8, 9, 18, 19, 20, 21])))), (7, (.ask 11 7 (.ask 12 7 (.leaf [0, 1, 2, 3, 4, 8, 5, 6, 11, 12, 7, 9, 10, 13, 14, 15]) (.ask 12 9 (.leaf [0, 1, 2, 3, 4, 8, 5, 6, 11, 7, 12, 9, 10, 13, 14, 15]) (.ask 12 14 (.leaf [0, 1, 2, 3, 4, 8, 5, 6, 11, 7, 9, 10, 13, 12, 14, 15]) (.leaf [0, 1, 2, 3, 4, 8, 5, 6, 11, 7, 9, 10, 13, 14, 12, 15])))) (.ask 12 7 (.ask 11 9 (.leaf [0, 1, 2, 3, 4, 8, 5, 6, 12, 7, 11, 9, 10, 13, 14, 15]) (.leaf [0, 1, 2, 3, 4, 8, 5, 6, 12, 7, 9, 10, 13, 11, 14, 15])) (.ask 11 9 (.ask 12 9 (.leaf [0, 1, 2, 3, 4, 8, 5, 6, 7, 11, 12, 9, 10, 13, 14, 15]) (.ask 12 14 (.leaf [0, 1, 2, 3, 4, 8, 5, 6, 7, 11, 9, 10, 13, 12, 14, 15]) (.leaf [0, 1, 2, 3, 4, 8, 5, 6, 7, 11, 9, 10, 13, 14, 12, 15]))) (.ask 12 9 (.leaf [0, 1, 2, 3, 4, 8, 5, 6, 7, 12, 9, 10, 13, 11, 14, 15]) (.ask 12 14 (.leaf [0, 1, 2, 3, 4, 5, 6, 7, 8, 9, 10, 11, 12, 13, 14, 15]) (.leaf [0, 1, 2, 3, 4, 8, 5, 6, 7, 9, 10, 13, 11, 14, 12, 15])))))))]⟩
noncomputable def T52_0 : List It := [.jn (nav [1, 1, 1, 1, 1] C52)]
def P52_0 (x0 x1 x5 x6 x7 x8 : Value) (w : World) (Q : Value → World → Prop) : Prop := Part Try.prog 52 T52_0 [0, 1, 5, 6, 7, 8] [x0, x1, x5, x6, x7, x8] w Q
def F52 (a0 a1 : Value) (w : World) (Q : Value → World → Prop) : Prop :=
  effv Try.prog (Instr.alloc 40 true (.tuple #[])) w fun t5 w =>
  effv Try.prog (Instr.alloc 51 true (.tuple #[])) w fun t6 w =>
  CallR Try.prog 90 [a1, (Go.Value.slice none 0 0)] w fun t10 w =>
  effv Try.prog (Instr.alloc 40 true (.tuple #[])) w fun t7 w =>
  effu Try.prog (Instr.storeAt 40 t7 t10) w fun w =>
  wpB (pureRun Try.prog (Instr.fieldAt 40 t7 1)) fun t11 =>
  effu Try.prog (Instr.storeAt 3 t11 (Go.Value.int Go.IntKind.i64 0)) w fun w =>
  wpB (pureRun Try.prog (Instr.fieldAt 40 t7 2)) fun t12 =>
  effu Try.prog (Instr.storeAt 3 t12 (Go.Value.int Go.IntKind.i64 0)) w fun w =>
  wpB (pureRun Try.prog (Instr.build 51 #[])) fun t13 =>
  effv Try.prog (Instr.alloc 51 true (.tuple #[])) w fun t8 w =>
  effu Try.prog (Instr.storeAt 51 t8 t13) w fun w =>
  wpB (nilv a0) fun t15 =>
  wpB (pureRun Try.prog (Instr.fieldAt 92 t15 3)) fun t16 =>
  wpB (ldv Try.prog 90 t16 w) fun t17 =>
  wpB (pureRun Try.prog (Builtin.len_ #[90] 3 #[t17])) fun t18 =>
  wpB (bp Try.prog .gtr 3 t18 (Go.Value.int Go.IntKind.i64 0)) fun t19 =>
  gE t19 true (CallR Try.prog 50 [(gv t19 true a1), (Go.Value.int Go.IntKind.i64 10)] w) (fun t22 w =>
  wpB (gd t19 true (bp Try.prog .gtr 3 t22 (Go.Value.int Go.IntKind.i64 0))) fun t23 =>
  wpB (pickv t19 (some t23) (some (Go.Value.bool false))) fun t24 =>
  cnd t24
  (((wpB (nilv a0) fun t26 =>
  wpB (pureRun Try.prog (Instr.fieldAt 92 t26 3)) fun t27 =>
  wpB (ldv Try.prog 90 t27 w.drew) fun t28 =>
  wpB (nilv a0) fun t30 =>
  wpB (pureRun Try.prog (Instr.fieldAt 92 t30 3)) fun t31 =>
  wpB (ldv Try.prog 90 t31 w.drew) fun t32 =>
  wpB (pureRun Try.prog (Builtin.len_ #[90] 3 #[t32])) fun t33 =>
  wpB (bp Try.prog .sub 3 t33 (Go.Value.int Go.IntKind.i64 1)) fun t34 =>
  wpB (nilv a0) fun t37 =>
  wpB (pureRun Try.prog (Instr.fieldAt 92 t37 3)) fun t38 =>
  wpB (ldv Try.prog 90 t38 w.drew) fun t39 =>
  wpB (pureRun Try.prog (Builtin.len_ #[90] 3 #[t39])) fun t40 =>
  wpB (pureRun Try.prog (Builtin.min_ #[3, 3] 3 #[t40, (Go.Value.int Go.IntKind.i64 8)])) fun t41 =>
  CallR Try.prog 50 [a1, t41] w.drew fun t42 w =>
  wpB (bp Try.prog .sub 3 t34 t42) fun t43 =>
  wpB (pureRun Try.prog (Instr.indexAt 90 t28 t43)) fun t44 =>
  wpB (ldv Try.prog 51 t44 w) fun t45 =>
  effu Try.prog (Instr.storeAt 51 t8 t45) w fun w =>
  P52_0 a0 a1 t5 t6 t7 t8 w Q) ∧
  (wpB (nilv a0) fun t26_1 =>
  wpB (pureRun Try.prog (Instr.fieldAt 92 t26_1 3)) fun t27_1 =>
  wpB (nilv a0) fun t30_1 =>
  wpB (pureRun Try.prog (Instr.fieldAt 92 t30_1 3)) fun t31_1 =>
  wpB (nilv a0) fun t37_1 =>
  wpB (pureRun Try.prog (Instr.fieldAt 92 t37_1 3)) fun t38_1 =>
  wpB (ldv Try.prog 90 t27_1 w.drew) fun t28_1 =>
  wpB (ldv Try.prog 90 t38_1 w.drew) fun t39_1 =>
  wpB (pureRun Try.prog (Builtin.len_ #[90] 3 #[t39_1])) fun t40_1 =>
  wpB (pureRun Try.prog (Builtin.min_ #[3, 3] 3 #[t40_1, (Go.Value.int Go.IntKind.i64 8)])) fun t41_1 =>
  CallR Try.prog 50 [a1, t41_1] w.drew fun t42_1 w =>
  wpB (ldv Try.prog 90 t31_1 w) fun t32_1 =>
  wpB (pureRun Try.prog (Builtin.len_ #[90] 3 #[t32_1])) fun t33_1 =>
  wpB (bp Try.prog .sub 3 t33_1 (Go.Value.int Go.IntKind.i64 1)) fun t34_1 =>
  wpB (bp Try.prog .sub 3 t34_1 t42_1) fun t43_1 =>
  wpB (pureRun Try.prog (Instr.indexAt 90 t28_1 t43_1)) fun t44_1 =>
  wpB (ldv Try.prog 51 t44_1 w) fun t45_1 =>
  effu Try.prog (Instr.storeAt 51 t8 t45_1) w fun w =>
  P52_0 a0 a1 t5 t6 t7 t8 w Q)) ∧
  ((wpB (nilv a0) fun t26_2 =>
  wpB (pureRun Try.prog (Instr.fieldAt 92 t26_2 3)) fun t27_2 =>
  wpB (nilv a0) fun t30_2 =>
  wpB (pureRun Try.prog (Instr.fieldAt 92 t30_2 3)) fun t31_2 =>
  wpB (nilv a0) fun t37_2 =>
  wpB (pureRun Try.prog (Instr.fieldAt 92 t37_2 3)) fun t38_2 =>
  wpB (ldv Try.prog 90 t31_2 w.drew) fun t32_2 =>
  wpB (pureRun Try.prog (Builtin.len_ #[90] 3 #[t32_2])) fun t33_2 =>
  wpB (bp Try.prog .sub 3 t33_2 (Go.Value.int Go.IntKind.i64 1)) fun t34_2 =>
  wpB (ldv Try.prog 90 t38_2 w.drew) fun t39_2 =>
  wpB (pureRun Try.prog (Builtin.len_ #[90] 3 #[t39_2])) fun t40_2 =>
  wpB (pureRun Try.prog (Builtin.min_ #[3, 3] 3 #[t40_2, (Go.Value.int Go.IntKind.i64 8)])) fun t41_2 =>
  CallR Try.prog 50 [a1, t41_2] w.drew fun t42_2 w =>
  wpB (bp Try.prog .sub 3 t34_2 t42_2) fun t43_2 =>
  wpB (ldv Try.prog 90 t27_2 w) fun t28_2 =>
  wpB (pureRun Try.prog (Instr.indexAt 90 t28_2 t43_2)) fun t44_2 =>
  wpB (ldv Try.prog 51 t44_2 w) fun t45_2 =>
  effu Try.prog (Instr.storeAt 51 t8 t45_2) w fun w =>
  P52_0 a0 a1 t5 t6 t7 t8 w Q) ∧
  (wpB (nilv a0) fun t26_3 =>
  wpB (pureRun Try.prog (Instr.fieldAt 92 t26_3 3)) fun t27_3 =>
  wpB (nilv a0) fun t30_3 =>
  wpB (pureRun Try.prog (Instr.fieldAt 92 t30_3 3)) fun t31_3 =>
  wpB (nilv a0) fun t37_3 =>
  wpB (pureRun Try.prog (Instr.fieldAt 92 t37_3 3)) fun t38_3 =>
  wpB (ldv Try.prog 90 t38_3 w.drew) fun t39_3 =>
  wpB (pureRun Try.prog (Builtin.len_ #[90] 3 #[t39_3])) fun t40_3 =>
  wpB (pureRun Try.prog (Builtin.min_ #[3, 3] 3 #[t40_3, (Go.Value.int Go.IntKind.i64 8)])) fun t41_3 =>
  CallR Try.prog 50 [a1, t41_3] w.drew fun t42_3 w =>
  wpB (ldv Try.prog 90 t27_3 w) fun t28_3 =>
  wpB (ldv Try.prog 90 t31_3 w) fun t32_3 =>
  wpB (pureRun Try.prog (Builtin.len_ #[90] 3 #[t32_3])) fun t33_3 =>
  wpB (bp Try.prog .sub 3 t33_3 (Go.Value.int Go.IntKind.i64 1)) fun t34_3 =>
  wpB (bp Try.prog .sub 3 t34_3 t42_3) fun t43_3 =>
  wpB (pureRun Try.prog (Instr.indexAt 90 t28_3 t43_3)) fun t44_3 =>
  wpB (ldv Try.prog 51 t44_3 w) fun t45_3 =>
  effu Try.prog (Instr.storeAt 51 t8 t45_3) w fun w =>
  P52_0 a0 a1 t5 t6 t7 t8 w Q)))
  (CallR Try.prog 50 [a1, (Go.Value.int Go.IntKind.i64 6)] w fun t47 w =>
  wpB (bp Try.prog .sub 3 t47 (Go.Value.int Go.IntKind.i64 1)) fun t48 =>
  CallR Try.prog 50 [a1, (Go.Value.int Go.IntKind.i64 3)] w fun t50 w =>
  CallR Try.prog 50 [a1, (Go.Value.int Go.IntKind.i64 3)] w fun t52 w =>
  CallR Try.prog 50 [a1, (Go.Value.int Go.IntKind.i64 3)] w fun t54 w =>
  CallR Try.prog 50 [a1, (Go.Value.int Go.IntKind.i64 3)] w fun t56 w =>
  wpB (pureRun Try.prog (Instr.build 51 #[(0, t48), (1, t50), (2, t52), (3, t54), (4, t56)])) fun t57 =>
  effu Try.prog (Instr.storeAt 51 t8 t57) w fun w =>
  P52_0 a0 a1 t5 t6 t7 t8 w Q)) w
def L52_0 (x0 x1 x5 x6 x7 x8 : Value) (w : World) (Q : Value → World → Prop) : Prop :=
  ((wpB (nilv x0) fun t60 =>
  wpB (pureRun Try.prog (Instr.fieldAt 92 t60 0)) fun t61 =>
  wpB (pureRun Try.prog (Instr.fieldAt 74 t61 0)) fun t62 =>
  wpB (ldv Try.prog 3 t62 w.drew) fun t63 =>
  wpB (bp Try.prog .add 3 t63 (Go.Value.int Go.IntKind.i64 1)) fun t64 =>
  wpB (ldv Try.prog 40 x7 w.drew) fun t69 =>
  wpB (ldv Try.prog 51 x8 w.drew) fun t70 =>
  CallR Try.prog 50 [x1, t64] w.drew fun t65 w =>
  CallR Try.prog 50 [x1, (Go.Value.int Go.IntKind.i64 2)] w fun t67 w =>
  wpB (bp Try.prog .sub 3 t65 t67) fun t68 =>
  effu Try.prog (Instr.storeAt 40 x5 t69) w fun w =>
  effu Try.prog (Instr.storeAt 51 x6 t70) w fun w =>
  wpB (ldv Try.prog 40 x5 w) fun r5 => wpB (ldv Try.prog 51 x6 w) fun r6 => Q (.tuple #[t68, r5, r6]) w) ∧
  ((wpB (nilv x0) fun t60_1 =>
  wpB (pureRun Try.prog (Instr.fieldAt 92 t60_1 0)) fun t61_1 =>
  wpB (pureRun Try.prog (Instr.fieldAt 74 t61_1 0)) fun t62_1 =>
  wpB (ldv Try.prog 3 t62_1 w.drew) fun t63_1 =>
  wpB (bp Try.prog .add 3 t63_1 (Go.Value.int Go.IntKind.i64 1)) fun t64_1 =>
  wpB (ldv Try.prog 40 x7 w.drew) fun t69_1 =>
  CallR Try.prog 50 [x1, t64_1] w.drew fun t65_1 w =>
  wpB (ldv Try.prog 51 x8 w) fun t70_1 =>
  CallR Try.prog 50 [x1, (Go.Value.int Go.IntKind.i64 2)] w fun t67_1 w =>
  wpB (bp Try.prog .sub 3 t65_1 t67_1) fun t68_1 =>
  effu Try.prog (Instr.storeAt 40 x5 t69_1) w fun w =>
  effu Try.prog (Instr.storeAt 51 x6 t70_1) w fun w =>
  wpB (ldv Try.prog 40 x5 w) fun r5_1 => wpB (ldv Try.prog 51 x6 w) fun r6_1 => Q (.tuple #[t68_1, r5_1, r6_1]) w) ∧
  ((wpB (nilv x0) fun t60_2 =>
  wpB (pureRun Try.prog (Instr.fieldAt 92 t60_2 0)) fun t61_2 =>
  wpB (pureRun Try.prog (Instr.fieldAt 74 t61_2 0)) fun t62_2 =>
  wpB (ldv Try.prog 3 t62_2 w.drew) fun t63_2 =>
  wpB (bp Try.prog .add 3 t63_2 (Go.Value.int Go.IntKind.i64 1)) fun t64_2 =>
  wpB (ldv Try.prog 40 x7 w.drew) fun t69_2 =>
  CallR Try.prog 50 [x1, t64_2] w.drew fun t65_2 w =>
  CallR Try.prog 50 [x1, (Go.Value.int Go.IntKind.i64 2)] w fun t67_2 w =>
  wpB (bp Try.prog .sub 3 t65_2 t67_2) fun t68_2 =>
  wpB (ldv Try.prog 51 x8 w) fun t70_2 =>
  effu Try.prog (Instr.storeAt 40 x5 t69_2) w fun w =>
  effu Try.prog (Instr.storeAt 51 x6 t70_2) w fun w =>
  wpB (ldv Try.prog 40 x5 w) fun r5_2 => wpB (ldv Try.prog 51 x6 w) fun r6_2 => Q (.tuple #[t68_2, r5_2, r6_2]) w) ∧
  (wpB (nilv x0) fun t60_3 =>
  wpB (pureRun Try.prog (Instr.fieldAt 92 t60_3 0)) fun t61_3 =>
  wpB (pureRun Try.prog (Instr.fieldAt 74 t61_3 0)) fun t62_3 =>
  wpB (ldv Try.prog 3 t62_3 w.drew) fun t63_3 =>
  wpB (bp Try.prog .add 3 t63_3 (Go.Value.int Go.IntKind.i64 1)) fun t64_3 =>
  wpB (ldv Try.prog 40 x7 w.drew) fun t69_3 =>
  CallR Try.prog 50 [x1, t64_3] w.drew fun t65_3 w =>
  CallR Try.prog 50 [x1, (Go.Value.int Go.IntKind.i64 2)] w fun t67_3 w =>
  wpB (bp Try.prog .sub 3 t65_3 t67_3) fun t68_3 =>
  effu Try.prog (Instr.storeAt 40 x5 t69_3) w fun w =>
  wpB (ldv Try.prog 51 x8 w) fun t70_3 =>
  effu Try.prog (Instr.storeAt 51 x6 t70_3) w fun w =>
  wpB (ldv Try.prog 40 x5 w) fun r5_3 => wpB (ldv Try.prog 51 x6 w) fun r6_3 => Q (.tuple #[t68_3, r5_3, r6_3]) w)))) ∧
  (((wpB (nilv x0) fun t60_4 =>
  wpB (pureRun Try.prog (Instr.fieldAt 92 t60_4 0)) fun t61_4 =>
  wpB (pureRun Try.prog (Instr.fieldAt 74 t61_4 0)) fun t62_4 =>
  wpB (ldv Try.prog 3 t62_4 w.drew) fun t63_4 =>
  wpB (bp Try.prog .add 3 t63_4 (Go.Value.int Go.IntKind.i64 1)) fun t64_4 =>
  wpB (ldv Try.prog 51 x8 w.drew) fun t70_4 =>
  CallR Try.prog 50 [x1, t64_4] w.drew fun t65_4 w =>
  wpB (ldv Try.prog 40 x7 w) fun t69_4 =>
  CallR Try.prog 50 [x1, (Go.Value.int Go.IntKind.i64 2)] w fun t67_4 w =>
  wpB (bp Try.prog .sub 3 t65_4 t67_4) fun t68_4 =>
  effu Try.prog (Instr.storeAt 40 x5 t69_4) w fun w =>
  effu Try.prog (Instr.storeAt 51 x6 t70_4) w fun w =>
  wpB (ldv Try.prog 40 x5 w) fun r5_4 => wpB (ldv Try.prog 51 x6 w) fun r6_4 => Q (.tuple #[t68_4, r5_4, r6_4]) w) ∧
  (wpB (nilv x0) fun t60_5 =>
  wpB (pureRun Try.prog (Instr.fieldAt 92 t60_5 0)) fun t61_5 =>
  wpB (pureRun Try.prog (Instr.fieldAt 74 t61_5 0)) fun t62_5 =>
  wpB (ldv Try.prog 3 t62_5 w.drew) fun t63_5 =>
  wpB (bp Try.prog .add 3 t63_5 (Go.Value.int Go.IntKind.i64 1)) fun t64_5 =>
  wpB (ldv Try.prog 51 x8 w.drew) fun t70_5 =>
  CallR Try.prog 50 [x1, t64_5] w.drew fun t65_5 w =>
  CallR Try.prog 50 [x1, (Go.Value.int Go.IntKind.i64 2)] w fun t67_5 w =>
  wpB (bp Try.prog .sub 3 t65_5 t67_5) fun t68_5 =>
  wpB (ldv Try.prog 40 x7 w) fun t69_5 =>
  effu Try.prog (Instr.storeAt 40 x5 t69_5) w fun w =>
  effu Try.prog (Instr.storeAt 51 x6 t70_5) w fun w =>
  wpB (ldv Try.prog 40 x5 w) fun r5_5 => wpB (ldv Try.prog 51 x6 w) fun r6_5 => Q (.tuple #[t68_5, r5_5, r6_5]) w)) ∧
  (((wpB (nilv x0) fun t60_6 =>
  wpB (pureRun Try.prog (Instr.fieldAt 92 t60_6 0)) fun t61_6 =>
  wpB (pureRun Try.prog (Instr.fieldAt 74 t61_6 0)) fun t62_6 =>
  wpB (ldv Try.prog 3 t62_6 w.drew) fun t63_6 =>
  wpB (bp Try.prog .add 3 t63_6 (Go.Value.int Go.IntKind.i64 1)) fun t64_6 =>
  CallR Try.prog 50 [x1, t64_6] w.drew fun t65_6 w =>
  wpB (ldv Try.prog 40 x7 w) fun t69_6 =>
  wpB (ldv Try.prog 51 x8 w) fun t70_6 =>
  CallR Try.prog 50 [x1, (Go.Value.int Go.IntKind.i64 2)] w fun t67_6 w =>
  wpB (bp Try.prog .sub 3 t65_6 t67_6) fun t68_6 =>
  effu Try.prog (Instr.storeAt 40 x5 t69_6) w fun w =>
  effu Try.prog (Instr.storeAt 51 x6 t70_6) w fun w =>
  wpB (ldv Try.prog 40 x5 w) fun r5_6 => wpB (ldv Try.prog 51 x6 w) fun r6_6 => Q (.tuple #[t68_6, r5_6, r6_6]) w) ∧
  ((wpB (nilv x0) fun t60_7 =>
  wpB (pureRun Try.prog (Instr.fieldAt 92 t60_7 0)) fun t61_7 =>
  wpB (pureRun Try.prog (Instr.fieldAt 74 t61_7 0)) fun t62_7 =>
  wpB (ldv Try.prog 3 t62_7 w.drew) fun t63_7 =>
  wpB (bp Try.prog .add 3 t63_7 (Go.Value.int Go.IntKind.i64 1)) fun t64_7 =>
  CallR Try.prog 50 [x1, t64_7] w.drew fun t65_7 w =>
  wpB (ldv Try.prog 40 x7 w) fun t69_7 =>
  CallR Try.prog 50 [x1, (Go.Value.int Go.IntKind.i64 2)] w fun t67_7 w =>
  wpB (bp Try.prog .sub 3 t65_7 t67_7) fun t68_7 =>
  wpB (ldv Try.prog 51 x8 w) fun t70_7 =>
  effu Try.prog (Instr.storeAt 40 x5 t69_7) w fun w =>
  effu Try.prog (Instr.storeAt 51 x6 t70_7) w fun w =>
  wpB (ldv Try.prog 40 x5 w) fun r5_7 => wpB (ldv Try.prog 51 x6 w) fun r6_7 => Q (.tuple #[t68_7, r5_7, r6_7]) w) ∧
  (wpB (nilv x0) fun t60_8 =>
  wpB (pureRun Try.prog (Instr.fieldAt 92 t60_8 0)) fun t61_8 =>
  wpB (pureRun Try.prog (Instr.fieldAt 74 t61_8 0)) fun t62_8 =>
  wpB (ldv Try.prog 3 t62_8 w.drew) fun t63_8 =>
  wpB (bp Try.prog .add 3 t63_8 (Go.Value.int Go.IntKind.i64 1)) fun t64_8 =>
  CallR Try.prog 50 [x1, t64_8] w.drew fun t65_8 w =>
  wpB (ldv Try.prog 40 x7 w) fun t69_8 =>
  CallR Try.prog 50 [x1, (Go.Value.int Go.IntKind.i64 2)] w fun t67_8 w =>
  wpB (bp Try.prog .sub 3 t65_8 t67_8) fun t68_8 =>
  effu Try.prog (Instr.storeAt 40 x5 t69_8) w fun w =>
  wpB (ldv Try.prog 51 x8 w) fun t70_8 =>
  effu Try.prog (Instr.storeAt 51 x6 t70_8) w fun w =>
  wpB (ldv Try.prog 40 x5 w) fun r5_8 => wpB (ldv Try.prog 51 x6 w) fun r6_8 => Q (.tuple #[t68_8, r5_8, r6_8]) w))) ∧
  ((wpB (nilv x0) fun t60_9 =>
  wpB (pureRun Try.prog (Instr.fieldAt 92 t60_9 0)) fun t61_9 =>
  wpB (pureRun Try.prog (Instr.fieldAt 74 t61_9 0)) fun t62_9 =>
  wpB (ldv Try.prog 3 t62_9 w.drew) fun t63_9 =>
  wpB (bp Try.prog .add 3 t63_9 (Go.Value.int Go.IntKind.i64 1)) fun t64_9 =>
  CallR Try.prog 50 [x1, t64_9] w.drew fun t65_9 w =>
  wpB (ldv Try.prog 51 x8 w) fun t70_9 =>
  CallR Try.prog 50 [x1, (Go.Value.int Go.IntKind.i64 2)] w fun t67_9 w =>
  wpB (bp Try.prog .sub 3 t65_9 t67_9) fun t68_9 =>
  wpB (ldv Try.prog 40 x7 w) fun t69_9 =>
  effu Try.prog (Instr.storeAt 40 x5 t69_9) w fun w =>
  effu Try.prog (Instr.storeAt 51 x6 t70_9) w fun w =>
  wpB (ldv Try.prog 40 x5 w) fun r5_9 => wpB (ldv Try.prog 51 x6 w) fun r6_9 => Q (.tuple #[t68_9, r5_9, r6_9]) w) ∧
  ((wpB (nilv x0) fun t60_10 =>
  wpB (pureRun Try.prog (Instr.fieldAt 92 t60_10 0)) fun t61_10 =>
  wpB (pureRun Try.prog (Instr.fieldAt 74 t61_10 0)) fun t62_10 =>
  wpB (ldv Try.prog 3 t62_10 w.drew) fun t63_10 =>
  wpB (bp Try.prog .add 3 t63_10 (Go.Value.int Go.IntKind.i64 1)) fun t64_10 =>
  CallR Try.prog 50 [x1, t64_10] w.drew fun t65_10 w =>
  CallR Try.prog 50 [x1, (Go.Value.int Go.IntKind.i64 2)] w fun t67_10 w =>
  wpB (bp Try.prog .sub 3 t65_10 t67_10) fun t68_10 =>
  wpB (ldv Try.prog 40 x7 w) fun t69_10 =>
  wpB (ldv Try.prog 51 x8 w) fun t70_10 =>
  effu Try.prog (Instr.storeAt 40 x5 t69_10) w fun w =>
  effu Try.prog (Instr.storeAt 51 x6 t70_10) w fun w =>
  wpB (ldv Try.prog 40 x5 w) fun r5_10 => wpB (ldv Try.prog 51 x6 w) fun r6_10 => Q (.tuple #[t68_10, r5_10, r6_10]) w) ∧
  (wpB (nilv x0) fun t60_11 =>
  wpB (pureRun Try.prog (Instr.fieldAt 92 t60_11 0)) fun t61_11 =>
  wpB (pureRun Try.prog (Instr.fieldAt 74 t61_11 0)) fun t62_11 =>
  wpB (ldv Try.prog 3 t62_11 w.drew) fun t63_11 =>
  wpB (bp Try.prog .add 3 t63_11 (Go.Value.int Go.IntKind.i64 1)) fun t64_11 =>
  CallR Try.prog 50 [x1, t64_11] w.drew fun t65_11 w =>
  CallR Try.prog 50 [x1, (Go.Value.int Go.IntKind.i64 2)] w fun t67_11 w =>
  wpB (bp Try.prog .sub 3 t65_11 t67_11) fun t68_11 =>
  wpB (ldv Try.prog 40 x7 w) fun t69_11 =>
  effu Try.prog (Instr.storeAt 40 x5 t69_11) w fun w =>
  wpB (ldv Try.prog 51 x8 w) fun t70_11 =>
  effu Try.prog (Instr.storeAt 51 x6 t70_11) w fun w =>
  wpB (ldv Try.prog 40 x5 w) fun r5_11 => wpB (ldv Try.prog 51 x6 w) fun r6_11 => Q (.tuple #[t68_11, r5_11, r6_11]) w)))))
theorem F52_ok {a0 a1 : Value} {w : World} {Q : Value → World → Prop} (h : F52 a0 a1 w Q) : CallR Try.prog 52 [a0, a1] w Q :=
  have e : evC Try.prog (entR 3 143) 52 71 H52 Q C52 [] (entryE 0 [a0, a1]) w (contT Try.prog (entR 3 143) 52 71 H52 Try.f52.results.toList Q []) = F52 a0 a1 w Q := by kernel_rfl
  bt (fn := Try.f52) mixed bn Try.func52 (c := C52) rfl H52 (Nat.le_of_ble_eq_true rfl) (e.mpr h)
theorem L52_0_ok {x0 x1 x5 x6 x7 x8 : Value} {w : World} {Q : Value → World → Prop} (h : L52_0 x0 x1 x5 x6 x7 x8 w Q) : P52_0 x0 x1 x5 x6 x7 x8 w Q :=
  have e : evC Try.prog (entR 3 143) 52 71 H52 Q (nav [1, 1, 1, 1, 1] C52) [] (unpack [0, 1, 5, 6, 7, 8] [x0, x1, x5, x6, x7, x8]) w (contT Try.prog (entR 3 143) 52 71 H52 Try.f52.results.toList Q []) = L52_0 x0 x1 x5 x6 x7 x8 w Q := by kernel_rfl
  bx (fn := Try.f52) mixed bn Try.func52 H52 (c := (nav [1, 1, 1, 1, 1] C52)) (t := []) (e.mpr h)

noncomputable def C54 : Code := (Try.f54.body).getD .skip
noncomputable def H54 : Hints := ⟨[], [(6, [0, 1, 6, 7, 8, 10]), (41, [8, 11])], [(12, (.leaf [0, 1, 2, 3, 4, 5, 6, 7, 8, 9, 10, 11, 12, 13]))]⟩
noncomputable def T54_0 : List It := [.jn (nav [1, 1, 1, 1] C54)]
noncomputable def T54_1 : List It := [.jn (nav [1, 1, 1, 1, 1, 1] C54)]
def P54_0 (x0 x1 x6 x7 x8 x10 : Value) (w : World) (Q : Value → World → Prop) : Prop := Part Try.prog 54 T54_0 [0, 1, 6, 7, 8, 10] [x0, x1, x6, x7, x8, x10] w Q
def P54_1 (x8 x11 : Value) (w : World) (Q : Value → World → Prop) : Prop := Part Try.prog 54 T54_1 [8, 11] [x8, x11] w Q
def F54 (a0 a1 a2 a3 : Value) (w : World) (Q : Value → World → Prop) : Prop :=
  effv Try.prog (Instr.box 40 a2) w fun t6 w =>
  effv Try.prog (Instr.box 51 a3) w fun t7 w =>
  effv Try.prog (Instr.alloc 53 true (.tuple #[])) w fun t8 w =>
  wpB (ldv Try.prog 40 t6 w) fun t13 =>
  wpB (ldv Try.prog 51 t7 w) fun t14 =>
  CallR Try.prog 91 [a0, t13, t14] w fun t15 w =>
  wpB (pureRun Try.prog (Op.unary .not t15)) fun t16 =>
  cnd t16
  (wpB (pureRun Try.prog (Instr.build 53 #[(0, (Go.Value.int Go.IntKind.i64 2))])) fun t17 =>
  effu Try.prog (Instr.storeAt 53 t8 t17) w fun w =>
  wpB (ldv Try.prog 53 t8 w) fun r8 => Q (.tuple #[r8, (Go.Value.bool true)]) w)
  (wpB (pureRun Try.prog (Instr.fieldAt 40 t6 0)) fun t18 =>
  wpB (ldv Try.prog 3 t18 w) fun t19 =>
  CallR Try.prog 63 [t19] w fun t20 w =>
  wpB (be Try.prog .neq 3 (.tmp 20) (.const (Go.Value.int Go.IntKind.i64 0)) t20 (Go.Value.int Go.IntKind.i64 0)) fun t21 =>
  cnd t21
  (wpB (pureRun Try.prog (Instr.fieldAt 51 t7 0)) fun t23 =>
  wpB (ldv Try.prog 3 t23 w) fun t24 =>
  wpB (pureRun Try.prog (Instr.fieldAt 51 t7 1)) fun t25 =>
  wpB (ldv Try.prog 3 t25 w) fun t26 =>
  CallR Try.prog 92 [a0, t24, t26] w fun t27 w =>
  P54_0 a0 a1 t6 t7 t8 t27 w Q)
  (P54_0 a0 a1 t6 t7 t8 (Go.Value.int Go.IntKind.i64 (-1)) w Q))
def L54_0 (x0 x1 x6 x7 x8 x10 : Value) (w : World) (Q : Value → World → Prop) : Prop :=
  wpB (pureRun Try.prog (Instr.fieldAt 40 x6 0)) fun t28 =>
  wpB (ldv Try.prog 3 t28 w) fun t29 =>
  wpB (be Try.prog .eql 3 (.tmp 29) (.const (Go.Value.int Go.IntKind.i64 1)) t29 (Go.Value.int Go.IntKind.i64 1)) fun t37 =>
  cnd t37
  (wpB (pureRun Try.prog (Instr.build 53 #[])) fun t38 =>
  effu Try.prog (Instr.storeAt 53 x8 t38) w fun w =>
  wpB (ldv Try.prog 53 x8 w) fun r8 => Q (.tuple #[r8, (Go.Value.bool false)]) w)
  (wpB (be Try.prog .eql 3 (.tmp 29) (.const (Go.Value.int Go.IntKind.i64 2)) t29 (Go.Value.int Go.IntKind.i64 2)) fun t40 =>
  cnd t40
  (wpB (pureRun Try.prog (Instr.fieldAt 40 x6 3)) fun t42 =>
  wpB (ldv Try.prog 3 t42 w.drew) fun t43 =>
  wpB (bp Try.prog .lss 3 t43 (Go.Value.int Go.IntKind.i64 1)) fun t44 =>
  wpB (gd t44 false (pureRun Try.prog (Instr.fieldAt 40 x6 3))) fun t46 =>
  wpB (gd t44 false (ldv Try.prog 3 t46 w.drew)) fun t47 =>
  wpB (gd t44 false (nilv (gv t44 false x0))) fun t49 =>
  wpB (gd t44 false (pureRun Try.prog (Instr.fieldAt 154 t49 0))) fun t50 =>
  wpB (gd t44 false (pureRun Try.prog (Instr.fieldAt 74 t50 2))) fun t51 =>
  wpB (gd t44 false (ldv Try.prog 3 t51 w.drew)) fun t52 =>
  wpB (gd t44 false (bp Try.prog .gtr 3 t47 t52)) fun t53 =>
  wpB (pickv t44 (some (Go.Value.bool true)) (some t53)) fun t54 =>
  cnd t54
  (wpB (pureRun Try.prog (Instr.build 53 #[(0, (Go.Value.int Go.IntKind.i64 5))])) fun t55 =>
  effu Try.prog (Instr.storeAt 53 x8 t55) w.drew fun w =>
  wpB (ldv Try.prog 53 x8 w) fun r8_1 => Q (.tuple #[r8_1, (Go.Value.bool true)]) w)
  (wpB (nilv x0) fun t58 =>
  wpB (pureRun Try.prog (Instr.fieldAt 154 t58 4)) fun t59 =>
  wpB (ldv Try.prog 151 t59 w.drew) fun t60 =>
  wpB (pureRun Try.prog (Instr.indexAt 151 t60 x10)) fun t62 =>
  wpB (pureRun Try.prog (Instr.fieldAt 158 t62 4)) fun t63 =>
  wpB (ldv Try.prog 4 t63 w.drew) fun t64 =>
  wpB (pureRun Try.prog (Op.unary .not t64)) fun t65 =>
  cnd t65
  (wpB (pureRun Try.prog (Instr.build 53 #[(0, (Go.Value.int Go.IntKind.i64 3))])) fun t66 =>
  effu Try.prog (Instr.storeAt 53 x8 t66) w.drew fun w =>
  wpB (ldv Try.prog 53 x8 w) fun r8_2 => Q (.tuple #[r8_2, (Go.Value.bool true)]) w)
  (wpB (pureRun Try.prog (Instr.build 53 #[])) fun t67 =>
  effu Try.prog (Instr.storeAt 53 x8 t67) w.drew fun w =>
  wpB (ldv Try.prog 53 x8 w) fun r8_3 => Q (.tuple #[r8_3, (Go.Value.bool false)]) w)))
  (wpB (be Try.prog .eql 3 (.tmp 29) (.const (Go.Value.int Go.IntKind.i64 3)) t29 (Go.Value.int Go.IntKind.i64 3)) fun t69 =>
  cnd t69
  (wpB (nilv x0) fun t71 =>
  wpB (pureRun Try.prog (Instr.fieldAt 154 t71 5)) fun t72 =>
  wpB (ldv Try.prog 23 t72 w) fun t73 =>
  wpB (pureRun Try.prog (Instr.indexAt 23 t73 x1)) fun t75 =>
  wpB (ldv Try.prog 3 t75 w) fun t76 =>
  wpB (be Try.prog .eql 3 (.tmp 76) (.const (Go.Value.int Go.IntKind.i64 15)) t76 (Go.Value.int Go.IntKind.i64 15)) fun t77 =>
  cnd t77
  (P54_1 x8 (Go.Value.int Go.IntKind.i64 8) w Q)
  (P54_1 x8 (Go.Value.int Go.IntKind.i64 0) w Q))
  (wpB (be Try.prog .eql 3 (.tmp 29) (.const (Go.Value.int Go.IntKind.i64 4)) t29 (Go.Value.int Go.IntKind.i64 4)) fun t79 =>
  cnd t79
  (wpB (nilv x0) fun t81 =>
  wpB (pureRun Try.prog (Instr.fieldAt 154 t81 5)) fun t82 =>
  wpB (ldv Try.prog 23 t82 w) fun t83 =>
  wpB (pureRun Try.prog (Instr.indexAt 23 t83 x1)) fun t85 =>
  wpB (ldv Try.prog 3 t85 w) fun t86 =>
  wpB (be Try.prog .eql 3 (.tmp 86) (.const (Go.Value.int Go.IntKind.i64 0)) t86 (Go.Value.int Go.IntKind.i64 0)) fun t87 =>
  cnd t87
  (P54_1 x8 (Go.Value.int Go.IntKind.i64 4) w Q)
  (P54_1 x8 (Go.Value.int Go.IntKind.i64 0) w Q))
  (wpB (be Try.prog .eql 3 (.tmp 29) (.const (Go.Value.int Go.IntKind.i64 5)) t29 (Go.Value.int Go.IntKind.i64 5)) fun t89 =>
  cnd t89
  (wpB (nilv x0) fun t92 =>
  wpB (pureRun Try.prog (Instr.fieldAt 154 t92 5)) fun t93 =>
  wpB (ldv Try.prog 23 t93 w) fun t94 =>
  wpB (pureRun Try.prog (Instr.indexAt 23 t94 x1)) fun t96 =>
  wpB (ldv Try.prog 3 t96 w) fun t97 =>
  wpB (be Try.prog .eql 3 (.tmp 97) (.const (Go.Value.int Go.IntKind.i64 0)) t97 (Go.Value.int Go.IntKind.i64 0)) fun t98 =>
  cnd t98
  (P54_1 x8 (Go.Value.int Go.IntKind.i64 4) w Q)
  (wpB (pureRun Try.prog (Instr.fieldAt 51 x7 0)) fun t102 =>
  wpB (ldv Try.prog 3 t102 w) fun t103 =>
  wpB (pureRun Try.prog (Instr.fieldAt 51 x7 1)) fun t104 =>
  wpB (ldv Try.prog 3 t104 w) fun t105 =>
  CallR Try.prog 93 [x0, x1, t103, t105] w fun t106 w =>
  cnd t106
  (P54_1 x8 (Go.Value.int Go.IntKind.i64 0) w Q)
  (wpB (nilv x0) fun t109 =>
  wpB (pureRun Try.prog (Instr.fieldAt 154 t109 6)) fun t110 =>
  wpB (ldv Try.prog 152 t110 w) fun t111 =>
  wpB (pureRun Try.prog (Instr.indexAt 152 t111 x1)) fun t113 =>
  wpB (ldv Try.prog 159 t113 w) fun t114 =>
  wpB (pureRun Try.prog (Builtin.len_ #[159] 3 #[t114])) fun t115 =>
  wpB (be Try.prog .eql 3 (.tmp 115) (.const (Go.Value.int Go.IntKind.i64 8)) t115 (Go.Value.int Go.IntKind.i64 8)) fun t116 =>
  cnd t116
  (P54_1 x8 (Go.Value.int Go.IntKind.i64 8) w Q)
  (wpB (nilv x0) fun t119 =>
  wpB (pureRun Try.prog (Instr.fieldAt 154 t119 4)) fun t120 =>
  wpB (ldv Try.prog 151 t120 w) fun t121 =>
  wpB (pureRun Try.prog (Instr.indexAt 151 t121 x10)) fun t123 =>
  wpB (pureRun Try.prog (Instr.fieldAt 158 t123 4)) fun t124 =>
  wpB (ldv Try.prog 4 t124 w) fun t125 =>
  wpB (pureRun Try.prog (Op.unary .not t125)) fun t126 =>
  cnd t126
  (P54_1 x8 (Go.Value.int Go.IntKind.i64 3) w Q)
  (P54_1 x8 (Go.Value.int Go.IntKind.i64 0) w Q)))))
  (wpB (be Try.prog .eql 3 (.tmp 29) (.const (Go.Value.int Go.IntKind.i64 10)) t29 (Go.Value.int Go.IntKind.i64 10)) fun t128 =>
  cnd t128
  (wpB (nilv x0) fun t130 =>
  wpB (pureRun Try.prog (Instr.fieldAt 154 t130 4)) fun t131 =>
  wpB (ldv Try.prog 151 t131 w) fun t132 =>
  wpB (pureRun Try.prog (Instr.indexAt 151 t132 x10)) fun t134 =>
  wpB (pureRun Try.prog (Instr.fieldAt 158 t134 4)) fun t135 =>
  wpB (ldv Try.prog 4 t135 w) fun t136 =>
  wpB (pureRun Try.prog (Op.unary .not t136)) fun t137 =>
  cnd t137
  (P54_1 x8 (Go.Value.int Go.IntKind.i64 3) w Q)
  (P54_1 x8 (Go.Value.int Go.IntKind.i64 0) w Q))
  (wpB (be Try.prog .eql 3 (.tmp 29) (.const (Go.Value.int Go.IntKind.i64 12)) t29 (Go.Value.int Go.IntKind.i64 12)) fun t139 =>
  cnd t139
  (wpB (nilv x0) fun t141 =>
  wpB (pureRun Try.prog (Instr.fieldAt 154 t141 4)) fun t142 =>
  wpB (ldv Try.prog 151 t142 w) fun t143 =>
  wpB (pureRun Try.prog (Instr.indexAt 151 t143 x10)) fun t145 =>
  wpB (pureRun Try.prog (Instr.fieldAt 158 t145 4)) fun t146 =>
  wpB (ldv Try.prog 4 t146 w) fun t147 =>
  wpB (pureRun Try.prog (Op.unary .not t147)) fun t148 =>
  cnd t148
  (wpB (pureRun Try.prog (Instr.build 53 #[(0, (Go.Value.int Go.IntKind.i64 3))])) fun t149 =>
  effu Try.prog (Instr.storeAt 53 x8 t149) w fun w =>
  wpB (ldv Try.prog 53 x8 w) fun r8_4 => Q (.tuple #[r8_4, (Go.Value.bool true)]) w)
  (wpB (nilv x0) fun t151 =>
  wpB (pureRun Try.prog (Instr.fieldAt 154 t151 4)) fun t152 =>
  wpB (ldv Try.prog 151 t152 w) fun t153 =>
  wpB (pureRun Try.prog (Instr.indexAt 151 t153 x10)) fun t155 =>
  wpB (pureRun Try.prog (Instr.fieldAt 158 t155 3)) fun t156 =>
  wpB (ldv Try.prog 3 t156 w) fun t157 =>
  wpB (pureRun Try.prog (Instr.build 53 #[(2, t157)])) fun t158 =>
  effu Try.prog (Instr.storeAt 53 x8 t158) w fun w =>
  wpB (ldv Try.prog 53 x8 w) fun r8_5 => Q (.tuple #[r8_5, (Go.Value.bool true)]) w))
  (wpB (be Try.prog .eql 3 (.tmp 29) (.const (Go.Value.int Go.IntKind.i64 11)) t29 (Go.Value.int Go.IntKind.i64 11)) fun t160 =>
  cnd t160
  (P54_1 x8 (Go.Value.int Go.IntKind.i64 0) w Q)
  (wpB (ldv Try.prog 40 x6 w) fun t33 =>
  wpB (ldv Try.prog 51 x7 w) fun t34 =>
  CallR Try.prog 94 [x0, x1, x10, t33, t34] w fun t35 w =>
  effu Try.prog (Instr.storeAt 53 x8 t35) w fun w =>
  wpB (ldv Try.prog 53 x8 w) fun r8_6 => Q (.tuple #[r8_6, (Go.Value.bool true)]) w))))))))
def L54_1 (x8 x11 : Value) (w : World) (Q : Value → World → Prop) : Prop :=
  wpB (pureRun Try.prog (Instr.build 53 #[(0, x11)])) fun t162 =>
  effu Try.prog (Instr.storeAt 53 x8 t162) w fun w =>
  wpB (ldv Try.prog 53 x8 w) fun r8 => Q (.tuple #[r8, (Go.Value.bool true)]) w
theorem F54_ok {a0 a1 a2 a3 : Value} {w : World} {Q : Value → World → Prop} (h : F54 a0 a1 a2 a3 w Q) : CallR Try.prog 54 [a0, a1, a2, a3] w Q :=
  have e : evC Try.prog (entR 3 143) 54 163 H54 Q C54 [] (entryE 0 [a0, a1, a2, a3]) w (contT Try.prog (entR 3 143) 54 163 H54 Try.f54.results.toList Q []) = F54 a0 a1 a2 a3 w Q := by kernel_rfl
  bt (fn := Try.f54) mixed bn Try.func54 (c := C54) rfl H54 (Nat.le_of_ble_eq_true rfl) (e.mpr h)
theorem L54_0_ok {x0 x1 x6 x7 x8 x10 : Value} {w : World} {Q : Value → World → Prop} (h : L54_0 x0 x1 x6 x7 x8 x10 w Q) : P54_0 x0 x1 x6 x7 x8 x10 w Q :=
  have e : evC Try.prog (entR 3 143) 54 163 H54 Q (nav [1, 1, 1, 1] C54) [] (unpack [0, 1, 6, 7, 8, 10] [x0, x1, x6, x7, x8, x10]) w (contT Try.prog (entR 3 143) 54 163 H54 Try.f54.results.toList Q []) = L54_0 x0 x1 x6 x7 x8 x10 w Q := by kernel_rfl
  bx (fn := Try.f54) mixed bn Try.func54 H54 (c := (nav [1, 1, 1, 1] C54)) (t := []) (e.mpr h)
theorem L54_1_ok {x8 x11 : Value} {w : World} {Q : Value → World → Prop} (h : L54_1 x8 x11 w Q) : P54_1 x8 x11 w Q :=
  have e : evC Try.prog (entR 3 143) 54 163 H54 Q (nav [1, 1, 1, 1, 1, 1] C54) [] (unpack [8, 11] [x8, x11]) w (contT Try.prog (entR 3 143) 54 163 H54 Try.f54.results.toList Q []) = L54_1 x8 x11 w Q := by kernel_rfl
  bx (fn := Try.f54) mixed bn Try.func54 H54 (c := (nav [1, 1, 1, 1, 1, 1] C54)) (t := []) (e.mpr h)

noncomputable def C55 : Code := (Try.f55.body).getD .skip
noncomputable def H55 : Hints := ⟨[], [(6, [0, 1, 2, 8, 9, 10, 11, 12]), (14, [0, 1, 2, 9, 10, 14]), (18, [1, 10, 14, 16]), (19, [1, 10, 14])], [(2, (.ask 0 2 (.ask 4 6 (.leaf [0, 1, 2, 3, 4, 5, 6, 7, 8, 9, 10, 11]) (.ask 4 8 (.leaf [1, 5, 7, 0, 2, 3, 6, 4, 8, 9, 10, 11]) (.leaf [1, 5, 7, 0, 2, 3, 6, 8, 9, 4, 10, 11]))) (.ask 0 6 (.ask 4 6 (.leaf [1, 5, 7, 2, 0, 3, 4, 6, 8, 9, 10, 11]) (.ask 4 8 (.leaf [1, 5, 7, 2, 0, 3, 6, 4, 8, 9, 10, 11]) (.leaf [1, 5, 7, 2, 0, 3, 6, 8, 9, 4, 10, 11]))) (.ask 0 8 (.ask 4 8 (.leaf [1, 5, 7, 2, 6, 0, 3, 4, 8, 9, 10, 11]) (.leaf [1, 5, 7, 2, 6, 0, 3, 8, 9, 4, 10, 11])) (.leaf [1, 5, 7, 2, 6, 8, 9, 0, 3, 4, 10, 11]))))), (5, (.ask 11 7 (.leaf [0, 1, 2, 4, 3, 5, 6, 11, 7, 8, 9, 10, 12, 13]) (.leaf [0, 1, 2, 3, 4, 5, 6, 7, 8, 9, 10, 11, 12, 13]))), (13, (.ask 1 10 (.ask 3 10 (.ask 12 10 (.ask 14 10 (.leaf [0, 2, 4, 5, 6, 7, 8, 11, 1, 3, 9, 12, 14, 10, 13, 15]) (.leaf [0, 2, 4, 5, 6, 7, 8, 11, 1, 3, 9, 12, 10, 13, 14, 15])) (.ask 14 10 (.leaf [0, 2, 4, 5, 6, 7, 8, 11, 1, 3, 9, 14, 10, 12, 13, 15]) (.leaf [0, 1, 2, 3, 4, 5, 6, 7, 8, 9, 10, 11, 12, 13, 14, 15]))) (.ask 12 10 (.ask 14 10 (.leaf [0, 2, 4, 5, 6, 7, 8, 11, 1, 9, 12, 14, 10, 3, 13, 15]) (.leaf [0, 2, 4, 5, 6, 7, 8, 11, 1, 9, 12, 10, 3, 13, 14, 15])) (.ask 14 10 (.leaf [0, 2, 4, 5, 6, 7, 8, 11, 1, 9, 14, 10, 3, 12, 13, 15]) (.leaf [0, 2, 4, 5, 6, 7, 8, 11, 1, 9, 10, 3, 12, 13, 14, 15])))) (.ask 3 10 (.ask 12 10 (.ask 14 10 (.leaf [0, 2, 4, 5, 6, 7, 8, 11, 3, 9, 12, 14, 10, 1, 13, 15]) (.leaf [0, 2, 4, 5, 6, 7, 8, 11, 3, 9, 12, 10, 1, 13, 14, 15])) (.ask 14 10 (.leaf [0, 2, 4, 5, 6, 7, 8, 11, 3, 9, 14, 10, 1, 12, 13, 15]) (.leaf [0, 2, 4, 5, 6, 7, 8, 11, 3, 9, 10, 1, 12, 13, 14, 15]))) (.ask 12 10 (.ask 14 10 (.leaf [0, 2, 4, 5, 6, 7, 8, 11, 9, 12, 14, 10, 1, 3, 13, 15]) (.leaf [0, 2, 4, 5, 6, 7, 8, 11, 9, 12, 10, 1, 3, 13, 14, 15])) (.ask 14 10 (.leaf [0, 2, 4, 5, 6, 7, 8, 11, 9, 14, 10, 1, 3, 12, 13, 15]) (.leaf [0, 2, 4, 5, 6, 7, 8, 11, 9, 10, 1, 3, 12, 13, 14, 15])))))), (14, (.leaf [0, 1, 2, 3, 4, 5, 6, 7])), (17, (.ask 15 11 (.leaf [0, 1, 2, 4, 5, 6, 8, 3, 7, 9, 10, 15, 11, 12, 13, 14, 16, 17]) (.leaf [0, 1, 2, 3, 4, 5, 6, 7, 8, 9, 10, 11, 12, 13, 14, 15, 16, 17])))]⟩
noncomputable def T55_0 : List It := [.jn (nav [1, 1, 1, 1] C55)]
noncomputable def T55_1 : List It := [.jn (nav [1, 1, 1, 1, 1, 1, 1] C55)]
noncomputable def T55_2 : List It := [.jn (nav [1, 1, 1, 1, 1, 1, 1, 1, 0, 1, 2, 1, 1] C55), .jn (nav [1, 1, 1, 1, 1, 1, 1, 1, 1] C55)]
noncomputable def T55_3 : List It := [.jn (nav [1, 1, 1, 1, 1, 1, 1, 1, 1] C55)]
def P55_0 (x0 x1 x2 x8 x9 x10 x11 x12 : Value) (w : World) (Q : Value → World → Prop) : Prop := Part Try.prog 55 T55_0 [0, 1, 2, 8, 9, 10, 11, 12] [x0, x1, x2, x8, x9, x10, x11, x12] w Q
def P55_1 (x0 x1 x2 x9 x10 x14 : Value) (w : World) (Q : Value → World → Prop) : Prop := Part Try.prog 55 T55_1 [0, 1, 2, 9, 10, 14] [x0, x1, x2, x9, x10, x14] w Q
def P55_2 (x1 x10 x14 x16 : Value) (w : World) (Q : Value → World → Prop) : Prop := Part Try.prog 55 T55_2 [1, 10, 14, 16] [x1, x10, x14, x16] w Q
def P55_3 (x1 x10 x14 : Value) (w : World) (Q : Value → World → Prop) : Prop := Part Try.prog 55 T55_3 [1, 10, 14] [x1, x10, x14] w Q
def F55 (a0 a1 a2 a3 a4 : Value) (w : World) (Q : Value → World → Prop) : Prop :=
  effv Try.prog (Instr.box 40 a3) w fun t8 w =>
  effv Try.prog (Instr.box 51 a4) w fun t9 w =>
  effv Try.prog (Instr.alloc 53 true (.tuple #[])) w fun t10 w =>
  CallR Try.prog 50 [a1, (Go.Value.int Go.IntKind.i64 8)] w fun t19 w =>
  wpB (be Try.prog .eql 3 (.tmp 19) (.const (Go.Value.int Go.IntKind.i64 0)) t19 (Go.Value.int Go.IntKind.i64 0)) fun t20 =>
  cnd t20
  (((effv Try.prog (Instr.buildSlice 161 6 #[(0, (Go.Value.int Go.IntKind.i64 0)), (1, (Go.Value.int Go.IntKind.i64 3)), (2, (Go.Value.int Go.IntKind.i64 4)), (3, (Go.Value.int Go.IntKind.i64 7)), (4, (Go.Value.int Go.IntKind.i64 6)), (5, (Go.Value.int Go.IntKind.i64 2))]) w.drew fun t21 w =>
  CallR Try.prog 50 [a1, (Go.Value.int Go.IntKind.i64 6)] w fun t23 w =>
  wpB (pureRun Try.prog (Instr.indexAt 161 t21 t23)) fun t24 =>
  wpB (ldv Try.prog 29 t24 w) fun t25 =>
  CallR Try.prog 50 [a1, (Go.Value.int Go.IntKind.i64 2)] w fun t27 w =>
  CallR Try.prog 50 [a1, (Go.Value.int Go.IntKind.i64 3)] w fun t29 w =>
  wpB (pureRun Try.prog (convert 3 38 t29)) fun t30 =>
  wpB (pureRun Try.prog (Instr.build 53 #[(0, t25), (2, t27), (3, t30)])) fun t31 =>
  effu Try.prog (Instr.storeAt 53 t10 t31) w fun w =>
  wpB (ldv Try.prog 53 t10 w) fun r10 => Q r10 w) ∧
  ((effv Try.prog (Instr.buildSlice 161 6 #[(0, (Go.Value.int Go.IntKind.i64 0)), (1, (Go.Value.int Go.IntKind.i64 3)), (2, (Go.Value.int Go.IntKind.i64 4)), (3, (Go.Value.int Go.IntKind.i64 7)), (4, (Go.Value.int Go.IntKind.i64 6)), (5, (Go.Value.int Go.IntKind.i64 2))]) w.drew fun t21_1 w =>
  CallR Try.prog 50 [a1, (Go.Value.int Go.IntKind.i64 6)] w fun t23_1 w =>
  wpB (pureRun Try.prog (Instr.indexAt 161 t21_1 t23_1)) fun t24_1 =>
  CallR Try.prog 50 [a1, (Go.Value.int Go.IntKind.i64 2)] w fun t27_1 w =>
  wpB (ldv Try.prog 29 t24_1 w) fun t25_1 =>
  CallR Try.prog 50 [a1, (Go.Value.int Go.IntKind.i64 3)] w fun t29_1 w =>
  wpB (pureRun Try.prog (convert 3 38 t29_1)) fun t30_1 =>
  wpB (pureRun Try.prog (Instr.build 53 #[(0, t25_1), (2, t27_1), (3, t30_1)])) fun t31_1 =>
  effu Try.prog (Instr.storeAt 53 t10 t31_1) w fun w =>
  wpB (ldv Try.prog 53 t10 w) fun r10_1 => Q r10_1 w) ∧
  (effv Try.prog (Instr.buildSlice 161 6 #[(0, (Go.Value.int Go.IntKind.i64 0)), (1, (Go.Value.int Go.IntKind.i64 3)), (2, (Go.Value.int Go.IntKind.i64 4)), (3, (Go.Value.int Go.IntKind.i64 7)), (4, (Go.Value.int Go.IntKind.i64 6)), (5, (Go.Value.int Go.IntKind.i64 2))]) w.drew fun t21_2 w =>
  CallR Try.prog 50 [a1, (Go.Value.int Go.IntKind.i64 6)] w fun t23_2 w =>
  wpB (pureRun Try.prog (Instr.indexAt 161 t21_2 t23_2)) fun t24_2 =>
  CallR Try.prog 50 [a1, (Go.Value.int Go.IntKind.i64 2)] w fun t27_2 w =>
  CallR Try.prog 50 [a1, (Go.Value.int Go.IntKind.i64 3)] w fun t29_2 w =>
  wpB (pureRun Try.prog (convert 3 38 t29_2)) fun t30_2 =>
  wpB (ldv Try.prog 29 t24_2 w) fun t25_2 =>
  wpB (pureRun Try.prog (Instr.build 53 #[(0, t25_2), (2, t27_2), (3, t30_2)])) fun t31_2 =>
  effu Try.prog (Instr.storeAt 53 t10 t31_2) w fun w =>
  wpB (ldv Try.prog 53 t10 w) fun r10_2 => Q r10_2 w))) ∧
  (((CallR Try.prog 50 [a1, (Go.Value.int Go.IntKind.i64 6)] w.drew fun t23_3 w =>
  effv Try.prog (Instr.buildSlice 161 6 #[(0, (Go.Value.int Go.IntKind.i64 0)), (1, (Go.Value.int Go.IntKind.i64 3)), (2, (Go.Value.int Go.IntKind.i64 4)), (3, (Go.Value.int Go.IntKind.i64 7)), (4, (Go.Value.int Go.IntKind.i64 6)), (5, (Go.Value.int Go.IntKind.i64 2))]) w fun t21_3 w =>
  wpB (pureRun Try.prog (Instr.indexAt 161 t21_3 t23_3)) fun t24_3 =>
  wpB (ldv Try.prog 29 t24_3 w) fun t25_3 =>
  CallR Try.prog 50 [a1, (Go.Value.int Go.IntKind.i64 2)] w fun t27_3 w =>
  CallR Try.prog 50 [a1, (Go.Value.int Go.IntKind.i64 3)] w fun t29_3 w =>
  wpB (pureRun Try.prog (convert 3 38 t29_3)) fun t30_3 =>
  wpB (pureRun Try.prog (Instr.build 53 #[(0, t25_3), (2, t27_3), (3, t30_3)])) fun t31_3 =>
  effu Try.prog (Instr.storeAt 53 t10 t31_3) w fun w =>
  wpB (ldv Try.prog 53 t10 w) fun r10_3 => Q r10_3 w) ∧
  ((CallR Try.prog 50 [a1, (Go.Value.int Go.IntKind.i64 6)] w.drew fun t23_4 w =>
  effv Try.prog (Instr.buildSlice 161 6 #[(0, (Go.Value.int Go.IntKind.i64 0)), (1, (Go.Value.int Go.IntKind.i64 3)), (2, (Go.Value.int Go.IntKind.i64 4)), (3, (Go.Value.int Go.IntKind.i64 7)), (4, (Go.Value.int Go.IntKind.i64 6)), (5, (Go.Value.int Go.IntKind.i64 2))]) w fun t21_4 w =>
  wpB (pureRun Try.prog (Instr.indexAt 161 t21_4 t23_4)) fun t24_4 =>
  CallR Try.prog 50 [a1, (Go.Value.int Go.IntKind.i64 2)] w fun t27_4 w =>
  wpB (ldv Try.prog 29 t24_4 w) fun t25_4 =>
  CallR Try.prog 50 [a1, (Go.Value.int Go.IntKind.i64 3)] w fun t29_4 w =>
  wpB (pureRun Try.prog (convert 3 38 t29_4)) fun t30_4 =>
  wpB (pureRun Try.prog (Instr.build 53 #[(0, t25_4), (2, t27_4), (3, t30_4)])) fun t31_4 =>
  effu Try.prog (Instr.storeAt 53 t10 t31_4) w fun w =>
  wpB (ldv Try.prog 53 t10 w) fun r10_4 => Q r10_4 w) ∧
  (CallR Try.prog 50 [a1, (Go.Value.int Go.IntKind.i64 6)] w.drew fun t23_5 w =>
  effv Try.prog (Instr.buildSlice 161 6 #[(0, (Go.Value.int Go.IntKind.i64 0)), (1, (Go.Value.int Go.IntKind.i64 3)), (2, (Go.Value.int Go.IntKind.i64 4)), (3, (Go.Value.int Go.IntKind.i64 7)), (4, (Go.Value.int Go.IntKind.i64 6)), (5, (Go.Value.int Go.IntKind.i64 2))]) w fun t21_5 w =>
  wpB (pureRun Try.prog (Instr.indexAt 161 t21_5 t23_5)) fun t24_5 =>
  CallR Try.prog 50 [a1, (Go.Value.int Go.IntKind.i64 2)] w fun t27_5 w =>
  CallR Try.prog 50 [a1, (Go.Value.int Go.IntKind.i64 3)] w fun t29_5 w =>
  wpB (pureRun Try.prog (convert 3 38 t29_5)) fun t30_5 =>
  wpB (ldv Try.prog 29 t24_5 w) fun t25_5 =>
  wpB (pureRun Try.prog (Instr.build 53 #[(0, t25_5), (2, t27_5), (3, t30_5)])) fun t31_5 =>
  effu Try.prog (Instr.storeAt 53 t10 t31_5) w fun w =>
  wpB (ldv Try.prog 53 t10 w) fun r10_5 => Q r10_5 w))) ∧
  (((CallR Try.prog 50 [a1, (Go.Value.int Go.IntKind.i64 6)] w.drew fun t23_6 w =>
  CallR Try.prog 50 [a1, (Go.Value.int Go.IntKind.i64 2)] w fun t27_6 w =>
  effv Try.prog (Instr.buildSlice 161 6 #[(0, (Go.Value.int Go.IntKind.i64 0)), (1, (Go.Value.int Go.IntKind.i64 3)), (2, (Go.Value.int Go.IntKind.i64 4)), (3, (Go.Value.int Go.IntKind.i64 7)), (4, (Go.Value.int Go.IntKind.i64 6)), (5, (Go.Value.int Go.IntKind.i64 2))]) w fun t21_6 w =>
  wpB (pureRun Try.prog (Instr.indexAt 161 t21_6 t23_6)) fun t24_6 =>
  wpB (ldv Try.prog 29 t24_6 w) fun t25_6 =>
  CallR Try.prog 50 [a1, (Go.Value.int Go.IntKind.i64 3)] w fun t29_6 w =>
  wpB (pureRun Try.prog (convert 3 38 t29_6)) fun t30_6 =>
  wpB (pureRun Try.prog (Instr.build 53 #[(0, t25_6), (2, t27_6), (3, t30_6)])) fun t31_6 =>
  effu Try.prog (Instr.storeAt 53 t10 t31_6) w fun w =>
  wpB (ldv Try.prog 53 t10 w) fun r10_6 => Q r10_6 w) ∧
  (CallR Try.prog 50 [a1, (Go.Value.int Go.IntKind.i64 6)] w.drew fun t23_7 w =>
  CallR Try.prog 50 [a1, (Go.Value.int Go.IntKind.i64 2)] w fun t27_7 w =>
  effv Try.prog (Instr.buildSlice 161 6 #[(0, (Go.Value.int Go.IntKind.i64 0)), (1, (Go.Value.int Go.IntKind.i64 3)), (2, (Go.Value.int Go.IntKind.i64 4)), (3, (Go.Value.int Go.IntKind.i64 7)), (4, (Go.Value.int Go.IntKind.i64 6)), (5, (Go.Value.int Go.IntKind.i64 2))]) w fun t21_7 w =>
  wpB (pureRun Try.prog (Instr.indexAt 161 t21_7 t23_7)) fun t24_7 =>
  CallR Try.prog 50 [a1, (Go.Value.int Go.IntKind.i64 3)] w fun t29_7 w =>
  wpB (pureRun Try.prog (convert 3 38 t29_7)) fun t30_7 =>
  wpB (ldv Try.prog 29 t24_7 w) fun t25_7 =>
  wpB (pureRun Try.prog (Instr.build 53 #[(0, t25_7), (2, t27_7), (3, t30_7)])) fun t31_7 =>
  effu Try.prog (Instr.storeAt 53 t10 t31_7) w fun w =>
  wpB (ldv Try.prog 53 t10 w) fun r10_7 => Q r10_7 w)) ∧
  (CallR Try.prog 50 [a1, (Go.Value.int Go.IntKind.i64 6)] w.drew fun t23_8 w =>
  CallR Try.prog 50 [a1, (Go.Value.int Go.IntKind.i64 2)] w fun t27_8 w =>
  CallR Try.prog 50 [a1, (Go.Value.int Go.IntKind.i64 3)] w fun t29_8 w =>
  wpB (pureRun Try.prog (convert 3 38 t29_8)) fun t30_8 =>
  effv Try.prog (Instr.buildSlice 161 6 #[(0, (Go.Value.int Go.IntKind.i64 0)), (1, (Go.Value.int Go.IntKind.i64 3)), (2, (Go.Value.int Go.IntKind.i64 4)), (3, (Go.Value.int Go.IntKind.i64 7)), (4, (Go.Value.int Go.IntKind.i64 6)), (5, (Go.Value.int Go.IntKind.i64 2))]) w fun t21_8 w =>
  wpB (pureRun Try.prog (Instr.indexAt 161 t21_8 t23_8)) fun t24_8 =>
  wpB (ldv Try.prog 29 t24_8 w) fun t25_8 =>
  wpB (pureRun Try.prog (Instr.build 53 #[(0, t25_8), (2, t27_8), (3, t30_8)])) fun t31_8 =>
  effu Try.prog (Instr.storeAt 53 t10 t31_8) w fun w =>
  wpB (ldv Try.prog 53 t10 w) fun r10_8 => Q r10_8 w))))
  (wpB (bp Try.prog .lss 3 a2 (Go.Value.int Go.IntKind.i64 0)) fun t33 =>
  wpB (gd t33 false (nilv (gv t33 false a0))) fun t37 =>
  wpB (gd t33 false (pureRun Try.prog (Instr.fieldAt 92 t37 0))) fun t38 =>
  wpB (gd t33 false (pureRun Try.prog (Instr.fieldAt 74 t38 0))) fun t39 =>
  wpB (gd t33 false (ldv Try.prog 3 t39 w)) fun t40 =>
  wpB (gd t33 false (bp Try.prog .geq 3 (gv t33 false a2) t40)) fun t41 =>
  wpB (pickv t33 (some (Go.Value.bool true)) (some t41)) fun t42 =>
  wpB (gd t42 false (ldv Try.prog 40 t8 w)) fun t44 =>
  gE t42 false (CallR Try.prog 53 [t44] w) (fun t45 w =>
  wpB (gd t42 false (pureRun Try.prog (Op.unary .not t45))) fun t46 =>
  wpB (pickv t42 (some (Go.Value.bool true)) (some t46)) fun t47 =>
  cnd t47
  (wpB (pureRun Try.prog (Instr.build 53 #[])) fun t48 =>
  effu Try.prog (Instr.storeAt 53 t10 t48) w fun w =>
  wpB (ldv Try.prog 53 t10 w) fun r10_9 => Q r10_9 w)
  ((wpB (nilv a0) fun t51 =>
  wpB (pureRun Try.prog (Instr.fieldAt 92 t51 2)) fun t52 =>
  wpB (ldv Try.prog 89 t52 w.drew) fun t53 =>
  wpB (ldv Try.prog 40 t8 w.drew) fun t55 =>
  wpB (ldv Try.prog 51 t9 w.drew) fun t56 =>
  effv Try.prog (Instr.alloc 53 true (.tuple #[])) w.drew fun t11 w =>
  CallR Try.prog 54 [t53, a2, t55, t56] w fun t57 w =>
  wpB (pureRun Try.prog (Instr.extract t57 0)) fun t58 =>
  wpB (pureRun Try.prog (Instr.extract t57 1)) fun t59 =>
  effu Try.prog (Instr.storeAt 53 t11 t58) w fun w =>
  P55_0 a0 a1 a2 t8 t9 t10 t11 t59 w Q) ∧
  (wpB (nilv a0) fun t51_1 =>
  wpB (pureRun Try.prog (Instr.fieldAt 92 t51_1 2)) fun t52_1 =>
  wpB (ldv Try.prog 89 t52_1 w.drew) fun t53_1 =>
  wpB (ldv Try.prog 40 t8 w.drew) fun t55_1 =>
  wpB (ldv Try.prog 51 t9 w.drew) fun t56_1 =>
  CallR Try.prog 54 [t53_1, a2, t55_1, t56_1] w.drew fun t57_1 w =>
  wpB (pureRun Try.prog (Instr.extract t57_1 0)) fun t58_1 =>
  wpB (pureRun Try.prog (Instr.extract t57_1 1)) fun t59_1 =>
  effv Try.prog (Instr.alloc 53 true (.tuple #[])) w fun t11_1 w =>
  effu Try.prog (Instr.storeAt 53 t11_1 t58_1) w fun w =>
  P55_0 a0 a1 a2 t8 t9 t10 t11_1 t59_1 w Q))) w)
def L55_0 (x0 x1 x2 x8 x9 x10 x11 x12 : Value) (w : World) (Q : Value → World → Prop) : Prop :=
  cnd x12
  (wpB (ldv Try.prog 53 x11 w) fun t61 =>
  effu Try.prog (Instr.storeAt 53 x10 t61) w fun w =>
  wpB (ldv Try.prog 53 x10 w) fun r10 => Q r10 w)
  (wpB (pureRun Try.prog (Instr.fieldAt 40 x8 0)) fun t62 =>
  wpB (ldv Try.prog 3 t62 w) fun t63 =>
  wpB (be Try.prog .eql 3 (.tmp 63) (.const (Go.Value.int Go.IntKind.i64 1)) t63 (Go.Value.int Go.IntKind.i64 1)) fun t64 =>
  cnd t64
  (wpB (nilv x0) fun t67 =>
  wpB (pureRun Try.prog (Instr.fieldAt 92 t67 0)) fun t68 =>
  wpB (pureRun Try.prog (Instr.fieldAt 74 t68 3)) fun t69 =>
  wpB (ldv Try.prog 3 t69 w) fun t70 =>
  CallR Try.prog 50 [x1, t70] w fun t71 w =>
  CallR Try.prog 50 [x1, (Go.Value.int Go.IntKind.i64 6)] w fun t73 w =>
  wpB (be Try.prog .eql 3 (.tmp 73) (.const (Go.Value.int Go.IntKind.i64 0)) t73 (Go.Value.int Go.IntKind.i64 0)) fun t74 =>
  cnd t74
  (wpB (pureRun Try.prog (Instr.build 53 #[(0, (Go.Value.int Go.IntKind.i64 7))])) fun t75 =>
  effu Try.prog (Instr.storeAt 53 x10 t75) w fun w =>
  wpB (ldv Try.prog 53 x10 w) fun r10_1 => Q r10_1 w)
  (wpB (nilv x0) fun t78 =>
  wpB (pureRun Try.prog (Instr.fieldAt 92 t78 2)) fun t79 =>
  wpB (ldv Try.prog 89 t79 w) fun t80 =>
  wpB (nilv t80) fun t81 =>
  wpB (pureRun Try.prog (Instr.fieldAt 154 t81 3)) fun t82 =>
  wpB (ldv Try.prog 23 t82 w) fun t83 =>
  wpB (pureRun Try.prog (Instr.indexAt 23 t83 t71)) fun t85 =>
  wpB (ldv Try.prog 3 t85 w) fun t86 =>
  CallR Try.prog 95 [t86] w fun t87 w =>
  wpB (pureRun Try.prog (Instr.build 51 #[(0, t71), (1, t87)])) fun t88 =>
  wpB (pureRun Try.prog (Instr.build 53 #[(1, t88)])) fun t89 =>
  effu Try.prog (Instr.storeAt 53 x10 t89) w fun w =>
  wpB (ldv Try.prog 53 x10 w) fun r10_2 => Q r10_2 w))
  (((((wpB (pureRun Try.prog (Instr.fieldAt 51 x9 0)) fun t90 =>
  wpB (pureRun Try.prog (Instr.fieldAt 51 x9 1)) fun t92 =>
  wpB (nilv x0) fun t96 =>
  wpB (pureRun Try.prog (Instr.fieldAt 92 t96 0)) fun t97 =>
  wpB (pureRun Try.prog (Instr.fieldAt 74 t97 1)) fun t98 =>
  wpB (pureRun Try.prog (Instr.fieldAt 40 x8 3)) fun t101 =>
  wpB (ldv Try.prog 3 t90 w.drew) fun t91 =>
  wpB (ldv Try.prog 3 t92 w.drew) fun t93 =>
  wpB (ldv Try.prog 3 t98 w.drew) fun t99 =>
  wpB (ldv Try.prog 3 t101 w.drew) fun t102 =>
  effv Try.prog (Instr.alloc 51 true (.tuple #[])) w.drew fun t14 w =>
  CallR Try.prog 50 [x1, t99] w fun t100 w =>
  wpB (pureRun Try.prog (Instr.build 51 #[(0, t91), (1, t93), (2, t100), (4, t102)])) fun t103 =>
  effu Try.prog (Instr.storeAt 51 t14 t103) w fun w =>
  P55_1 x0 x1 x2 x9 x10 t14 w Q) ∧
  (wpB (pureRun Try.prog (Instr.fieldAt 51 x9 0)) fun t90_1 =>
  wpB (pureRun Try.prog (Instr.fieldAt 51 x9 1)) fun t92_1 =>
  wpB (nilv x0) fun t96_1 =>
  wpB (pureRun Try.prog (Instr.fieldAt 92 t96_1 0)) fun t97_1 =>
  wpB (pureRun Try.prog (Instr.fieldAt 74 t97_1 1)) fun t98_1 =>
  wpB (pureRun Try.prog (Instr.fieldAt 40 x8 3)) fun t101_1 =>
  wpB (ldv Try.prog 3 t90_1 w.drew) fun t91_1 =>
  wpB (ldv Try.prog 3 t92_1 w.drew) fun t93_1 =>
  wpB (ldv Try.prog 3 t98_1 w.drew) fun t99_1 =>
  wpB (ldv Try.prog 3 t101_1 w.drew) fun t102_1 =>
  CallR Try.prog 50 [x1, t99_1] w.drew fun t100_1 w =>
  wpB (pureRun Try.prog (Instr.build 51 #[(0, t91_1), (1, t93_1), (2, t100_1), (4, t102_1)])) fun t103_1 =>
  effv Try.prog (Instr.alloc 51 true (.tuple #[])) w fun t14_1 w =>
  effu Try.prog (Instr.storeAt 51 t14_1 t103_1) w fun w =>
  P55_1 x0 x1 x2 x9 x10 t14_1 w Q)) ∧
  ((wpB (pureRun Try.prog (Instr.fieldAt 51 x9 0)) fun t90_2 =>
  wpB (pureRun Try.prog (Instr.fieldAt 51 x9 1)) fun t92_2 =>
  wpB (nilv x0) fun t96_2 =>
  wpB (pureRun Try.prog (Instr.fieldAt 92 t96_2 0)) fun t97_2 =>
  wpB (pureRun Try.prog (Instr.fieldAt 74 t97_2 1)) fun t98_2 =>
  wpB (pureRun Try.prog (Instr.fieldAt 40 x8 3)) fun t101_2 =>
  wpB (ldv Try.prog 3 t90_2 w.drew) fun t91_2 =>
  wpB (ldv Try.prog 3 t92_2 w.drew) fun t93_2 =>
  wpB (ldv Try.prog 3 t98_2 w.drew) fun t99_2 =>
  effv Try.prog (Instr.alloc 51 true (.tuple #[])) w.drew fun t14_2 w =>
  CallR Try.prog 50 [x1, t99_2] w fun t100_2 w =>
  wpB (ldv Try.prog 3 t101_2 w) fun t102_2 =>
  wpB (pureRun Try.prog (Instr.build 51 #[(0, t91_2), (1, t93_2), (2, t100_2), (4, t102_2)])) fun t103_2 =>
  effu Try.prog (Instr.storeAt 51 t14_2 t103_2) w fun w =>
  P55_1 x0 x1 x2 x9 x10 t14_2 w Q) ∧
  (wpB (pureRun Try.prog (Instr.fieldAt 51 x9 0)) fun t90_3 =>
  wpB (ldv Try.prog 3 t90_3 w.drew) fun t91_3 =>
  wpB (pureRun Try.prog (Instr.fieldAt 51 x9 1)) fun t92_3 =>
  wpB (ldv Try.prog 3 t92_3 w.drew) fun t93_3 =>
  wpB (nilv x0) fun t96_3 =>
  wpB (pureRun Try.prog (Instr.fieldAt 92 t96_3 0)) fun t97_3 =>
  wpB (pureRun Try.prog (Instr.fieldAt 74 t97_3 1)) fun t98_3 =>
  wpB (ldv Try.prog 3 t98_3 w.drew) fun t99_3 =>
  CallR Try.prog 50 [x1, t99_3] w.drew fun t100_3 w =>
  wpB (pureRun Try.prog (Instr.fieldAt 40 x8 3)) fun t101_3 =>
  wpB (ldv Try.prog 3 t101_3 w) fun t102_3 =>
  wpB (pureRun Try.prog (Instr.build 51 #[(0, t91_3), (1, t93_3), (2, t100_3), (4, t102_3)])) fun t103_3 =>
  effv Try.prog (Instr.alloc 51 true (.tuple #[])) w fun t14_3 w =>
  effu Try.prog (Instr.storeAt 51 t14_3 t103_3) w fun w =>
  P55_1 x0 x1 x2 x9 x10 t14_3 w Q))) ∧
  (((wpB (pureRun Try.prog (Instr.fieldAt 51 x9 0)) fun t90_4 =>
  wpB (pureRun Try.prog (Instr.fieldAt 51 x9 1)) fun t92_4 =>
  wpB (nilv x0) fun t96_4 =>
  wpB (pureRun Try.prog (Instr.fieldAt 92 t96_4 0)) fun t97_4 =>
  wpB (pureRun Try.prog (Instr.fieldAt 74 t97_4 1)) fun t98_4 =>
  wpB (pureRun Try.prog (Instr.fieldAt 40 x8 3)) fun t101_4 =>
  wpB (ldv Try.prog 3 t90_4 w.drew) fun t91_4 =>
  wpB (ldv Try.prog 3 t98_4 w.drew) fun t99_4 =>
  wpB (ldv Try.prog 3 t101_4 w.drew) fun t102_4 =>
  effv Try.prog (Instr.alloc 51 true (.tuple #[])) w.drew fun t14_4 w =>
  CallR Try.prog 50 [x1, t99_4] w fun t100_4 w =>
  wpB (ldv Try.prog 3 t92_4 w) fun t93_4 =>
  wpB (pureRun Try.prog (Instr.build 51 #[(0, t91_4), (1, t93_4), (2, t100_4), (4, t102_4)])) fun t103_4 =>
  effu Try.prog (Instr.storeAt 51 t14_4 t103_4) w fun w =>
  P55_1 x0 x1 x2 x9 x10 t14_4 w Q) ∧
  (wpB (pureRun Try.prog (Instr.fieldAt 51 x9 0)) fun t90_5 =>
  wpB (pureRun Try.prog (Instr.fieldAt 51 x9 1)) fun t92_5 =>
  wpB (nilv x0) fun t96_5 =>
  wpB (pureRun Try.prog (Instr.fieldAt 92 t96_5 0)) fun t97_5 =>
  wpB (pureRun Try.prog (Instr.fieldAt 74 t97_5 1)) fun t98_5 =>
  wpB (pureRun Try.prog (Instr.fieldAt 40 x8 3)) fun t101_5 =>
  wpB (ldv Try.prog 3 t90_5 w.drew) fun t91_5 =>
  wpB (ldv Try.prog 3 t98_5 w.drew) fun t99_5 =>
  wpB (ldv Try.prog 3 t101_5 w.drew) fun t102_5 =>
  CallR Try.prog 50 [x1, t99_5] w.drew fun t100_5 w =>
  wpB (ldv Try.prog 3 t92_5 w) fun t93_5 =>
  wpB (pureRun Try.prog (Instr.build 51 #[(0, t91_5), (1, t93_5), (2, t100_5), (4, t102_5)])) fun t103_5 =>
  effv Try.prog (Instr.alloc 51 true (.tuple #[])) w fun t14_5 w =>
  effu Try.prog (Instr.storeAt 51 t14_5 t103_5) w fun w =>
  P55_1 x0 x1 x2 x9 x10 t14_5 w Q)) ∧
  ((wpB (pureRun Try.prog (Instr.fieldAt 51 x9 0)) fun t90_6 =>
  wpB (pureRun Try.prog (Instr.fieldAt 51 x9 1)) fun t92_6 =>
  wpB (nilv x0) fun t96_6 =>
  wpB (pureRun Try.prog (Instr.fieldAt 92 t96_6 0)) fun t97_6 =>
  wpB (pureRun Try.prog (Instr.fieldAt 74 t97_6 1)) fun t98_6 =>
  wpB (pureRun Try.prog (Instr.fieldAt 40 x8 3)) fun t101_6 =>
  wpB (ldv Try.prog 3 t90_6 w.drew) fun t91_6 =>
  wpB (ldv Try.prog 3 t98_6 w.drew) fun t99_6 =>
  effv Try.prog (Instr.alloc 51 true (.tuple #[])) w.drew fun t14_6 w =>
  CallR Try.prog 50 [x1, t99_6] w fun t100_6 w =>
  wpB (ldv Try.prog 3 t92_6 w) fun t93_6 =>
  wpB (ldv Try.prog 3 t101_6 w) fun t102_6 =>
  wpB (pureRun Try.prog (Instr.build 51 #[(0, t91_6), (1, t93_6), (2, t100_6), (4, t102_6)])) fun t103_6 =>
  effu Try.prog (Instr.storeAt 51 t14_6 t103_6) w fun w =>
  P55_1 x0 x1 x2 x9 x10 t14_6 w Q) ∧
  (wpB (pureRun Try.prog (Instr.fieldAt 51 x9 0)) fun t90_7 =>
  wpB (pureRun Try.prog (Instr.fieldAt 51 x9 1)) fun t92_7 =>
  wpB (nilv x0) fun t96_7 =>
  wpB (pureRun Try.prog (Instr.fieldAt 92 t96_7 0)) fun t97_7 =>
  wpB (pureRun Try.prog (Instr.fieldAt 74 t97_7 1)) fun t98_7 =>
  wpB (pureRun Try.prog (Instr.fieldAt 40 x8 3)) fun t101_7 =>
  wpB (ldv Try.prog 3 t90_7 w.drew) fun t91_7 =>
  wpB (ldv Try.prog 3 t98_7 w.drew) fun t99_7 =>
  CallR Try.prog 50 [x1, t99_7] w.drew fun t100_7 w =>
  wpB (ldv Try.prog 3 t92_7 w) fun t93_7 =>
  wpB (ldv Try.prog 3 t101_7 w) fun t102_7 =>
  wpB (pureRun Try.prog (Instr.build 51 #[(0, t91_7), (1, t93_7), (2, t100_7), (4, t102_7)])) fun t103_7 =>
  effv Try.prog (Instr.alloc 51 true (.tuple #[])) w fun t14_7 w =>
  effu Try.prog (Instr.storeAt 51 t14_7 t103_7) w fun w =>
  P55_1 x0 x1 x2 x9 x10 t14_7 w Q)))) ∧
  ((((wpB (pureRun Try.prog (Instr.fieldAt 51 x9 0)) fun t90_8 =>
  wpB (pureRun Try.prog (Instr.fieldAt 51 x9 1)) fun t92_8 =>
  wpB (nilv x0) fun t96_8 =>
  wpB (pureRun Try.prog (Instr.fieldAt 92 t96_8 0)) fun t97_8 =>
  wpB (pureRun Try.prog (Instr.fieldAt 74 t97_8 1)) fun t98_8 =>
  wpB (pureRun Try.prog (Instr.fieldAt 40 x8 3)) fun t101_8 =>
  wpB (ldv Try.prog 3 t92_8 w.drew) fun t93_8 =>
  wpB (ldv Try.prog 3 t98_8 w.drew) fun t99_8 =>
  wpB (ldv Try.prog 3 t101_8 w.drew) fun t102_8 =>
  effv Try.prog (Instr.alloc 51 true (.tuple #[])) w.drew fun t14_8 w =>
  CallR Try.prog 50 [x1, t99_8] w fun t100_8 w =>
  wpB (ldv Try.prog 3 t90_8 w) fun t91_8 =>
  wpB (pureRun Try.prog (Instr.build 51 #[(0, t91_8), (1, t93_8), (2, t100_8), (4, t102_8)])) fun t103_8 =>
  effu Try.prog (Instr.storeAt 51 t14_8 t103_8) w fun w =>
  P55_1 x0 x1 x2 x9 x10 t14_8 w Q) ∧
  (wpB (pureRun Try.prog (Instr.fieldAt 51 x9 0)) fun t90_9 =>
  wpB (pureRun Try.prog (Instr.fieldAt 51 x9 1)) fun t92_9 =>
  wpB (nilv x0) fun t96_9 =>
  wpB (pureRun Try.prog (Instr.fieldAt 92 t96_9 0)) fun t97_9 =>
  wpB (pureRun Try.prog (Instr.fieldAt 74 t97_9 1)) fun t98_9 =>
  wpB (pureRun Try.prog (Instr.fieldAt 40 x8 3)) fun t101_9 =>
  wpB (ldv Try.prog 3 t92_9 w.drew) fun t93_9 =>
  wpB (ldv Try.prog 3 t98_9 w.drew) fun t99_9 =>
  wpB (ldv Try.prog 3 t101_9 w.drew) fun t102_9 =>
  CallR Try.prog 50 [x1, t99_9] w.drew fun t100_9 w =>
  wpB (ldv Try.prog 3 t90_9 w) fun t91_9 =>
  wpB (pureRun Try.prog (Instr.build 51 #[(0, t91_9), (1, t93_9), (2, t100_9), (4, t102_9)])) fun t103_9 =>
  effv Try.prog (Instr.alloc 51 true (.tuple #[])) w fun t14_9 w =>
  effu Try.prog (Instr.storeAt 51 t14_9 t103_9) w fun w =>
  P55_1 x0 x1 x2 x9 x10 t14_9 w Q)) ∧
  ((wpB (pureRun Try.prog (Instr.fieldAt 51 x9 0)) fun t90_10 =>
  wpB (pureRun Try.prog (Instr.fieldAt 51 x9 1)) fun t92_10 =>
  wpB (nilv x0) fun t96_10 =>
  wpB (pureRun Try.prog (Instr.fieldAt 92 t96_10 0)) fun t97_10 =>
  wpB (pureRun Try.prog (Instr.fieldAt 74 t97_10 1)) fun t98_10 =>
  wpB (pureRun Try.prog (Instr.fieldAt 40 x8 3)) fun t101_10 =>
  wpB (ldv Try.prog 3 t92_10 w.drew) fun t93_10 =>
  wpB (ldv Try.prog 3 t98_10 w.drew) fun t99_10 =>
  effv Try.prog (Instr.alloc 51 true (.tuple #[])) w.drew fun t14_10 w =>
  CallR Try.prog 50 [x1, t99_10] w fun t100_10 w =>
  wpB (ldv Try.prog 3 t90_10 w) fun t91_10 =>
  wpB (ldv Try.prog 3 t101_10 w) fun t102_10 =>
  wpB (pureRun Try.prog (Instr.build 51 #[(0, t91_10), (1, t93_10), (2, t100_10), (4, t102_10)])) fun t103_10 =>
  effu Try.prog (Instr.storeAt 51 t14_10 t103_10) w fun w =>
  P55_1 x0 x1 x2 x9 x10 t14_10 w Q) ∧
  (wpB (pureRun Try.prog (Instr.fieldAt 51 x9 0)) fun t90_11 =>
  wpB (pureRun Try.prog (Instr.fieldAt 51 x9 1)) fun t92_11 =>
  wpB (nilv x0) fun t96_11 =>
  wpB (pureRun Try.prog (Instr.fieldAt 92 t96_11 0)) fun t97_11 =>
  wpB (pureRun Try.prog (Instr.fieldAt 74 t97_11 1)) fun t98_11 =>
  wpB (pureRun Try.prog (Instr.fieldAt 40 x8 3)) fun t101_11 =>
  wpB (ldv Try.prog 3 t92_11 w.drew) fun t93_11 =>
  wpB (ldv Try.prog 3 t98_11 w.drew) fun t99_11 =>
  CallR Try.prog 50 [x1, t99_11] w.drew fun t100_11 w =>
  wpB (ldv Try.prog 3 t90_11 w) fun t91_11 =>
  wpB (ldv Try.prog 3 t101_11 w) fun t102_11 =>
  wpB (pureRun Try.prog (Instr.build 51 #[(0, t91_11), (1, t93_11), (2, t100_11), (4, t102_11)])) fun t103_11 =>
  effv Try.prog (Instr.alloc 51 true (.tuple #[])) w fun t14_11 w =>
  effu Try.prog (Instr.storeAt 51 t14_11 t103_11) w fun w =>
  P55_1 x0 x1 x2 x9 x10 t14_11 w Q))) ∧
  (((wpB (pureRun Try.prog (Instr.fieldAt 51 x9 0)) fun t90_12 =>
  wpB (pureRun Try.prog (Instr.fieldAt 51 x9 1)) fun t92_12 =>
  wpB (nilv x0) fun t96_12 =>
  wpB (pureRun Try.prog (Instr.fieldAt 92 t96_12 0)) fun t97_12 =>
  wpB (pureRun Try.prog (Instr.fieldAt 74 t97_12 1)) fun t98_12 =>
  wpB (pureRun Try.prog (Instr.fieldAt 40 x8 3)) fun t101_12 =>
  wpB (ldv Try.prog 3 t98_12 w.drew) fun t99_12 =>
  wpB (ldv Try.prog 3 t101_12 w.drew) fun t102_12 =>
  effv Try.prog (Instr.alloc 51 true (.tuple #[])) w.drew fun t14_12 w =>
  CallR Try.prog 50 [x1, t99_12] w fun t100_12 w =>
  wpB (ldv Try.prog 3 t90_12 w) fun t91_12 =>
  wpB (ldv Try.prog 3 t92_12 w) fun t93_12 =>
  wpB (pureRun Try.prog (Instr.build 51 #[(0, t91_12), (1, t93_12), (2, t100_12), (4, t102_12)])) fun t103_12 =>
  effu Try.prog (Instr.storeAt 51 t14_12 t103_12) w fun w =>
  P55_1 x0 x1 x2 x9 x10 t14_12 w Q) ∧
  (wpB (pureRun Try.prog (Instr.fieldAt 51 x9 0)) fun t90_13 =>
  wpB (pureRun Try.prog (Instr.fieldAt 51 x9 1)) fun t92_13 =>
  wpB (nilv x0) fun t96_13 =>
  wpB (pureRun Try.prog (Instr.fieldAt 92 t96_13 0)) fun t97_13 =>
  wpB (pureRun Try.prog (Instr.fieldAt 74 t97_13 1)) fun t98_13 =>
  wpB (pureRun Try.prog (Instr.fieldAt 40 x8 3)) fun t101_13 =>
  wpB (ldv Try.prog 3 t98_13 w.drew) fun t99_13 =>
  wpB (ldv Try.prog 3 t101_13 w.drew) fun t102_13 =>
  CallR Try.prog 50 [x1, t99_13] w.drew fun t100_13 w =>
  wpB (ldv Try.prog 3 t90_13 w) fun t91_13 =>
  wpB (ldv Try.prog 3 t92_13 w) fun t93_13 =>
  wpB (pureRun Try.prog (Instr.build 51 #[(0, t91_13), (1, t93_13), (2, t100_13), (4, t102_13)])) fun t103_13 =>
  effv Try.prog (Instr.alloc 51 true (.tuple #[])) w fun t14_13 w =>
  effu Try.prog (Instr.storeAt 51 t14_13 t103_13) w fun w =>
  P55_1 x0 x1 x2 x9 x10 t14_13 w Q)) ∧
  ((wpB (pureRun Try.prog (Instr.fieldAt 51 x9 0)) fun t90_14 =>
  wpB (pureRun Try.prog (Instr.fieldAt 51 x9 1)) fun t92_14 =>
  wpB (nilv x0) fun t96_14 =>
  wpB (pureRun Try.prog (Instr.fieldAt 92 t96_14 0)) fun t97_14 =>
  wpB (pureRun Try.prog (Instr.fieldAt 74 t97_14 1)) fun t98_14 =>
  wpB (pureRun Try.prog (Instr.fieldAt 40 x8 3)) fun t101_14 =>
  wpB (ldv Try.prog 3 t98_14 w.drew) fun t99_14 =>
  effv Try.prog (Instr.alloc 51 true (.tuple #[])) w.drew fun t14_14 w =>
  CallR Try.prog 50 [x1, t99_14] w fun t100_14 w =>
  wpB (ldv Try.prog 3 t90_14 w) fun t91_14 =>
  wpB (ldv Try.prog 3 t92_14 w) fun t93_14 =>
  wpB (ldv Try.prog 3 t101_14 w) fun t102_14 =>
  wpB (pureRun Try.prog (Instr.build 51 #[(0, t91_14), (1, t93_14), (2, t100_14), (4, t102_14)])) fun t103_14 =>
  effu Try.prog (Instr.storeAt 51 t14_14 t103_14) w fun w =>
  P55_1 x0 x1 x2 x9 x10 t14_14 w Q) ∧
  (wpB (pureRun Try.prog (Instr.fieldAt 51 x9 0)) fun t90_15 =>
  wpB (pureRun Try.prog (Instr.fieldAt 51 x9 1)) fun t92_15 =>
  wpB (nilv x0) fun t96_15 =>
  wpB (pureRun Try.prog (Instr.fieldAt 92 t96_15 0)) fun t97_15 =>
  wpB (pureRun Try.prog (Instr.fieldAt 74 t97_15 1)) fun t98_15 =>
  wpB (pureRun Try.prog (Instr.fieldAt 40 x8 3)) fun t101_15 =>
  wpB (ldv Try.prog 3 t98_15 w.drew) fun t99_15 =>
  CallR Try.prog 50 [x1, t99_15] w.drew fun t100_15 w =>
  wpB (ldv Try.prog 3 t90_15 w) fun t91_15 =>
  wpB (ldv Try.prog 3 t92_15 w) fun t93_15 =>
  wpB (ldv Try.prog 3 t101_15 w) fun t102_15 =>
  wpB (pureRun Try.prog (Instr.build 51 #[(0, t91_15), (1, t93_15), (2, t100_15), (4, t102_15)])) fun t103_15 =>
  effv Try.prog (Instr.alloc 51 true (.tuple #[])) w fun t14_15 w =>
  effu Try.prog (Instr.storeAt 51 t14_15 t103_15) w fun w =>
  P55_1 x0 x1 x2 x9 x10 t14_15 w Q))))))
def L55_1 (x0 x1 x2 x9 x10 x14 : Value) (w : World) (Q : Value → World → Prop) : Prop :=
  wpB (nilv x0) fun t105 =>
  wpB (pureRun Try.prog (Instr.fieldAt 92 t105 2)) fun t106 =>
  wpB (ldv Try.prog 89 t106 w.drew) fun t107 =>
  wpB (pureRun Try.prog (Instr.fieldAt 51 x9 0)) fun t108 =>
  wpB (ldv Try.prog 3 t108 w.drew) fun t109 =>
  CallR Try.prog 96 [t107, t109] w.drew fun t110 w =>
  wpB (pureRun Try.prog (Builtin.len_ #[90] 3 #[t110])) fun t112 =>
  wpB (bp Try.prog .gtr 3 t112 (Go.Value.int Go.IntKind.i64 0)) fun t113 =>
  gE t113 true (CallR Try.prog 50 [(gv t113 true x1), (Go.Value.int Go.IntKind.i64 3)] w) (fun t116 w =>
  wpB (gd t113 true (bp Try.prog .gtr 3 t116 (Go.Value.int Go.IntKind.i64 0))) fun t117 =>
  wpB (pickv t113 (some t117) (some (Go.Value.bool false))) fun t118 =>
  cnd t118
  (wpB (pureRun Try.prog (Builtin.len_ #[90] 3 #[t110])) fun t121 =>
  wpB (bp Try.prog .sub 3 t121 (Go.Value.int Go.IntKind.i64 1)) fun t122 =>
  wpB (pureRun Try.prog (Instr.indexAt 90 t110 t122)) fun t123 =>
  wpB (pureRun Try.prog (Instr.fieldAt 51 t123 2)) fun t124 =>
  wpB (ldv Try.prog 3 t124 w) fun t125 =>
  wpB (pureRun Try.prog (Instr.fieldAt 51 x14 2)) fun t126 =>
  effu Try.prog (Instr.storeAt 3 t126 t125) w fun w =>
  (wpB (nilv x0) fun t129 =>
  wpB (pureRun Try.prog (Instr.fieldAt 92 t129 2)) fun t130 =>
  wpB (pureRun Try.prog (Instr.build 40 #[(0, (Go.Value.int Go.IntKind.i64 12))])) fun t133 =>
  wpB (pureRun Try.prog (Instr.fieldAt 51 x9 0)) fun t134 =>
  wpB (pureRun Try.prog (Instr.fieldAt 51 x9 1)) fun t136 =>
  wpB (ldv Try.prog 89 t130 w.drew) fun t131 =>
  wpB (ldv Try.prog 3 t134 w.drew) fun t135 =>
  wpB (ldv Try.prog 3 t136 w.drew) fun t137 =>
  wpB (pureRun Try.prog (Instr.build 51 #[(0, t135), (1, t137)])) fun t138 =>
  effv Try.prog (Instr.alloc 53 true (.tuple #[])) w.drew fun t16 w =>
  CallR Try.prog 54 [t131, x2, t133, t138] w fun t139 w =>
  wpB (pureRun Try.prog (Instr.extract t139 0)) fun t140 =>
  wpB (pureRun Try.prog (Instr.extract t139 1)) fun t141 =>
  effu Try.prog (Instr.storeAt 53 t16 t140) w fun w =>
  P55_2 x1 x10 x14 t16 w Q) ∧
  (wpB (nilv x0) fun t129_1 =>
  wpB (pureRun Try.prog (Instr.fieldAt 92 t129_1 2)) fun t130_1 =>
  wpB (ldv Try.prog 89 t130_1 w.drew) fun t131_1 =>
  wpB (pureRun Try.prog (Instr.build 40 #[(0, (Go.Value.int Go.IntKind.i64 12))])) fun t133_1 =>
  wpB (pureRun Try.prog (Instr.fieldAt 51 x9 0)) fun t134_1 =>
  wpB (ldv Try.prog 3 t134_1 w.drew) fun t135_1 =>
  wpB (pureRun Try.prog (Instr.fieldAt 51 x9 1)) fun t136_1 =>
  wpB (ldv Try.prog 3 t136_1 w.drew) fun t137_1 =>
  wpB (pureRun Try.prog (Instr.build 51 #[(0, t135_1), (1, t137_1)])) fun t138_1 =>
  CallR Try.prog 54 [t131_1, x2, t133_1, t138_1] w.drew fun t139_1 w =>
  wpB (pureRun Try.prog (Instr.extract t139_1 0)) fun t140_1 =>
  wpB (pureRun Try.prog (Instr.extract t139_1 1)) fun t141_1 =>
  effv Try.prog (Instr.alloc 53 true (.tuple #[])) w fun t16_1 w =>
  effu Try.prog (Instr.storeAt 53 t16_1 t140_1) w fun w =>
  P55_2 x1 x10 x14 t16_1 w Q))
  (P55_3 x1 x10 x14 w Q)) w
def L55_2 (x1 x10 x14 x16 : Value) (w : World) (Q : Value → World → Prop) : Prop :=
  wpB (pureRun Try.prog (Instr.fieldAt 53 x16 2)) fun t142 =>
  wpB (ldv Try.prog 3 t142 w) fun t143 =>
  wpB (pureRun Try.prog (Instr.fieldAt 51 x14 3)) fun t144 =>
  effu Try.prog (Instr.storeAt 3 t144 t143) w fun w =>
  P55_3 x1 x10 x14 w Q
def L55_3 (x1 x10 x14 : Value) (w : World) (Q : Value → World → Prop) : Prop :=
  CallR Try.prog 50 [x1, (Go.Value.int Go.IntKind.i64 8)] w fun t146 w =>
  wpB (be Try.prog .eql 3 (.tmp 146) (.const (Go.Value.int Go.IntKind.i64 0)) t146 (Go.Value.int Go.IntKind.i64 0)) fun t147 =>
  cnd t147
  (wpB (pureRun Try.prog (Instr.build 53 #[(0, (Go.Value.int Go.IntKind.i64 6))])) fun t148 =>
  effu Try.prog (Instr.storeAt 53 x10 t148) w fun w =>
  wpB (ldv Try.prog 53 x10 w) fun r10 => Q r10 w)
  (wpB (ldv Try.prog 51 x14 w) fun t149 =>
  wpB (pureRun Try.prog (Instr.build 53 #[(1, t149)])) fun t150 =>
  effu Try.prog (Instr.storeAt 53 x10 t150) w fun w =>
  wpB (ldv Try.prog 53 x10 w) fun r10_1 => Q r10_1 w)
theorem F55_ok {a0 a1 a2 a3 a4 : Value} {w : World} {Q : Value → World → Prop} (h : F55 a0 a1 a2 a3 a4 w Q) : CallR Try.prog 55 [a0, a1, a2, a3, a4] w Q :=
  have e : evC Try.prog (entR 3 143) 55 151 H55 Q C55 [] (entryE 0 [a0, a1, a2, a3, a4]) w (contT Try.prog (entR 3 143) 55 151 H55 Try.f55.results.toList Q []) = F55 a0 a1 a2 a3 a4 w Q := by kernel_rfl
  bt (fn := Try.f55) mixed bn Try.func55 (c := C55) rfl H55 (Nat.le_of_ble_eq_true rfl) (e.mpr h)
theorem L55_0_ok {x0 x1 x2 x8 x9 x10 x11 x12 : Value} {w : World} {Q : Value → World → Prop} (h : L55_0 x0 x1 x2 x8 x9 x10 x11 x12 w Q) : P55_0 x0 x1 x2 x8 x9 x10 x11 x12 w Q :=
  have e : evC Try.prog (entR 3 143) 55 151 H55 Q (nav [1, 1, 1, 1] C55) [] (unpack [0, 1, 2, 8, 9, 10, 11, 12] [x0, x1, x2, x8, x9, x10, x11, x12]) w (contT Try.prog (entR 3 143) 55 151 H55 Try.f55.results.toList Q []) = L55_0 x0 x1 x2 x8 x9 x10 x11 x12 w Q := by kernel_rfl
  bx (fn := Try.f55) mixed bn Try.func55 H55 (c := (nav [1, 1, 1, 1] C55)) (t := []) (e.mpr h)
theorem L55_1_ok {x0 x1 x2 x9 x10 x14 : Value} {w : World} {Q : Value → World → Prop} (h : L55_1 x0 x1 x2 x9 x10 x14 w Q) : P55_1 x0 x1 x2 x9 x10 x14 w Q :=
  have e : evC Try.prog (entR 3 143) 55 151 H55 Q (nav [1, 1, 1, 1, 1, 1, 1] C55) [] (unpack [0, 1, 2, 9, 10, 14] [x0, x1, x2, x9, x10, x14]) w (contT Try.prog (entR 3 143) 55 151 H55 Try.f55.results.toList Q []) = L55_1 x0 x1 x2 x9 x10 x14 w Q := by kernel_rfl
  bx (fn := Try.f55) mixed bn Try.func55 H55 (c := (nav [1, 1, 1, 1, 1, 1, 1] C55)) (t := []) (e.mpr h)
theorem L55_2_ok {x1 x10 x14 x16 : Value} {w : World} {Q : Value → World → Prop} (h : L55_2 x1 x10 x14 x16 w Q) : P55_2 x1 x10 x14 x16 w Q :=
  have e : evC Try.prog (entR 3 143) 55 151 H55 Q (nav [1, 1, 1, 1, 1, 1, 1, 1, 0, 1, 2, 1, 1] C55) [.jn (nav [1, 1, 1, 1, 1, 1, 1, 1, 1] C55)] (unpack [1, 10, 14, 16] [x1, x10, x14, x16]) w (contT Try.prog (entR 3 143) 55 151 H55 Try.f55.results.toList Q [.jn (nav [1, 1, 1, 1, 1, 1, 1, 1, 1] C55)]) = L55_2 x1 x10 x14 x16 w Q := by kernel_rfl
  bx (fn := Try.f55) mixed bn Try.func55 H55 (c := (nav [1, 1, 1, 1, 1, 1, 1, 1, 0, 1, 2, 1, 1] C55)) (t := [.jn (nav [1, 1, 1, 1, 1, 1, 1, 1, 1] C55)]) (e.mpr h)
theorem L55_3_ok {x1 x10 x14 : Value} {w : World} {Q : Value → World → Prop} (h : L55_3 x1 x10 x14 w Q) : P55_3 x1 x10 x14 w Q :=
  have e : evC Try.prog (entR 3 143) 55 151 H55 Q (nav [1, 1, 1, 1, 1, 1, 1, 1, 1] C55) [] (unpack [1, 10, 14] [x1, x10, x14]) w (contT Try.prog (entR 3 143) 55 151 H55 Try.f55.results.toList Q []) = L55_3 x1 x10 x14 w Q := by kernel_rfl
  bx (fn := Try.f55) mixed bn Try.func55 H55 (c := (nav [1, 1, 1, 1, 1, 1, 1, 1, 1] C55)) (t := []) (e.mpr h)

noncomputable def C56 : Code := (Try.f56.body).getD .skip
noncomputable def H56 : Hints := ⟨[], [(9, [])], []⟩
noncomputable def T56_0 : List It := [.jn (nav [1, 1, 1, 0, 4, 1, 2, 1, 1] C56), .blk 0, .jn (nav [1, 1, 1, 1] C56)]
def P56_0 (w : World) (Q : Value → World → Prop) : Prop := Part Try.prog 56 T56_0 [] [] w Q
def F56 (a0 a1 a2 a3 a4 : Value) (w : World) (Q : Value → World → Prop) : Prop :=
  effv Try.prog (Instr.box 40 a2) w fun t7 w =>
  effv Try.prog (Instr.box 51 a3) w fun t8 w =>
  effv Try.prog (Instr.box 53 a4) w fun t9 w =>
  wpB (ldv Try.prog 40 t7 w) fun t13 =>
  CallR Try.prog 53 [t13] w fun t14 w =>
  wpB (pureRun Try.prog (Op.unary .not t14)) fun t15 =>
  wpB (gd t15 false (bp Try.prog .lss 3 (gv t15 false a1) (Go.Value.int Go.IntKind.i64 0))) fun t18 =>
  wpB (pickv t15 (some (Go.Value.bool true)) (some t18)) fun t19 =>
  wpB (gd t19 false (nilv (gv t19 false a0))) fun t23 =>
  wpB (gd t19 false (pureRun Try.prog (Instr.fieldAt 154 t23 0))) fun t24 =>
  wpB (gd t19 false (pureRun Try.prog (Instr.fieldAt 74 t24 0))) fun t25 =>
  wpB (gd t19 false (ldv Try.prog 3 t25 w)) fun t26 =>
  wpB (gd t19 false (bp Try.prog .geq 3 (gv t19 false a1) t26)) fun t27 =>
  wpB (pickv t19 (some (Go.Value.bool true)) (some t27)) fun t28 =>
  cnd t28
  (Q (Go.Value.bool false) w)
  (wpB (ldv Try.prog 40 t7 w) fun t32 =>
  wpB (ldv Try.prog 51 t8 w) fun t33 =>
  CallR Try.prog 54 [a0, a1, t32, t33] w fun t34 w =>
  wpB (pureRun Try.prog (Instr.extract t34 0)) fun t35 =>
  wpB (pureRun Try.prog (Instr.extract t34 1)) fun t36 =>
  effv Try.prog (Instr.alloc 53 true (.tuple #[])) w fun t11 w =>
  effu Try.prog (Instr.storeAt 53 t11 t35) w fun w =>
  cnd t36
  (wpB (ldv Try.prog 53 t9 w) fun t39 =>
  wpB (ldv Try.prog 53 t11 w) fun t40 =>
  wpB (be Try.prog .neq 53 (.tmp 39) (.tmp 40) t39 t40) fun t41 =>
  cnd t41
  (Q (Go.Value.bool false) w)
  (wpB (pureRun Try.prog (Instr.fieldAt 53 t9 0)) fun t42 =>
  wpB (ldv Try.prog 29 t42 w) fun t43 =>
  wpB (be Try.prog .eql 29 (.tmp 43) (.const (Go.Value.int Go.IntKind.i64 0)) t43 (Go.Value.int Go.IntKind.i64 0)) fun t44 =>
  cnd t44
  (wpB (ldv Try.prog 40 t7 w) fun t47 =>
  wpB (ldv Try.prog 51 t8 w) fun t48 =>
  CallR Try.prog 97 [a0, a1, t47, t48] w fun t49 w =>
  P56_0 w Q)
  (P56_0 w Q)))
  (wpB (pureRun Try.prog (Instr.fieldAt 40 t7 0)) fun t51 =>
  wpB (ldv Try.prog 3 t51 w) fun t52 =>
  wpB (be Try.prog .eql 3 (.tmp 52) (.const (Go.Value.int Go.IntKind.i64 1)) t52 (Go.Value.int Go.IntKind.i64 1)) fun t53 =>
  cnd t53
  (wpB (ldv Try.prog 40 t7 w) fun t55 =>
  wpB (ldv Try.prog 53 t9 w) fun t56 =>
  CallR Try.prog 98 [a0, t55, t56] w fun t57 w =>
  Q t57 w)
  (wpB (ldv Try.prog 40 t7 w) fun t59 =>
  wpB (ldv Try.prog 51 t8 w) fun t60 =>
  wpB (ldv Try.prog 53 t9 w) fun t61 =>
  CallR Try.prog 99 [a0, t59, t60, t61] w fun t62 w =>
  Q t62 w)))
def L56_0 (w : World) (Q : Value → World → Prop) : Prop :=
  Q (Go.Value.bool true) w
theorem F56_ok {a0 a1 a2 a3 a4 : Value} {w : World} {Q : Value → World → Prop} (h : F56 a0 a1 a2 a3 a4 w Q) : CallR Try.prog 56 [a0, a1, a2, a3, a4] w Q :=
  have e : evC Try.prog (entR 3 143) 56 63 H56 Q C56 [] (entryE 0 [a0, a1, a2, a3, a4]) w (contT Try.prog (entR 3 143) 56 63 H56 Try.f56.results.toList Q []) = F56 a0 a1 a2 a3 a4 w Q := by kernel_rfl
  bt (fn := Try.f56) mixed bn Try.func56 (c := C56) rfl H56 (Nat.le_of_ble_eq_true rfl) (e.mpr h)
theorem L56_0_ok {w : World} {Q : Value → World → Prop} (h : L56_0  w Q) : P56_0  w Q :=
  have e : evC Try.prog (entR 3 143) 56 63 H56 Q (nav [1, 1, 1, 0, 4, 1, 2, 1, 1] C56) [.blk 0, .jn (nav [1, 1, 1, 1] C56)] (unpack [] []) w (contT Try.prog (entR 3 143) 56 63 H56 Try.f56.results.toList Q [.blk 0, .jn (nav [1, 1, 1, 1] C56)]) = L56_0  w Q := by kernel_rfl
  bx (fn := Try.f56) mixed bn Try.func56 H56 (c := (nav [1, 1, 1, 0, 4, 1, 2, 1, 1] C56)) (t := [.blk 0, .jn (nav [1, 1, 1, 1] C56)]) (e.mpr h)

noncomputable def C58 : Code := (Try.f58.body).getD .skip
noncomputable def H58 : Hints := ⟨[(2, [0, 2, 4, 7]), (9, [0, 2, 4, 12])], [(7, [0, 2, 4, 7, 67])], [(6, (.ask 18 14 (.leaf [0, 1, 2, 3, 4, 5, 6, 7, 8, 9, 10, 11, 13, 15, 16, 17, 19, 12, 18, 14, 20, 21, 22, 23]) (.leaf [0, 1, 2, 3, 4, 5, 6, 7, 8, 9, 10, 11, 12, 13, 14, 15, 16, 17, 18, 19, 20, 21, 22, 23]))), (11, (.leaf [0, 1, 2, 3, 4, 5, 6, 7, 8, 9, 10, 11])), (12, (.leaf [0, 1, 2, 3, 4, 5, 6, 7, 8, 9, 10, 11])), (15, (.ask 8 4 (.ask 33 29 (.ask 36 29 (.ask 39 29 (.leaf [0, 1, 2, 5, 6, 7, 3, 8, 4, 9, 10, 11, 12, 13, 14, 15, 16, 17, 18, 19, 20, 21, 22, 23, 24, 25, 26, 28, 30, 31, 32, 37, 27, 33, 34, 35, 36, 38, 39, 29, 40, 41, 42, 43]) (.leaf [0, 1, 2, 5, 6, 7, 3, 8, 4, 9, 10, 11, 12, 13, 14, 15, 16, 17, 18, 19, 20, 21, 22, 23, 24, 25, 26, 28, 30, 31, 32, 37, 27, 33, 34, 35, 36, 38, 29, 39, 40, 41, 42, 43])) (.leaf [0, 1, 2, 5, 6, 7, 3, 8, 4, 9, 10, 11, 12, 13, 14, 15, 16, 17, 18, 19, 20, 21, 22, 23, 24, 25, 26, 28, 30, 31, 32, 37, 27, 33, 34, 35, 29, 36, 38, 39, 40, 41, 42, 43])) (.leaf [0, 1, 2, 5, 6, 7, 3, 8, 4, 9, 10, 11, 12, 13, 14, 15, 16, 17, 18, 19, 20, 21, 22, 23, 24, 25, 26, 28, 30, 31, 32, 37, 27, 29, 33, 34, 35, 36, 38, 39, 40, 41, 42, 43])) (.ask 33 29 (.ask 36 29 (.ask 39 29 (.leaf [0, 1, 2, 5, 6, 7, 3, 4, 8, 9, 10, 11, 12, 13, 14, 15, 16, 17, 18, 19, 20, 21, 22, 23, 24, 25, 26, 28, 30, 31, 32, 37, 27, 33, 34, 35, 36, 38, 39, 29, 40, 41, 42, 43]) (.leaf [0, 1, 2, 5, 6, 7, 3, 4, 8, 9, 10, 11, 12, 13, 14, 15, 16, 17, 18, 19, 20, 21, 22, 23, 24, 25, 26, 28, 30, 31, 32, 37, 27, 33, 34, 35, 36, 38, 29, 39, 40, 41, 42, 43])) (.leaf [0, 1, 2, 5, 6, 7, 3, 4, 8, 9, 10, 11, 12, 13, 14, 15, 16, 17, 18, 19, 20, 21, 22, 23, 24, 25, 26, 28, 30, 31, 32, 37, 27, 33, 34, 35, 29, 36, 38, 39, 40, 41, 42, 43])) (.leaf [0, 1, 2, 3, 4, 5, 6, 7, 8, 9, 10, 11, 12, 13, 14, 15, 16, 17, 18, 19, 20, 21, 22, 23, 24, 25, 26, 27, 28, 29, 30, 31, 32, 33, 34, 35, 36, 37, 38, 39, 40, 41, 42, 43]))))]⟩
noncomputable def T58_0 : List It := [.lp (nav [1, 0, 1, 4, 5] C58), .blk 0, .jn (nav [1, 1] C58)]
noncomputable def T58_1 : List It := [.jn (nav [1, 0, 1, 4, 5, 1, 0, 4, 1, 1, 1] C58), .blk 1, .jn (nav [1, 0, 1, 4, 5, 1, 1] C58), .lp (nav [1, 0, 1, 4, 5] C58), .blk 0, .jn (nav [1, 1] C58)]
noncomputable def T58_2 : List It := [.lp (nav [1, 1, 0, 1, 4, 5] C58), .blk 2, .jn (nav [1, 1, 1] C58)]
def P58_0 (x0 x2 x4 x7 : Value) (w : World) (Q : Value → World → Prop) : Prop := Part Try.prog 58 T58_0 [0, 2, 4, 7] [x0, x2, x4, x7] w Q
def P58_1 (x0 x2 x4 x7 x67 : Value) (w : World) (Q : Value → World → Prop) : Prop := Part Try.prog 58 T58_1 [0, 2, 4, 7, 67] [x0, x2, x4, x7, x67] w Q
def P58_2 (x0 x2 x4 x12 : Value) (w : World) (Q : Value → World → Prop) : Prop := Part Try.prog 58 T58_2 [0, 2, 4, 12] [x0, x2, x4, x12] w Q
def F58 (a0 a1 a2 : Value) (w : World) (Q : Value → World → Prop) : Prop :=
  effv Try.prog (Instr.box 51 a1) w fun t4 w =>
  P58_0 a0 a2 t4 (Go.Value.int Go.IntKind.i64 (-1)) w Q
def L58_0 (x0 x2 x4 x7 : Value) (w : World) (Q : Value → World → Prop) : Prop :=
  wpB (nilv x0) fun t19 =>
  wpB (pureRun Try.prog (Instr.fieldAt 92 t19 0)) fun t20 =>
  wpB (pureRun Try.prog (Instr.fieldAt 74 t20 3)) fun t21 =>
  wpB (ldv Try.prog 3 t21 w) fun t22 =>
  wpB (bp Try.prog .leq 3 x7 t22) fun t23 =>
  cnd t23
  (wpB (nilv x0) fun t28 =>
  wpB (pureRun Try.prog (Instr.fieldAt 92 t28 1)) fun t29 =>
  wpB (ldv Try.prog 75 t29 w) fun t30 =>
  CallR Try.prog 48 [t30, x7] w fun t32 w =>
  wpB (pureRun Try.prog (Instr.extract t32 0)) fun t33 =>
  wpB (pureRun Try.prog (Instr.extract t32 1)) fun t34 =>
  wpB (nilv x0) fun t37 =>
  wpB (pureRun Try.prog (Instr.fieldAt 92 t37 2)) fun t38 =>
  wpB (ldv Try.prog 89 t38 w) fun t39 =>
  CallR Try.prog 103 [t39, x7] w fun t41 w =>
  wpB (pureRun Try.prog (Instr.extract t41 0)) fun t42 =>
  wpB (pureRun Try.prog (Instr.extract t41 1)) fun t43 =>
  (wpB (be Try.prog .neq 3 (.tmp 44) (.tmp 45) t33 t42) fun t46 =>
  wpB (gd t46 false (be Try.prog .neq 4 (.tmp 48) (.tmp 49) (gv t46 false t34) (gv t46 false t43))) fun t50 =>
  wpB (pickv t46 (some (Go.Value.bool true)) (some t50)) fun t51 =>
  wpB (gd t51 false (nilv (gv t51 false x0))) fun t54 =>
  wpB (gd t51 false (pureRun Try.prog (Instr.fieldAt 92 t54 1))) fun t55 =>
  wpB (gd t51 false (nilv (gv t51 false x0))) fun t60 =>
  wpB (gd t51 false (pureRun Try.prog (Instr.fieldAt 92 t60 2))) fun t61 =>
  wpB (gd t51 false (ldv Try.prog 75 t55 w.drew)) fun t56 =>
  wpB (gd t51 false (ldv Try.prog 89 t61 w.drew)) fun t62 =>
  gE t51 false (CallR Try.prog 105 [t56, (gv t51 false x7)] w.drew) (fun t58 w =>
  gE t51 false (CallR Try.prog 96 [t62, (gv t51 false x7)] w) (fun t64 w =>
  gE t51 false (CallR Try.prog 104 [t58, t64] w) (fun t65 w =>
  wpB (gd t51 false (pureRun Try.prog (Op.unary .not t65))) fun t66 =>
  wpB (pickv t51 (some (Go.Value.bool true)) (some t66)) fun t67 =>
  P58_1 x0 x2 x4 x7 t67 w Q) w) w) w.drew) ∧
  (wpB (be Try.prog .neq 3 (.tmp 44) (.tmp 45) t33 t42) fun t46_1 =>
  wpB (gd t46_1 false (be Try.prog .neq 4 (.tmp 48) (.tmp 49) (gv t46_1 false t34) (gv t46_1 false t43))) fun t50_1 =>
  wpB (pickv t46_1 (some (Go.Value.bool true)) (some t50_1)) fun t51_1 =>
  wpB (gd t51_1 false (nilv (gv t51_1 false x0))) fun t54_1 =>
  wpB (gd t51_1 false (pureRun Try.prog (Instr.fieldAt 92 t54_1 1))) fun t55_1 =>
  wpB (gd t51_1 false (ldv Try.prog 75 t55_1 w.drew)) fun t56_1 =>
  gE t51_1 false (CallR Try.prog 105 [t56_1, (gv t51_1 false x7)] w.drew) (fun t58_1 w =>
  wpB (gd t51_1 false (nilv (gv t51_1 false x0))) fun t60_1 =>
  wpB (gd t51_1 false (pureRun Try.prog (Instr.fieldAt 92 t60_1 2))) fun t61_1 =>
  wpB (gd t51_1 false (ldv Try.prog 89 t61_1 w)) fun t62_1 =>
  gE t51_1 false (CallR Try.prog 96 [t62_1, (gv t51_1 false x7)] w) (fun t64_1 w =>
  gE t51_1 false (CallR Try.prog 104 [t58_1, t64_1] w) (fun t65_1 w =>
  wpB (gd t51_1 false (pureRun Try.prog (Op.unary .not t65_1))) fun t66_1 =>
  wpB (pickv t51_1 (some (Go.Value.bool true)) (some t66_1)) fun t67_1 =>
  P58_1 x0 x2 x4 x7 t67_1 w Q) w) w) w.drew))
  (P58_2 x0 x2 x4 (Go.Value.int Go.IntKind.i64 (-1)) w Q)
def L58_1 (x0 x2 x4 x7 x67 : Value) (w : World) (Q : Value → World → Prop) : Prop :=
  cnd x67
  (Q (Go.Value.bool false) w)
  (wpB (bp Try.prog .add 3 x7 (Go.Value.int Go.IntKind.i64 1)) fun t25 =>
  P58_0 x0 x2 x4 t25 w Q)
def L58_2 (x0 x2 x4 x12 : Value) (w : World) (Q : Value → World → Prop) : Prop :=
  wpB (pureRun Try.prog (Instr.fieldAt 51 x4 4)) fun t69 =>
  wpB (ldv Try.prog 3 t69 w) fun t70 =>
  wpB (bp Try.prog .leq 3 x12 t70) fun t71 =>
  wpB (gd t71 true (bp Try.prog .lss 3 (gv t71 true x12) (Go.Value.int Go.IntKind.i64 20))) fun t74 =>
  wpB (pickv t71 (some t74) (some (Go.Value.bool false))) fun t75 =>
  cnd t75
  (wpB (nilv x0) fun t80 =>
  wpB (pureRun Try.prog (Instr.fieldAt 92 t80 1)) fun t81 =>
  wpB (ldv Try.prog 75 t81 w.drew) fun t82 =>
  wpB (ldv Try.prog 51 x4 w.drew) fun t83 =>
  CallR Try.prog 43 [t82, t83, x12] w.drew fun t85 w =>
  wpB (pureRun Try.prog (Instr.extract t85 0)) fun t86 =>
  wpB (pureRun Try.prog (Instr.extract t85 1)) fun t87 =>
  wpB (nilv x0) fun t90 =>
  wpB (pureRun Try.prog (Instr.fieldAt 92 t90 2)) fun t91 =>
  wpB (ldv Try.prog 89 t91 w.drew) fun t92 =>
  wpB (ldv Try.prog 51 x4 w.drew) fun t93 =>
  CallR Try.prog 106 [t92, t93, x12] w.drew fun t95 w =>
  wpB (pureRun Try.prog (Instr.extract t95 0)) fun t96 =>
  wpB (pureRun Try.prog (Instr.extract t95 1)) fun t97 =>
  wpB (be Try.prog .neq 38 (.tmp 98) (.tmp 99) t86 t96) fun t100 =>
  wpB (gd t100 false (be Try.prog .neq 4 (.tmp 102) (.tmp 103) (gv t100 false t87) (gv t100 false t97))) fun t104 =>
  wpB (pickv t100 (some (Go.Value.bool true)) (some t104)) fun t105 =>
  cnd t105
  (Q (Go.Value.bool false) w)
  (wpB (bp Try.prog .add 3 x12 (Go.Value.int Go.IntKind.i64 1)) fun t77 =>
  P58_2 x0 x2 x4 t77 w Q))
  (((((wpB (nilv x0) fun t107 =>
  wpB (pureRun Try.prog (Instr.fieldAt 92 t107 1)) fun t108 =>
  wpB (nilv x0) fun t112 =>
  wpB (pureRun Try.prog (Instr.fieldAt 92 t112 2)) fun t113 =>
  wpB (ldv Try.prog 75 t108 w.drew) fun t109 =>
  wpB (ldv Try.prog 89 t113 w.drew) fun t114 =>
  CallR Try.prog 79 [t109] w.drew fun t110 w =>
  CallR Try.prog 107 [t114] w fun t115 w =>
  wpB (be Try.prog .eql 3 (.tmp 110) (.tmp 115) t110 t115) fun t116 =>
  wpB (gd t116 true (bp Try.prog .lss 3 (gv t116 true x2) (Go.Value.int Go.IntKind.i64 0))) fun t119 =>
  wpB (gd (gv t116 true t119) false (nilv (gv (gv t116 true t119) false x0))) fun t123 =>
  wpB (gd (gv t116 true t119) false (pureRun Try.prog (Instr.fieldAt 92 t123 0))) fun t124 =>
  wpB (gd (gv t116 true t119) false (pureRun Try.prog (Instr.fieldAt 74 t124 0))) fun t125 =>
  wpB (gd (gv t116 true t119) false (ldv Try.prog 3 t125 w)) fun t126 =>
  wpB (gd (gv t116 true t119) false (bp Try.prog .geq 3 (gv (gv t116 true t119) false x2) t126)) fun t127 =>
  wpB (gd t116 true (pickv (gv t116 true t119) (some (Go.Value.bool true)) (some t127))) fun t128 =>
  wpB (gd (gv t116 true t128) false (nilv (gv (gv t116 true t128) false x0))) fun t131 =>
  wpB (gd (gv t116 true t128) false (pureRun Try.prog (Instr.fieldAt 92 t131 1))) fun t132 =>
  wpB (gd (gv t116 true t128) false (nilv (gv (gv t116 true t128) false x0))) fun t137 =>
  wpB (gd (gv t116 true t128) false (pureRun Try.prog (Instr.fieldAt 92 t137 2))) fun t138 =>
  wpB (gd (gv t116 true t128) false (ldv Try.prog 75 t132 w)) fun t133 =>
  wpB (gd (gv t116 true t128) false (ldv Try.prog 89 t138 w)) fun t139 =>
  wpB (gd (gv t116 true t128) false (nilv t139)) fun t140 =>
  wpB (gd (gv t116 true t128) false (pureRun Try.prog (Instr.fieldAt 154 t140 5))) fun t141 =>
  wpB (gd (gv t116 true t128) false (ldv Try.prog 23 t141 w)) fun t142 =>
  wpB (gd (gv t116 true t128) false (pureRun Try.prog (Instr.indexAt 23 t142 (gv (gv t116 true t128) false x2)))) fun t144 =>
  wpB (gd (gv t116 true t128) false (ldv Try.prog 3 t144 w)) fun t145 =>
  gE (gv t116 true t128) false (CallR Try.prog 44 [t133, (gv (gv t116 true t128) false x2)] w) (fun t135 w =>
  wpB (gd (gv t116 true t128) false (be Try.prog .eql 3 (.tmp 135) (.tmp 145) t135 t145)) fun t146 =>
  wpB (gd t116 true (pickv (gv t116 true t128) (some (Go.Value.bool true)) (some t146))) fun t147 =>
  wpB (pickv t116 (some t147) (some (Go.Value.bool false))) fun t148 =>
  Q t148 w) w) ∧
  (wpB (nilv x0) fun t107_1 =>
  wpB (pureRun Try.prog (Instr.fieldAt 92 t107_1 1)) fun t108_1 =>
  wpB (nilv x0) fun t112_1 =>
  wpB (pureRun Try.prog (Instr.fieldAt 92 t112_1 2)) fun t113_1 =>
  wpB (ldv Try.prog 75 t108_1 w.drew) fun t109_1 =>
  wpB (ldv Try.prog 89 t113_1 w.drew) fun t114_1 =>
  CallR Try.prog 79 [t109_1] w.drew fun t110_1 w =>
  CallR Try.prog 107 [t114_1] w fun t115_1 w =>
  wpB (be Try.prog .eql 3 (.tmp 110) (.tmp 115) t110_1 t115_1) fun t116_1 =>
  wpB (gd t116_1 true (bp Try.prog .lss 3 (gv t116_1 true x2) (Go.Value.int Go.IntKind.i64 0))) fun t119_1 =>
  wpB (gd (gv t116_1 true t119_1) false (nilv (gv (gv t116_1 true t119_1) false x0))) fun t123_1 =>
  wpB (gd (gv t116_1 true t119_1) false (pureRun Try.prog (Instr.fieldAt 92 t123_1 0))) fun t124_1 =>
  wpB (gd (gv t116_1 true t119_1) false (pureRun Try.prog (Instr.fieldAt 74 t124_1 0))) fun t125_1 =>
  wpB (gd (gv t116_1 true t119_1) false (ldv Try.prog 3 t125_1 w)) fun t126_1 =>
  wpB (gd (gv t116_1 true t119_1) false (bp Try.prog .geq 3 (gv (gv t116_1 true t119_1) false x2) t126_1)) fun t127_1 =>
  wpB (gd t116_1 true (pickv (gv t116_1 true t119_1) (some (Go.Value.bool true)) (some t127_1))) fun t128_1 =>
  wpB (gd (gv t116_1 true t128_1) false (nilv (gv (gv t116_1 true t128_1) false x0))) fun t131_1 =>
  wpB (gd (gv t116_1 true t128_1) false (pureRun Try.prog (Instr.fieldAt 92 t131_1 1))) fun t132_1 =>
  wpB (gd (gv t116_1 true t128_1) false (nilv (gv (gv t116_1 true t128_1) false x0))) fun t137_1 =>
  wpB (gd (gv t116_1 true t128_1) false (pureRun Try.prog (Instr.fieldAt 92 t137_1 2))) fun t138_1 =>
  wpB (gd (gv t116_1 true t128_1) false (ldv Try.prog 75 t132_1 w)) fun t133_1 =>
  wpB (gd (gv t116_1 true t128_1) false (ldv Try.prog 89 t138_1 w)) fun t139_1 =>
  wpB (gd (gv t116_1 true t128_1) false (nilv t139_1)) fun t140_1 =>
  wpB (gd (gv t116_1 true t128_1) false (pureRun Try.prog (Instr.fieldAt 154 t140_1 5))) fun t141_1 =>
  wpB (gd (gv t116_1 true t128_1) false (ldv Try.prog 23 t141_1 w)) fun t142_1 =>
  wpB (gd (gv t116_1 true t128_1) false (pureRun Try.prog (Instr.indexAt 23 t142_1 (gv (gv t116_1 true t128_1) false x2)))) fun t144_1 =>
  gE (gv t116_1 true t128_1) false (CallR Try.prog 44 [t133_1, (gv (gv t116_1 true t128_1) false x2)] w) (fun t135_1 w =>
  wpB (gd (gv t116_1 true t128_1) false (ldv Try.prog 3 t144_1 w)) fun t145_1 =>
  wpB (gd (gv t116_1 true t128_1) false (be Try.prog .eql 3 (.tmp 135) (.tmp 145) t135_1 t145_1)) fun t146_1 =>
  wpB (gd t116_1 true (pickv (gv t116_1 true t128_1) (some (Go.Value.bool true)) (some t146_1))) fun t147_1 =>
  wpB (pickv t116_1 (some t147_1) (some (Go.Value.bool false))) fun t148_1 =>
  Q t148_1 w) w)) ∧
  (wpB (nilv x0) fun t107_2 =>
  wpB (pureRun Try.prog (Instr.fieldAt 92 t107_2 1)) fun t108_2 =>
  wpB (nilv x0) fun t112_2 =>
  wpB (pureRun Try.prog (Instr.fieldAt 92 t112_2 2)) fun t113_2 =>
  wpB (ldv Try.prog 75 t108_2 w.drew) fun t109_2 =>
  wpB (ldv Try.prog 89 t113_2 w.drew) fun t114_2 =>
  CallR Try.prog 79 [t109_2] w.drew fun t110_2 w =>
  CallR Try.prog 107 [t114_2] w fun t115_2 w =>
  wpB (be Try.prog .eql 3 (.tmp 110) (.tmp 115) t110_2 t115_2) fun t116_2 =>
  wpB (gd t116_2 true (bp Try.prog .lss 3 (gv t116_2 true x2) (Go.Value.int Go.IntKind.i64 0))) fun t119_2 =>
  wpB (gd (gv t116_2 true t119_2) false (nilv (gv (gv t116_2 true t119_2) false x0))) fun t123_2 =>
  wpB (gd (gv t116_2 true t119_2) false (pureRun Try.prog (Instr.fieldAt 92 t123_2 0))) fun t124_2 =>
  wpB (gd (gv t116_2 true t119_2) false (pureRun Try.prog (Instr.fieldAt 74 t124_2 0))) fun t125_2 =>
  wpB (gd (gv t116_2 true t119_2) false (ldv Try.prog 3 t125_2 w)) fun t126_2 =>
  wpB (gd (gv t116_2 true t119_2) false (bp Try.prog .geq 3 (gv (gv t116_2 true t119_2) false x2) t126_2)) fun t127_2 =>
  wpB (gd t116_2 true (pickv (gv t116_2 true t119_2) (some (Go.Value.bool true)) (some t127_2))) fun t128_2 =>
  wpB (gd (gv t116_2 true t128_2) false (nilv (gv (gv t116_2 true t128_2) false x0))) fun t131_2 =>
  wpB (gd (gv t116_2 true t128_2) false (pureRun Try.prog (Instr.fieldAt 92 t131_2 1))) fun t132_2 =>
  wpB (gd (gv t116_2 true t128_2) false (nilv (gv (gv t116_2 true t128_2) false x0))) fun t137_2 =>
  wpB (gd (gv t116_2 true t128_2) false (pureRun Try.prog (Instr.fieldAt 92 t137_2 2))) fun t138_2 =>
  wpB (gd (gv t116_2 true t128_2) false (ldv Try.prog 75 t132_2 w)) fun t133_2 =>
  wpB (gd (gv t116_2 true t128_2) false (ldv Try.prog 89 t138_2 w)) fun t139_2 =>
  wpB (gd (gv t116_2 true t128_2) false (nilv t139_2)) fun t140_2 =>
  wpB (gd (gv t116_2 true t128_2) false (pureRun Try.prog (Instr.fieldAt 154 t140_2 5))) fun t141_2 =>
  gE (gv t116_2 true t128_2) false (CallR Try.prog 44 [t133_2, (gv (gv t116_2 true t128_2) false x2)] w) (fun t135_2 w =>
  wpB (gd (gv t116_2 true t128_2) false (ldv Try.prog 23 t141_2 w)) fun t142_2 =>
  wpB (gd (gv t116_2 true t128_2) false (pureRun Try.prog (Instr.indexAt 23 t142_2 (gv (gv t116_2 true t128_2) false x2)))) fun t144_2 =>
  wpB (gd (gv t116_2 true t128_2) false (ldv Try.prog 3 t144_2 w)) fun t145_2 =>
  wpB (gd (gv t116_2 true t128_2) false (be Try.prog .eql 3 (.tmp 135) (.tmp 145) t135_2 t145_2)) fun t146_2 =>
  wpB (gd t116_2 true (pickv (gv t116_2 true t128_2) (some (Go.Value.bool true)) (some t146_2))) fun t147_2 =>
  wpB (pickv t116_2 (some t147_2) (some (Go.Value.bool false))) fun t148_2 =>
  Q t148_2 w) w)) ∧
  (wpB (nilv x0) fun t107_3 =>
  wpB (pureRun Try.prog (Instr.fieldAt 92 t107_3 1)) fun t108_3 =>
  wpB (nilv x0) fun t112_3 =>
  wpB (pureRun Try.prog (Instr.fieldAt 92 t112_3 2)) fun t113_3 =>
  wpB (ldv Try.prog 75 t108_3 w.drew) fun t109_3 =>
  wpB (ldv Try.prog 89 t113_3 w.drew) fun t114_3 =>
  CallR Try.prog 79 [t109_3] w.drew fun t110_3 w =>
  CallR Try.prog 107 [t114_3] w fun t115_3 w =>
  wpB (be Try.prog .eql 3 (.tmp 110) (.tmp 115) t110_3 t115_3) fun t116_3 =>
  wpB (gd t116_3 true (bp Try.prog .lss 3 (gv t116_3 true x2) (Go.Value.int Go.IntKind.i64 0))) fun t119_3 =>
  wpB (gd (gv t116_3 true t119_3) false (nilv (gv (gv t116_3 true t119_3) false x0))) fun t123_3 =>
  wpB (gd (gv t116_3 true t119_3) false (pureRun Try.prog (Instr.fieldAt 92 t123_3 0))) fun t124_3 =>
  wpB (gd (gv t116_3 true t119_3) false (pureRun Try.prog (Instr.fieldAt 74 t124_3 0))) fun t125_3 =>
  wpB (gd (gv t116_3 true t119_3) false (ldv Try.prog 3 t125_3 w)) fun t126_3 =>
  wpB (gd (gv t116_3 true t119_3) false (bp Try.prog .geq 3 (gv (gv t116_3 true t119_3) false x2) t126_3)) fun t127_3 =>
  wpB (gd t116_3 true (pickv (gv t116_3 true t119_3) (some (Go.Value.bool true)) (some t127_3))) fun t128_3 =>
  wpB (gd (gv t116_3 true t128_3) false (nilv (gv (gv t116_3 true t128_3) false x0))) fun t131_3 =>
  wpB (gd (gv t116_3 true t128_3) false (pureRun Try.prog (Instr.fieldAt 92 t131_3 1))) fun t132_3 =>
  wpB (gd (gv t116_3 true t128_3) false (nilv (gv (gv t116_3 true t128_3) false x0))) fun t137_3 =>
  wpB (gd (gv t116_3 true t128_3) false (pureRun Try.prog (Instr.fieldAt 92 t137_3 2))) fun t138_3 =>
  wpB (gd (gv t116_3 true t128_3) false (ldv Try.prog 75 t132_3 w)) fun t133_3 =>
  gE (gv t116_3 true t128_3) false (CallR Try.prog 44 [t133_3, (gv (gv t116_3 true t128_3) false x2)] w) (fun t135_3 w =>
  wpB (gd (gv t116_3 true t128_3) false (ldv Try.prog 89 t138_3 w)) fun t139_3 =>
  wpB (gd (gv t116_3 true t128_3) false (nilv t139_3)) fun t140_3 =>
  wpB (gd (gv t116_3 true t128_3) false (pureRun Try.prog (Instr.fieldAt 154 t140_3 5))) fun t141_3 =>
  wpB (gd (gv t116_3 true t128_3) false (ldv Try.prog 23 t141_3 w)) fun t142_3 =>
  wpB (gd (gv t116_3 true t128_3) false (pureRun Try.prog (Instr.indexAt 23 t142_3 (gv (gv t116_3 true t128_3) false x2)))) fun t144_3 =>
  wpB (gd (gv t116_3 true t128_3) false (ldv Try.prog 3 t144_3 w)) fun t145_3 =>
  wpB (gd (gv t116_3 true t128_3) false (be Try.prog .eql 3 (.tmp 135) (.tmp 145) t135_3 t145_3)) fun t146_3 =>
  wpB (gd t116_3 true (pickv (gv t116_3 true t128_3) (some (Go.Value.bool true)) (some t146_3))) fun t147_3 =>
  wpB (pickv t116_3 (some t147_3) (some (Go.Value.bool false))) fun t148_3 =>
  Q t148_3 w) w)) ∧
  ((((wpB (nilv x0) fun t107_4 =>
  wpB (pureRun Try.prog (Instr.fieldAt 92 t107_4 1)) fun t108_4 =>
  wpB (nilv x0) fun t112_4 =>
  wpB (pureRun Try.prog (Instr.fieldAt 92 t112_4 2)) fun t113_4 =>
  wpB (ldv Try.prog 75 t108_4 w.drew) fun t109_4 =>
  CallR Try.prog 79 [t109_4] w.drew fun t110_4 w =>
  wpB (ldv Try.prog 89 t113_4 w) fun t114_4 =>
  CallR Try.prog 107 [t114_4] w fun t115_4 w =>
  wpB (be Try.prog .eql 3 (.tmp 110) (.tmp 115) t110_4 t115_4) fun t116_4 =>
  wpB (gd t116_4 true (bp Try.prog .lss 3 (gv t116_4 true x2) (Go.Value.int Go.IntKind.i64 0))) fun t119_4 =>
  wpB (gd (gv t116_4 true t119_4) false (nilv (gv (gv t116_4 true t119_4) false x0))) fun t123_4 =>
  wpB (gd (gv t116_4 true t119_4) false (pureRun Try.prog (Instr.fieldAt 92 t123_4 0))) fun t124_4 =>
  wpB (gd (gv t116_4 true t119_4) false (pureRun Try.prog (Instr.fieldAt 74 t124_4 0))) fun t125_4 =>
  wpB (gd (gv t116_4 true t119_4) false (ldv Try.prog 3 t125_4 w)) fun t126_4 =>
  wpB (gd (gv t116_4 true t119_4) false (bp Try.prog .geq 3 (gv (gv t116_4 true t119_4) false x2) t126_4)) fun t127_4 =>
  wpB (gd t116_4 true (pickv (gv t116_4 true t119_4) (some (Go.Value.bool true)) (some t127_4))) fun t128_4 =>
  wpB (gd (gv t116_4 true t128_4) false (nilv (gv (gv t116_4 true t128_4) false x0))) fun t131_4 =>
  wpB (gd (gv t116_4 true t128_4) false (pureRun Try.prog (Instr.fieldAt 92 t131_4 1))) fun t132_4 =>
  wpB (gd (gv t116_4 true t128_4) false (nilv (gv (gv t116_4 true t128_4) false x0))) fun t137_4 =>
  wpB (gd (gv t116_4 true t128_4) false (pureRun Try.prog (Instr.fieldAt 92 t137_4 2))) fun t138_4 =>
  wpB (gd (gv t116_4 true t128_4) false (ldv Try.prog 75 t132_4 w)) fun t133_4 =>
  wpB (gd (gv t116_4 true t128_4) false (ldv Try.prog 89 t138_4 w)) fun t139_4 =>
  wpB (gd (gv t116_4 true t128_4) false (nilv t139_4)) fun t140_4 =>
  wpB (gd (gv t116_4 true t128_4) false (pureRun Try.prog (Instr.fieldAt 154 t140_4 5))) fun t141_4 =>
  wpB (gd (gv t116_4 true t128_4) false (ldv Try.prog 23 t141_4 w)) fun t142_4 =>
  wpB (gd (gv t116_4 true t128_4) false (pureRun Try.prog (Instr.indexAt 23 t142_4 (gv (gv t116_4 true t128_4) false x2)))) fun t144_4 =>
  wpB (gd (gv t116_4 true t128_4) false (ldv Try.prog 3 t144_4 w)) fun t145_4 =>
  gE (gv t116_4 true t128_4) false (CallR Try.prog 44 [t133_4, (gv (gv t116_4 true t128_4) false x2)] w) (fun t135_4 w =>
  wpB (gd (gv t116_4 true t128_4) false (be Try.prog .eql 3 (.tmp 135) (.tmp 145) t135_4 t145_4)) fun t146_4 =>
  wpB (gd t116_4 true (pickv (gv t116_4 true t128_4) (some (Go.Value.bool true)) (some t146_4))) fun t147_4 =>
  wpB (pickv t116_4 (some t147_4) (some (Go.Value.bool false))) fun t148_4 =>
  Q t148_4 w) w) ∧
  (wpB (nilv x0) fun t107_5 =>
  wpB (pureRun Try.prog (Instr.fieldAt 92 t107_5 1)) fun t108_5 =>
  wpB (nilv x0) fun t112_5 =>
  wpB (pureRun Try.prog (Instr.fieldAt 92 t112_5 2)) fun t113_5 =>
  wpB (ldv Try.prog 75 t108_5 w.drew) fun t109_5 =>
  CallR Try.prog 79 [t109_5] w.drew fun t110_5 w =>
  wpB (ldv Try.prog 89 t113_5 w) fun t114_5 =>
  CallR Try.prog 107 [t114_5] w fun t115_5 w =>
  wpB (be Try.prog .eql 3 (.tmp 110) (.tmp 115) t110_5 t115_5) fun t116_5 =>
  wpB (gd t116_5 true (bp Try.prog .lss 3 (gv t116_5 true x2) (Go.Value.int Go.IntKind.i64 0))) fun t119_5 =>
  wpB (gd (gv t116_5 true t119_5) false (nilv (gv (gv t116_5 true t119_5) false x0))) fun t123_5 =>
  wpB (gd (gv t116_5 true t119_5) false (pureRun Try.prog (Instr.fieldAt 92 t123_5 0))) fun t124_5 =>
  wpB (gd (gv t116_5 true t119_5) false (pureRun Try.prog (Instr.fieldAt 74 t124_5 0))) fun t125_5 =>
  wpB (gd (gv t116_5 true t119_5) false (ldv Try.prog 3 t125_5 w)) fun t126_5 =>
  wpB (gd (gv t116_5 true t119_5) false (bp Try.prog .geq 3 (gv (gv t116_5 true t119_5) false x2) t126_5)) fun t127_5 =>
  wpB (gd t116_5 true (pickv (gv t116_5 true t119_5) (some (Go.Value.bool true)) (some t127_5))) fun t128_5 =>
  wpB (gd (gv t116_5 true t128_5) false (nilv (gv (gv t116_5 true t128_5) false x0))) fun t131_5 =>
  wpB (gd (gv t116_5 true t128_5) false (pureRun Try.prog (Instr.fieldAt 92 t131_5 1))) fun t132_5 =>
  wpB (gd (gv t116_5 true t128_5) false (nilv (gv (gv t116_5 true t128_5) false x0))) fun t137_5 =>
  wpB (gd (gv t116_5 true t128_5) false (pureRun Try.prog (Instr.fieldAt 92 t137_5 2))) fun t138_5 =>
  wpB (gd (gv t116_5 true t128_5) false (ldv Try.prog 75 t132_5 w)) fun t133_5 =>
  wpB (gd (gv t116_5 true t128_5) false (ldv Try.prog 89 t138_5 w)) fun t139_5 =>
  wpB (gd (gv t116_5 true t128_5) false (nilv t139_5)) fun t140_5 =>
  wpB (gd (gv t116_5 true t128_5) false (pureRun Try.prog (Instr.fieldAt 154 t140_5 5))) fun t141_5 =>
  wpB (gd (gv t116_5 true t128_5) false (ldv Try.prog 23 t141_5 w)) fun t142_5 =>
  wpB (gd (gv t116_5 true t128_5) false (pureRun Try.prog (Instr.indexAt 23 t142_5 (gv (gv t116_5 true t128_5) false x2)))) fun t144_5 =>
  gE (gv t116_5 true t128_5) false (CallR Try.prog 44 [t133_5, (gv (gv t116_5 true t128_5) false x2)] w) (fun t135_5 w =>
  wpB (gd (gv t116_5 true t128_5) false (ldv Try.prog 3 t144_5 w)) fun t145_5 =>
  wpB (gd (gv t116_5 true t128_5) false (be Try.prog .eql 3 (.tmp 135) (.tmp 145) t135_5 t145_5)) fun t146_5 =>
  wpB (gd t116_5 true (pickv (gv t116_5 true t128_5) (some (Go.Value.bool true)) (some t146_5))) fun t147_5 =>
  wpB (pickv t116_5 (some t147_5) (some (Go.Value.bool false))) fun t148_5 =>
  Q t148_5 w) w)) ∧
  (wpB (nilv x0) fun t107_6 =>
  wpB (pureRun Try.prog (Instr.fieldAt 92 t107_6 1)) fun t108_6 =>
  wpB (nilv x0) fun t112_6 =>
  wpB (pureRun Try.prog (Instr.fieldAt 92 t112_6 2)) fun t113_6 =>
  wpB (ldv Try.prog 75 t108_6 w.drew) fun t109_6 =>
  CallR Try.prog 79 [t109_6] w.drew fun t110_6 w =>
  wpB (ldv Try.prog 89 t113_6 w) fun t114_6 =>
  CallR Try.prog 107 [t114_6] w fun t115_6 w =>
  wpB (be Try.prog .eql 3 (.tmp 110) (.tmp 115) t110_6 t115_6) fun t116_6 =>
  wpB (gd t116_6 true (bp Try.prog .lss 3 (gv t116_6 true x2) (Go.Value.int Go.IntKind.i64 0))) fun t119_6 =>
  wpB (gd (gv t116_6 true t119_6) false (nilv (gv (gv t116_6 true t119_6) false x0))) fun t123_6 =>
  wpB (gd (gv t116_6 true t119_6) false (pureRun Try.prog (Instr.fieldAt 92 t123_6 0))) fun t124_6 =>
  wpB (gd (gv t116_6 true t119_6) false (pureRun Try.prog (Instr.fieldAt 74 t124_6 0))) fun t125_6 =>
  wpB (gd (gv t116_6 true t119_6) false (ldv Try.prog 3 t125_6 w)) fun t126_6 =>
  wpB (gd (gv t116_6 true t119_6) false (bp Try.prog .geq 3 (gv (gv t116_6 true t119_6) false x2) t126_6)) fun t127_6 =>
  wpB (gd t116_6 true (pickv (gv t116_6 true t119_6) (some (Go.Value.bool true)) (some t127_6))) fun t128_6 =>
  wpB (gd (gv t116_6 true t128_6) false (nilv (gv (gv t116_6 true t128_6) false x0))) fun t131_6 =>
  wpB (gd (gv t116_6 true t128_6) false (pureRun Try.prog (Instr.fieldAt 92 t131_6 1))) fun t132_6 =>
  wpB (gd (gv t116_6 true t128_6) false (nilv (gv (gv t116_6 true t128_6) false x0))) fun t137_6 =>
  wpB (gd (gv t116_6 true t128_6) false (pureRun Try.prog (Instr.fieldAt 92 t137_6 2))) fun t138_6 =>
  wpB (gd (gv t116_6 true t128_6) false (ldv Try.prog 75 t132_6 w)) fun t133_6 =>
  wpB (gd (gv t116_6 true t128_6) false (ldv Try.prog 89 t138_6 w)) fun t139_6 =>
  wpB (gd (gv t116_6 true t128_6) false (nilv t139_6)) fun t140_6 =>
  wpB (gd (gv t116_6 true t128_6) false (pureRun Try.prog (Instr.fieldAt 154 t140_6 5))) fun t141_6 =>
  gE (gv t116_6 true t128_6) false (CallR Try.prog 44 [t133_6, (gv (gv t116_6 true t128_6) false x2)] w) (fun t135_6 w =>
  wpB (gd (gv t116_6 true t128_6) false (ldv Try.prog 23 t141_6 w)) fun t142_6 =>
  wpB (gd (gv t116_6 true t128_6) false (pureRun Try.prog (Instr.indexAt 23 t142_6 (gv (gv t116_6 true t128_6) false x2)))) fun t144_6 =>
  wpB (gd (gv t116_6 true t128_6) false (ldv Try.prog 3 t144_6 w)) fun t145_6 =>
  wpB (gd (gv t116_6 true t128_6) false (be Try.prog .eql 3 (.tmp 135) (.tmp 145) t135_6 t145_6)) fun t146_6 =>
  wpB (gd t116_6 true (pickv (gv t116_6 true t128_6) (some (Go.Value.bool true)) (some t146_6))) fun t147_6 =>
  wpB (pickv t116_6 (some t147_6) (some (Go.Value.bool false))) fun t148_6 =>
  Q t148_6 w) w)) ∧
  (wpB (nilv x0) fun t107_7 =>
  wpB (pureRun Try.prog (Instr.fieldAt 92 t107_7 1)) fun t108_7 =>
  wpB (ldv Try.prog 75 t108_7 w.drew) fun t109_7 =>
  CallR Try.prog 79 [t109_7] w.drew fun t110_7 w =>
  wpB (nilv x0) fun t112_7 =>
  wpB (pureRun Try.prog (Instr.fieldAt 92 t112_7 2)) fun t113_7 =>
  wpB (ldv Try.prog 89 t113_7 w) fun t114_7 =>
  CallR Try.prog 107 [t114_7] w fun t115_7 w =>
  wpB (be Try.prog .eql 3 (.tmp 110) (.tmp 115) t110_7 t115_7) fun t116_7 =>
  wpB (gd t116_7 true (bp Try.prog .lss 3 (gv t116_7 true x2) (Go.Value.int Go.IntKind.i64 0))) fun t119_7 =>
  wpB (gd (gv t116_7 true t119_7) false (nilv (gv (gv t116_7 true t119_7) false x0))) fun t123_7 =>
  wpB (gd (gv t116_7 true t119_7) false (pureRun Try.prog (Instr.fieldAt 92 t123_7 0))) fun t124_7 =>
  wpB (gd (gv t116_7 true t119_7) false (pureRun Try.prog (Instr.fieldAt 74 t124_7 0))) fun t125_7 =>
  wpB (gd (gv t116_7 true t119_7) false (ldv Try.prog 3 t125_7 w)) fun t126_7 =>
  wpB (gd (gv t116_7 true t119_7) false (bp Try.prog .geq 3 (gv (gv t116_7 true t119_7) false x2) t126_7)) fun t127_7 =>
  wpB (gd t116_7 true (pickv (gv t116_7 true t119_7) (some (Go.Value.bool true)) (some t127_7))) fun t128_7 =>
  wpB (gd (gv t116_7 true t128_7) false (nilv (gv (gv t116_7 true t128_7) false x0))) fun t131_7 =>
  wpB (gd (gv t116_7 true t128_7) false (pureRun Try.prog (Instr.fieldAt 92 t131_7 1))) fun t132_7 =>
  wpB (gd (gv t116_7 true t128_7) false (ldv Try.prog 75 t132_7 w)) fun t133_7 =>
  gE (gv t116_7 true t128_7) false (CallR Try.prog 44 [t133_7, (gv (gv t116_7 true t128_7) false x2)] w) (fun t135_7 w =>
  wpB (gd (gv t116_7 true t128_7) false (nilv (gv (gv t116_7 true t128_7) false x0))) fun t137_7 =>
  wpB (gd (gv t116_7 true t128_7) false (pureRun Try.prog (Instr.fieldAt 92 t137_7 2))) fun t138_7 =>
  wpB (gd (gv t116_7 true t128_7) false (ldv Try.prog 89 t138_7 w)) fun t139_7 =>
  wpB (gd (gv t116_7 true t128_7) false (nilv t139_7)) fun t140_7 =>
  wpB (gd (gv t116_7 true t128_7) false (pureRun Try.prog (Instr.fieldAt 154 t140_7 5))) fun t141_7 =>
  wpB (gd (gv t116_7 true t128_7) false (ldv Try.prog 23 t141_7 w)) fun t142_7 =>
  wpB (gd (gv t116_7 true t128_7) false (pureRun Try.prog (Instr.indexAt 23 t142_7 (gv (gv t116_7 true t128_7) false x2)))) fun t144_7 =>
  wpB (gd (gv t116_7 true t128_7) false (ldv Try.prog 3 t144_7 w)) fun t145_7 =>
  wpB (gd (gv t116_7 true t128_7) false (be Try.prog .eql 3 (.tmp 135) (.tmp 145) t135_7 t145_7)) fun t146_7 =>
  wpB (gd t116_7 true (pickv (gv t116_7 true t128_7) (some (Go.Value.bool true)) (some t146_7))) fun t147_7 =>
  wpB (pickv t116_7 (some t147_7) (some (Go.Value.bool false))) fun t148_7 =>
  Q t148_7 w) w)))
theorem F58_ok {a0 a1 a2 : Value} {w : World} {Q : Value → World → Prop} (h : F58 a0 a1 a2 w Q) : CallR Try.prog 58 [a0, a1, a2] w Q :=
  have e : evC Try.prog (entR 3 143) 58 149 H58 Q C58 [] (entryE 0 [a0, a1, a2]) w (contT Try.prog (entR 3 143) 58 149 H58 Try.f58.results.toList Q []) = F58 a0 a1 a2 w Q := by kernel_rfl
  bt (fn := Try.f58) mixed bn Try.func58 (c := C58) rfl H58 (Nat.le_of_ble_eq_true rfl) (e.mpr h)
theorem L58_0_ok {x0 x2 x4 x7 : Value} {w : World} {Q : Value → World → Prop} (h : L58_0 x0 x2 x4 x7 w Q) : P58_0 x0 x2 x4 x7 w Q :=
  have e : evC Try.prog (entR 3 143) 58 149 H58 Q (nav [1, 0, 1, 4, 5] C58) T58_0 (unpack [0, 2, 4, 7] [x0, x2, x4, x7]) w (contT Try.prog (entR 3 143) 58 149 H58 Try.f58.results.toList Q T58_0) = L58_0 x0 x2 x4 x7 w Q := by kernel_rfl
  part_lp (fn := Try.f58) mixed bn Try.func58 H58 (c := (nav [1, 0, 1, 4, 5] C58)) (t := [.blk 0, .jn (nav [1, 1] C58)]) (e.mpr h)
theorem L58_1_ok {x0 x2 x4 x7 x67 : Value} {w : World} {Q : Value → World → Prop} (h : L58_1 x0 x2 x4 x7 x67 w Q) : P58_1 x0 x2 x4 x7 x67 w Q :=
  have e : evC Try.prog (entR 3 143) 58 149 H58 Q (nav [1, 0, 1, 4, 5, 1, 0, 4, 1, 1, 1] C58) [.blk 1, .jn (nav [1, 0, 1, 4, 5, 1, 1] C58), .lp (nav [1, 0, 1, 4, 5] C58), .blk 0, .jn (nav [1, 1] C58)] (unpack [0, 2, 4, 7, 67] [x0, x2, x4, x7, x67]) w (contT Try.prog (entR 3 143) 58 149 H58 Try.f58.results.toList Q [.blk 1, .jn (nav [1, 0, 1, 4, 5, 1, 1] C58), .lp (nav [1, 0, 1, 4, 5] C58), .blk 0, .jn (nav [1, 1] C58)]) = L58_1 x0 x2 x4 x7 x67 w Q := by kernel_rfl
  bx (fn := Try.f58) mixed bn Try.func58 H58 (c := (nav [1, 0, 1, 4, 5, 1, 0, 4, 1, 1, 1] C58)) (t := [.blk 1, .jn (nav [1, 0, 1, 4, 5, 1, 1] C58), .lp (nav [1, 0, 1, 4, 5] C58), .blk 0, .jn (nav [1, 1] C58)]) (e.mpr h)
theorem L58_2_ok {x0 x2 x4 x12 : Value} {w : World} {Q : Value → World → Prop} (h : L58_2 x0 x2 x4 x12 w Q) : P58_2 x0 x2 x4 x12 w Q :=
  have e : evC Try.prog (entR 3 143) 58 149 H58 Q (nav [1, 1, 0, 1, 4, 5] C58) T58_2 (unpack [0, 2, 4, 12] [x0, x2, x4, x12]) w (contT Try.prog (entR 3 143) 58 149 H58 Try.f58.results.toList Q T58_2) = L58_2 x0 x2 x4 x12 w Q := by kernel_rfl
  part_lp (fn := Try.f58) mixed bn Try.func58 H58 (c := (nav [1, 1, 0, 1, 4, 5] C58)) (t := [.blk 2, .jn (nav [1, 1, 1] C58)]) (e.mpr h)

noncomputable def C88 : Code := (Try.f88.body).getD .skip
noncomputable def H88 : Hints := ⟨[], [], [(1, (.ask 4 7 (.ask 4 10 (.ask 4 13 (.ask 7 10 (.ask 7 13 (.ask 10 13 (.leaf [1, 2, 5, 8, 11, 0, 3, 6, 9, 12, 4, 7, 10, 13, 14, 15, 16]) (.leaf [1, 2, 5, 8, 11, 0, 3, 6, 9, 12, 4, 7, 13, 10, 14, 15, 16])) (.leaf [1, 2, 5, 8, 11, 0, 3, 6, 9, 12, 4, 13, 7, 10, 14, 15, 16])) (.ask 10 13 (.ask 7 13 (.leaf [1, 2, 5, 8, 11, 0, 3, 6, 9, 12, 4, 10, 7, 13, 14, 15, 16]) (.leaf [1, 2, 5, 8, 11, 0, 3, 6, 9, 12, 4, 10, 13, 7, 14, 15, 16])) (.leaf [1, 2, 5, 8, 11, 0, 3, 6, 9, 12, 4, 13, 10, 7, 14, 15, 16]))) (.ask 7 10 (.leaf [1, 2, 5, 8, 11, 0, 3, 6, 9, 12, 13, 4, 7, 10, 14, 15, 16]) (.leaf [1, 2, 5, 8, 11, 0, 3, 6, 9, 12, 13, 4, 10, 7, 14, 15, 16]))) (.ask 10 13 (.ask 4 13 (.ask 7 13 (.leaf [1, 2, 5, 8, 11, 0, 3, 6, 9, 12, 10, 4, 7, 13, 14, 15, 16]) (.leaf [1, 2, 5, 8, 11, 0, 3, 6, 9, 12, 10, 4, 13, 7, 14, 15, 16])) (.leaf [1, 2, 5, 8, 11, 0, 3, 6, 9, 12, 10, 13, 4, 7, 14, 15, 16])) (.leaf [1, 2, 5, 8, 11, 0, 3, 6, 9, 12, 13, 10, 4, 7, 14, 15, 16]))) (.ask 7 10 (.ask 7 13 (.ask 4 10 (.ask 4 13 (.ask 10 13 (.leaf [1, 2, 5, 8, 11, 0, 3, 6, 9, 12, 7, 4, 10, 13, 14, 15, 16]) (.leaf [1, 2, 5, 8, 11, 0, 3, 6, 9, 12, 7, 4, 13, 10, 14, 15, 16])) (.leaf [1, 2, 5, 8, 11, 0, 3, 6, 9, 12, 7, 13, 4, 10, 14, 15, 16])) (.ask 10 13 (.ask 4 13 (.leaf [1, 2, 5, 8, 11, 0, 3, 6, 9, 12, 7, 10, 4, 13, 14, 15, 16]) (.leaf [1, 2, 5, 8, 11, 0, 3, 6, 9, 12, 7, 10, 13, 4, 14, 15, 16])) (.leaf [1, 2, 5, 8, 11, 0, 3, 6, 9, 12, 7, 13, 10, 4, 14, 15, 16]))) (.ask 4 10 (.leaf [1, 2, 5, 8, 11, 0, 3, 6, 9, 12, 13, 7, 4, 10, 14, 15, 16]) (.leaf [1, 2, 5, 8, 11, 0, 3, 6, 9, 12, 13, 7, 10, 4, 14, 15, 16]))) (.ask 10 13 (.ask 7 13 (.ask 4 13 (.leaf [1, 2, 5, 8, 11, 0, 3, 6, 9, 12, 10, 7, 4, 13, 14, 15, 16]) (.leaf [1, 2, 5, 8, 11, 0, 3, 6, 9, 12, 10, 7, 13, 4, 14, 15, 16])) (.leaf [1, 2, 5, 8, 11, 0, 3, 6, 9, 12, 10, 13, 7, 4, 14, 15, 16])) (.leaf [1, 2, 5, 8, 11, 0, 3, 6, 9, 12, 13, 10, 7, 4, 14, 15, 16])))))]⟩
def F88 (a0 a1 : Value) (w : World) (Q : Value → World → Prop) : Prop :=
  effv Try.prog (Instr.box 74 a0) w fun t2 w =>
  ((((((wpB (pureRun Try.prog (Instr.fieldAt 74 t2 3)) fun t7 =>
  wpB (pureRun Try.prog (Instr.fieldAt 74 t2 3)) fun t10 =>
  wpB (pureRun Try.prog (Instr.fieldAt 74 t2 0)) fun t13 =>
  wpB (pureRun Try.prog (Instr.fieldAt 74 t2 0)) fun t16 =>
  wpB (ldv Try.prog 74 t2 w.drew) fun t5 =>
  wpB (ldv Try.prog 3 t7 w.drew) fun t8 =>
  wpB (ldv Try.prog 3 t10 w.drew) fun t11 =>
  wpB (ldv Try.prog 3 t13 w.drew) fun t14 =>
  wpB (ldv Try.prog 3 t16 w.drew) fun t17 =>
  effv Try.prog (Instr.makeSlice 23 t8 t8) w.drew fun t9 w =>
  effv Try.prog (Instr.makeSlice 23 t11 t11) w fun t12 w =>
  effv Try.prog (Instr.makeSlice 23 t14 t14) w fun t15 w =>
  effv Try.prog (Instr.makeSlice 152 t17 t17) w fun t18 w =>
  wpB (pureRun Try.prog (Instr.build 154 #[(0, t5), (1, a1), (2, t9), (3, t12), (5, t15), (6, t18)])) fun t19 =>
  effv Try.prog (Instr.box 154 t19) w fun t20 w =>
  Q t20 w) ∧
  (wpB (pureRun Try.prog (Instr.fieldAt 74 t2 3)) fun t7_1 =>
  wpB (pureRun Try.prog (Instr.fieldAt 74 t2 3)) fun t10_1 =>
  wpB (pureRun Try.prog (Instr.fieldAt 74 t2 0)) fun t13_1 =>
  wpB (pureRun Try.prog (Instr.fieldAt 74 t2 0)) fun t16_1 =>
  wpB (ldv Try.prog 74 t2 w.drew) fun t5_1 =>
  wpB (ldv Try.prog 3 t7_1 w.drew) fun t8_1 =>
  wpB (ldv Try.prog 3 t10_1 w.drew) fun t11_1 =>
  wpB (ldv Try.prog 3 t13_1 w.drew) fun t14_1 =>
  wpB (ldv Try.prog 3 t16_1 w.drew) fun t17_1 =>
  effv Try.prog (Instr.makeSlice 23 t8_1 t8_1) w.drew fun t9_1 w =>
  effv Try.prog (Instr.makeSlice 23 t11_1 t11_1) w fun t12_1 w =>
  effv Try.prog (Instr.makeSlice 152 t17_1 t17_1) w fun t18_1 w =>
  effv Try.prog (Instr.makeSlice 23 t14_1 t14_1) w fun t15_1 w =>
  wpB (pureRun Try.prog (Instr.build 154 #[(0, t5_1), (1, a1), (2, t9_1), (3, t12_1), (5, t15_1), (6, t18_1)])) fun t19_1 =>
  effv Try.prog (Instr.box 154 t19_1) w fun t20_1 w =>
  Q t20_1 w)) ∧
  (wpB (pureRun Try.prog (Instr.fieldAt 74 t2 3)) fun t7_2 =>
  wpB (pureRun Try.prog (Instr.fieldAt 74 t2 3)) fun t10_2 =>
  wpB (pureRun Try.prog (Instr.fieldAt 74 t2 0)) fun t13_2 =>
  wpB (pureRun Try.prog (Instr.fieldAt 74 t2 0)) fun t16_2 =>
  wpB (ldv Try.prog 74 t2 w.drew) fun t5_2 =>
  wpB (ldv Try.prog 3 t7_2 w.drew) fun t8_2 =>
  wpB (ldv Try.prog 3 t10_2 w.drew) fun t11_2 =>
  wpB (ldv Try.prog 3 t13_2 w.drew) fun t14_2 =>
  wpB (ldv Try.prog 3 t16_2 w.drew) fun t17_2 =>
  effv Try.prog (Instr.makeSlice 23 t8_2 t8_2) w.drew fun t9_2 w =>
  effv Try.prog (Instr.makeSlice 152 t17_2 t17_2) w fun t18_2 w =>
  effv Try.prog (Instr.makeSlice 23 t11_2 t11_2) w fun t12_2 w =>
  effv Try.prog (Instr.makeSlice 23 t14_2 t14_2) w fun t15_2 w =>
  wpB (pureRun Try.prog (Instr.build 154 #[(0, t5_2), (1, a1), (2, t9_2), (3, t12_2), (5, t15_2), (6, t18_2)])) fun t19_2 =>
  effv Try.prog (Instr.box 154 t19_2) w fun t20_2 w =>
  Q t20_2 w)) ∧
  (((wpB (pureRun Try.prog (Instr.fieldAt 74 t2 3)) fun t7_3 =>
  wpB (pureRun Try.prog (Instr.fieldAt 74 t2 3)) fun t10_3 =>
  wpB (pureRun Try.prog (Instr.fieldAt 74 t2 0)) fun t13_3 =>
  wpB (pureRun Try.prog (Instr.fieldAt 74 t2 0)) fun t16_3 =>
  wpB (ldv Try.prog 74 t2 w.drew) fun t5_3 =>
  wpB (ldv Try.prog 3 t7_3 w.drew) fun t8_3 =>
  wpB (ldv Try.prog 3 t10_3 w.drew) fun t11_3 =>
  wpB (ldv Try.prog 3 t13_3 w.drew) fun t14_3 =>
  wpB (ldv Try.prog 3 t16_3 w.drew) fun t17_3 =>
  effv Try.prog (Instr.makeSlice 23 t8_3 t8_3) w.drew fun t9_3 w =>
  effv Try.prog (Instr.makeSlice 23 t14_3 t14_3) w fun t15_3 w =>
  effv Try.prog (Instr.makeSlice 23 t11_3 t11_3) w fun t12_3 w =>
  effv Try.prog (Instr.makeSlice 152 t17_3 t17_3) w fun t18_3 w =>
  wpB (pureRun Try.prog (Instr.build 154 #[(0, t5_3), (1, a1), (2, t9_3), (3, t12_3), (5, t15_3), (6, t18_3)])) fun t19_3 =>
  effv Try.prog (Instr.box 154 t19_3) w fun t20_3 w =>
  Q t20_3 w) ∧
  (wpB (pureRun Try.prog (Instr.fieldAt 74 t2 3)) fun t7_4 =>
  wpB (pureRun Try.prog (Instr.fieldAt 74 t2 3)) fun t10_4 =>
  wpB (pureRun Try.prog (Instr.fieldAt 74 t2 0)) fun t13_4 =>
  wpB (pureRun Try.prog (Instr.fieldAt 74 t2 0)) fun t16_4 =>
  wpB (ldv Try.prog 74 t2 w.drew) fun t5_4 =>
  wpB (ldv Try.prog 3 t7_4 w.drew) fun t8_4 =>
  wpB (ldv Try.prog 3 t10_4 w.drew) fun t11_4 =>
  wpB (ldv Try.prog 3 t13_4 w.drew) fun t14_4 =>
  wpB (ldv Try.prog 3 t16_4 w.drew) fun t17_4 =>
  effv Try.prog (Instr.makeSlice 23 t8_4 t8_4) w.drew fun t9_4 w =>
  effv Try.prog (Instr.makeSlice 23 t14_4 t14_4) w fun t15_4 w =>
  effv Try.prog (Instr.makeSlice 152 t17_4 t17_4) w fun t18_4 w =>
  effv Try.prog (Instr.makeSlice 23 t11_4 t11_4) w fun t12_4 w =>
  wpB (pureRun Try.prog (Instr.build 154 #[(0, t5_4), (1, a1), (2, t9_4), (3, t12_4), (5, t15_4), (6, t18_4)])) fun t19_4 =>
  effv Try.prog (Instr.box 154 t19_4) w fun t20_4 w =>
  Q t20_4 w)) ∧
  (wpB (pureRun Try.prog (Instr.fieldAt 74 t2 3)) fun t7_5 =>
  wpB (pureRun Try.prog (Instr.fieldAt 74 t2 3)) fun t10_5 =>
  wpB (pureRun Try.prog (Instr.fieldAt 74 t2 0)) fun t13_5 =>
  wpB (pureRun Try.prog (Instr.fieldAt 74 t2 0)) fun t16_5 =>
  wpB (ldv Try.prog 74 t2 w.drew) fun t5_5 =>
  wpB (ldv Try.prog 3 t7_5 w.drew) fun t8_5 =>
  wpB (ldv Try.prog 3 t10_5 w.drew) fun t11_5 =>
  wpB (ldv Try.prog 3 t13_5 w.drew) fun t14_5 =>
  wpB (ldv Try.prog 3 t16_5 w.drew) fun t17_5 =>
  effv Try.prog (Instr.makeSlice 23 t8_5 t8_5) w.drew fun t9_5 w =>
  effv Try.prog (Instr.makeSlice 152 t17_5 t17_5) w fun t18_5 w =>
  effv Try.prog (Instr.makeSlice 23 t14_5 t14_5) w fun t15_5 w =>
  effv Try.prog (Instr.makeSlice 23 t11_5 t11_5) w fun t12_5 w =>
  wpB (pureRun Try.prog (Instr.build 154 #[(0, t5_5), (1, a1), (2, t9_5), (3, t12_5), (5, t15_5), (6, t18_5)])) fun t19_5 =>
  effv Try.prog (Instr.box 154 t19_5) w fun t20_5 w =>
  Q t20_5 w))) ∧
  ((wpB (pureRun Try.prog (Instr.fieldAt 74 t2 3)) fun t7_6 =>
  wpB (pureRun Try.prog (Instr.fieldAt 74 t2 3)) fun t10_6 =>
  wpB (pureRun Try.prog (Instr.fieldAt 74 t2 0)) fun t13_6 =>
  wpB (pureRun Try.prog (Instr.fieldAt 74 t2 0)) fun t16_6 =>
  wpB (ldv Try.prog 74 t2 w.drew) fun t5_6 =>
  wpB (ldv Try.prog 3 t7_6 w.drew) fun t8_6 =>
  wpB (ldv Try.prog 3 t10_6 w.drew) fun t11_6 =>
  wpB (ldv Try.prog 3 t13_6 w.drew) fun t14_6 =>
  wpB (ldv Try.prog 3 t16_6 w.drew) fun t17_6 =>
  effv Try.prog (Instr.makeSlice 152 t17_6 t17_6) w.drew fun t18_6 w =>
  effv Try.prog (Instr.makeSlice 23 t8_6 t8_6) w fun t9_6 w =>
  effv Try.prog (Instr.makeSlice 23 t11_6 t11_6) w fun t12_6 w =>
  effv Try.prog (Instr.makeSlice 23 t14_6 t14_6) w fun t15_6 w =>
  wpB (pureRun Try.prog (Instr.build 154 #[(0, t5_6), (1, a1), (2, t9_6), (3, t12_6), (5, t15_6), (6, t18_6)])) fun t19_6 =>
  effv Try.prog (Instr.box 154 t19_6) w fun t20_6 w =>
  Q t20_6 w) ∧
  (wpB (pureRun Try.prog (Instr.fieldAt 74 t2 3)) fun t7_7 =>
  wpB (pureRun Try.prog (Instr.fieldAt 74 t2 3)) fun t10_7 =>
  wpB (pureRun Try.prog (Instr.fieldAt 74 t2 0)) fun t13_7 =>
  wpB (pureRun Try.prog (Instr.fieldAt 74 t2 0)) fun t16_7 =>
  wpB (ldv Try.prog 74 t2 w.drew) fun t5_7 =>
  wpB (ldv Try.prog 3 t7_7 w.drew) fun t8_7 =>
  wpB (ldv Try.prog 3 t10_7 w.drew) fun t11_7 =>
  wpB (ldv Try.prog 3 t13_7 w.drew) fun t14_7 =>
  wpB (ldv Try.prog 3 t16_7 w.drew) fun t17_7 =>
  effv Try.prog (Instr.makeSlice 152 t17_7 t17_7) w.drew fun t18_7 w =>
  effv Try.prog (Instr.makeSlice 23 t8_7 t8_7) w fun t9_7 w =>
  effv Try.prog (Instr.makeSlice 23 t14_7 t14_7) w fun t15_7 w =>
  effv Try.prog (Instr.makeSlice 23 t11_7 t11_7) w fun t12_7 w =>
  wpB (pureRun Try.prog (Instr.build 154 #[(0, t5_7), (1, a1), (2, t9_7), (3, t12_7), (5, t15_7), (6, t18_7)])) fun t19_7 =>
  effv Try.prog (Instr.box 154 t19_7) w fun t20_7 w =>
  Q t20_7 w))) ∧
  ((((wpB (pureRun Try.prog (Instr.fieldAt 74 t2 3)) fun t7_8 =>
  wpB (pureRun Try.prog (Instr.fieldAt 74 t2 3)) fun t10_8 =>
  wpB (pureRun Try.prog (Instr.fieldAt 74 t2 0)) fun t13_8 =>
  wpB (pureRun Try.prog (Instr.fieldAt 74 t2 0)) fun t16_8 =>
  wpB (ldv Try.prog 74 t2 w.drew) fun t5_8 =>
  wpB (ldv Try.prog 3 t7_8 w.drew) fun t8_8 =>
  wpB (ldv Try.prog 3 t10_8 w.drew) fun t11_8 =>
  wpB (ldv Try.prog 3 t13_8 w.drew) fun t14_8 =>
  wpB (ldv Try.prog 3 t16_8 w.drew) fun t17_8 =>
  effv Try.prog (Instr.makeSlice 23 t14_8 t14_8) w.drew fun t15_8 w =>
  effv Try.prog (Instr.makeSlice 23 t8_8 t8_8) w fun t9_8 w =>
  effv Try.prog (Instr.makeSlice 23 t11_8 t11_8) w fun t12_8 w =>
  effv Try.prog (Instr.makeSlice 152 t17_8 t17_8) w fun t18_8 w =>
  wpB (pureRun Try.prog (Instr.build 154 #[(0, t5_8), (1, a1), (2, t9_8), (3, t12_8), (5, t15_8), (6, t18_8)])) fun t19_8 =>
  effv Try.prog (Instr.box 154 t19_8) w fun t20_8 w =>
  Q t20_8 w) ∧
  (wpB (pureRun Try.prog (Instr.fieldAt 74 t2 3)) fun t7_9 =>
  wpB (pureRun Try.prog (Instr.fieldAt 74 t2 3)) fun t10_9 =>
  wpB (pureRun Try.prog (Instr.fieldAt 74 t2 0)) fun t13_9 =>
  wpB (pureRun Try.prog (Instr.fieldAt 74 t2 0)) fun t16_9 =>
  wpB (ldv Try.prog 74 t2 w.drew) fun t5_9 =>
  wpB (ldv Try.prog 3 t7_9 w.drew) fun t8_9 =>
  wpB (ldv Try.prog 3 t10_9 w.drew) fun t11_9 =>
  wpB (ldv Try.prog 3 t13_9 w.drew) fun t14_9 =>
  wpB (ldv Try.prog 3 t16_9 w.drew) fun t17_9 =>
  effv Try.prog (Instr.makeSlice 23 t14_9 t14_9) w.drew fun t15_9 w =>
  effv Try.prog (Instr.makeSlice 23 t8_9 t8_9) w fun t9_9 w =>
  effv Try.prog (Instr.makeSlice 152 t17_9 t17_9) w fun t18_9 w =>
  effv Try.prog (Instr.makeSlice 23 t11_9 t11_9) w fun t12_9 w =>
  wpB (pureRun Try.prog (Instr.build 154 #[(0, t5_9), (1, a1), (2, t9_9), (3, t12_9), (5, t15_9), (6, t18_9)])) fun t19_9 =>
  effv Try.prog (Instr.box 154 t19_9) w fun t20_9 w =>
  Q t20_9 w)) ∧
  (wpB (pureRun Try.prog (Instr.fieldAt 74 t2 3)) fun t7_10 =>
  wpB (pureRun Try.prog (Instr.fieldAt 74 t2 3)) fun t10_10 =>
  wpB (pureRun Try.prog (Instr.fieldAt 74 t2 0)) fun t13_10 =>
  wpB (pureRun Try.prog (Instr.fieldAt 74 t2 0)) fun t16_10 =>
  wpB (ldv Try.prog 74 t2 w.drew) fun t5_10 =>
  wpB (ldv Try.prog 3 t7_10 w.drew) fun t8_10 =>
  wpB (ldv Try.prog 3 t10_10 w.drew) fun t11_10 =>
  wpB (ldv Try.prog 3 t13_10 w.drew) fun t14_10 =>
  wpB (ldv Try.prog 3 t16_10 w.drew) fun t17_10 =>
  effv Try.prog (Instr.makeSlice 23 t14_10 t14_10) w.drew fun t15_10 w =>
  effv Try.prog (Instr.makeSlice 152 t17_10 t17_10) w fun t18_10 w =>
  effv Try.prog (Instr.makeSlice 23 t8_10 t8_10) w fun t9_10 w =>
  effv Try.prog (Instr.makeSlice 23 t11_10 t11_10) w fun t12_10 w =>
  wpB (pureRun Try.prog (Instr.build 154 #[(0, t5_10), (1, a1), (2, t9_10), (3, t12_10), (5, t15_10), (6, t18_10)])) fun t19_10 =>
  effv Try.prog (Instr.box 154 t19_10) w fun t20_10 w =>
  Q t20_10 w)) ∧
  (wpB (pureRun Try.prog (Instr.fieldAt 74 t2 3)) fun t7_11 =>
  wpB (pureRun Try.prog (Instr.fieldAt 74 t2 3)) fun t10_11 =>
  wpB (pureRun Try.prog (Instr.fieldAt 74 t2 0)) fun t13_11 =>
  wpB (pureRun Try.prog (Instr.fieldAt 74 t2 0)) fun t16_11 =>
  wpB (ldv Try.prog 74 t2 w.drew) fun t5_11 =>
  wpB (ldv Try.prog 3 t7_11 w.drew) fun t8_11 =>
  wpB (ldv Try.prog 3 t10_11 w.drew) fun t11_11 =>
  wpB (ldv Try.prog 3 t13_11 w.drew) fun t14_11 =>
  wpB (ldv Try.prog 3 t16_11 w.drew) fun t17_11 =>
  effv Try.prog (Instr.makeSlice 152 t17_11 t17_11) w.drew fun t18_11 w =>
  effv Try.prog (Instr.makeSlice 23 t14_11 t14_11) w fun t15_11 w =>
  effv Try.prog (Instr.makeSlice 23 t8_11 t8_11) w fun t9_11 w =>
  effv Try.prog (Instr.makeSlice 23 t11_11 t11_11) w fun t12_11 w =>
  wpB (pureRun Try.prog (Instr.build 154 #[(0, t5_11), (1, a1), (2, t9_11), (3, t12_11), (5, t15_11), (6, t18_11)])) fun t19_11 =>
  effv Try.prog (Instr.box 154 t19_11) w fun t20_11 w =>
  Q t20_11 w))) ∧
  ((((((wpB (pureRun Try.prog (Instr.fieldAt 74 t2 3)) fun t7_12 =>
  wpB (pureRun Try.prog (Instr.fieldAt 74 t2 3)) fun t10_12 =>
  wpB (pureRun Try.prog (Instr.fieldAt 74 t2 0)) fun t13_12 =>
  wpB (pureRun Try.prog (Instr.fieldAt 74 t2 0)) fun t16_12 =>
  wpB (ldv Try.prog 74 t2 w.drew) fun t5_12 =>
  wpB (ldv Try.prog 3 t7_12 w.drew) fun t8_12 =>
  wpB (ldv Try.prog 3 t10_12 w.drew) fun t11_12 =>
  wpB (ldv Try.prog 3 t13_12 w.drew) fun t14_12 =>
  wpB (ldv Try.prog 3 t16_12 w.drew) fun t17_12 =>
  effv Try.prog (Instr.makeSlice 23 t11_12 t11_12) w.drew fun t12_12 w =>
  effv Try.prog (Instr.makeSlice 23 t8_12 t8_12) w fun t9_12 w =>
  effv Try.prog (Instr.makeSlice 23 t14_12 t14_12) w fun t15_12 w =>
  effv Try.prog (Instr.makeSlice 152 t17_12 t17_12) w fun t18_12 w =>
  wpB (pureRun Try.prog (Instr.build 154 #[(0, t5_12), (1, a1), (2, t9_12), (3, t12_12), (5, t15_12), (6, t18_12)])) fun t19_12 =>
  effv Try.prog (Instr.box 154 t19_12) w fun t20_12 w =>
  Q t20_12 w) ∧
  (wpB (pureRun Try.prog (Instr.fieldAt 74 t2 3)) fun t7_13 =>
  wpB (pureRun Try.prog (Instr.fieldAt 74 t2 3)) fun t10_13 =>
  wpB (pureRun Try.prog (Instr.fieldAt 74 t2 0)) fun t13_13 =>
  wpB (pureRun Try.prog (Instr.fieldAt 74 t2 0)) fun t16_13 =>
  wpB (ldv Try.prog 74 t2 w.drew) fun t5_13 =>
  wpB (ldv Try.prog 3 t7_13 w.drew) fun t8_13 =>
  wpB (ldv Try.prog 3 t10_13 w.drew) fun t11_13 =>
  wpB (ldv Try.prog 3 t13_13 w.drew) fun t14_13 =>
  wpB (ldv Try.prog 3 t16_13 w.drew) fun t17_13 =>
  effv Try.prog (Instr.makeSlice 23 t11_13 t11_13) w.drew fun t12_13 w =>
  effv Try.prog (Instr.makeSlice 23 t8_13 t8_13) w fun t9_13 w =>
  effv Try.prog (Instr.makeSlice 152 t17_13 t17_13) w fun t18_13 w =>
  effv Try.prog (Instr.makeSlice 23 t14_13 t14_13) w fun t15_13 w =>
  wpB (pureRun Try.prog (Instr.build 154 #[(0, t5_13), (1, a1), (2, t9_13), (3, t12_13), (5, t15_13), (6, t18_13)])) fun t19_13 =>
  effv Try.prog (Instr.box 154 t19_13) w fun t20_13 w =>
  Q t20_13 w)) ∧
  (wpB (pureRun Try.prog (Instr.fieldAt 74 t2 3)) fun t7_14 =>
  wpB (pureRun Try.prog (Instr.fieldAt 74 t2 3)) fun t10_14 =>
  wpB (pureRun Try.prog (Instr.fieldAt 74 t2 0)) fun t13_14 =>
  wpB (pureRun Try.prog (Instr.fieldAt 74 t2 0)) fun t16_14 =>
  wpB (ldv Try.prog 74 t2 w.drew) fun t5_14 =>
  wpB (ldv Try.prog 3 t7_14 w.drew) fun t8_14 =>
  wpB (ldv Try.prog 3 t10_14 w.drew) fun t11_14 =>
  wpB (ldv Try.prog 3 t13_14 w.drew) fun t14_14 =>
  wpB (ldv Try.prog 3 t16_14 w.drew) fun t17_14 =>
  effv Try.prog (Instr.makeSlice 23 t11_14 t11_14) w.drew fun t12_14 w =>
  effv Try.prog (Instr.makeSlice 152 t17_14 t17_14) w fun t18_14 w =>
  effv Try.prog (Instr.makeSlice 23 t8_14 t8_14) w fun t9_14 w =>
  effv Try.prog (Instr.makeSlice 23 t14_14 t14_14) w fun t15_14 w =>
  wpB (pureRun Try.prog (Instr.build 154 #[(0, t5_14), (1, a1), (2, t9_14), (3, t12_14), (5, t15_14), (6, t18_14)])) fun t19_14 =>
  effv Try.prog (Instr.box 154 t19_14) w fun t20_14 w =>
  Q t20_14 w)) ∧
  (((wpB (pureRun Try.prog (Instr.fieldAt 74 t2 3)) fun t7_15 =>
  wpB (pureRun Try.prog (Instr.fieldAt 74 t2 3)) fun t10_15 =>
  wpB (pureRun Try.prog (Instr.fieldAt 74 t2 0)) fun t13_15 =>
  wpB (pureRun Try.prog (Instr.fieldAt 74 t2 0)) fun t16_15 =>
  wpB (ldv Try.prog 74 t2 w.drew) fun t5_15 =>
  wpB (ldv Try.prog 3 t7_15 w.drew) fun t8_15 =>
  wpB (ldv Try.prog 3 t10_15 w.drew) fun t11_15 =>
  wpB (ldv Try.prog 3 t13_15 w.drew) fun t14_15 =>
  wpB (ldv Try.prog 3 t16_15 w.drew) fun t17_15 =>
  effv Try.prog (Instr.makeSlice 23 t11_15 t11_15) w.drew fun t12_15 w =>
  effv Try.prog (Instr.makeSlice 23 t14_15 t14_15) w fun t15_15 w =>
  effv Try.prog (Instr.makeSlice 23 t8_15 t8_15) w fun t9_15 w =>
  effv Try.prog (Instr.makeSlice 152 t17_15 t17_15) w fun t18_15 w =>
  wpB (pureRun Try.prog (Instr.build 154 #[(0, t5_15), (1, a1), (2, t9_15), (3, t12_15), (5, t15_15), (6, t18_15)])) fun t19_15 =>
  effv Try.prog (Instr.box 154 t19_15) w fun t20_15 w =>
  Q t20_15 w) ∧
  (wpB (pureRun Try.prog (Instr.fieldAt 74 t2 3)) fun t7_16 =>
  wpB (pureRun Try.prog (Instr.fieldAt 74 t2 3)) fun t10_16 =>
  wpB (pureRun Try.prog (Instr.fieldAt 74 t2 0)) fun t13_16 =>
  wpB (pureRun Try.prog (Instr.fieldAt 74 t2 0)) fun t16_16 =>
  wpB (ldv Try.prog 74 t2 w.drew) fun t5_16 =>
  wpB (ldv Try.prog 3 t7_16 w.drew) fun t8_16 =>
  wpB (ldv Try.prog 3 t10_16 w.drew) fun t11_16 =>
  wpB (ldv Try.prog 3 t13_16 w.drew) fun t14_16 =>
  wpB (ldv Try.prog 3 t16_16 w.drew) fun t17_16 =>
  effv Try.prog (Instr.makeSlice 23 t11_16 t11_16) w.drew fun t12_16 w =>
  effv Try.prog (Instr.makeSlice 23 t14_16 t14_16) w fun t15_16 w =>
  effv Try.prog (Instr.makeSlice 152 t17_16 t17_16) w fun t18_16 w =>
  effv Try.prog (Instr.makeSlice 23 t8_16 t8_16) w fun t9_16 w =>
  wpB (pureRun Try.prog (Instr.build 154 #[(0, t5_16), (1, a1), (2, t9_16), (3, t12_16), (5, t15_16), (6, t18_16)])) fun t19_16 =>
  effv Try.prog (Instr.box 154 t19_16) w fun t20_16 w =>
  Q t20_16 w)) ∧
  (wpB (pureRun Try.prog (Instr.fieldAt 74 t2 3)) fun t7_17 =>
  wpB (pureRun Try.prog (Instr.fieldAt 74 t2 3)) fun t10_17 =>
  wpB (pureRun Try.prog (Instr.fieldAt 74 t2 0)) fun t13_17 =>
  wpB (pureRun Try.prog (Instr.fieldAt 74 t2 0)) fun t16_17 =>
  wpB (ldv Try.prog 74 t2 w.drew) fun t5_17 =>
  wpB (ldv Try.prog 3 t7_17 w.drew) fun t8_17 =>
  wpB (ldv Try.prog 3 t10_17 w.drew) fun t11_17 =>
  wpB (ldv Try.prog 3 t13_17 w.drew) fun t14_17 =>
  wpB (ldv Try.prog 3 t16_17 w.drew) fun t17_17 =>
  effv Try.prog (Instr.makeSlice 23 t11_17 t11_17) w.drew fun t12_17 w =>
  effv Try.prog (Instr.makeSlice 152 t17_17 t17_17) w fun t18_17 w =>
  effv Try.prog (Instr.makeSlice 23 t14_17 t14_17) w fun t15_17 w =>
  effv Try.prog (Instr.makeSlice 23 t8_17 t8_17) w fun t9_17 w =>
  wpB (pureRun Try.prog (Instr.build 154 #[(0, t5_17), (1, a1), (2, t9_17), (3, t12_17), (5, t15_17), (6, t18_17)])) fun t19_17 =>
  effv Try.prog (Instr.box 154 t19_17) w fun t20_17 w =>
  Q t20_17 w))) ∧
  ((wpB (pureRun Try.prog (Instr.fieldAt 74 t2 3)) fun t7_18 =>
  wpB (pureRun Try.prog (Instr.fieldAt 74 t2 3)) fun t10_18 =>
  wpB (pureRun Try.prog (Instr.fieldAt 74 t2 0)) fun t13_18 =>
  wpB (pureRun Try.prog (Instr.fieldAt 74 t2 0)) fun t16_18 =>
  wpB (ldv Try.prog 74 t2 w.drew) fun t5_18 =>
  wpB (ldv Try.prog 3 t7_18 w.drew) fun t8_18 =>
  wpB (ldv Try.prog 3 t10_18 w.drew) fun t11_18 =>
  wpB (ldv Try.prog 3 t13_18 w.drew) fun t14_18 =>
  wpB (ldv Try.prog 3 t16_18 w.drew) fun t17_18 =>
  effv Try.prog (Instr.makeSlice 152 t17_18 t17_18) w.drew fun t18_18 w =>
  effv Try.prog (Instr.makeSlice 23 t11_18 t11_18) w fun t12_18 w =>
  effv Try.prog (Instr.makeSlice 23 t8_18 t8_18) w fun t9_18 w =>
  effv Try.prog (Instr.makeSlice 23 t14_18 t14_18) w fun t15_18 w =>
  wpB (pureRun Try.prog (Instr.build 154 #[(0, t5_18), (1, a1), (2, t9_18), (3, t12_18), (5, t15_18), (6, t18_18)])) fun t19_18 =>
  effv Try.prog (Instr.box 154 t19_18) w fun t20_18 w =>
  Q t20_18 w) ∧
  (wpB (pureRun Try.prog (Instr.fieldAt 74 t2 3)) fun t7_19 =>
  wpB (pureRun Try.prog (Instr.fieldAt 74 t2 3)) fun t10_19 =>
  wpB (pureRun Try.prog (Instr.fieldAt 74 t2 0)) fun t13_19 =>
  wpB (pureRun Try.prog (Instr.fieldAt 74 t2 0)) fun t16_19 =>
  wpB (ldv Try.prog 74 t2 w.drew) fun t5_19 =>
  wpB (ldv Try.prog 3 t7_19 w.drew) fun t8_19 =>
  wpB (ldv Try.prog 3 t10_19 w.drew) fun t11_19 =>
  wpB (ldv Try.prog 3 t13_19 w.drew) fun t14_19 =>
  wpB (ldv Try.prog 3 t16_19 w.drew) fun t17_19 =>
  effv Try.prog (Instr.makeSlice 152 t17_19 t17_19) w.drew fun t18_19 w =>
  effv Try.prog (Instr.makeSlice 23 t11_19 t11_19) w fun t12_19 w =>
  effv Try.prog (Instr.makeSlice 23 t14_19 t14_19) w fun t15_19 w =>
  effv Try.prog (Instr.makeSlice 23 t8_19 t8_19) w fun t9_19 w =>
  wpB (pureRun Try.prog (Instr.build 154 #[(0, t5_19), (1, a1), (2, t9_19), (3, t12_19), (5, t15_19), (6, t18_19)])) fun t19_19 =>
  effv Try.prog (Instr.box 154 t19_19) w fun t20_19 w =>
  Q t20_19 w))) ∧
  ((((wpB (pureRun Try.prog (Instr.fieldAt 74 t2 3)) fun t7_20 =>
  wpB (pureRun Try.prog (Instr.fieldAt 74 t2 3)) fun t10_20 =>
  wpB (pureRun Try.prog (Instr.fieldAt 74 t2 0)) fun t13_20 =>
  wpB (pureRun Try.prog (Instr.fieldAt 74 t2 0)) fun t16_20 =>
  wpB (ldv Try.prog 74 t2 w.drew) fun t5_20 =>
  wpB (ldv Try.prog 3 t7_20 w.drew) fun t8_20 =>
  wpB (ldv Try.prog 3 t10_20 w.drew) fun t11_20 =>
  wpB (ldv Try.prog 3 t13_20 w.drew) fun t14_20 =>
  wpB (ldv Try.prog 3 t16_20 w.drew) fun t17_20 =>
  effv Try.prog (Instr.makeSlice 23 t14_20 t14_20) w.drew fun t15_20 w =>
  effv Try.prog (Instr.makeSlice 23 t11_20 t11_20) w fun t12_20 w =>
  effv Try.prog (Instr.makeSlice 23 t8_20 t8_20) w fun t9_20 w =>
  effv Try.prog (Instr.makeSlice 152 t17_20 t17_20) w fun t18_20 w =>
  wpB (pureRun Try.prog (Instr.build 154 #[(0, t5_20), (1, a1), (2, t9_20), (3, t12_20), (5, t15_20), (6, t18_20)])) fun t19_20 =>
  effv Try.prog (Instr.box 154 t19_20) w fun t20_20 w =>
  Q t20_20 w) ∧
  (wpB (pureRun Try.prog (Instr.fieldAt 74 t2 3)) fun t7_21 =>
  wpB (pureRun Try.prog (Instr.fieldAt 74 t2 3)) fun t10_21 =>
  wpB (pureRun Try.prog (Instr.fieldAt 74 t2 0)) fun t13_21 =>
  wpB (pureRun Try.prog (Instr.fieldAt 74 t2 0)) fun t16_21 =>
  wpB (ldv Try.prog 74 t2 w.drew) fun t5_21 =>
  wpB (ldv Try.prog 3 t7_21 w.drew) fun t8_21 =>
  wpB (ldv Try.prog 3 t10_21 w.drew) fun t11_21 =>
  wpB (ldv Try.prog 3 t13_21 w.drew) fun t14_21 =>
  wpB (ldv Try.prog 3 t16_21 w.drew) fun t17_21 =>
  effv Try.prog (Instr.makeSlice 23 t14_21 t14_21) w.drew fun t15_21 w =>
  effv Try.prog (Instr.makeSlice 23 t11_21 t11_21) w fun t12_21 w =>
  effv Try.prog (Instr.makeSlice 152 t17_21 t17_21) w fun t18_21 w =>
  effv Try.prog (Instr.makeSlice 23 t8_21 t8_21) w fun t9_21 w =>
  wpB (pureRun Try.prog (Instr.build 154 #[(0, t5_21), (1, a1), (2, t9_21), (3, t12_21), (5, t15_21), (6, t18_21)])) fun t19_21 =>
  effv Try.prog (Instr.box 154 t19_21) w fun t20_21 w =>
  Q t20_21 w)) ∧
  (wpB (pureRun Try.prog (Instr.fieldAt 74 t2 3)) fun t7_22 =>
  wpB (pureRun Try.prog (Instr.fieldAt 74 t2 3)) fun t10_22 =>
  wpB (pureRun Try.prog (Instr.fieldAt 74 t2 0)) fun t13_22 =>
  wpB (pureRun Try.prog (Instr.fieldAt 74 t2 0)) fun t16_22 =>
  wpB (ldv Try.prog 74 t2 w.drew) fun t5_22 =>
  wpB (ldv Try.prog 3 t7_22 w.drew) fun t8_22 =>
  wpB (ldv Try.prog 3 t10_22 w.drew) fun t11_22 =>
  wpB (ldv Try.prog 3 t13_22 w.drew) fun t14_22 =>
  wpB (ldv Try.prog 3 t16_22 w.drew) fun t17_22 =>
  effv Try.prog (Instr.makeSlice 23 t14_22 t14_22) w.drew fun t15_22 w =>
  effv Try.prog (Instr.makeSlice 152 t17_22 t17_22) w fun t18_22 w =>
  effv Try.prog (Instr.makeSlice 23 t11_22 t11_22) w fun t12_22 w =>
  effv Try.prog (Instr.makeSlice 23 t8_22 t8_22) w fun t9_22 w =>
  wpB (pureRun Try.prog (Instr.build 154 #[(0, t5_22), (1, a1), (2, t9_22), (3, t12_22), (5, t15_22), (6, t18_22)])) fun t19_22 =>
  effv Try.prog (Instr.box 154 t19_22) w fun t20_22 w =>
  Q t20_22 w)) ∧
  (wpB (pureRun Try.prog (Instr.fieldAt 74 t2 3)) fun t7_23 =>
  wpB (pureRun Try.prog (Instr.fieldAt 74 t2 3)) fun t10_23 =>
  wpB (pureRun Try.prog (Instr.fieldAt 74 t2 0)) fun t13_23 =>
  wpB (pureRun Try.prog (Instr.fieldAt 74 t2 0)) fun t16_23 =>
  wpB (ldv Try.prog 74 t2 w.drew) fun t5_23 =>
  wpB (ldv Try.prog 3 t7_23 w.drew) fun t8_23 =>
  wpB (ldv Try.prog 3 t10_23 w.drew) fun t11_23 =>
  wpB (ldv Try.prog 3 t13_23 w.drew) fun t14_23 =>
  wpB (ldv Try.prog 3 t16_23 w.drew) fun t17_23 =>
  effv Try.prog (Instr.makeSlice 152 t17_23 t17_23) w.drew fun t18_23 w =>
  effv Try.prog (Instr.makeSlice 23 t14_23 t14_23) w fun t15_23 w =>
  effv Try.prog (Instr.makeSlice 23 t11_23 t11_23) w fun t12_23 w =>
  effv Try.prog (Instr.makeSlice 23 t8_23 t8_23) w fun t9_23 w =>
  wpB (pureRun Try.prog (Instr.build 154 #[(0, t5_23), (1, a1), (2, t9_23), (3, t12_23), (5, t15_23), (6, t18_23)])) fun t19_23 =>
  effv Try.prog (Instr.box 154 t19_23) w fun t20_23 w =>
  Q t20_23 w)))
theorem F88_ok {a0 a1 : Value} {w : World} {Q : Value → World → Prop} (h : F88 a0 a1 w Q) : CallR Try.prog 88 [a0, a1] w Q :=
  have e : evC Try.prog (entR 3 143) 88 21 H88 Q C88 [] (entryE 0 [a0, a1]) w (contT Try.prog (entR 3 143) 88 21 H88 Try.f88.results.toList Q []) = F88 a0 a1 w Q := by kernel_rfl
  bt (fn := Try.f88) mixed bn Try.func88 (c := C88) rfl H88 (Nat.le_of_ble_eq_true rfl) (e.mpr h)

noncomputable def C91 : Code := (Try.f91.body).getD .skip
noncomputable def H91 : Hints := ⟨[], [], []⟩
def F91 (a0 a1 a2 : Value) (w : World) (Q : Value → World → Prop) : Prop :=
  effv Try.prog (Instr.box 40 a1) w fun t4 w =>
  effv Try.prog (Instr.box 51 a2) w fun t5 w =>
  wpB (ldv Try.prog 51 t5 w) fun t11 =>
  CallR Try.prog 120 [a0, t11] w fun t12 w =>
  wpB (pureRun Try.prog (Instr.extract t12 0)) fun t13 =>
  wpB (pureRun Try.prog (Instr.extract t12 1)) fun t14 =>
  wpB (pureRun Try.prog (Instr.fieldAt 40 t4 0)) fun t15 =>
  wpB (ldv Try.prog 3 t15 w) fun t16 =>
  CallR Try.prog 63 [t16] w fun t17 w =>
  wpB (be Try.prog .eql 3 (.tmp 17) (.const (Go.Value.int Go.IntKind.i64 1)) t17 (Go.Value.int Go.IntKind.i64 1)) fun t19 =>
  cnd t19
  (Q t13 w)
  (wpB (be Try.prog .eql 3 (.tmp 17) (.const (Go.Value.int Go.IntKind.i64 2)) t17 (Go.Value.int Go.IntKind.i64 2)) fun t22 =>
  cnd t22
  (Q t14 w)
  (wpB (be Try.prog .eql 3 (.tmp 17) (.const (Go.Value.int Go.IntKind.i64 3)) t17 (Go.Value.int Go.IntKind.i64 3)) fun t25 =>
  cnd t25
  (wpB (pickv t13 (some (Go.Value.bool true)) (some (gv t13 false t14))) fun t29 =>
  Q t29 w)
  (Q (Go.Value.bool true) w)))
theorem F91_ok {a0 a1 a2 : Value} {w : World} {Q : Value → World → Prop} (h : F91 a0 a1 a2 w Q) : CallR Try.prog 91 [a0, a1, a2] w Q :=
  have e : evC Try.prog (entR 3 143) 91 30 H91 Q C91 [] (entryE 0 [a0, a1, a2]) w (contT Try.prog (entR 3 143) 91 30 H91 Try.f91.results.toList Q []) = F91 a0 a1 a2 w Q := by kernel_rfl
  bt (fn := Try.f91) mixed bn Try.func91 (c := C91) rfl H91 (Nat.le_of_ble_eq_true rfl) (e.mpr h)

noncomputable def C92 : Code := (Try.f92.body).getD .skip
noncomputable def H92 : Hints := ⟨[(2, [0, 1, 2, 7])], [], []⟩
noncomputable def T92_0 : List It := [.lp (nav [1, 0, 1, 4, 5] C92), .blk 0, .jn (nav [1, 1] C92)]
def P92_0 (x0 x1 x2 x7 : Value) (w : World) (Q : Value → World → Prop) : Prop := Part Try.prog 92 T92_0 [0, 1, 2, 7] [x0, x1, x2, x7] w Q
def F92 (a0 a1 a2 : Value) (w : World) (Q : Value → World → Prop) : Prop :=
  P92_0 a0 a1 a2 (Go.Value.int Go.IntKind.i64 0) w Q
def L92_0 (x0 x1 x2 x7 : Value) (w : World) (Q : Value → World → Prop) : Prop :=
  wpB (nilv x0) fun t10 =>
  wpB (pureRun Try.prog (Instr.fieldAt 154 t10 4)) fun t11 =>
  wpB (ldv Try.prog 151 t11 w) fun t12 =>
  wpB (pureRun Try.prog (Builtin.len_ #[151] 3 #[t12])) fun t13 =>
  wpB (bp Try.prog .lss 3 x7 t13) fun t14 =>
  cnd t14
  (wpB (nilv x0) fun t18 =>
  wpB (pureRun Try.prog (Instr.fieldAt 154 t18 4)) fun t19 =>
  wpB (ldv Try.prog 151 t19 w) fun t20 =>
  wpB (pureRun Try.prog (Instr.indexAt 151 t20 x7)) fun t22 =>
  wpB (pureRun Try.prog (Instr.fieldAt 158 t22 0)) fun t23 =>
  wpB (ldv Try.prog 3 t23 w) fun t24 =>
  wpB (be Try.prog .eql 3 (.tmp 24) (.tmp 25) t24 x1) fun t26 =>
  wpB (gd t26 true (nilv (gv t26 true x0))) fun t29 =>
  wpB (gd t26 true (pureRun Try.prog (Instr.fieldAt 154 t29 4))) fun t30 =>
  wpB (gd t26 true (ldv Try.prog 151 t30 w)) fun t31 =>
  wpB (gd t26 true (pureRun Try.prog (Instr.indexAt 151 t31 (gv t26 true x7)))) fun t33 =>
  wpB (gd t26 true (pureRun Try.prog (Instr.fieldAt 158 t33 1))) fun t34 =>
  wpB (gd t26 true (ldv Try.prog 3 t34 w)) fun t35 =>
  wpB (gd t26 true (be Try.prog .eql 3 (.tmp 35) (.tmp 36) t35 (gv t26 true x2))) fun t37 =>
  wpB (pickv t26 (some t37) (some (Go.Value.bool false))) fun t38 =>
  cnd t38
  (Q x7 w)
  (wpB (bp Try.prog .add 3 x7 (Go.Value.int Go.IntKind.i64 1)) fun t16 =>
  P92_0 x0 x1 x2 t16 w Q))
  (Q (Go.Value.int Go.IntKind.i64 (-1)) w)
theorem F92_ok {a0 a1 a2 : Value} {w : World} {Q : Value → World → Prop} (h : F92 a0 a1 a2 w Q) : CallR Try.prog 92 [a0, a1, a2] w Q :=
  have e : evC Try.prog (entR 3 143) 92 40 H92 Q C92 [] (entryE 0 [a0, a1, a2]) w (contT Try.prog (entR 3 143) 92 40 H92 Try.f92.results.toList Q []) = F92 a0 a1 a2 w Q := by kernel_rfl
  bt (fn := Try.f92) mixed bn Try.func92 (c := C92) rfl H92 (Nat.le_of_ble_eq_true rfl) (e.mpr h)
theorem L92_0_ok {x0 x1 x2 x7 : Value} {w : World} {Q : Value → World → Prop} (h : L92_0 x0 x1 x2 x7 w Q) : P92_0 x0 x1 x2 x7 w Q :=
  have e : evC Try.prog (entR 3 143) 92 40 H92 Q (nav [1, 0, 1, 4, 5] C92) T92_0 (unpack [0, 1, 2, 7] [x0, x1, x2, x7]) w (contT Try.prog (entR 3 143) 92 40 H92 Try.f92.results.toList Q T92_0) = L92_0 x0 x1 x2 x7 w Q := by kernel_rfl
  part_lp (fn := Try.f92) mixed bn Try.func92 H92 (c := (nav [1, 0, 1, 4, 5] C92)) (t := [.blk 0, .jn (nav [1, 1] C92)]) (e.mpr h)

noncomputable def C93 : Code := (Try.f93.body).getD .skip
noncomputable def H93 : Hints := ⟨[(2, [0, 1, 2, 3, 9])], [], []⟩
noncomputable def T93_0 : List It := [.lp (nav [1, 0, 1, 4, 5] C93), .blk 0, .jn (nav [1, 1] C93)]
def P93_0 (x0 x1 x2 x3 x9 : Value) (w : World) (Q : Value → World → Prop) : Prop := Part Try.prog 93 T93_0 [0, 1, 2, 3, 9] [x0, x1, x2, x3, x9] w Q
def F93 (a0 a1 a2 a3 : Value) (w : World) (Q : Value → World → Prop) : Prop :=
  P93_0 a0 a1 a2 a3 (Go.Value.int Go.IntKind.i64 0) w Q
def L93_0 (x0 x1 x2 x3 x9 : Value) (w : World) (Q : Value → World → Prop) : Prop :=
  wpB (nilv x0) fun t12 =>
  wpB (pureRun Try.prog (Instr.fieldAt 154 t12 6)) fun t13 =>
  wpB (ldv Try.prog 152 t13 w) fun t14 =>
  wpB (pureRun Try.prog (Instr.indexAt 152 t14 x1)) fun t16 =>
  wpB (ldv Try.prog 159 t16 w) fun t17 =>
  wpB (pureRun Try.prog (Builtin.len_ #[159] 3 #[t17])) fun t18 =>
  wpB (bp Try.prog .lss 3 x9 t18) fun t19 =>
  cnd t19
  (wpB (nilv x0) fun t23 =>
  wpB (pureRun Try.prog (Instr.fieldAt 154 t23 6)) fun t24 =>
  wpB (ldv Try.prog 152 t24 w) fun t25 =>
  wpB (pureRun Try.prog (Instr.indexAt 152 t25 x1)) fun t27 =>
  wpB (ldv Try.prog 159 t27 w) fun t28 =>
  wpB (pureRun Try.prog (Instr.indexAt 159 t28 x9)) fun t30 =>
  wpB (ldv Try.prog 187 t30 w) fun t31 =>
  wpB (pureRun Try.prog (Instr.build 187 #[(0, x2), (1, x3)])) fun t34 =>
  wpB (be Try.prog .eql 187 (.tmp 31) (.tmp 34) t31 t34) fun t35 =>
  cnd t35
  (Q (Go.Value.bool true) w)
  (wpB (bp Try.prog .add 3 x9 (Go.Value.int Go.IntKind.i64 1)) fun t21 =>
  P93_0 x0 x1 x2 x3 t21 w Q))
  (Q (Go.Value.bool false) w)
theorem F93_ok {a0 a1 a2 a3 : Value} {w : World} {Q : Value → World → Prop} (h : F93 a0 a1 a2 a3 w Q) : CallR Try.prog 93 [a0, a1, a2, a3] w Q :=
  have e : evC Try.prog (entR 3 143) 93 36 H93 Q C93 [] (entryE 0 [a0, a1, a2, a3]) w (contT Try.prog (entR 3 143) 93 36 H93 Try.f93.results.toList Q []) = F93 a0 a1 a2 a3 w Q := by kernel_rfl
  bt (fn := Try.f93) mixed bn Try.func93 (c := C93) rfl H93 (Nat.le_of_ble_eq_true rfl) (e.mpr h)
theorem L93_0_ok {x0 x1 x2 x3 x9 : Value} {w : World} {Q : Value → World → Prop} (h : L93_0 x0 x1 x2 x3 x9 w Q) : P93_0 x0 x1 x2 x3 x9 w Q :=
  have e : evC Try.prog (entR 3 143) 93 36 H93 Q (nav [1, 0, 1, 4, 5] C93) T93_0 (unpack [0, 1, 2, 3, 9] [x0, x1, x2, x3, x9]) w (contT Try.prog (entR 3 143) 93 36 H93 Try.f93.results.toList Q T93_0) = L93_0 x0 x1 x2 x3 x9 w Q := by kernel_rfl
  part_lp (fn := Try.f93) mixed bn Try.func93 H93 (c := (nav [1, 0, 1, 4, 5] C93)) (t := [.blk 0, .jn (nav [1, 1] C93)]) (e.mpr h)

noncomputable def C94 : Code := (Try.f94.body).getD .skip
noncomputable def H94 : Hints := ⟨[], [(6, [8, 10, 11]), (9, [8, 10, 11, 57, 58]), (13, [10])], [(5, (.ask 3 17 (.ask 7 17 (.ask 21 17 (.ask 23 17 (.leaf [0, 1, 2, 4, 8, 9, 10, 12, 15, 20, 22, 3, 5, 6, 7, 11, 13, 14, 16, 21, 23, 24, 17, 18, 19, 25, 26, 27]) (.leaf [0, 1, 2, 4, 8, 9, 10, 12, 15, 20, 22, 3, 5, 6, 7, 11, 13, 14, 16, 21, 17, 18, 19, 23, 24, 25, 26, 27])) (.ask 23 17 (.leaf [0, 1, 2, 4, 8, 9, 10, 12, 15, 20, 22, 3, 5, 6, 7, 11, 13, 14, 16, 23, 17, 18, 19, 21, 24, 25, 26, 27]) (.leaf [0, 1, 2, 3, 4, 5, 6, 7, 8, 9, 10, 11, 12, 13, 14, 15, 16, 17, 18, 19, 20, 21, 22, 23, 24, 25, 26, 27]))) (.ask 21 17 (.ask 23 17 (.leaf [0, 1, 2, 4, 8, 9, 10, 12, 15, 20, 22, 3, 5, 6, 11, 13, 14, 16, 21, 23, 24, 17, 7, 18, 19, 25, 26, 27]) (.leaf [0, 1, 2, 4, 8, 9, 10, 12, 15, 20, 22, 3, 5, 6, 11, 13, 14, 16, 21, 17, 7, 18, 19, 23, 24, 25, 26, 27])) (.ask 23 17 (.leaf [0, 1, 2, 4, 8, 9, 10, 12, 15, 20, 22, 3, 5, 6, 11, 13, 14, 16, 23, 17, 7, 18, 19, 21, 24, 25, 26, 27]) (.leaf [0, 1, 2, 4, 8, 9, 10, 12, 15, 20, 22, 3, 5, 6, 11, 13, 14, 16, 17, 7, 18, 19, 21, 23, 24, 25, 26, 27])))) (.ask 21 17 (.ask 23 17 (.leaf [0, 1, 2, 4, 8, 9, 10, 12, 15, 20, 22, 11, 13, 14, 16, 21, 23, 24, 17, 3, 5, 6, 7, 18, 19, 25, 26, 27]) (.leaf [0, 1, 2, 4, 8, 9, 10, 12, 15, 20, 22, 11, 13, 14, 16, 21, 17, 3, 5, 6, 7, 18, 19, 23, 24, 25, 26, 27])) (.ask 23 17 (.leaf [0, 1, 2, 4, 8, 9, 10, 12, 15, 20, 22, 11, 13, 14, 16, 23, 17, 3, 5, 6, 7, 18, 19, 21, 24, 25, 26, 27]) (.leaf [0, 1, 2, 4, 8, 9, 10, 12, 15, 20, 22, 11, 13, 14, 16, 17, 3, 5, 6, 7, 18, 19, 21, 23, 24, 25, 26, 27])))))]⟩
noncomputable def T94_0 : List It := [.jn (nav [1, 1, 1] C94)]
noncomputable def T94_1 : List It := [.jn (nav [1, 1, 1, 0, 1, 4, 1] C94), .blk 1, .jn (nav [1, 1, 1, 1] C94)]
noncomputable def T94_2 : List It := [.jn (nav [1, 1, 1, 1] C94)]
def P94_0 (x8 x10 x11 : Value) (w : World) (Q : Value → World → Prop) : Prop := Part Try.prog 94 T94_0 [8, 10, 11] [x8, x10, x11] w Q
def P94_1 (x8 x10 x11 x57 x58 : Value) (w : World) (Q : Value → World → Prop) : Prop := Part Try.prog 94 T94_1 [8, 10, 11, 57, 58] [x8, x10, x11, x57, x58] w Q
def P94_2 (x10 : Value) (w : World) (Q : Value → World → Prop) : Prop := Part Try.prog 94 T94_2 [10] [x10] w Q
def F94 (a0 a1 a2 a3 a4 : Value) (w : World) (Q : Value → World → Prop) : Prop :=
  effv Try.prog (Instr.box 40 a3) w fun t8 w =>
  effv Try.prog (Instr.box 51 a4) w fun t9 w =>
  effv Try.prog (Instr.alloc 53 true (.tuple #[])) w fun t10 w =>
  wpB (pureRun Try.prog (Instr.fieldAt 51 t9 0)) fun t15 =>
  wpB (ldv Try.prog 3 t15 w) fun t16 =>
  wpB (pureRun Try.prog (Instr.fieldAt 51 t9 1)) fun t17 =>
  wpB (ldv Try.prog 3 t17 w) fun t18 =>
  CallR Try.prog 93 [a0, a1, t16, t18] w fun t19 w =>
  wpB (pureRun Try.prog (Op.unary .not t19)) fun t20 =>
  cnd t20
  (wpB (pureRun Try.prog (Instr.build 53 #[(0, (Go.Value.int Go.IntKind.i64 4))])) fun t21 =>
  effu Try.prog (Instr.storeAt 53 t10 t21) w fun w =>
  wpB (ldv Try.prog 53 t10 w) fun r10 => Q r10 w)
  (wpB (pureRun Try.prog (Instr.fieldAt 40 t8 3)) fun t23 =>
  wpB (ldv Try.prog 3 t23 w) fun t24 =>
  wpB (pureRun Try.prog (Instr.fieldAt 51 t9 4)) fun t25 =>
  wpB (ldv Try.prog 3 t25 w) fun t26 =>
  wpB (bp Try.prog .geq 3 t24 t26) fun t27 =>
  cnd t27
  (wpB (pureRun Try.prog (Instr.build 53 #[(0, (Go.Value.int Go.IntKind.i64 5))])) fun t28 =>
  effu Try.prog (Instr.storeAt 53 t10 t28) w fun w =>
  wpB (ldv Try.prog 53 t10 w) fun r10_1 => Q r10_1 w)
  (((((wpB (nilv a0) fun t30 =>
  wpB (pureRun Try.prog (Instr.fieldAt 154 t30 4)) fun t31 =>
  wpB (nilv a0) fun t38 =>
  wpB (pureRun Try.prog (Instr.fieldAt 154 t38 4)) fun t39 =>
  wpB (pureRun Try.prog (Instr.fieldAt 51 t9 2)) fun t44 =>
  wpB (pureRun Try.prog (Instr.fieldAt 51 t9 3)) fun t49 =>
  wpB (pureRun Try.prog (Instr.fieldAt 40 t8 3)) fun t51 =>
  wpB (ldv Try.prog 151 t31 w.drew) fun t32 =>
  wpB (pureRun Try.prog (Instr.indexAt 151 t32 a2)) fun t34 =>
  wpB (pureRun Try.prog (Instr.fieldAt 158 t34 6)) fun t35 =>
  wpB (ldv Try.prog 142 t35 w.drew) fun t36 =>
  wpB (ldv Try.prog 151 t39 w.drew) fun t40 =>
  wpB (pureRun Try.prog (Instr.indexAt 151 t40 a2)) fun t42 =>
  wpB (ldv Try.prog 158 t42 w.drew) fun t43 =>
  wpB (ldv Try.prog 3 t44 w.drew) fun t45 =>
  wpB (ldv Try.prog 3 t49 w.drew) fun t50 =>
  wpB (ldv Try.prog 3 t51 w.drew) fun t52 =>
  wpB (bp Try.prog .add 3 t50 t52) fun t53 =>
  CallR Try.prog 121 [t43, t45] w.drew fun t46 w =>
  wpB (pureRun Try.prog (Instr.indexAt 142 t36 t46)) fun t47 =>
  wpB (ldv Try.prog 177 t47 w) fun t48 =>
  wpB (pureRun Try.prog (Instr.indexAt 177 t48 t53)) fun t54 =>
  wpB (ldv Try.prog 38 t54 w) fun t55 =>
  P94_0 t8 t10 t55 w Q) ∧
  (wpB (nilv a0) fun t30_1 =>
  wpB (pureRun Try.prog (Instr.fieldAt 154 t30_1 4)) fun t31_1 =>
  wpB (nilv a0) fun t38_1 =>
  wpB (pureRun Try.prog (Instr.fieldAt 154 t38_1 4)) fun t39_1 =>
  wpB (pureRun Try.prog (Instr.fieldAt 51 t9 2)) fun t44_1 =>
  wpB (pureRun Try.prog (Instr.fieldAt 51 t9 3)) fun t49_1 =>
  wpB (pureRun Try.prog (Instr.fieldAt 40 t8 3)) fun t51_1 =>
  wpB (ldv Try.prog 151 t31_1 w.drew) fun t32_1 =>
  wpB (pureRun Try.prog (Instr.indexAt 151 t32_1 a2)) fun t34_1 =>
  wpB (pureRun Try.prog (Instr.fieldAt 158 t34_1 6)) fun t35_1 =>
  wpB (ldv Try.prog 142 t35_1 w.drew) fun t36_1 =>
  wpB (ldv Try.prog 151 t39_1 w.drew) fun t40_1 =>
  wpB (pureRun Try.prog (Instr.indexAt 151 t40_1 a2)) fun t42_1 =>
  wpB (ldv Try.prog 158 t42_1 w.drew) fun t43_1 =>
  wpB (ldv Try.prog 3 t44_1 w.drew) fun t45_1 =>
  wpB (ldv Try.prog 3 t49_1 w.drew) fun t50_1 =>
  CallR Try.prog 121 [t43_1, t45_1] w.drew fun t46_1 w =>
  wpB (pureRun Try.prog (Instr.indexAt 142 t36_1 t46_1)) fun t47_1 =>
  wpB (ldv Try.prog 177 t47_1 w) fun t48_1 =>
  wpB (ldv Try.prog 3 t51_1 w) fun t52_1 =>
  wpB (bp Try.prog .add 3 t50_1 t52_1) fun t53_1 =>
  wpB (pureRun Try.prog (Instr.indexAt 177 t48_1 t53_1)) fun t54_1 =>
  wpB (ldv Try.prog 38 t54_1 w) fun t55_1 =>
  P94_0 t8 t10 t55_1 w Q)) ∧
  ((wpB (nilv a0) fun t30_2 =>
  wpB (pureRun Try.prog (Instr.fieldAt 154 t30_2 4)) fun t31_2 =>
  wpB (nilv a0) fun t38_2 =>
  wpB (pureRun Try.prog (Instr.fieldAt 154 t38_2 4)) fun t39_2 =>
  wpB (pureRun Try.prog (Instr.fieldAt 51 t9 2)) fun t44_2 =>
  wpB (pureRun Try.prog (Instr.fieldAt 51 t9 3)) fun t49_2 =>
  wpB (pureRun Try.prog (Instr.fieldAt 40 t8 3)) fun t51_2 =>
  wpB (ldv Try.prog 151 t31_2 w.drew) fun t32_2 =>
  wpB (pureRun Try.prog (Instr.indexAt 151 t32_2 a2)) fun t34_2 =>
  wpB (pureRun Try.prog (Instr.fieldAt 158 t34_2 6)) fun t35_2 =>
  wpB (ldv Try.prog 142 t35_2 w.drew) fun t36_2 =>
  wpB (ldv Try.prog 151 t39_2 w.drew) fun t40_2 =>
  wpB (pureRun Try.prog (Instr.indexAt 151 t40_2 a2)) fun t42_2 =>
  wpB (ldv Try.prog 158 t42_2 w.drew) fun t43_2 =>
  wpB (ldv Try.prog 3 t44_2 w.drew) fun t45_2 =>
  wpB (ldv Try.prog 3 t51_2 w.drew) fun t52_2 =>
  CallR Try.prog 121 [t43_2, t45_2] w.drew fun t46_2 w =>
  wpB (pureRun Try.prog (Instr.indexAt 142 t36_2 t46_2)) fun t47_2 =>
  wpB (ldv Try.prog 177 t47_2 w) fun t48_2 =>
  wpB (ldv Try.prog 3 t49_2 w) fun t50_2 =>
  wpB (bp Try.prog .add 3 t50_2 t52_2) fun t53_2 =>
  wpB (pureRun Try.prog (Instr.indexAt 177 t48_2 t53_2)) fun t54_2 =>
  wpB (ldv Try.prog 38 t54_2 w) fun t55_2 =>
  P94_0 t8 t10 t55_2 w Q) ∧
  (wpB (nilv a0) fun t30_3 =>
  wpB (pureRun Try.prog (Instr.fieldAt 154 t30_3 4)) fun t31_3 =>
  wpB (ldv Try.prog 151 t31_3 w.drew) fun t32_3 =>
  wpB (pureRun Try.prog (Instr.indexAt 151 t32_3 a2)) fun t34_3 =>
  wpB (pureRun Try.prog (Instr.fieldAt 158 t34_3 6)) fun t35_3 =>
  wpB (ldv Try.prog 142 t35_3 w.drew) fun t36_3 =>
  wpB (nilv a0) fun t38_3 =>
  wpB (pureRun Try.prog (Instr.fieldAt 154 t38_3 4)) fun t39_3 =>
  wpB (ldv Try.prog 151 t39_3 w.drew) fun t40_3 =>
  wpB (pureRun Try.prog (Instr.indexAt 151 t40_3 a2)) fun t42_3 =>
  wpB (ldv Try.prog 158 t42_3 w.drew) fun t43_3 =>
  wpB (pureRun Try.prog (Instr.fieldAt 51 t9 2)) fun t44_3 =>
  wpB (ldv Try.prog 3 t44_3 w.drew) fun t45_3 =>
  CallR Try.prog 121 [t43_3, t45_3] w.drew fun t46_3 w =>
  wpB (pureRun Try.prog (Instr.indexAt 142 t36_3 t46_3)) fun t47_3 =>
  wpB (ldv Try.prog 177 t47_3 w) fun t48_3 =>
  wpB (pureRun Try.prog (Instr.fieldAt 51 t9 3)) fun t49_3 =>
  wpB (ldv Try.prog 3 t49_3 w) fun t50_3 =>
  wpB (pureRun Try.prog (Instr.fieldAt 40 t8 3)) fun t51_3 =>
  wpB (ldv Try.prog 3 t51_3 w) fun t52_3 =>
  wpB (bp Try.prog .add 3 t50_3 t52_3) fun t53_3 =>
  wpB (pureRun Try.prog (Instr.indexAt 177 t48_3 t53_3)) fun t54_3 =>
  wpB (ldv Try.prog 38 t54_3 w) fun t55_3 =>
  P94_0 t8 t10 t55_3 w Q))) ∧
  (((wpB (nilv a0) fun t30_4 =>
  wpB (pureRun Try.prog (Instr.fieldAt 154 t30_4 4)) fun t31_4 =>
  wpB (nilv a0) fun t38_4 =>
  wpB (pureRun Try.prog (Instr.fieldAt 154 t38_4 4)) fun t39_4 =>
  wpB (pureRun Try.prog (Instr.fieldAt 51 t9 2)) fun t44_4 =>
  wpB (pureRun Try.prog (Instr.fieldAt 51 t9 3)) fun t49_4 =>
  wpB (pureRun Try.prog (Instr.fieldAt 40 t8 3)) fun t51_4 =>
  wpB (ldv Try.prog 151 t31_4 w.drew) fun t32_4 =>
  wpB (pureRun Try.prog (Instr.indexAt 151 t32_4 a2)) fun t34_4 =>
  wpB (pureRun Try.prog (Instr.fieldAt 158 t34_4 6)) fun t35_4 =>
  wpB (ldv Try.prog 151 t39_4 w.drew) fun t40_4 =>
  wpB (pureRun Try.prog (Instr.indexAt 151 t40_4 a2)) fun t42_4 =>
  wpB (ldv Try.prog 158 t42_4 w.drew) fun t43_4 =>
  wpB (ldv Try.prog 3 t44_4 w.drew) fun t45_4 =>
  wpB (ldv Try.prog 3 t49_4 w.drew) fun t50_4 =>
  wpB (ldv Try.prog 3 t51_4 w.drew) fun t52_4 =>
  wpB (bp Try.prog .add 3 t50_4 t52_4) fun t53_4 =>
  CallR Try.prog 121 [t43_4, t45_4] w.drew fun t46_4 w =>
  wpB (ldv Try.prog 142 t35_4 w) fun t36_4 =>
  wpB (pureRun Try.prog (Instr.indexAt 142 t36_4 t46_4)) fun t47_4 =>
  wpB (ldv Try.prog 177 t47_4 w) fun t48_4 =>
  wpB (pureRun Try.prog (Instr.indexAt 177 t48_4 t53_4)) fun t54_4 =>
  wpB (ldv Try.prog 38 t54_4 w) fun t55_4 =>
  P94_0 t8 t10 t55_4 w Q) ∧
  (wpB (nilv a0) fun t30_5 =>
  wpB (pureRun Try.prog (Instr.fieldAt 154 t30_5 4)) fun t31_5 =>
  wpB (nilv a0) fun t38_5 =>
  wpB (pureRun Try.prog (Instr.fieldAt 154 t38_5 4)) fun t39_5 =>
  wpB (pureRun Try.prog (Instr.fieldAt 51 t9 2)) fun t44_5 =>
  wpB (pureRun Try.prog (Instr.fieldAt 51 t9 3)) fun t49_5 =>
  wpB (pureRun Try.prog (Instr.fieldAt 40 t8 3)) fun t51_5 =>
  wpB (ldv Try.prog 151 t31_5 w.drew) fun t32_5 =>
  wpB (pureRun Try.prog (Instr.indexAt 151 t32_5 a2)) fun t34_5 =>
  wpB (pureRun Try.prog (Instr.fieldAt 158 t34_5 6)) fun t35_5 =>
  wpB (ldv Try.prog 151 t39_5 w.drew) fun t40_5 =>
  wpB (pureRun Try.prog (Instr.indexAt 151 t40_5 a2)) fun t42_5 =>
  wpB (ldv Try.prog 158 t42_5 w.drew) fun t43_5 =>
  wpB (ldv Try.prog 3 t44_5 w.drew) fun t45_5 =>
  wpB (ldv Try.prog 3 t49_5 w.drew) fun t50_5 =>
  CallR Try.prog 121 [t43_5, t45_5] w.drew fun t46_5 w =>
  wpB (ldv Try.prog 142 t35_5 w) fun t36_5 =>
  wpB (pureRun Try.prog (Instr.indexAt 142 t36_5 t46_5)) fun t47_5 =>
  wpB (ldv Try.prog 177 t47_5 w) fun t48_5 =>
  wpB (ldv Try.prog 3 t51_5 w) fun t52_5 =>
  wpB (bp Try.prog .add 3 t50_5 t52_5) fun t53_5 =>
  wpB (pureRun Try.prog (Instr.indexAt 177 t48_5 t53_5)) fun t54_5 =>
  wpB (ldv Try.prog 38 t54_5 w) fun t55_5 =>
  P94_0 t8 t10 t55_5 w Q)) ∧
  ((wpB (nilv a0) fun t30_6 =>
  wpB (pureRun Try.prog (Instr.fieldAt 154 t30_6 4)) fun t31_6 =>
  wpB (nilv a0) fun t38_6 =>
  wpB (pureRun Try.prog (Instr.fieldAt 154 t38_6 4)) fun t39_6 =>
  wpB (pureRun Try.prog (Instr.fieldAt 51 t9 2)) fun t44_6 =>
  wpB (pureRun Try.prog (Instr.fieldAt 51 t9 3)) fun t49_6 =>
  wpB (pureRun Try.prog (Instr.fieldAt 40 t8 3)) fun t51_6 =>
  wpB (ldv Try.prog 151 t31_6 w.drew) fun t32_6 =>
  wpB (pureRun Try.prog (Instr.indexAt 151 t32_6 a2)) fun t34_6 =>
  wpB (pureRun Try.prog (Instr.fieldAt 158 t34_6 6)) fun t35_6 =>
  wpB (ldv Try.prog 151 t39_6 w.drew) fun t40_6 =>
  wpB (pureRun Try.prog (Instr.indexAt 151 t40_6 a2)) fun t42_6 =>
  wpB (ldv Try.prog 158 t42_6 w.drew) fun t43_6 =>
  wpB (ldv Try.prog 3 t44_6 w.drew) fun t45_6 =>
  wpB (ldv Try.prog 3 t51_6 w.drew) fun t52_6 =>
  CallR Try.prog 121 [t43_6, t45_6] w.drew fun t46_6 w =>
  wpB (ldv Try.prog 142 t35_6 w) fun t36_6 =>
  wpB (pureRun Try.prog (Instr.indexAt 142 t36_6 t46_6)) fun t47_6 =>
  wpB (ldv Try.prog 177 t47_6 w) fun t48_6 =>
  wpB (ldv Try.prog 3 t49_6 w) fun t50_6 =>
  wpB (bp Try.prog .add 3 t50_6 t52_6) fun t53_6 =>
  wpB (pureRun Try.prog (Instr.indexAt 177 t48_6 t53_6)) fun t54_6 =>
  wpB (ldv Try.prog 38 t54_6 w) fun t55_6 =>
  P94_0 t8 t10 t55_6 w Q) ∧
  (wpB (nilv a0) fun t30_7 =>
  wpB (pureRun Try.prog (Instr.fieldAt 154 t30_7 4)) fun t31_7 =>
  wpB (nilv a0) fun t38_7 =>
  wpB (pureRun Try.prog (Instr.fieldAt 154 t38_7 4)) fun t39_7 =>
  wpB (pureRun Try.prog (Instr.fieldAt 51 t9 2)) fun t44_7 =>
  wpB (pureRun Try.prog (Instr.fieldAt 51 t9 3)) fun t49_7 =>
  wpB (pureRun Try.prog (Instr.fieldAt 40 t8 3)) fun t51_7 =>
  wpB (ldv Try.prog 151 t31_7 w.drew) fun t32_7 =>
  wpB (pureRun Try.prog (Instr.indexAt 151 t32_7 a2)) fun t34_7 =>
  wpB (pureRun Try.prog (Instr.fieldAt 158 t34_7 6)) fun t35_7 =>
  wpB (ldv Try.prog 151 t39_7 w.drew) fun t40_7 =>
  wpB (pureRun Try.prog (Instr.indexAt 151 t40_7 a2)) fun t42_7 =>
  wpB (ldv Try.prog 158 t42_7 w.drew) fun t43_7 =>
  wpB (ldv Try.prog 3 t44_7 w.drew) fun t45_7 =>
  CallR Try.prog 121 [t43_7, t45_7] w.drew fun t46_7 w =>
  wpB (ldv Try.prog 142 t35_7 w) fun t36_7 =>
  wpB (pureRun Try.prog (Instr.indexAt 142 t36_7 t46_7)) fun t47_7 =>
  wpB (ldv Try.prog 177 t47_7 w) fun t48_7 =>
  wpB (ldv Try.prog 3 t49_7 w) fun t50_7 =>
  wpB (ldv Try.prog 3 t51_7 w) fun t52_7 =>
  wpB (bp Try.prog .add 3 t50_7 t52_7) fun t53_7 =>
  wpB (pureRun Try.prog (Instr.indexAt 177 t48_7 t53_7)) fun t54_7 =>
  wpB (ldv Try.prog 38 t54_7 w) fun t55_7 =>
  P94_0 t8 t10 t55_7 w Q)))) ∧
  (((wpB (nilv a0) fun t30_8 =>
  wpB (pureRun Try.prog (Instr.fieldAt 154 t30_8 4)) fun t31_8 =>
  wpB (nilv a0) fun t38_8 =>
  wpB (pureRun Try.prog (Instr.fieldAt 154 t38_8 4)) fun t39_8 =>
  wpB (pureRun Try.prog (Instr.fieldAt 51 t9 2)) fun t44_8 =>
  wpB (pureRun Try.prog (Instr.fieldAt 51 t9 3)) fun t49_8 =>
  wpB (pureRun Try.prog (Instr.fieldAt 40 t8 3)) fun t51_8 =>
  wpB (ldv Try.prog 151 t39_8 w.drew) fun t40_8 =>
  wpB (pureRun Try.prog (Instr.indexAt 151 t40_8 a2)) fun t42_8 =>
  wpB (ldv Try.prog 158 t42_8 w.drew) fun t43_8 =>
  wpB (ldv Try.prog 3 t44_8 w.drew) fun t45_8 =>
  wpB (ldv Try.prog 3 t49_8 w.drew) fun t50_8 =>
  wpB (ldv Try.prog 3 t51_8 w.drew) fun t52_8 =>
  wpB (bp Try.prog .add 3 t50_8 t52_8) fun t53_8 =>
  CallR Try.prog 121 [t43_8, t45_8] w.drew fun t46_8 w =>
  wpB (ldv Try.prog 151 t31_8 w) fun t32_8 =>
  wpB (pureRun Try.prog (Instr.indexAt 151 t32_8 a2)) fun t34_8 =>
  wpB (pureRun Try.prog (Instr.fieldAt 158 t34_8 6)) fun t35_8 =>
  wpB (ldv Try.prog 142 t35_8 w) fun t36_8 =>
  wpB (pureRun Try.prog (Instr.indexAt 142 t36_8 t46_8)) fun t47_8 =>
  wpB (ldv Try.prog 177 t47_8 w) fun t48_8 =>
  wpB (pureRun Try.prog (Instr.indexAt 177 t48_8 t53_8)) fun t54_8 =>
  wpB (ldv Try.prog 38 t54_8 w) fun t55_8 =>
  P94_0 t8 t10 t55_8 w Q) ∧
  (wpB (nilv a0) fun t30_9 =>
  wpB (pureRun Try.prog (Instr.fieldAt 154 t30_9 4)) fun t31_9 =>
  wpB (nilv a0) fun t38_9 =>
  wpB (pureRun Try.prog (Instr.fieldAt 154 t38_9 4)) fun t39_9 =>
  wpB (pureRun Try.prog (Instr.fieldAt 51 t9 2)) fun t44_9 =>
  wpB (pureRun Try.prog (Instr.fieldAt 51 t9 3)) fun t49_9 =>
  wpB (pureRun Try.prog (Instr.fieldAt 40 t8 3)) fun t51_9 =>
  wpB (ldv Try.prog 151 t39_9 w.drew) fun t40_9 =>
  wpB (pureRun Try.prog (Instr.indexAt 151 t40_9 a2)) fun t42_9 =>
  wpB (ldv Try.prog 158 t42_9 w.drew) fun t43_9 =>
  wpB (ldv Try.prog 3 t44_9 w.drew) fun t45_9 =>
  wpB (ldv Try.prog 3 t49_9 w.drew) fun t50_9 =>
  CallR Try.prog 121 [t43_9, t45_9] w.drew fun t46_9 w =>
  wpB (ldv Try.prog 151 t31_9 w) fun t32_9 =>
  wpB (pureRun Try.prog (Instr.indexAt 151 t32_9 a2)) fun t34_9 =>
  wpB (pureRun Try.prog (Instr.fieldAt 158 t34_9 6)) fun t35_9 =>
  wpB (ldv Try.prog 142 t35_9 w) fun t36_9 =>
  wpB (pureRun Try.prog (Instr.indexAt 142 t36_9 t46_9)) fun t47_9 =>
  wpB (ldv Try.prog 177 t47_9 w) fun t48_9 =>
  wpB (ldv Try.prog 3 t51_9 w) fun t52_9 =>
  wpB (bp Try.prog .add 3 t50_9 t52_9) fun t53_9 =>
  wpB (pureRun Try.prog (Instr.indexAt 177 t48_9 t53_9)) fun t54_9 =>
  wpB (ldv Try.prog 38 t54_9 w) fun t55_9 =>
  P94_0 t8 t10 t55_9 w Q)) ∧
  ((wpB (nilv a0) fun t30_10 =>
  wpB (pureRun Try.prog (Instr.fieldAt 154 t30_10 4)) fun t31_10 =>
  wpB (nilv a0) fun t38_10 =>
  wpB (pureRun Try.prog (Instr.fieldAt 154 t38_10 4)) fun t39_10 =>
  wpB (pureRun Try.prog (Instr.fieldAt 51 t9 2)) fun t44_10 =>
  wpB (pureRun Try.prog (Instr.fieldAt 51 t9 3)) fun t49_10 =>
  wpB (pureRun Try.prog (Instr.fieldAt 40 t8 3)) fun t51_10 =>
  wpB (ldv Try.prog 151 t39_10 w.drew) fun t40_10 =>
  wpB (pureRun Try.prog (Instr.indexAt 151 t40_10 a2)) fun t42_10 =>
  wpB (ldv Try.prog 158 t42_10 w.drew) fun t43_10 =>
  wpB (ldv Try.prog 3 t44_10 w.drew) fun t45_10 =>
  wpB (ldv Try.prog 3 t51_10 w.drew) fun t52_10 =>
  CallR Try.prog 121 [t43_10, t45_10] w.drew fun t46_10 w =>
  wpB (ldv Try.prog 151 t31_10 w) fun t32_10 =>
  wpB (pureRun Try.prog (Instr.indexAt 151 t32_10 a2)) fun t34_10 =>
  wpB (pureRun Try.prog (Instr.fieldAt 158 t34_10 6)) fun t35_10 =>
  wpB (ldv Try.prog 142 t35_10 w) fun t36_10 =>
  wpB (pureRun Try.prog (Instr.indexAt 142 t36_10 t46_10)) fun t47_10 =>
  wpB (ldv Try.prog 177 t47_10 w) fun t48_10 =>
  wpB (ldv Try.prog 3 t49_10 w) fun t50_10 =>
  wpB (bp Try.prog .add 3 t50_10 t52_10) fun t53_10 =>
  wpB (pureRun Try.prog (Instr.indexAt 177 t48_10 t53_10)) fun t54_10 =>
  wpB (ldv Try.prog 38 t54_10 w) fun t55_10 =>
  P94_0 t8 t10 t55_10 w Q) ∧
  (wpB (nilv a0) fun t30_11 =>
  wpB (pureRun Try.prog (Instr.fieldAt 154 t30_11 4)) fun t31_11 =>
  wpB (nilv a0) fun t38_11 =>
  wpB (pureRun Try.prog (Instr.fieldAt 154 t38_11 4)) fun t39_11 =>
  wpB (pureRun Try.prog (Instr.fieldAt 51 t9 2)) fun t44_11 =>
  wpB (pureRun Try.prog (Instr.fieldAt 51 t9 3)) fun t49_11 =>
  wpB (pureRun Try.prog (Instr.fieldAt 40 t8 3)) fun t51_11 =>
  wpB (ldv Try.prog 151 t39_11 w.drew) fun t40_11 =>
  wpB (pureRun Try.prog (Instr.indexAt 151 t40_11 a2)) fun t42_11 =>
  wpB (ldv Try.prog 158 t42_11 w.drew) fun t43_11 =>
  wpB (ldv Try.prog 3 t44_11 w.drew) fun t45_11 =>
  CallR Try.prog 121 [t43_11, t45_11] w.drew fun t46_11 w =>
  wpB (ldv Try.prog 151 t31_11 w) fun t32_11 =>
  wpB (pureRun Try.prog (Instr.indexAt 151 t32_11 a2)) fun t34_11 =>
  wpB (pureRun Try.prog (Instr.fieldAt 158 t34_11 6)) fun t35_11 =>
  wpB (ldv Try.prog 142 t35_11 w) fun t36_11 =>
  wpB (pureRun Try.prog (Instr.indexAt 142 t36_11 t46_11)) fun t47_11 =>
  wpB (ldv Try.prog 177 t47_11 w) fun t48_11 =>
  wpB (ldv Try.prog 3 t49_11 w) fun t50_11 =>
  wpB (ldv Try.prog 3 t51_11 w) fun t52_11 =>
  wpB (bp Try.prog .add 3 t50_11 t52_11) fun t53_11 =>
  wpB (pureRun Try.prog (Instr.indexAt 177 t48_11 t53_11)) fun t54_11 =>
  wpB (ldv Try.prog 38 t54_11 w) fun t55_11 =>
  P94_0 t8 t10 t55_11 w Q)))))
def L94_0 (x8 x10 x11 : Value) (w : World) (Q : Value → World → Prop) : Prop :=
  wpB (pureRun Try.prog (Instr.fieldAt 40 x8 0)) fun t56 =>
  wpB (ldv Try.prog 3 t56 w) fun t57 =>
  wpB (be Try.prog .eql 3 (.tmp 57) (.const (Go.Value.int Go.IntKind.i64 6)) t57 (Go.Value.int Go.IntKind.i64 6)) fun t59 =>
  cnd t59
  (P94_1 x8 x10 x11 t57 t59 w Q)
  (wpB (be Try.prog .eql 3 (.tmp 57) (.const (Go.Value.int Go.IntKind.i64 8)) t57 (Go.Value.int Go.IntKind.i64 8)) fun t60 =>
  P94_1 x8 x10 x11 t57 t60 w Q)
def L94_1 (x8 x10 x11 x57 x58 : Value) (w : World) (Q : Value → World → Prop) : Prop :=
  cnd x58
  (wpB (pureRun Try.prog (Instr.build 53 #[(3, x11)])) fun t62 =>
  effu Try.prog (Instr.storeAt 53 x10 t62) w fun w =>
  wpB (ldv Try.prog 53 x10 w) fun r10 => Q r10 w)
  (wpB (be Try.prog .eql 3 (.tmp 57) (.const (Go.Value.int Go.IntKind.i64 9)) x57 (Go.Value.int Go.IntKind.i64 9)) fun t64 =>
  cnd t64
  (wpB (pureRun Try.prog (Instr.fieldAt 40 x8 4)) fun t66 =>
  wpB (ldv Try.prog 38 t66 w) fun t67 =>
  wpB (be Try.prog .eql 38 (.tmp 65) (.tmp 67) x11 t67) fun t68 =>
  cnd t68
  (wpB (pureRun Try.prog (Instr.build 53 #[(2, (Go.Value.int Go.IntKind.i64 1))])) fun t69 =>
  effu Try.prog (Instr.storeAt 53 x10 t69) w fun w =>
  wpB (ldv Try.prog 53 x10 w) fun r10_1 => Q r10_1 w)
  (P94_2 x10 w Q))
  (P94_2 x10 w Q))
def L94_2 (x10 : Value) (w : World) (Q : Value → World → Prop) : Prop :=
  wpB (pureRun Try.prog (Instr.build 53 #[])) fun t70 =>
  effu Try.prog (Instr.storeAt 53 x10 t70) w fun w =>
  wpB (ldv Try.prog 53 x10 w) fun r10 => Q r10 w
theorem F94_ok {a0 a1 a2 a3 a4 : Value} {w : World} {Q : Value → World → Prop} (h : F94 a0 a1 a2 a3 a4 w Q) : CallR Try.prog 94 [a0, a1, a2, a3, a4] w Q :=
  have e : evC Try.prog (entR 3 143) 94 71 H94 Q C94 [] (entryE 0 [a0, a1, a2, a3, a4]) w (contT Try.prog (entR 3 143) 94 71 H94 Try.f94.results.toList Q []) = F94 a0 a1 a2 a3 a4 w Q := by kernel_rfl
  bt (fn := Try.f94) mixed bn Try.func94 (c := C94) rfl H94 (Nat.le_of_ble_eq_true rfl) (e.mpr h)
theorem L94_0_ok {x8 x10 x11 : Value} {w : World} {Q : Value → World → Prop} (h : L94_0 x8 x10 x11 w Q) : P94_0 x8 x10 x11 w Q :=
  have e : evC Try.prog (entR 3 143) 94 71 H94 Q (nav [1, 1, 1] C94) [] (unpack [8, 10, 11] [x8, x10, x11]) w (contT Try.prog (entR 3 143) 94 71 H94 Try.f94.results.toList Q []) = L94_0 x8 x10 x11 w Q := by kernel_rfl
  bx (fn := Try.f94) mixed bn Try.func94 H94 (c := (nav [1, 1, 1] C94)) (t := []) (e.mpr h)
theorem L94_1_ok {x8 x10 x11 x57 x58 : Value} {w : World} {Q : Value → World → Prop} (h : L94_1 x8 x10 x11 x57 x58 w Q) : P94_1 x8 x10 x11 x57 x58 w Q :=
  have e : evC Try.prog (entR 3 143) 94 71 H94 Q (nav [1, 1, 1, 0, 1, 4, 1] C94) [.blk 1, .jn (nav [1, 1, 1, 1] C94)] (unpack [8, 10, 11, 57, 58] [x8, x10, x11, x57, x58]) w (contT Try.prog (entR 3 143) 94 71 H94 Try.f94.results.toList Q [.blk 1, .jn (nav [1, 1, 1, 1] C94)]) = L94_1 x8 x10 x11 x57 x58 w Q := by kernel_rfl
  bx (fn := Try.f94) mixed bn Try.func94 H94 (c := (nav [1, 1, 1, 0, 1, 4, 1] C94)) (t := [.blk 1, .jn (nav [1, 1, 1, 1] C94)]) (e.mpr h)
theorem L94_2_ok {x10 : Value} {w : World} {Q : Value → World → Prop} (h : L94_2 x10 w Q) : P94_2 x10 w Q :=
  have e : evC Try.prog (entR 3 143) 94 71 H94 Q (nav [1, 1, 1, 1] C94) [] (unpack [10] [x10]) w (contT Try.prog (entR 3 143) 94 71 H94 Try.f94.results.toList Q []) = L94_2 x10 w Q := by kernel_rfl
  bx (fn := Try.f94) mixed bn Try.func94 H94 (c := (nav [1, 1, 1, 1] C94)) (t := []) (e.mpr h)

noncomputable def C95 : Code := (Try.f95.body).getD .skip
noncomputable def H95 : Hints := ⟨[], [], []⟩
def F95 (a0 : Value) (w : World) (Q : Value → World → Prop) : Prop :=
  wpB (bp Try.prog .geq 3 a0 (Go.Value.int Go.IntKind.i64 4294967295)) fun t4 =>
  cnd t4
  (Q (Go.Value.int Go.IntKind.i64 0) w)
  (wpB (bp Try.prog .add 3 a0 (Go.Value.int Go.IntKind.i64 1)) fun t6 =>
  Q t6 w)
theorem F95_ok {a0 : Value} {w : World} {Q : Value → World → Prop} (h : F95 a0 w Q) : CallR Try.prog 95 [a0] w Q :=
  have e : evC Try.prog (entR 3 143) 95 7 H95 Q C95 [] (entryE 0 [a0]) w (contT Try.prog (entR 3 143) 95 7 H95 Try.f95.results.toList Q []) = F95 a0 w Q := by kernel_rfl
  bt (fn := Try.f95) mixed bn Try.func95 (c := C95) rfl H95 (Nat.le_of_ble_eq_true rfl) (e.mpr h)

noncomputable def C96 : Code := (Try.f96.body).getD .skip
noncomputable def H96 : Hints := ⟨[], [], [(4, (.ask 3 7 (.leaf [0, 1, 2, 3, 4, 5, 6, 7, 8, 9, 10, 11, 12]) (.leaf [0, 1, 2, 4, 5, 6, 7, 3, 8, 9, 10, 11, 12])))]⟩
def F96 (a0 a1 : Value) (w : World) (Q : Value → World → Prop) : Prop :=
  CallR Try.prog 103 [a0, a1] w fun t10 w =>
  wpB (pureRun Try.prog (Instr.extract t10 0)) fun t11 =>
  wpB (pureRun Try.prog (Instr.extract t10 1)) fun t12 =>
  wpB (pureRun Try.prog (Op.unary .not t12)) fun t14 =>
  cnd t14
  (Q (Go.Value.slice none 0 0) w)
  ((wpB (nilv a0) fun t16 =>
  wpB (pureRun Try.prog (Instr.fieldAt 154 t16 4)) fun t17 =>
  wpB (ldv Try.prog 151 t17 w.drew) fun t18 =>
  CallR Try.prog 92 [a0, a1, t11] w.drew fun t22 w =>
  wpB (pureRun Try.prog (Instr.indexAt 151 t18 t22)) fun t23 =>
  wpB (pureRun Try.prog (Instr.fieldAt 158 t23 7)) fun t24 =>
  wpB (ldv Try.prog 90 t24 w) fun t25 =>
  effv Try.prog (Builtin.append_ #[90, 90] 90 #[(Go.Value.slice none 0 0), t25]) w fun t26 w =>
  Q t26 w) ∧
  (wpB (nilv a0) fun t16_1 =>
  wpB (pureRun Try.prog (Instr.fieldAt 154 t16_1 4)) fun t17_1 =>
  CallR Try.prog 92 [a0, a1, t11] w.drew fun t22_1 w =>
  wpB (ldv Try.prog 151 t17_1 w) fun t18_1 =>
  wpB (pureRun Try.prog (Instr.indexAt 151 t18_1 t22_1)) fun t23_1 =>
  wpB (pureRun Try.prog (Instr.fieldAt 158 t23_1 7)) fun t24_1 =>
  wpB (ldv Try.prog 90 t24_1 w) fun t25_1 =>
  effv Try.prog (Builtin.append_ #[90, 90] 90 #[(Go.Value.slice none 0 0), t25_1]) w fun t26_1 w =>
  Q t26_1 w))
theorem F96_ok {a0 a1 : Value} {w : World} {Q : Value → World → Prop} (h : F96 a0 a1 w Q) : CallR Try.prog 96 [a0, a1] w Q :=
  have e : evC Try.prog (entR 3 143) 96 27 H96 Q C96 [] (entryE 0 [a0, a1]) w (contT Try.prog (entR 3 143) 96 27 H96 Try.f96.results.toList Q []) = F96 a0 a1 w Q := by kernel_rfl
  bt (fn := Try.f96) mixed bn Try.func96 (c := C96) rfl H96 (Nat.le_of_ble_eq_true rfl) (e.mpr h)

noncomputable def C97 : Code := (Try.f97.body).getD .skip
noncomputable def H97 : Hints := ⟨[], [(4, [0, 1, 6, 7, 8]), (22, [0, 6, 7, 8, 117]), (23, [0, 6, 8, 9, 10])], [(13, (.ask 3 18 (.leaf [0, 1, 2, 3, 4, 5, 6, 7, 8, 9, 10, 11, 12, 13, 14, 15, 16, 17, 18, 19, 20]) (.leaf [0, 1, 2, 4, 5, 6, 7, 9, 12, 14, 8, 10, 11, 13, 15, 16, 17, 18, 3, 19, 20]))), (16, (.leaf [0, 1, 2, 3, 4, 5, 6, 7])), (18, (.leaf [0, 1, 2, 3, 4, 5, 6, 7])), (22, (.ask 11 9 (.ask 13 9 (.leaf [0, 1, 2, 4, 7, 10, 12, 3, 5, 6, 8, 11, 13, 14, 9, 15, 16]) (.leaf [0, 1, 2, 4, 7, 10, 12, 3, 5, 6, 8, 11, 9, 15, 13, 14, 16])) (.ask 13 9 (.leaf [0, 1, 2, 4, 7, 10, 12, 3, 5, 6, 8, 13, 9, 15, 11, 14, 16]) (.leaf [0, 1, 2, 3, 4, 5, 6, 7, 8, 9, 10, 11, 12, 13, 14, 15, 16])))), (25, (.leaf [0, 1, 2, 3, 4, 5, 6, 7, 8, 9, 10, 11, 12, 13, 14, 15])), (27, (.leaf [0, 1, 2, 3, 4, 5, 6, 7, 8, 9, 10, 11, 12, 13, 14, 15, 16, 17])), (29, (.leaf [0, 1, 2, 3, 4, 5, 6, 7, 8, 9, 10, 11, 12, 13, 14, 15]))]⟩
noncomputable def T97_0 : List It := [.jn (nav [1, 1, 1] C97)]
noncomputable def T97_1 : List It := [.jn (nav [1, 1, 1, 1, 4, 1, 3, 1, 3, 1, 3, 1, 3, 1] C97), .blk 0]
noncomputable def T97_2 : List It := [.jn (nav [1, 1, 1, 1, 4, 1, 3, 1, 3, 1, 3, 1, 3, 1, 2, 1] C97), .blk 0]
def P97_0 (x0 x1 x6 x7 x8 : Value) (w : World) (Q : Value → World → Prop) : Prop := Part Try.prog 97 T97_0 [0, 1, 6, 7, 8] [x0, x1, x6, x7, x8] w Q
def P97_1 (x0 x6 x7 x8 x117 : Value) (w : World) (Q : Value → World → Prop) : Prop := Part Try.prog 97 T97_1 [0, 6, 7, 8, 117] [x0, x6, x7, x8, x117] w Q
def P97_2 (x0 x6 x8 x9 x10 : Value) (w : World) (Q : Value → World → Prop) : Prop := Part Try.prog 97 T97_2 [0, 6, 8, 9, 10] [x0, x6, x8, x9, x10] w Q
def F97 (a0 a1 a2 a3 : Value) (w : World) (Q : Value → World → Prop) : Prop :=
  effv Try.prog (Instr.box 40 a2) w fun t6 w =>
  effv Try.prog (Instr.box 51 a3) w fun t7 w =>
  wpB (pureRun Try.prog (Instr.fieldAt 40 t6 0)) fun t12 =>
  wpB (ldv Try.prog 3 t12 w) fun t13 =>
  CallR Try.prog 63 [t13] w fun t14 w =>
  wpB (be Try.prog .neq 3 (.tmp 14) (.const (Go.Value.int Go.IntKind.i64 0)) t14 (Go.Value.int Go.IntKind.i64 0)) fun t15 =>
  cnd t15
  (wpB (pureRun Try.prog (Instr.fieldAt 51 t7 0)) fun t17 =>
  wpB (ldv Try.prog 3 t17 w) fun t18 =>
  wpB (pureRun Try.prog (Instr.fieldAt 51 t7 1)) fun t19 =>
  wpB (ldv Try.prog 3 t19 w) fun t20 =>
  CallR Try.prog 92 [a0, t18, t20] w fun t21 w =>
  P97_0 a0 a1 t6 t7 t21 w Q)
  (P97_0 a0 a1 t6 t7 (Go.Value.int Go.IntKind.i64 (-1)) w Q)
def L97_0 (x0 x1 x6 x7 x8 : Value) (w : World) (Q : Value → World → Prop) : Prop :=
  wpB (pureRun Try.prog (Instr.fieldAt 40 x6 0)) fun t22 =>
  wpB (ldv Try.prog 3 t22 w) fun t23 =>
  wpB (be Try.prog .eql 3 (.tmp 23) (.const (Go.Value.int Go.IntKind.i64 3)) t23 (Go.Value.int Go.IntKind.i64 3)) fun t25 =>
  cnd t25
  (wpB (nilv x0) fun t27 =>
  wpB (pureRun Try.prog (Instr.fieldAt 154 t27 5)) fun t28 =>
  wpB (ldv Try.prog 23 t28 w) fun t29 =>
  wpB (pureRun Try.prog (Instr.indexAt 23 t29 x1)) fun t31 =>
  wpB (ldv Try.prog 3 t31 w) fun t32 =>
  wpB (bp Try.prog .add 3 t32 (Go.Value.int Go.IntKind.i64 1)) fun t33 =>
  wpB (pureRun Try.prog (Instr.indexAt 23 t29 x1)) fun t34 =>
  effu Try.prog (Instr.storeAt 3 t34 t33) w fun w =>
  Q (.tuple #[]) w)
  (wpB (be Try.prog .eql 3 (.tmp 23) (.const (Go.Value.int Go.IntKind.i64 4)) t23 (Go.Value.int Go.IntKind.i64 4)) fun t36 =>
  cnd t36
  (wpB (nilv x0) fun t38 =>
  wpB (pureRun Try.prog (Instr.fieldAt 154 t38 5)) fun t39 =>
  wpB (ldv Try.prog 23 t39 w) fun t40 =>
  wpB (pureRun Try.prog (Instr.indexAt 23 t40 x1)) fun t42 =>
  wpB (ldv Try.prog 3 t42 w) fun t43 =>
  wpB (bp Try.prog .sub 3 t43 (Go.Value.int Go.IntKind.i64 1)) fun t44 =>
  wpB (pureRun Try.prog (Instr.indexAt 23 t40 x1)) fun t45 =>
  effu Try.prog (Instr.storeAt 3 t45 t44) w fun w =>
  wpB (nilv x0) fun t47 =>
  wpB (pureRun Try.prog (Instr.fieldAt 154 t47 5)) fun t48 =>
  wpB (ldv Try.prog 23 t48 w) fun t49 =>
  wpB (pureRun Try.prog (Instr.indexAt 23 t49 x1)) fun t51 =>
  wpB (ldv Try.prog 3 t51 w) fun t52 =>
  wpB (be Try.prog .eql 3 (.tmp 52) (.const (Go.Value.int Go.IntKind.i64 0)) t52 (Go.Value.int Go.IntKind.i64 0)) fun t53 =>
  cnd t53
  (wpB (nilv x0) fun t55 =>
  wpB (pureRun Try.prog (Instr.fieldAt 154 t55 6)) fun t56 =>
  wpB (ldv Try.prog 152 t56 w) fun t57 =>
  wpB (pureRun Try.prog (Instr.indexAt 152 t57 x1)) fun t59 =>
  effu Try.prog (Instr.storeAt 159 t59 (Go.Value.slice none 0 0)) w fun w =>
  Q (.tuple #[]) w)
  (Q (.tuple #[]) w))
  (wpB (be Try.prog .eql 3 (.tmp 23) (.const (Go.Value.int Go.IntKind.i64 5)) t23 (Go.Value.int Go.IntKind.i64 5)) fun t61 =>
  cnd t61
  (wpB (pureRun Try.prog (Instr.fieldAt 51 x7 0)) fun t64 =>
  wpB (ldv Try.prog 3 t64 w) fun t65 =>
  wpB (pureRun Try.prog (Instr.fieldAt 51 x7 1)) fun t66 =>
  wpB (ldv Try.prog 3 t66 w) fun t67 =>
  CallR Try.prog 93 [x0, x1, t65, t67] w fun t68 w =>
  wpB (pureRun Try.prog (Op.unary .not t68)) fun t69 =>
  cnd t69
  ((wpB (nilv x0) fun t71 =>
  wpB (pureRun Try.prog (Instr.fieldAt 154 t71 6)) fun t72 =>
  wpB (ldv Try.prog 152 t72 w.drew) fun t73 =>
  wpB (nilv x0) fun t76 =>
  wpB (pureRun Try.prog (Instr.fieldAt 154 t76 6)) fun t77 =>
  wpB (ldv Try.prog 152 t77 w.drew) fun t78 =>
  wpB (pureRun Try.prog (Instr.indexAt 152 t78 x1)) fun t80 =>
  wpB (ldv Try.prog 159 t80 w.drew) fun t81 =>
  wpB (pureRun Try.prog (Instr.fieldAt 51 x7 0)) fun t82 =>
  wpB (ldv Try.prog 3 t82 w.drew) fun t83 =>
  wpB (pureRun Try.prog (Instr.fieldAt 51 x7 1)) fun t84 =>
  wpB (ldv Try.prog 3 t84 w.drew) fun t85 =>
  wpB (pureRun Try.prog (Instr.build 187 #[(0, t83), (1, t85)])) fun t86 =>
  effv Try.prog (Instr.buildSlice 159 1 #[(0, t86)]) w.drew fun t87 w =>
  effv Try.prog (Builtin.append_ #[159, 159] 159 #[t81, t87]) w fun t88 w =>
  wpB (pureRun Try.prog (Instr.indexAt 152 t73 x1)) fun t89 =>
  effu Try.prog (Instr.storeAt 159 t89 t88) w fun w =>
  Q (.tuple #[]) w) ∧
  (wpB (nilv x0) fun t71_1 =>
  wpB (pureRun Try.prog (Instr.fieldAt 154 t71_1 6)) fun t72_1 =>
  wpB (nilv x0) fun t76_1 =>
  wpB (pureRun Try.prog (Instr.fieldAt 154 t76_1 6)) fun t77_1 =>
  wpB (pureRun Try.prog (Instr.fieldAt 51 x7 0)) fun t82_1 =>
  wpB (pureRun Try.prog (Instr.fieldAt 51 x7 1)) fun t84_1 =>
  wpB (ldv Try.prog 152 t77_1 w.drew) fun t78_1 =>
  wpB (pureRun Try.prog (Instr.indexAt 152 t78_1 x1)) fun t80_1 =>
  wpB (ldv Try.prog 159 t80_1 w.drew) fun t81_1 =>
  wpB (ldv Try.prog 3 t82_1 w.drew) fun t83_1 =>
  wpB (ldv Try.prog 3 t84_1 w.drew) fun t85_1 =>
  wpB (pureRun Try.prog (Instr.build 187 #[(0, t83_1), (1, t85_1)])) fun t86_1 =>
  effv Try.prog (Instr.buildSlice 159 1 #[(0, t86_1)]) w.drew fun t87_1 w =>
  effv Try.prog (Builtin.append_ #[159, 159] 159 #[t81_1, t87_1]) w fun t88_1 w =>
  wpB (ldv Try.prog 152 t72_1 w) fun t73_1 =>
  wpB (pureRun Try.prog (Instr.indexAt 152 t73_1 x1)) fun t89_1 =>
  effu Try.prog (Instr.storeAt 159 t89_1 t88_1) w fun w =>
  Q (.tuple #[]) w))
  (Q (.tuple #[]) w))
  (wpB (be Try.prog .eql 3 (.tmp 23) (.const (Go.Value.int Go.IntKind.i64 10)) t23 (Go.Value.int Go.IntKind.i64 10)) fun t91 =>
  cnd t91
  (wpB (nilv x0) fun t93 =>
  wpB (pureRun Try.prog (Instr.fieldAt 154 t93 4)) fun t94 =>
  wpB (ldv Try.prog 151 t94 w) fun t95 =>
  wpB (pureRun Try.prog (Instr.indexAt 151 t95 x8)) fun t97 =>
  wpB (pureRun Try.prog (Instr.fieldAt 158 t97 4)) fun t98 =>
  effu Try.prog (Instr.storeAt 4 t98 (Go.Value.bool false)) w fun w =>
  wpB (nilv x0) fun t100 =>
  wpB (pureRun Try.prog (Instr.fieldAt 154 t100 2)) fun t101 =>
  wpB (ldv Try.prog 23 t101 w.drew) fun t102 =>
  wpB (pureRun Try.prog (Instr.fieldAt 51 x7 0)) fun t103 =>
  wpB (ldv Try.prog 3 t103 w.drew) fun t104 =>
  wpB (pureRun Try.prog (Instr.indexAt 23 t102 t104)) fun t105 =>
  effu Try.prog (Instr.storeAt 3 t105 (Go.Value.int Go.IntKind.i64 2)) w.drew fun w =>
  wpB (nilv x0) fun t107 =>
  wpB (pureRun Try.prog (Instr.fieldAt 154 t107 1)) fun t108 =>
  wpB (ldv Try.prog 4 t108 w) fun t109 =>
  cnd t109
  (wpB (nilv x0) fun t111 =>
  wpB (pureRun Try.prog (Instr.fieldAt 154 t111 2)) fun t112 =>
  wpB (ldv Try.prog 23 t112 w.drew) fun t113 =>
  wpB (pureRun Try.prog (Instr.fieldAt 51 x7 0)) fun t114 =>
  wpB (ldv Try.prog 3 t114 w.drew) fun t115 =>
  wpB (pureRun Try.prog (Instr.indexAt 23 t113 t115)) fun t116 =>
  effu Try.prog (Instr.storeAt 3 t116 (Go.Value.int Go.IntKind.i64 0)) w.drew fun w =>
  Q (.tuple #[]) w)
  (Q (.tuple #[]) w))
  (wpB (be Try.prog .eql 3 (.tmp 23) (.const (Go.Value.int Go.IntKind.i64 7)) t23 (Go.Value.int Go.IntKind.i64 7)) fun t118 =>
  cnd t118
  (P97_1 x0 x6 x7 x8 t118 w Q)
  (wpB (be Try.prog .eql 3 (.tmp 23) (.const (Go.Value.int Go.IntKind.i64 8)) t23 (Go.Value.int Go.IntKind.i64 8)) fun t119 =>
  cnd t119
  (P97_1 x0 x6 x7 x8 t119 w Q)
  (wpB (be Try.prog .eql 3 (.tmp 23) (.const (Go.Value.int Go.IntKind.i64 9)) t23 (Go.Value.int Go.IntKind.i64 9)) fun t120 =>
  P97_1 x0 x6 x7 x8 t120 w Q))))))
def L97_1 (x0 x6 x7 x8 x117 : Value) (w : World) (Q : Value → World → Prop) : Prop :=
  cnd x117
  (((wpB (nilv x0) fun t122 =>
  wpB (pureRun Try.prog (Instr.fieldAt 154 t122 4)) fun t123 =>
  wpB (pureRun Try.prog (Instr.fieldAt 51 x7 2)) fun t128 =>
  wpB (pureRun Try.prog (Instr.fieldAt 51 x7 3)) fun t131 =>
  wpB (pureRun Try.prog (Instr.fieldAt 40 x6 3)) fun t133 =>
  wpB (ldv Try.prog 151 t123 w.drew) fun t124 =>
  wpB (pureRun Try.prog (Instr.indexAt 151 t124 x8)) fun t126 =>
  wpB (ldv Try.prog 158 t126 w.drew) fun t127 =>
  wpB (ldv Try.prog 3 t128 w.drew) fun t129 =>
  wpB (ldv Try.prog 3 t131 w.drew) fun t132 =>
  wpB (ldv Try.prog 3 t133 w.drew) fun t134 =>
  wpB (bp Try.prog .add 3 t132 t134) fun t135 =>
  CallR Try.prog 121 [t127, t129] w.drew fun t130 w =>
  P97_2 x0 x6 x8 t130 t135 w Q) ∧
  (wpB (nilv x0) fun t122_1 =>
  wpB (pureRun Try.prog (Instr.fieldAt 154 t122_1 4)) fun t123_1 =>
  wpB (pureRun Try.prog (Instr.fieldAt 51 x7 2)) fun t128_1 =>
  wpB (pureRun Try.prog (Instr.fieldAt 51 x7 3)) fun t131_1 =>
  wpB (pureRun Try.prog (Instr.fieldAt 40 x6 3)) fun t133_1 =>
  wpB (ldv Try.prog 151 t123_1 w.drew) fun t124_1 =>
  wpB (pureRun Try.prog (Instr.indexAt 151 t124_1 x8)) fun t126_1 =>
  wpB (ldv Try.prog 158 t126_1 w.drew) fun t127_1 =>
  wpB (ldv Try.prog 3 t128_1 w.drew) fun t129_1 =>
  wpB (ldv Try.prog 3 t131_1 w.drew) fun t132_1 =>
  CallR Try.prog 121 [t127_1, t129_1] w.drew fun t130_1 w =>
  wpB (ldv Try.prog 3 t133_1 w) fun t134_1 =>
  wpB (bp Try.prog .add 3 t132_1 t134_1) fun t135_1 =>
  P97_2 x0 x6 x8 t130_1 t135_1 w Q)) ∧
  ((wpB (nilv x0) fun t122_2 =>
  wpB (pureRun Try.prog (Instr.fieldAt 154 t122_2 4)) fun t123_2 =>
  wpB (pureRun Try.prog (Instr.fieldAt 51 x7 2)) fun t128_2 =>
  wpB (pureRun Try.prog (Instr.fieldAt 51 x7 3)) fun t131_2 =>
  wpB (pureRun Try.prog (Instr.fieldAt 40 x6 3)) fun t133_2 =>
  wpB (ldv Try.prog 151 t123_2 w.drew) fun t124_2 =>
  wpB (pureRun Try.prog (Instr.indexAt 151 t124_2 x8)) fun t126_2 =>
  wpB (ldv Try.prog 158 t126_2 w.drew) fun t127_2 =>
  wpB (ldv Try.prog 3 t128_2 w.drew) fun t129_2 =>
  wpB (ldv Try.prog 3 t133_2 w.drew) fun t134_2 =>
  CallR Try.prog 121 [t127_2, t129_2] w.drew fun t130_2 w =>
  wpB (ldv Try.prog 3 t131_2 w) fun t132_2 =>
  wpB (bp Try.prog .add 3 t132_2 t134_2) fun t135_2 =>
  P97_2 x0 x6 x8 t130_2 t135_2 w Q) ∧
  (wpB (nilv x0) fun t122_3 =>
  wpB (pureRun Try.prog (Instr.fieldAt 154 t122_3 4)) fun t123_3 =>
  wpB (ldv Try.prog 151 t123_3 w.drew) fun t124_3 =>
  wpB (pureRun Try.prog (Instr.indexAt 151 t124_3 x8)) fun t126_3 =>
  wpB (ldv Try.prog 158 t126_3 w.drew) fun t127_3 =>
  wpB (pureRun Try.prog (Instr.fieldAt 51 x7 2)) fun t128_3 =>
  wpB (ldv Try.prog 3 t128_3 w.drew) fun t129_3 =>
  CallR Try.prog 121 [t127_3, t129_3] w.drew fun t130_3 w =>
  wpB (pureRun Try.prog (Instr.fieldAt 51 x7 3)) fun t131_3 =>
  wpB (ldv Try.prog 3 t131_3 w) fun t132_3 =>
  wpB (pureRun Try.prog (Instr.fieldAt 40 x6 3)) fun t133_3 =>
  wpB (ldv Try.prog 3 t133_3 w) fun t134_3 =>
  wpB (bp Try.prog .add 3 t132_3 t134_3) fun t135_3 =>
  P97_2 x0 x6 x8 t130_3 t135_3 w Q)))
  (Q (.tuple #[]) w)
def L97_2 (x0 x6 x8 x9 x10 : Value) (w : World) (Q : Value → World → Prop) : Prop :=
  wpB (nilv x0) fun t137 =>
  wpB (pureRun Try.prog (Instr.fieldAt 154 t137 4)) fun t138 =>
  wpB (ldv Try.prog 151 t138 w) fun t139 =>
  wpB (pureRun Try.prog (Instr.indexAt 151 t139 x8)) fun t141 =>
  wpB (pureRun Try.prog (Instr.fieldAt 158 t141 6)) fun t142 =>
  wpB (ldv Try.prog 142 t142 w) fun t143 =>
  wpB (pureRun Try.prog (Instr.indexAt 142 t143 x9)) fun t145 =>
  wpB (ldv Try.prog 177 t145 w) fun t146 =>
  wpB (pureRun Try.prog (Instr.indexAt 177 t146 x10)) fun t148 =>
  wpB (ldv Try.prog 38 t148 w) fun t149 =>
  wpB (pureRun Try.prog (Instr.fieldAt 40 x6 0)) fun t151 =>
  wpB (ldv Try.prog 3 t151 w) fun t152 =>
  wpB (be Try.prog .eql 3 (.tmp 152) (.const (Go.Value.int Go.IntKind.i64 7)) t152 (Go.Value.int Go.IntKind.i64 7)) fun t153 =>
  cnd t153
  (wpB (nilv x0) fun t155 =>
  wpB (pureRun Try.prog (Instr.fieldAt 154 t155 4)) fun t156 =>
  wpB (ldv Try.prog 151 t156 w.drew) fun t157 =>
  wpB (pureRun Try.prog (Instr.indexAt 151 t157 x8)) fun t159 =>
  wpB (pureRun Try.prog (Instr.fieldAt 158 t159 6)) fun t160 =>
  wpB (ldv Try.prog 142 t160 w.drew) fun t161 =>
  wpB (pureRun Try.prog (Instr.indexAt 142 t161 x9)) fun t163 =>
  wpB (ldv Try.prog 177 t163 w.drew) fun t164 =>
  wpB (pureRun Try.prog (Instr.fieldAt 40 x6 4)) fun t166 =>
  wpB (ldv Try.prog 38 t166 w.drew) fun t167 =>
  wpB (pureRun Try.prog (Instr.indexAt 177 t164 x10)) fun t168 =>
  effu Try.prog (Instr.storeAt 38 t168 t167) w.drew fun w =>
  Q (.tuple #[]) w)
  (wpB (pureRun Try.prog (Instr.fieldAt 40 x6 0)) fun t170 =>
  wpB (ldv Try.prog 3 t170 w) fun t171 =>
  wpB (be Try.prog .eql 3 (.tmp 171) (.const (Go.Value.int Go.IntKind.i64 8)) t171 (Go.Value.int Go.IntKind.i64 8)) fun t172 =>
  cnd t172
  (wpB (nilv x0) fun t174 =>
  wpB (pureRun Try.prog (Instr.fieldAt 154 t174 4)) fun t175 =>
  wpB (ldv Try.prog 151 t175 w.drew) fun t176 =>
  wpB (pureRun Try.prog (Instr.indexAt 151 t176 x8)) fun t178 =>
  wpB (pureRun Try.prog (Instr.fieldAt 158 t178 6)) fun t179 =>
  wpB (ldv Try.prog 142 t179 w.drew) fun t180 =>
  wpB (pureRun Try.prog (Instr.indexAt 142 t180 x9)) fun t182 =>
  wpB (ldv Try.prog 177 t182 w.drew) fun t183 =>
  wpB (pureRun Try.prog (Instr.fieldAt 40 x6 4)) fun t186 =>
  wpB (ldv Try.prog 38 t186 w.drew) fun t187 =>
  wpB (bp Try.prog .add 38 t149 t187) fun t188 =>
  wpB (pureRun Try.prog (Instr.indexAt 177 t183 x10)) fun t189 =>
  effu Try.prog (Instr.storeAt 38 t189 t188) w.drew fun w =>
  Q (.tuple #[]) w)
  (wpB (pureRun Try.prog (Instr.fieldAt 40 x6 4)) fun t192 =>
  wpB (ldv Try.prog 38 t192 w) fun t193 =>
  wpB (be Try.prog .eql 38 (.tmp 191) (.tmp 193) t149 t193) fun t194 =>
  cnd t194
  (wpB (nilv x0) fun t196 =>
  wpB (pureRun Try.prog (Instr.fieldAt 154 t196 4)) fun t197 =>
  wpB (ldv Try.prog 151 t197 w.drew) fun t198 =>
  wpB (pureRun Try.prog (Instr.indexAt 151 t198 x8)) fun t200 =>
  wpB (pureRun Try.prog (Instr.fieldAt 158 t200 6)) fun t201 =>
  wpB (ldv Try.prog 142 t201 w.drew) fun t202 =>
  wpB (pureRun Try.prog (Instr.indexAt 142 t202 x9)) fun t204 =>
  wpB (ldv Try.prog 177 t204 w.drew) fun t205 =>
  wpB (pureRun Try.prog (Instr.fieldAt 40 x6 5)) fun t207 =>
  wpB (ldv Try.prog 38 t207 w.drew) fun t208 =>
  wpB (pureRun Try.prog (Instr.indexAt 177 t205 x10)) fun t209 =>
  effu Try.prog (Instr.storeAt 38 t209 t208) w.drew fun w =>
  Q (.tuple #[]) w)
  (Q (.tuple #[]) w)))
theorem F97_ok {a0 a1 a2 a3 : Value} {w : World} {Q : Value → World → Prop} (h : F97 a0 a1 a2 a3 w Q) : CallR Try.prog 97 [a0, a1, a2, a3] w Q :=
  have e : evC Try.prog (entR 3 143) 97 210 H97 Q C97 [] (entryE 0 [a0, a1, a2, a3]) w (contT Try.prog (entR 3 143) 97 210 H97 Try.f97.results.toList Q []) = F97 a0 a1 a2 a3 w Q := by kernel_rfl
  bt (fn := Try.f97) mixed bn Try.func97 (c := C97) rfl H97 (Nat.le_of_ble_eq_true rfl) (e.mpr h)
theorem L97_0_ok {x0 x1 x6 x7 x8 : Value} {w : World} {Q : Value → World → Prop} (h : L97_0 x0 x1 x6 x7 x8 w Q) : P97_0 x0 x1 x6 x7 x8 w Q :=
  have e : evC Try.prog (entR 3 143) 97 210 H97 Q (nav [1, 1, 1] C97) [] (unpack [0, 1, 6, 7, 8] [x0, x1, x6, x7, x8]) w (contT Try.prog (entR 3 143) 97 210 H97 Try.f97.results.toList Q []) = L97_0 x0 x1 x6 x7 x8 w Q := by kernel_rfl
  bx (fn := Try.f97) mixed bn Try.func97 H97 (c := (nav [1, 1, 1] C97)) (t := []) (e.mpr h)
theorem L97_1_ok {x0 x6 x7 x8 x117 : Value} {w : World} {Q : Value → World → Prop} (h : L97_1 x0 x6 x7 x8 x117 w Q) : P97_1 x0 x6 x7 x8 x117 w Q :=
  have e : evC Try.prog (entR 3 143) 97 210 H97 Q (nav [1, 1, 1, 1, 4, 1, 3, 1, 3, 1, 3, 1, 3, 1] C97) [.blk 0] (unpack [0, 6, 7, 8, 117] [x0, x6, x7, x8, x117]) w (contT Try.prog (entR 3 143) 97 210 H97 Try.f97.results.toList Q [.blk 0]) = L97_1 x0 x6 x7 x8 x117 w Q := by kernel_rfl
  bx (fn := Try.f97) mixed bn Try.func97 H97 (c := (nav [1, 1, 1, 1, 4, 1, 3, 1, 3, 1, 3, 1, 3, 1] C97)) (t := [.blk 0]) (e.mpr h)
theorem L97_2_ok {x0 x6 x8 x9 x10 : Value} {w : World} {Q : Value → World → Prop} (h : L97_2 x0 x6 x8 x9 x10 w Q) : P97_2 x0 x6 x8 x9 x10 w Q :=
  have e : evC Try.prog (entR 3 143) 97 210 H97 Q (nav [1, 1, 1, 1, 4, 1, 3, 1, 3, 1, 3, 1, 3, 1, 2, 1] C97) [.blk 0] (unpack [0, 6, 8, 9, 10] [x0, x6, x8, x9, x10]) w (contT Try.prog (entR 3 143) 97 210 H97 Try.f97.results.toList Q [.blk 0]) = L97_2 x0 x6 x8 x9 x10 w Q := by kernel_rfl
  bx (fn := Try.f97) mixed bn Try.func97 H97 (c := (nav [1, 1, 1, 1, 4, 1, 3, 1, 3, 1, 3, 1, 3, 1, 2, 1] C97)) (t := [.blk 0]) (e.mpr h)

noncomputable def C98 : Code := (Try.f98.body).getD .skip
noncomputable def H98 : Hints := ⟨[], [], [(9, (.leaf [0, 1, 2, 3, 4, 5, 6, 7, 8, 9, 10, 11, 12, 13, 14])), (10, (.leaf [0, 1, 2, 3, 4, 5, 6, 7, 8, 9, 10, 11, 12, 13, 14]))]⟩
def F98 (a0 a1 a2 : Value) (w : World) (Q : Value → World → Prop) : Prop :=
  effv Try.prog (Instr.box 40 a1) w fun t4 w =>
  effv Try.prog (Instr.box 53 a2) w fun t5 w =>
  wpB (ldv Try.prog 53 t5 w) fun t9 =>
  wpB (pureRun Try.prog (Instr.build 53 #[(0, (Go.Value.int Go.IntKind.i64 7))])) fun t10 =>
  wpB (be Try.prog .eql 53 (.tmp 9) (.tmp 10) t9 t10) fun t11 =>
  cnd t11
  (wpB (nilv a0) fun t13 =>
  wpB (pureRun Try.prog (Instr.fieldAt 154 t13 1)) fun t14 =>
  wpB (ldv Try.prog 4 t14 w) fun t15 =>
  gE t15 false (CallR Try.prog 107 [(gv t15 false a0)] w) (fun t18 w =>
  wpB (gd t15 false (be Try.prog .eql 3 (.tmp 18) (.const (Go.Value.int Go.IntKind.i64 0)) t18 (Go.Value.int Go.IntKind.i64 0))) fun t19 =>
  wpB (pickv t15 (some (Go.Value.bool true)) (some t19)) fun t20 =>
  Q t20 w) w)
  (wpB (pureRun Try.prog (Instr.fieldAt 53 t5 1)) fun t21 =>
  wpB (pureRun Try.prog (Instr.fieldAt 51 t21 0)) fun t22 =>
  wpB (ldv Try.prog 3 t22 w) fun t23 =>
  wpB (bp Try.prog .lss 3 t23 (Go.Value.int Go.IntKind.i64 0)) fun t25 =>
  wpB (gd t25 false (nilv (gv t25 false a0))) fun t29 =>
  wpB (gd t25 false (pureRun Try.prog (Instr.fieldAt 154 t29 0))) fun t30 =>
  wpB (gd t25 false (pureRun Try.prog (Instr.fieldAt 74 t30 3))) fun t31 =>
  wpB (gd t25 false (ldv Try.prog 3 t31 w)) fun t32 =>
  wpB (gd t25 false (bp Try.prog .geq 3 (gv t25 false t23) t32)) fun t33 =>
  wpB (pickv t25 (some (Go.Value.bool true)) (some t33)) fun t34 =>
  wpB (gd t34 false (nilv (gv t34 false a0))) fun t37 =>
  wpB (gd t34 false (pureRun Try.prog (Instr.fieldAt 154 t37 2))) fun t38 =>
  wpB (gd t34 false (ldv Try.prog 23 t38 w)) fun t39 =>
  wpB (gd t34 false (pureRun Try.prog (Instr.indexAt 23 t39 (gv t34 false t23)))) fun t41 =>
  wpB (gd t34 false (ldv Try.prog 3 t41 w)) fun t42 =>
  wpB (gd t34 false (be Try.prog .neq 3 (.tmp 42) (.const (Go.Value.int Go.IntKind.i64 0)) t42 (Go.Value.int Go.IntKind.i64 0))) fun t43 =>
  wpB (pickv t34 (some (Go.Value.bool true)) (some t43)) fun t44 =>
  cnd t44
  (Q (Go.Value.bool false) w)
  (wpB (nilv a0) fun t46 =>
  wpB (pureRun Try.prog (Instr.fieldAt 154 t46 3)) fun t47 =>
  wpB (ldv Try.prog 23 t47 w) fun t48 =>
  wpB (pureRun Try.prog (Instr.indexAt 23 t48 t23)) fun t50 =>
  wpB (ldv Try.prog 3 t50 w) fun t51 =>
  CallR Try.prog 95 [t51] w fun t52 w =>
  wpB (ldv Try.prog 53 t5 w) fun t53 =>
  wpB (pureRun Try.prog (Instr.build 51 #[(0, t23), (1, t52)])) fun t56 =>
  wpB (pureRun Try.prog (Instr.build 53 #[(1, t56)])) fun t57 =>
  wpB (be Try.prog .neq 53 (.tmp 53) (.tmp 57) t53 t57) fun t58 =>
  cnd t58
  (Q (Go.Value.bool false) w)
  (wpB (nilv a0) fun t60 =>
  wpB (pureRun Try.prog (Instr.fieldAt 154 t60 2)) fun t61 =>
  wpB (ldv Try.prog 23 t61 w.drew) fun t62 =>
  wpB (nilv a0) fun t65 =>
  wpB (pureRun Try.prog (Instr.fieldAt 154 t65 3)) fun t66 =>
  wpB (ldv Try.prog 23 t66 w.drew) fun t67 =>
  wpB (pureRun Try.prog (Instr.indexAt 23 t62 t23)) fun t70 =>
  effu Try.prog (Instr.storeAt 3 t70 (Go.Value.int Go.IntKind.i64 1)) w.drew fun w =>
  wpB (pureRun Try.prog (Instr.indexAt 23 t67 t23)) fun t71 =>
  effu Try.prog (Instr.storeAt 3 t71 t52) w fun w =>
  wpB (nilv a0) fun t74 =>
  wpB (pureRun Try.prog (Instr.fieldAt 154 t74 4)) fun t75 =>
  wpB (ldv Try.prog 151 t75 w.drew) fun t76 =>
  wpB (pureRun Try.prog (Instr.fieldAt 40 t4 3)) fun t79 =>
  wpB (ldv Try.prog 3 t79 w.drew) fun t80 =>
  wpB (pureRun Try.prog (Instr.build 158 #[(0, t23), (1, t52), (2, t80), (4, (Go.Value.bool true))])) fun t81 =>
  effv Try.prog (Instr.buildSlice 151 1 #[(0, t81)]) w.drew fun t82 w =>
  effv Try.prog (Builtin.append_ #[151, 151] 151 #[t76, t82]) w fun t83 w =>
  wpB (nilv a0) fun t84 =>
  wpB (pureRun Try.prog (Instr.fieldAt 154 t84 4)) fun t85 =>
  effu Try.prog (Instr.storeAt 151 t85 t83) w fun w =>
  Q (Go.Value.bool true) w)))
theorem F98_ok {a0 a1 a2 : Value} {w : World} {Q : Value → World → Prop} (h : F98 a0 a1 a2 w Q) : CallR Try.prog 98 [a0, a1, a2] w Q :=
  have e : evC Try.prog (entR 3 143) 98 86 H98 Q C98 [] (entryE 0 [a0, a1, a2]) w (contT Try.prog (entR 3 143) 98 86 H98 Try.f98.results.toList Q []) = F98 a0 a1 a2 w Q := by kernel_rfl
  bt (fn := Try.f98) mixed bn Try.func98 (c := C98) rfl H98 (Nat.le_of_ble_eq_true rfl) (e.mpr h)

noncomputable def C99 : Code := (Try.f99.body).getD .skip
noncomputable def H99 : Hints := ⟨[], [(9, [0, 7, 9, 10, 11, 12]), (16, [0, 9, 11, 12]), (17, [0, 9, 11, 12]), (18, [0, 9, 11]), (19, [])], [(6, (.leaf [0, 1, 2, 3, 4, 5, 6, 7, 8, 9, 10, 11])), (8, (.ask 23 29 (.ask 27 29 (.leaf [0, 1, 2, 3, 4, 5, 6, 7, 8, 9, 10, 11, 12, 13, 14, 15, 16, 17, 18, 19, 20, 21, 22, 23, 24, 25, 26, 27, 28, 29, 30, 31]) (.leaf [0, 1, 2, 4, 8, 9, 10, 12, 20, 21, 22, 24, 3, 5, 6, 7, 11, 13, 14, 15, 16, 17, 18, 19, 28, 23, 25, 26, 29, 27, 30, 31])) (.leaf [0, 1, 2, 4, 8, 9, 10, 12, 20, 21, 22, 24, 3, 5, 6, 7, 11, 13, 14, 15, 16, 17, 18, 19, 28, 29, 23, 25, 26, 27, 30, 31]))), (12, (.leaf [0, 1, 2, 3, 4, 5, 6, 7, 8, 9, 10, 11, 12, 13, 14, 15, 16, 17])), (13, (.leaf [0, 1, 2, 3, 4, 5, 6, 7, 8, 9, 10, 11, 12, 13, 14, 15, 16, 17, 18])), (15, (.ask 3 16 (.leaf [0, 1, 2, 3, 4, 5, 6, 7, 8, 9, 10, 11, 12, 13, 14, 15, 16, 17, 18, 19]) (.leaf [0, 1, 2, 4, 5, 6, 7, 9, 13, 8, 10, 11, 12, 14, 15, 16, 3, 17, 18, 19]))), (16, (.ask 3 20 (.leaf [0, 1, 2, 3, 4, 5, 6, 7, 8, 9, 10, 11, 12, 13, 14, 15, 16, 17, 18, 19, 20, 21, 22, 23]) (.leaf [0, 1, 2, 4, 5, 6, 7, 9, 13, 14, 15, 16, 8, 10, 11, 12, 17, 18, 19, 20, 3, 21, 22, 23]))), (17, (.ask 3 11 (.leaf [0, 1, 2, 3, 4, 5, 6, 7, 8, 9, 10, 11, 12, 13, 14]) (.leaf [0, 1, 2, 4, 5, 6, 7, 8, 10, 9, 11, 3, 12, 13, 14]))), (18, (.ask 3 15 (.leaf [0, 1, 2, 3, 4, 5, 6, 7, 8, 9, 10, 11, 12, 13, 14, 15, 16, 17, 18]) (.leaf [0, 1, 2, 4, 5, 6, 7, 9, 8, 10, 11, 12, 13, 14, 15, 3, 16, 17, 18])))]⟩
noncomputable def T99_0 : List It := [.jn (nav [1, 1, 1, 1, 1, 1, 1] C99)]
noncomputable def T99_1 : List It := [.jn (nav [1, 1, 1, 1, 1, 1, 1, 1, 1] C99)]
noncomputable def T99_2 : List It := [.jn (nav [1, 1, 1, 1, 1, 1, 1, 1, 0, 1, 3, 1, 1] C99), .jn (nav [1, 1, 1, 1, 1, 1, 1, 1, 1] C99)]
noncomputable def T99_3 : List It := [.jn (nav [1, 1, 1, 1, 1, 1, 1, 1, 1, 1] C99)]
noncomputable def T99_4 : List It := [.jn (nav [1, 1, 1, 1, 1, 1, 1, 1, 0, 1, 3, 1, 1, 1] C99), .jn (nav [1, 1, 1, 1, 1, 1, 1, 1, 1] C99)]
def P99_0 (x0 x7 x9 x10 x11 x12 : Value) (w : World) (Q : Value → World → Prop) : Prop := Part Try.prog 99 T99_0 [0, 7, 9, 10, 11, 12] [x0, x7, x9, x10, x11, x12] w Q
def P99_1 (x0 x9 x11 : Value) (w : World) (Q : Value → World → Prop) : Prop := Part Try.prog 99 T99_1 [0, 9, 11] [x0, x9, x11] w Q
def P99_2 (x0 x9 x11 x12 : Value) (w : World) (Q : Value → World → Prop) : Prop := Part Try.prog 99 T99_2 [0, 9, 11, 12] [x0, x9, x11, x12] w Q
def P99_3 (w : World) (Q : Value → World → Prop) : Prop := Part Try.prog 99 T99_3 [] [] w Q
def P99_4 (x0 x9 x11 x12 : Value) (w : World) (Q : Value → World → Prop) : Prop := Part Try.prog 99 T99_4 [0, 9, 11, 12] [x0, x9, x11, x12] w Q
def F99 (a0 a1 a2 a3 : Value) (w : World) (Q : Value → World → Prop) : Prop :=
  effv Try.prog (Instr.box 40 a1) w fun t5 w =>
  effv Try.prog (Instr.box 51 a2) w fun t6 w =>
  effv Try.prog (Instr.box 53 a3) w fun t7 w =>
  wpB (pureRun Try.prog (Instr.fieldAt 51 t6 0)) fun t14 =>
  wpB (ldv Try.prog 3 t14 w) fun t15 =>
  wpB (pureRun Try.prog (Instr.fieldAt 51 t6 1)) fun t16 =>
  wpB (ldv Try.prog 3 t16 w) fun t17 =>
  CallR Try.prog 92 [a0, t15, t17] w fun t18 w =>
  wpB (pureRun Try.prog (Instr.fieldAt 40 t5 3)) fun t21 =>
  wpB (ldv Try.prog 3 t21 w) fun t22 =>
  CallR Try.prog 122 [a0, t18, t22] w fun t23 w =>
  wpB (ldv Try.prog 53 t7 w) fun t24 =>
  wpB (pureRun Try.prog (Instr.build 53 #[(0, (Go.Value.int Go.IntKind.i64 6))])) fun t25 =>
  wpB (be Try.prog .eql 53 (.tmp 24) (.tmp 25) t24 t25) fun t26 =>
  cnd t26
  (wpB (pureRun Try.prog (Op.unary .not t23)) fun t28 =>
  Q t28 w)
  (wpB (pureRun Try.prog (Instr.fieldAt 51 t6 0)) fun t29 =>
  wpB (ldv Try.prog 3 t29 w) fun t30 =>
  wpB (pureRun Try.prog (Instr.fieldAt 51 t6 1)) fun t31 =>
  wpB (ldv Try.prog 3 t31 w) fun t32 =>
  wpB (pureRun Try.prog (Instr.fieldAt 53 t7 1)) fun t33 =>
  wpB (pureRun Try.prog (Instr.fieldAt 51 t33 2)) fun t34 =>
  wpB (ldv Try.prog 3 t34 w) fun t35 =>
  wpB (pureRun Try.prog (Instr.fieldAt 40 t5 3)) fun t36 =>
  wpB (ldv Try.prog 3 t36 w) fun t37 =>
  wpB (pureRun Try.prog (Instr.build 51 #[(0, t30), (1, t32), (2, t35), (4, t37)])) fun t38 =>
  effv Try.prog (Instr.alloc 51 true (.tuple #[])) w fun t11 w =>
  effu Try.prog (Instr.storeAt 51 t11 t38) w fun w =>
  wpB (nilv a0) fun t40 =>
  wpB (pureRun Try.prog (Instr.fieldAt 154 t40 4)) fun t41 =>
  wpB (ldv Try.prog 151 t41 w.drew) fun t42 =>
  wpB (pureRun Try.prog (Instr.indexAt 151 t42 t18)) fun t44 =>
  wpB (pureRun Try.prog (Instr.fieldAt 158 t44 2)) fun t45 =>
  wpB (ldv Try.prog 3 t45 w.drew) fun t46 =>
  wpB (pureRun Try.prog (Instr.fieldAt 40 t5 3)) fun t47 =>
  wpB (ldv Try.prog 3 t47 w.drew) fun t48 =>
  CallR Try.prog 123 [t46, t48] w.drew fun t49 w =>
  cnd t23
  (((wpB (nilv a0) fun t52 =>
  wpB (pureRun Try.prog (Instr.fieldAt 154 t52 4)) fun t53 =>
  wpB (ldv Try.prog 151 t53 w.drew) fun t54 =>
  wpB (pureRun Try.prog (Instr.indexAt 151 t54 t18)) fun t56 =>
  wpB (pureRun Try.prog (Instr.fieldAt 158 t56 5)) fun t57 =>
  wpB (ldv Try.prog 23 t57 w.drew) fun t58 =>
  wpB (nilv a0) fun t60 =>
  wpB (pureRun Try.prog (Instr.fieldAt 154 t60 4)) fun t61 =>
  wpB (ldv Try.prog 151 t61 w.drew) fun t62 =>
  wpB (pureRun Try.prog (Instr.indexAt 151 t62 t18)) fun t64 =>
  wpB (pureRun Try.prog (Instr.fieldAt 158 t64 5)) fun t65 =>
  wpB (ldv Try.prog 23 t65 w.drew) fun t66 =>
  wpB (pureRun Try.prog (Builtin.len_ #[23] 3 #[t66])) fun t67 =>
  wpB (bp Try.prog .sub 3 t67 (Go.Value.int Go.IntKind.i64 1)) fun t68 =>
  wpB (pureRun Try.prog (Instr.indexAt 23 t58 t68)) fun t69 =>
  wpB (ldv Try.prog 3 t69 w.drew) fun t70 =>
  wpB (nilv a0) fun t72 =>
  wpB (pureRun Try.prog (Instr.fieldAt 154 t72 4)) fun t73 =>
  wpB (ldv Try.prog 151 t73 w.drew) fun t74 =>
  wpB (pureRun Try.prog (Instr.indexAt 151 t74 t18)) fun t76 =>
  wpB (pureRun Try.prog (Instr.fieldAt 158 t76 3)) fun t77 =>
  wpB (ldv Try.prog 3 t77 w.drew) fun t78 =>
  wpB (pureRun Try.prog (Instr.fieldAt 51 t11 2)) fun t79 =>
  effu Try.prog (Instr.storeAt 3 t79 t70) w.drew fun w =>
  wpB (pureRun Try.prog (Instr.fieldAt 51 t11 3)) fun t80 =>
  effu Try.prog (Instr.storeAt 3 t80 t78) w fun w =>
  P99_0 a0 t7 t18 t23 t11 t49 w Q) ∧
  (wpB (nilv a0) fun t52_1 =>
  wpB (pureRun Try.prog (Instr.fieldAt 154 t52_1 4)) fun t53_1 =>
  wpB (nilv a0) fun t60_1 =>
  wpB (pureRun Try.prog (Instr.fieldAt 154 t60_1 4)) fun t61_1 =>
  wpB (nilv a0) fun t72_1 =>
  wpB (pureRun Try.prog (Instr.fieldAt 154 t72_1 4)) fun t73_1 =>
  wpB (ldv Try.prog 151 t53_1 w.drew) fun t54_1 =>
  wpB (pureRun Try.prog (Instr.indexAt 151 t54_1 t18)) fun t56_1 =>
  wpB (pureRun Try.prog (Instr.fieldAt 158 t56_1 5)) fun t57_1 =>
  wpB (ldv Try.prog 23 t57_1 w.drew) fun t58_1 =>
  wpB (ldv Try.prog 151 t61_1 w.drew) fun t62_1 =>
  wpB (pureRun Try.prog (Instr.indexAt 151 t62_1 t18)) fun t64_1 =>
  wpB (pureRun Try.prog (Instr.fieldAt 158 t64_1 5)) fun t65_1 =>
  wpB (ldv Try.prog 23 t65_1 w.drew) fun t66_1 =>
  wpB (pureRun Try.prog (Builtin.len_ #[23] 3 #[t66_1])) fun t67_1 =>
  wpB (bp Try.prog .sub 3 t67_1 (Go.Value.int Go.IntKind.i64 1)) fun t68_1 =>
  wpB (pureRun Try.prog (Instr.indexAt 23 t58_1 t68_1)) fun t69_1 =>
  wpB (ldv Try.prog 3 t69_1 w.drew) fun t70_1 =>
  wpB (pureRun Try.prog (Instr.fieldAt 51 t11 2)) fun t79_1 =>
  wpB (ldv Try.prog 151 t73_1 w.drew) fun t74_1 =>
  wpB (pureRun Try.prog (Instr.indexAt 151 t74_1 t18)) fun t76_1 =>
  wpB (pureRun Try.prog (Instr.fieldAt 158 t76_1 3)) fun t77_1 =>
  effu Try.prog (Instr.storeAt 3 t79_1 t70_1) w.drew fun w =>
  wpB (ldv Try.prog 3 t77_1 w) fun t78_1 =>
  wpB (pureRun Try.prog (Instr.fieldAt 51 t11 3)) fun t80_1 =>
  effu Try.prog (Instr.storeAt 3 t80_1 t78_1) w fun w =>
  P99_0 a0 t7 t18 t23 t11 t49 w Q)) ∧
  (wpB (nilv a0) fun t52_2 =>
  wpB (pureRun Try.prog (Instr.fieldAt 154 t52_2 4)) fun t53_2 =>
  wpB (nilv a0) fun t60_2 =>
  wpB (pureRun Try.prog (Instr.fieldAt 154 t60_2 4)) fun t61_2 =>
  wpB (nilv a0) fun t72_2 =>
  wpB (pureRun Try.prog (Instr.fieldAt 154 t72_2 4)) fun t73_2 =>
  wpB (ldv Try.prog 151 t53_2 w.drew) fun t54_2 =>
  wpB (pureRun Try.prog (Instr.indexAt 151 t54_2 t18)) fun t56_2 =>
  wpB (pureRun Try.prog (Instr.fieldAt 158 t56_2 5)) fun t57_2 =>
  wpB (ldv Try.prog 23 t57_2 w.drew) fun t58_2 =>
  wpB (ldv Try.prog 151 t61_2 w.drew) fun t62_2 =>
  wpB (pureRun Try.prog (Instr.indexAt 151 t62_2 t18)) fun t64_2 =>
  wpB (pureRun Try.prog (Instr.fieldAt 158 t64_2 5)) fun t65_2 =>
  wpB (ldv Try.prog 23 t65_2 w.drew) fun t66_2 =>
  wpB (pureRun Try.prog (Builtin.len_ #[23] 3 #[t66_2])) fun t67_2 =>
  wpB (bp Try.prog .sub 3 t67_2 (Go.Value.int Go.IntKind.i64 1)) fun t68_2 =>
  wpB (pureRun Try.prog (Instr.indexAt 23 t58_2 t68_2)) fun t69_2 =>
  wpB (ldv Try.prog 3 t69_2 w.drew) fun t70_2 =>
  wpB (pureRun Try.prog (Instr.fieldAt 51 t11 2)) fun t79_2 =>
  effu Try.prog (Instr.storeAt 3 t79_2 t70_2) w.drew fun w =>
  wpB (ldv Try.prog 151 t73_2 w) fun t74_2 =>
  wpB (pureRun Try.prog (Instr.indexAt 151 t74_2 t18)) fun t76_2 =>
  wpB (pureRun Try.prog (Instr.fieldAt 158 t76_2 3)) fun t77_2 =>
  wpB (ldv Try.prog 3 t77_2 w) fun t78_2 =>
  wpB (pureRun Try.prog (Instr.fieldAt 51 t11 3)) fun t80_2 =>
  effu Try.prog (Instr.storeAt 3 t80_2 t78_2) w fun w =>
  P99_0 a0 t7 t18 t23 t11 t49 w Q))
  (P99_0 a0 t7 t18 t23 t11 t49 w Q))
def L99_0 (x0 x7 x9 x10 x11 x12 : Value) (w : World) (Q : Value → World → Prop) : Prop :=
  wpB (ldv Try.prog 53 x7 w) fun t81 =>
  wpB (ldv Try.prog 51 x11 w) fun t82 =>
  wpB (pureRun Try.prog (Instr.build 53 #[(1, t82)])) fun t83 =>
  wpB (be Try.prog .neq 53 (.tmp 81) (.tmp 83) t81 t83) fun t84 =>
  cnd t84
  (Q (Go.Value.bool false) w)
  (cnd x10
  (wpB (nilv x0) fun t87 =>
  wpB (pureRun Try.prog (Instr.fieldAt 154 t87 4)) fun t88 =>
  wpB (ldv Try.prog 151 t88 w.drew) fun t89 =>
  wpB (nilv x0) fun t92 =>
  wpB (pureRun Try.prog (Instr.fieldAt 154 t92 4)) fun t93 =>
  wpB (ldv Try.prog 151 t93 w.drew) fun t94 =>
  wpB (pureRun Try.prog (Instr.indexAt 151 t94 x9)) fun t96 =>
  wpB (pureRun Try.prog (Instr.fieldAt 158 t96 3)) fun t97 =>
  wpB (ldv Try.prog 3 t97 w.drew) fun t98 =>
  wpB (bp Try.prog .add 3 t98 x12) fun t100 =>
  wpB (pureRun Try.prog (Instr.indexAt 151 t89 x9)) fun t101 =>
  wpB (pureRun Try.prog (Instr.fieldAt 158 t101 3)) fun t102 =>
  effu Try.prog (Instr.storeAt 3 t102 t100) w.drew fun w =>
  P99_1 x0 x9 x11 w Q)
  (wpB (pureRun Try.prog (Instr.fieldAt 51 x11 2)) fun t103 =>
  wpB (ldv Try.prog 3 t103 w.drew) fun t104 =>
  wpB (bp Try.prog .lss 3 t104 (Go.Value.int Go.IntKind.i64 0)) fun t105 =>
  wpB (gd t105 false (pureRun Try.prog (Instr.fieldAt 51 x11 2))) fun t107 =>
  wpB (gd t105 false (ldv Try.prog 3 t107 w.drew)) fun t108 =>
  wpB (gd t105 false (nilv (gv t105 false x0))) fun t110 =>
  wpB (gd t105 false (pureRun Try.prog (Instr.fieldAt 154 t110 0))) fun t111 =>
  wpB (gd t105 false (pureRun Try.prog (Instr.fieldAt 74 t111 1))) fun t112 =>
  wpB (gd t105 false (ldv Try.prog 3 t112 w.drew)) fun t113 =>
  wpB (gd t105 false (bp Try.prog .geq 3 t108 t113)) fun t114 =>
  wpB (pickv t105 (some (Go.Value.bool true)) (some t114)) fun t115 =>
  wpB (gd t115 false (pureRun Try.prog (Instr.fieldAt 51 x11 2))) fun t118 =>
  wpB (gd t115 false (ldv Try.prog 3 t118 w.drew)) fun t119 =>
  gE t115 false (CallR Try.prog 124 [(gv t115 false x0), t119] w.drew) (fun t120 w =>
  wpB (pickv t115 (some (Go.Value.bool true)) (some t120)) fun t121 =>
  cnd t121
  (Q (Go.Value.bool false) w)
  ((wpB (nilv x0) fun t123 =>
  wpB (pureRun Try.prog (Instr.fieldAt 154 t123 4)) fun t124 =>
  wpB (ldv Try.prog 151 t124 w.drew) fun t125 =>
  wpB (nilv x0) fun t128 =>
  wpB (pureRun Try.prog (Instr.fieldAt 154 t128 4)) fun t129 =>
  wpB (ldv Try.prog 151 t129 w.drew) fun t130 =>
  wpB (pureRun Try.prog (Instr.indexAt 151 t130 x9)) fun t132 =>
  wpB (pureRun Try.prog (Instr.fieldAt 158 t132 5)) fun t133 =>
  wpB (ldv Try.prog 23 t133 w.drew) fun t134 =>
  wpB (pureRun Try.prog (Instr.fieldAt 51 x11 2)) fun t135 =>
  wpB (ldv Try.prog 3 t135 w.drew) fun t136 =>
  effv Try.prog (Instr.buildSlice 23 1 #[(0, t136)]) w.drew fun t137 w =>
  effv Try.prog (Builtin.append_ #[23, 23] 23 #[t134, t137]) w fun t138 w =>
  wpB (pureRun Try.prog (Instr.indexAt 151 t125 x9)) fun t139 =>
  wpB (pureRun Try.prog (Instr.fieldAt 158 t139 5)) fun t140 =>
  effu Try.prog (Instr.storeAt 23 t140 t138) w fun w =>
  P99_2 x0 x9 x11 x12 w Q) ∧
  (wpB (nilv x0) fun t123_1 =>
  wpB (pureRun Try.prog (Instr.fieldAt 154 t123_1 4)) fun t124_1 =>
  wpB (nilv x0) fun t128_1 =>
  wpB (pureRun Try.prog (Instr.fieldAt 154 t128_1 4)) fun t129_1 =>
  wpB (pureRun Try.prog (Instr.fieldAt 51 x11 2)) fun t135_1 =>
  wpB (ldv Try.prog 151 t129_1 w.drew) fun t130_1 =>
  wpB (pureRun Try.prog (Instr.indexAt 151 t130_1 x9)) fun t132_1 =>
  wpB (pureRun Try.prog (Instr.fieldAt 158 t132_1 5)) fun t133_1 =>
  wpB (ldv Try.prog 23 t133_1 w.drew) fun t134_1 =>
  wpB (ldv Try.prog 3 t135_1 w.drew) fun t136_1 =>
  effv Try.prog (Instr.buildSlice 23 1 #[(0, t136_1)]) w.drew fun t137_1 w =>
  effv Try.prog (Builtin.append_ #[23, 23] 23 #[t134_1, t137_1]) w fun t138_1 w =>
  wpB (ldv Try.prog 151 t124_1 w) fun t125_1 =>
  wpB (pureRun Try.prog (Instr.indexAt 151 t125_1 x9)) fun t139_1 =>
  wpB (pureRun Try.prog (Instr.fieldAt 158 t139_1 5)) fun t140_1 =>
  effu Try.prog (Instr.storeAt 23 t140_1 t138_1) w fun w =>
  P99_2 x0 x9 x11 x12 w Q))) w.drew))
def L99_1 (x0 x9 x11 : Value) (w : World) (Q : Value → World → Prop) : Prop :=
  (wpB (nilv x0) fun t179 =>
  wpB (pureRun Try.prog (Instr.fieldAt 154 t179 4)) fun t180 =>
  wpB (ldv Try.prog 151 t180 w.drew) fun t181 =>
  wpB (nilv x0) fun t184 =>
  wpB (pureRun Try.prog (Instr.fieldAt 154 t184 4)) fun t185 =>
  wpB (ldv Try.prog 151 t185 w.drew) fun t186 =>
  wpB (pureRun Try.prog (Instr.indexAt 151 t186 x9)) fun t188 =>
  wpB (pureRun Try.prog (Instr.fieldAt 158 t188 7)) fun t189 =>
  wpB (ldv Try.prog 90 t189 w.drew) fun t190 =>
  wpB (ldv Try.prog 51 x11 w.drew) fun t191 =>
  effv Try.prog (Instr.buildSlice 90 1 #[(0, t191)]) w.drew fun t192 w =>
  effv Try.prog (Builtin.append_ #[90, 90] 90 #[t190, t192]) w fun t193 w =>
  wpB (pureRun Try.prog (Instr.indexAt 151 t181 x9)) fun t194 =>
  wpB (pureRun Try.prog (Instr.fieldAt 158 t194 7)) fun t195 =>
  effu Try.prog (Instr.storeAt 90 t195 t193) w fun w =>
  P99_3 w Q) ∧
  (wpB (nilv x0) fun t179_1 =>
  wpB (pureRun Try.prog (Instr.fieldAt 154 t179_1 4)) fun t180_1 =>
  wpB (nilv x0) fun t184_1 =>
  wpB (pureRun Try.prog (Instr.fieldAt 154 t184_1 4)) fun t185_1 =>
  wpB (ldv Try.prog 151 t185_1 w.drew) fun t186_1 =>
  wpB (pureRun Try.prog (Instr.indexAt 151 t186_1 x9)) fun t188_1 =>
  wpB (pureRun Try.prog (Instr.fieldAt 158 t188_1 7)) fun t189_1 =>
  wpB (ldv Try.prog 90 t189_1 w.drew) fun t190_1 =>
  wpB (ldv Try.prog 51 x11 w.drew) fun t191_1 =>
  effv Try.prog (Instr.buildSlice 90 1 #[(0, t191_1)]) w.drew fun t192_1 w =>
  effv Try.prog (Builtin.append_ #[90, 90] 90 #[t190_1, t192_1]) w fun t193_1 w =>
  wpB (ldv Try.prog 151 t180_1 w) fun t181_1 =>
  wpB (pureRun Try.prog (Instr.indexAt 151 t181_1 x9)) fun t194_1 =>
  wpB (pureRun Try.prog (Instr.fieldAt 158 t194_1 7)) fun t195_1 =>
  effu Try.prog (Instr.storeAt 90 t195_1 t193_1) w fun w =>
  P99_3 w Q)
def L99_2 (x0 x9 x11 x12 : Value) (w : World) (Q : Value → World → Prop) : Prop :=
  (wpB (nilv x0) fun t142 =>
  wpB (pureRun Try.prog (Instr.fieldAt 154 t142 4)) fun t143 =>
  wpB (ldv Try.prog 151 t143 w.drew) fun t144 =>
  wpB (nilv x0) fun t147 =>
  wpB (pureRun Try.prog (Instr.fieldAt 154 t147 4)) fun t148 =>
  wpB (ldv Try.prog 151 t148 w.drew) fun t149 =>
  wpB (pureRun Try.prog (Instr.indexAt 151 t149 x9)) fun t151 =>
  wpB (pureRun Try.prog (Instr.fieldAt 158 t151 6)) fun t152 =>
  wpB (ldv Try.prog 142 t152 w.drew) fun t153 =>
  wpB (nilv x0) fun t155 =>
  wpB (pureRun Try.prog (Instr.fieldAt 154 t155 0)) fun t156 =>
  wpB (pureRun Try.prog (Instr.fieldAt 74 t156 2)) fun t157 =>
  wpB (ldv Try.prog 3 t157 w.drew) fun t158 =>
  effv Try.prog (Instr.makeSlice 177 t158 t158) w.drew fun t159 w =>
  effv Try.prog (Instr.buildSlice 142 1 #[(0, t159)]) w fun t160 w =>
  effv Try.prog (Builtin.append_ #[142, 142] 142 #[t153, t160]) w fun t161 w =>
  wpB (pureRun Try.prog (Instr.indexAt 151 t144 x9)) fun t162 =>
  wpB (pureRun Try.prog (Instr.fieldAt 158 t162 6)) fun t163 =>
  effu Try.prog (Instr.storeAt 142 t163 t161) w fun w =>
  P99_4 x0 x9 x11 x12 w Q) ∧
  (wpB (nilv x0) fun t142_1 =>
  wpB (pureRun Try.prog (Instr.fieldAt 154 t142_1 4)) fun t143_1 =>
  wpB (nilv x0) fun t147_1 =>
  wpB (pureRun Try.prog (Instr.fieldAt 154 t147_1 4)) fun t148_1 =>
  wpB (nilv x0) fun t155_1 =>
  wpB (pureRun Try.prog (Instr.fieldAt 154 t155_1 0)) fun t156_1 =>
  wpB (pureRun Try.prog (Instr.fieldAt 74 t156_1 2)) fun t157_1 =>
  wpB (ldv Try.prog 151 t148_1 w.drew) fun t149_1 =>
  wpB (pureRun Try.prog (Instr.indexAt 151 t149_1 x9)) fun t151_1 =>
  wpB (pureRun Try.prog (Instr.fieldAt 158 t151_1 6)) fun t152_1 =>
  wpB (ldv Try.prog 142 t152_1 w.drew) fun t153_1 =>
  wpB (ldv Try.prog 3 t157_1 w.drew) fun t158_1 =>
  effv Try.prog (Instr.makeSlice 177 t158_1 t158_1) w.drew fun t159_1 w =>
  effv Try.prog (Instr.buildSlice 142 1 #[(0, t159_1)]) w fun t160_1 w =>
  effv Try.prog (Builtin.append_ #[142, 142] 142 #[t153_1, t160_1]) w fun t161_1 w =>
  wpB (ldv Try.prog 151 t143_1 w) fun t144_1 =>
  wpB (pureRun Try.prog (Instr.indexAt 151 t144_1 x9)) fun t162_1 =>
  wpB (pureRun Try.prog (Instr.fieldAt 158 t162_1 6)) fun t163_1 =>
  effu Try.prog (Instr.storeAt 142 t163_1 t161_1) w fun w =>
  P99_4 x0 x9 x11 x12 w Q)
def L99_3 (w : World) (Q : Value → World → Prop) : Prop :=
  Q (Go.Value.bool true) w
def L99_4 (x0 x9 x11 x12 : Value) (w : World) (Q : Value → World → Prop) : Prop :=
  (wpB (nilv x0) fun t165 =>
  wpB (pureRun Try.prog (Instr.fieldAt 154 t165 4)) fun t166 =>
  wpB (ldv Try.prog 151 t166 w.drew) fun t167 =>
  wpB (nilv x0) fun t170 =>
  wpB (pureRun Try.prog (Instr.fieldAt 154 t170 0)) fun t171 =>
  wpB (pureRun Try.prog (Instr.fieldAt 74 t171 2)) fun t172 =>
  wpB (ldv Try.prog 3 t172 w.drew) fun t173 =>
  CallR Try.prog 125 [t173, x12] w.drew fun t175 w =>
  wpB (pureRun Try.prog (Instr.indexAt 151 t167 x9)) fun t176 =>
  wpB (pureRun Try.prog (Instr.fieldAt 158 t176 3)) fun t177 =>
  effu Try.prog (Instr.storeAt 3 t177 t175) w fun w =>
  P99_1 x0 x9 x11 w Q) ∧
  (wpB (nilv x0) fun t165_1 =>
  wpB (pureRun Try.prog (Instr.fieldAt 154 t165_1 4)) fun t166_1 =>
  wpB (nilv x0) fun t170_1 =>
  wpB (pureRun Try.prog (Instr.fieldAt 154 t170_1 0)) fun t171_1 =>
  wpB (pureRun Try.prog (Instr.fieldAt 74 t171_1 2)) fun t172_1 =>
  wpB (ldv Try.prog 3 t172_1 w.drew) fun t173_1 =>
  CallR Try.prog 125 [t173_1, x12] w.drew fun t175_1 w =>
  wpB (ldv Try.prog 151 t166_1 w) fun t167_1 =>
  wpB (pureRun Try.prog (Instr.indexAt 151 t167_1 x9)) fun t176_1 =>
  wpB (pureRun Try.prog (Instr.fieldAt 158 t176_1 3)) fun t177_1 =>
  effu Try.prog (Instr.storeAt 3 t177_1 t175_1) w fun w =>
  P99_1 x0 x9 x11 w Q)
theorem F99_ok {a0 a1 a2 a3 : Value} {w : World} {Q : Value → World → Prop} (h : F99 a0 a1 a2 a3 w Q) : CallR Try.prog 99 [a0, a1, a2, a3] w Q :=
  have e : evC Try.prog (entR 3 143) 99 196 H99 Q C99 [] (entryE 0 [a0, a1, a2, a3]) w (contT Try.prog (entR 3 143) 99 196 H99 Try.f99.results.toList Q []) = F99 a0 a1 a2 a3 w Q := by kernel_rfl
  bt (fn := Try.f99) mixed bn Try.func99 (c := C99) rfl H99 (Nat.le_of_ble_eq_true rfl) (e.mpr h)
theorem L99_0_ok {x0 x7 x9 x10 x11 x12 : Value} {w : World} {Q : Value → World → Prop} (h : L99_0 x0 x7 x9 x10 x11 x12 w Q) : P99_0 x0 x7 x9 x10 x11 x12 w Q :=
  have e : evC Try.prog (entR 3 143) 99 196 H99 Q (nav [1, 1, 1, 1, 1, 1, 1] C99) [] (unpack [0, 7, 9, 10, 11, 12] [x0, x7, x9, x10, x11, x12]) w (contT Try.prog (entR 3 143) 99 196 H99 Try.f99.results.toList Q []) = L99_0 x0 x7 x9 x10 x11 x12 w Q := by kernel_rfl
  bx (fn := Try.f99) mixed bn Try.func99 H99 (c := (nav [1, 1, 1, 1, 1, 1, 1] C99)) (t := []) (e.mpr h)
theorem L99_1_ok {x0 x9 x11 : Value} {w : World} {Q : Value → World → Prop} (h : L99_1 x0 x9 x11 w Q) : P99_1 x0 x9 x11 w Q :=
  have e : evC Try.prog (entR 3 143) 99 196 H99 Q (nav [1, 1, 1, 1, 1, 1, 1, 1, 1] C99) [] (unpack [0, 9, 11] [x0, x9, x11]) w (contT Try.prog (entR 3 143) 99 196 H99 Try.f99.results.toList Q []) = L99_1 x0 x9 x11 w Q := by kernel_rfl
  bx (fn := Try.f99) mixed bn Try.func99 H99 (c := (nav [1, 1, 1, 1, 1, 1, 1, 1, 1] C99)) (t := []) (e.mpr h)
theorem L99_2_ok {x0 x9 x11 x12 : Value} {w : World} {Q : Value → World → Prop} (h : L99_2 x0 x9 x11 x12 w Q) : P99_2 x0 x9 x11 x12 w Q :=
  have e : evC Try.prog (entR 3 143) 99 196 H99 Q (nav [1, 1, 1, 1, 1, 1, 1, 1, 0, 1, 3, 1, 1] C99) [.jn (nav [1, 1, 1, 1, 1, 1, 1, 1, 1] C99)] (unpack [0, 9, 11, 12] [x0, x9, x11, x12]) w (contT Try.prog (entR 3 143) 99 196 H99 Try.f99.results.toList Q [.jn (nav [1, 1, 1, 1, 1, 1, 1, 1, 1] C99)]) = L99_2 x0 x9 x11 x12 w Q := by kernel_rfl
  bx (fn := Try.f99) mixed bn Try.func99 H99 (c := (nav [1, 1, 1, 1, 1, 1, 1, 1, 0, 1, 3, 1, 1] C99)) (t := [.jn (nav [1, 1, 1, 1, 1, 1, 1, 1, 1] C99)]) (e.mpr h)
theorem L99_3_ok {w : World} {Q : Value → World → Prop} (h : L99_3  w Q) : P99_3  w Q :=
  have e : evC Try.prog (entR 3 143) 99 196 H99 Q (nav [1, 1, 1, 1, 1, 1, 1, 1, 1, 1] C99) [] (unpack [] []) w (contT Try.prog (entR 3 143) 99 196 H99 Try.f99.results.toList Q []) = L99_3  w Q := by kernel_rfl
  bx (fn := Try.f99) mixed bn Try.func99 H99 (c := (nav [1, 1, 1, 1, 1, 1, 1, 1, 1, 1] C99)) (t := []) (e.mpr h)
theorem L99_4_ok {x0 x9 x11 x12 : Value} {w : World} {Q : Value → World → Prop} (h : L99_4 x0 x9 x11 x12 w Q) : P99_4 x0 x9 x11 x12 w Q :=
  have e : evC Try.prog (entR 3 143) 99 196 H99 Q (nav [1, 1, 1, 1, 1, 1, 1, 1, 0, 1, 3, 1, 1, 1] C99) [.jn (nav [1, 1, 1, 1, 1, 1, 1, 1, 1] C99)] (unpack [0, 9, 11, 12] [x0, x9, x11, x12]) w (contT Try.prog (entR 3 143) 99 196 H99 Try.f99.results.toList Q [.jn (nav [1, 1, 1, 1, 1, 1, 1, 1, 1] C99)]) = L99_4 x0 x9 x11 x12 w Q := by kernel_rfl
  bx (fn := Try.f99) mixed bn Try.func99 H99 (c := (nav [1, 1, 1, 1, 1, 1, 1, 1, 0, 1, 3, 1, 1, 1] C99)) (t := [.jn (nav [1, 1, 1, 1, 1, 1, 1, 1, 1] C99)]) (e.mpr h)

noncomputable def C103 : Code := (Try.f103.body).getD .skip
noncomputable def H103 : Hints := ⟨[], [], []⟩
def F103 (a0 a1 : Value) (w : World) (Q : Value → World → Prop) : Prop :=
  wpB (bp Try.prog .lss 3 a1 (Go.Value.int Go.IntKind.i64 0)) fun t7 =>
  wpB (gd t7 false (nilv (gv t7 false a0))) fun t11 =>
  wpB (gd t7 false (pureRun Try.prog (Instr.fieldAt 154 t11 0))) fun t12 =>
  wpB (gd t7 false (pureRun Try.prog (Instr.fieldAt 74 t12 3))) fun t13 =>
  wpB (gd t7 false (ldv Try.prog 3 t13 w)) fun t14 =>
  wpB (gd t7 false (bp Try.prog .geq 3 (gv t7 false a1) t14)) fun t15 =>
  wpB (pickv t7 (some (Go.Value.bool true)) (some t15)) fun t16 =>
  wpB (gd t16 false (nilv (gv t16 false a0))) fun t19 =>
  wpB (gd t16 false (pureRun Try.prog (Instr.fieldAt 154 t19 2))) fun t20 =>
  wpB (gd t16 false (ldv Try.prog 23 t20 w)) fun t21 =>
  wpB (gd t16 false (pureRun Try.prog (Instr.indexAt 23 t21 (gv t16 false a1)))) fun t23 =>
  wpB (gd t16 false (ldv Try.prog 3 t23 w)) fun t24 =>
  wpB (gd t16 false (be Try.prog .neq 3 (.tmp 24) (.const (Go.Value.int Go.IntKind.i64 1)) t24 (Go.Value.int Go.IntKind.i64 1))) fun t25 =>
  wpB (pickv t16 (some (Go.Value.bool true)) (some t25)) fun t26 =>
  cnd t26
  (Q (.tuple #[(Go.Value.int Go.IntKind.i64 0), (Go.Value.bool false)]) w)
  (wpB (nilv a0) fun t28 =>
  wpB (pureRun Try.prog (Instr.fieldAt 154 t28 3)) fun t29 =>
  wpB (ldv Try.prog 23 t29 w) fun t30 =>
  wpB (pureRun Try.prog (Instr.indexAt 23 t30 a1)) fun t32 =>
  wpB (ldv Try.prog 3 t32 w) fun t33 =>
  Q (.tuple #[t33, (Go.Value.bool true)]) w)
theorem F103_ok {a0 a1 : Value} {w : World} {Q : Value → World → Prop} (h : F103 a0 a1 w Q) : CallR Try.prog 103 [a0, a1] w Q :=
  have e : evC Try.prog (entR 3 143) 103 34 H103 Q C103 [] (entryE 0 [a0, a1]) w (contT Try.prog (entR 3 143) 103 34 H103 Try.f103.results.toList Q []) = F103 a0 a1 w Q := by kernel_rfl
  bt (fn := Try.f103) mixed bn Try.func103 (c := C103) rfl H103 (Nat.le_of_ble_eq_true rfl) (e.mpr h)

noncomputable def C104 : Code := (Try.f104.body).getD .skip
noncomputable def H104 : Hints := ⟨[(4, [0, 1, 5])], [], [(6, (.leaf [0, 1, 2, 3, 4, 5, 6, 7, 8]))]⟩
noncomputable def T104_0 : List It := [.lp (nav [1, 1, 0, 1, 4, 5] C104), .blk 0, .jn (nav [1, 1, 1] C104)]
def P104_0 (x0 x1 x5 : Value) (w : World) (Q : Value → World → Prop) : Prop := Part Try.prog 104 T104_0 [0, 1, 5] [x0, x1, x5] w Q
def F104 (a0 a1 : Value) (w : World) (Q : Value → World → Prop) : Prop :=
  wpB (pureRun Try.prog (Builtin.len_ #[90] 3 #[a0])) fun t7 =>
  wpB (pureRun Try.prog (Builtin.len_ #[90] 3 #[a1])) fun t9 =>
  wpB (be Try.prog .neq 3 (.tmp 7) (.tmp 9) t7 t9) fun t10 =>
  cnd t10
  (Q (Go.Value.bool false) w)
  (P104_0 a0 a1 (Go.Value.int Go.IntKind.i64 0) w Q)
def L104_0 (x0 x1 x5 : Value) (w : World) (Q : Value → World → Prop) : Prop :=
  wpB (pureRun Try.prog (Builtin.len_ #[90] 3 #[x0])) fun t13 =>
  wpB (bp Try.prog .lss 3 x5 t13) fun t14 =>
  cnd t14
  (wpB (pureRun Try.prog (Instr.indexAt 90 x0 x5)) fun t19 =>
  wpB (ldv Try.prog 51 t19 w.drew) fun t20 =>
  wpB (pureRun Try.prog (Instr.indexAt 90 x1 x5)) fun t23 =>
  wpB (ldv Try.prog 51 t23 w.drew) fun t24 =>
  wpB (be Try.prog .neq 51 (.tmp 20) (.tmp 24) t20 t24) fun t25 =>
  cnd t25
  (Q (Go.Value.bool false) w.drew)
  (wpB (bp Try.prog .add 3 x5 (Go.Value.int Go.IntKind.i64 1)) fun t16 =>
  P104_0 x0 x1 t16 w.drew Q))
  (Q (Go.Value.bool true) w)
theorem F104_ok {a0 a1 : Value} {w : World} {Q : Value → World → Prop} (h : F104 a0 a1 w Q) : CallR Try.prog 104 [a0, a1] w Q :=
  have e : evC Try.prog (entR 3 143) 104 26 H104 Q C104 [] (entryE 0 [a0, a1]) w (contT Try.prog (entR 3 143) 104 26 H104 Try.f104.results.toList Q []) = F104 a0 a1 w Q := by kernel_rfl
  bt (fn := Try.f104) mixed bn Try.func104 (c := C104) rfl H104 (Nat.le_of_ble_eq_true rfl) (e.mpr h)
theorem L104_0_ok {x0 x1 x5 : Value} {w : World} {Q : Value → World → Prop} (h : L104_0 x0 x1 x5 w Q) : P104_0 x0 x1 x5 w Q :=
  have e : evC Try.prog (entR 3 143) 104 26 H104 Q (nav [1, 1, 0, 1, 4, 5] C104) T104_0 (unpack [0, 1, 5] [x0, x1, x5]) w (contT Try.prog (entR 3 143) 104 26 H104 Try.f104.results.toList Q T104_0) = L104_0 x0 x1 x5 w Q := by kernel_rfl
  part_lp (fn := Try.f104) mixed bn Try.func104 H104 (c := (nav [1, 1, 0, 1, 4, 5] C104)) (t := [.blk 0, .jn (nav [1, 1, 1] C104)]) (e.mpr h)

noncomputable def C106 : Code := (Try.f106.body).getD .skip
noncomputable def H106 : Hints := ⟨[], [(5, [2, 4, 10])], [(4, (.ask 3 9 (.ask 12 9 (.leaf [0, 1, 2, 4, 5, 7, 3, 6, 8, 12, 9, 10, 11, 13]) (.leaf [0, 1, 2, 3, 4, 5, 6, 7, 8, 9, 10, 11, 12, 13])) (.ask 12 9 (.leaf [0, 1, 2, 4, 5, 7, 6, 8, 12, 9, 3, 10, 11, 13]) (.leaf [0, 1, 2, 4, 5, 7, 6, 8, 9, 3, 10, 11, 12, 13])))), (5, (.ask 1 5 (.ask 9 5 (.leaf [0, 3, 8, 10, 1, 2, 4, 9, 11, 5, 6, 7, 12, 13, 14, 15]) (.leaf [0, 1, 2, 3, 4, 5, 6, 7, 8, 9, 10, 11, 12, 13, 14, 15])) (.ask 9 5 (.leaf [0, 3, 8, 10, 2, 4, 9, 11, 5, 1, 6, 7, 12, 13, 14, 15]) (.leaf [0, 3, 8, 10, 2, 4, 5, 1, 6, 7, 9, 11, 12, 13, 14, 15]))))]⟩
noncomputable def T106_0 : List It := [.jn (nav [1, 1, 1, 1] C106)]
def P106_0 (x2 x4 x10 : Value) (w : World) (Q : Value → World → Prop) : Prop := Part Try.prog 106 T106_0 [2, 4, 10] [x2, x4, x10] w Q
def F106 (a0 a1 a2 : Value) (w : World) (Q : Value → World → Prop) : Prop :=
  effv Try.prog (Instr.box 51 a1) w fun t4 w =>
  wpB (ldv Try.prog 51 t4 w) fun t13 =>
  CallR Try.prog 120 [a0, t13] w fun t14 w =>
  wpB (pureRun Try.prog (Instr.extract t14 0)) fun t15 =>
  wpB (pureRun Try.prog (Instr.extract t14 1)) fun t16 =>
  wpB (pureRun Try.prog (Op.unary .not t16)) fun t18 =>
  wpB (gd t18 false (bp Try.prog .lss 3 (gv t18 false a2) (Go.Value.int Go.IntKind.i64 0))) fun t21 =>
  wpB (pickv t18 (some (Go.Value.bool true)) (some t21)) fun t22 =>
  wpB (gd t22 false (pureRun Try.prog (Instr.fieldAt 51 t4 4))) fun t25 =>
  wpB (gd t22 false (ldv Try.prog 3 t25 w)) fun t26 =>
  wpB (gd t22 false (bp Try.prog .geq 3 (gv t22 false a2) t26)) fun t27 =>
  wpB (pickv t22 (some (Go.Value.bool true)) (some t27)) fun t28 =>
  cnd t28
  (Q (.tuple #[(Go.Value.int Go.IntKind.u64 0), (Go.Value.bool false)]) w)
  (((wpB (nilv a0) fun t30 =>
  wpB (pureRun Try.prog (Instr.fieldAt 154 t30 4)) fun t31 =>
  wpB (pureRun Try.prog (Instr.fieldAt 51 t4 0)) fun t34 =>
  wpB (pureRun Try.prog (Instr.fieldAt 51 t4 1)) fun t36 =>
  wpB (ldv Try.prog 151 t31 w.drew) fun t32 =>
  wpB (ldv Try.prog 3 t34 w.drew) fun t35 =>
  wpB (ldv Try.prog 3 t36 w.drew) fun t37 =>
  effv Try.prog (Instr.alloc 158 true (.tuple #[])) w.drew fun t10 w =>
  CallR Try.prog 92 [a0, t35, t37] w fun t38 w =>
  wpB (pureRun Try.prog (Instr.indexAt 151 t32 t38)) fun t39 =>
  wpB (ldv Try.prog 158 t39 w) fun t40 =>
  effu Try.prog (Instr.storeAt 158 t10 t40) w fun w =>
  P106_0 a2 t4 t10 w Q) ∧
  (wpB (nilv a0) fun t30_1 =>
  wpB (pureRun Try.prog (Instr.fieldAt 154 t30_1 4)) fun t31_1 =>
  wpB (ldv Try.prog 151 t31_1 w.drew) fun t32_1 =>
  wpB (pureRun Try.prog (Instr.fieldAt 51 t4 0)) fun t34_1 =>
  wpB (ldv Try.prog 3 t34_1 w.drew) fun t35_1 =>
  wpB (pureRun Try.prog (Instr.fieldAt 51 t4 1)) fun t36_1 =>
  wpB (ldv Try.prog 3 t36_1 w.drew) fun t37_1 =>
  CallR Try.prog 92 [a0, t35_1, t37_1] w.drew fun t38_1 w =>
  wpB (pureRun Try.prog (Instr.indexAt 151 t32_1 t38_1)) fun t39_1 =>
  wpB (ldv Try.prog 158 t39_1 w) fun t40_1 =>
  effv Try.prog (Instr.alloc 158 true (.tuple #[])) w fun t10_1 w =>
  effu Try.prog (Instr.storeAt 158 t10_1 t40_1) w fun w =>
  P106_0 a2 t4 t10_1 w Q)) ∧
  ((wpB (nilv a0) fun t30_2 =>
  wpB (pureRun Try.prog (Instr.fieldAt 154 t30_2 4)) fun t31_2 =>
  wpB (pureRun Try.prog (Instr.fieldAt 51 t4 0)) fun t34_2 =>
  wpB (pureRun Try.prog (Instr.fieldAt 51 t4 1)) fun t36_2 =>
  wpB (ldv Try.prog 3 t34_2 w.drew) fun t35_2 =>
  wpB (ldv Try.prog 3 t36_2 w.drew) fun t37_2 =>
  effv Try.prog (Instr.alloc 158 true (.tuple #[])) w.drew fun t10_2 w =>
  CallR Try.prog 92 [a0, t35_2, t37_2] w fun t38_2 w =>
  wpB (ldv Try.prog 151 t31_2 w) fun t32_2 =>
  wpB (pureRun Try.prog (Instr.indexAt 151 t32_2 t38_2)) fun t39_2 =>
  wpB (ldv Try.prog 158 t39_2 w) fun t40_2 =>
  effu Try.prog (Instr.storeAt 158 t10_2 t40_2) w fun w =>
  P106_0 a2 t4 t10_2 w Q) ∧
  (wpB (nilv a0) fun t30_3 =>
  wpB (pureRun Try.prog (Instr.fieldAt 154 t30_3 4)) fun t31_3 =>
  wpB (pureRun Try.prog (Instr.fieldAt 51 t4 0)) fun t34_3 =>
  wpB (pureRun Try.prog (Instr.fieldAt 51 t4 1)) fun t36_3 =>
  wpB (ldv Try.prog 3 t34_3 w.drew) fun t35_3 =>
  wpB (ldv Try.prog 3 t36_3 w.drew) fun t37_3 =>
  CallR Try.prog 92 [a0, t35_3, t37_3] w.drew fun t38_3 w =>
  wpB (ldv Try.prog 151 t31_3 w) fun t32_3 =>
  wpB (pureRun Try.prog (Instr.indexAt 151 t32_3 t38_3)) fun t39_3 =>
  wpB (ldv Try.prog 158 t39_3 w) fun t40_3 =>
  effv Try.prog (Instr.alloc 158 true (.tuple #[])) w fun t10_3 w =>
  effu Try.prog (Instr.storeAt 158 t10_3 t40_3) w fun w =>
  P106_0 a2 t4 t10_3 w Q)))
def L106_0 (x2 x4 x10 : Value) (w : World) (Q : Value → World → Prop) : Prop :=
  ((wpB (pureRun Try.prog (Instr.fieldAt 158 x10 6)) fun t41 =>
  wpB (pureRun Try.prog (Instr.fieldAt 51 x4 2)) fun t44 =>
  wpB (pureRun Try.prog (Instr.fieldAt 51 x4 3)) fun t49 =>
  wpB (ldv Try.prog 142 t41 w.drew) fun t42 =>
  wpB (ldv Try.prog 158 x10 w.drew) fun t43 =>
  wpB (ldv Try.prog 3 t44 w.drew) fun t45 =>
  wpB (ldv Try.prog 3 t49 w.drew) fun t50 =>
  wpB (bp Try.prog .add 3 t50 x2) fun t52 =>
  CallR Try.prog 121 [t43, t45] w.drew fun t46 w =>
  wpB (pureRun Try.prog (Instr.indexAt 142 t42 t46)) fun t47 =>
  wpB (ldv Try.prog 177 t47 w) fun t48 =>
  wpB (pureRun Try.prog (Instr.indexAt 177 t48 t52)) fun t53 =>
  wpB (ldv Try.prog 38 t53 w) fun t54 =>
  Q (.tuple #[t54, (Go.Value.bool true)]) w) ∧
  (wpB (pureRun Try.prog (Instr.fieldAt 158 x10 6)) fun t41_1 =>
  wpB (ldv Try.prog 142 t41_1 w.drew) fun t42_1 =>
  wpB (ldv Try.prog 158 x10 w.drew) fun t43_1 =>
  wpB (pureRun Try.prog (Instr.fieldAt 51 x4 2)) fun t44_1 =>
  wpB (ldv Try.prog 3 t44_1 w.drew) fun t45_1 =>
  CallR Try.prog 121 [t43_1, t45_1] w.drew fun t46_1 w =>
  wpB (pureRun Try.prog (Instr.indexAt 142 t42_1 t46_1)) fun t47_1 =>
  wpB (ldv Try.prog 177 t47_1 w) fun t48_1 =>
  wpB (pureRun Try.prog (Instr.fieldAt 51 x4 3)) fun t49_1 =>
  wpB (ldv Try.prog 3 t49_1 w) fun t50_1 =>
  wpB (bp Try.prog .add 3 t50_1 x2) fun t52_1 =>
  wpB (pureRun Try.prog (Instr.indexAt 177 t48_1 t52_1)) fun t53_1 =>
  wpB (ldv Try.prog 38 t53_1 w) fun t54_1 =>
  Q (.tuple #[t54_1, (Go.Value.bool true)]) w)) ∧
  ((wpB (pureRun Try.prog (Instr.fieldAt 158 x10 6)) fun t41_2 =>
  wpB (pureRun Try.prog (Instr.fieldAt 51 x4 2)) fun t44_2 =>
  wpB (pureRun Try.prog (Instr.fieldAt 51 x4 3)) fun t49_2 =>
  wpB (ldv Try.prog 158 x10 w.drew) fun t43_2 =>
  wpB (ldv Try.prog 3 t44_2 w.drew) fun t45_2 =>
  wpB (ldv Try.prog 3 t49_2 w.drew) fun t50_2 =>
  wpB (bp Try.prog .add 3 t50_2 x2) fun t52_2 =>
  CallR Try.prog 121 [t43_2, t45_2] w.drew fun t46_2 w =>
  wpB (ldv Try.prog 142 t41_2 w) fun t42_2 =>
  wpB (pureRun Try.prog (Instr.indexAt 142 t42_2 t46_2)) fun t47_2 =>
  wpB (ldv Try.prog 177 t47_2 w) fun t48_2 =>
  wpB (pureRun Try.prog (Instr.indexAt 177 t48_2 t52_2)) fun t53_2 =>
  wpB (ldv Try.prog 38 t53_2 w) fun t54_2 =>
  Q (.tuple #[t54_2, (Go.Value.bool true)]) w) ∧
  (wpB (pureRun Try.prog (Instr.fieldAt 158 x10 6)) fun t41_3 =>
  wpB (pureRun Try.prog (Instr.fieldAt 51 x4 2)) fun t44_3 =>
  wpB (pureRun Try.prog (Instr.fieldAt 51 x4 3)) fun t49_3 =>
  wpB (ldv Try.prog 158 x10 w.drew) fun t43_3 =>
  wpB (ldv Try.prog 3 t44_3 w.drew) fun t45_3 =>
  CallR Try.prog 121 [t43_3, t45_3] w.drew fun t46_3 w =>
  wpB (ldv Try.prog 142 t41_3 w) fun t42_3 =>
  wpB (pureRun Try.prog (Instr.indexAt 142 t42_3 t46_3)) fun t47_3 =>
  wpB (ldv Try.prog 177 t47_3 w) fun t48_3 =>
  wpB (ldv Try.prog 3 t49_3 w) fun t50_3 =>
  wpB (bp Try.prog .add 3 t50_3 x2) fun t52_3 =>
  wpB (pureRun Try.prog (Instr.indexAt 177 t48_3 t52_3)) fun t53_3 =>
  wpB (ldv Try.prog 38 t53_3 w) fun t54_3 =>
  Q (.tuple #[t54_3, (Go.Value.bool true)]) w))
theorem F106_ok {a0 a1 a2 : Value} {w : World} {Q : Value → World → Prop} (h : F106 a0 a1 a2 w Q) : CallR Try.prog 106 [a0, a1, a2] w Q :=
  have e : evC Try.prog (entR 3 143) 106 55 H106 Q C106 [] (entryE 0 [a0, a1, a2]) w (contT Try.prog (entR 3 143) 106 55 H106 Try.f106.results.toList Q []) = F106 a0 a1 a2 w Q := by kernel_rfl
  bt (fn := Try.f106) mixed bn Try.func106 (c := C106) rfl H106 (Nat.le_of_ble_eq_true rfl) (e.mpr h)
theorem L106_0_ok {x2 x4 x10 : Value} {w : World} {Q : Value → World → Prop} (h : L106_0 x2 x4 x10 w Q) : P106_0 x2 x4 x10 w Q :=
  have e : evC Try.prog (entR 3 143) 106 55 H106 Q (nav [1, 1, 1, 1] C106) [] (unpack [2, 4, 10] [x2, x4, x10]) w (contT Try.prog (entR 3 143) 106 55 H106 Try.f106.results.toList Q []) = L106_0 x2 x4 x10 w Q := by kernel_rfl
  bx (fn := Try.f106) mixed bn Try.func106 H106 (c := (nav [1, 1, 1, 1] C106)) (t := []) (e.mpr h)

noncomputable def C107 : Code := (Try.f107.body).getD .skip
noncomputable def H107 : Hints := ⟨[(3, [0, 3, 4])], [(4, [0, 3, 4])], []⟩
noncomputable def T107_0 : List It := [.lp (nav [1, 1, 0, 1, 4, 5] C107), .blk 0, .jn (nav [1, 1, 1] C107)]
noncomputable def T107_1 : List It := [.jn (nav [1, 1, 0, 1, 4, 5, 1, 1] C107), .lp (nav [1, 1, 0, 1, 4, 5] C107), .blk 0, .jn (nav [1, 1, 1] C107)]
def P107_0 (x0 x3 x4 : Value) (w : World) (Q : Value → World → Prop) : Prop := Part Try.prog 107 T107_0 [0, 3, 4] [x0, x3, x4] w Q
def P107_1 (x0 x3 x4 : Value) (w : World) (Q : Value → World → Prop) : Prop := Part Try.prog 107 T107_1 [0, 3, 4] [x0, x3, x4] w Q
def F107 (a0 : Value) (w : World) (Q : Value → World → Prop) : Prop :=
  P107_0 a0 (Go.Value.int Go.IntKind.i64 0) (Go.Value.int Go.IntKind.i64 0) w Q
def L107_0 (x0 x3 x4 : Value) (w : World) (Q : Value → World → Prop) : Prop :=
  wpB (nilv x0) fun t7 =>
  wpB (pureRun Try.prog (Instr.fieldAt 154 t7 2)) fun t8 =>
  wpB (ldv Try.prog 23 t8 w) fun t9 =>
  wpB (pureRun Try.prog (Builtin.len_ #[23] 3 #[t9])) fun t10 =>
  wpB (bp Try.prog .lss 3 x4 t10) fun t11 =>
  cnd t11
  (wpB (nilv x0) fun t15 =>
  wpB (pureRun Try.prog (Instr.fieldAt 154 t15 2)) fun t16 =>
  wpB (ldv Try.prog 23 t16 w) fun t17 =>
  wpB (pureRun Try.prog (Instr.indexAt 23 t17 x4)) fun t19 =>
  wpB (ldv Try.prog 3 t19 w) fun t20 =>
  wpB (be Try.prog .eql 3 (.tmp 20) (.const (Go.Value.int Go.IntKind.i64 0)) t20 (Go.Value.int Go.IntKind.i64 0)) fun t21 =>
  cnd t21
  (wpB (bp Try.prog .add 3 x3 (Go.Value.int Go.IntKind.i64 1)) fun t23 =>
  P107_1 x0 t23 x4 w Q)
  (P107_1 x0 x3 x4 w Q))
  (Q x3 w)
def L107_1 (x0 x3 x4 : Value) (w : World) (Q : Value → World → Prop) : Prop :=
  wpB (bp Try.prog .add 3 x4 (Go.Value.int Go.IntKind.i64 1)) fun t13 =>
  P107_0 x0 x3 t13 w Q
theorem F107_ok {a0 : Value} {w : World} {Q : Value → World → Prop} (h : F107 a0 w Q) : CallR Try.prog 107 [a0] w Q :=
  have e : evC Try.prog (entR 3 143) 107 25 H107 Q C107 [] (entryE 0 [a0]) w (contT Try.prog (entR 3 143) 107 25 H107 Try.f107.results.toList Q []) = F107 a0 w Q := by kernel_rfl
  bt (fn := Try.f107) mixed bn Try.func107 (c := C107) rfl H107 (Nat.le_of_ble_eq_true rfl) (e.mpr h)
theorem L107_0_ok {x0 x3 x4 : Value} {w : World} {Q : Value → World → Prop} (h : L107_0 x0 x3 x4 w Q) : P107_0 x0 x3 x4 w Q :=
  have e : evC Try.prog (entR 3 143) 107 25 H107 Q (nav [1, 1, 0, 1, 4, 5] C107) T107_0 (unpack [0, 3, 4] [x0, x3, x4]) w (contT Try.prog (entR 3 143) 107 25 H107 Try.f107.results.toList Q T107_0) = L107_0 x0 x3 x4 w Q := by kernel_rfl
  part_lp (fn := Try.f107) mixed bn Try.func107 H107 (c := (nav [1, 1, 0, 1, 4, 5] C107)) (t := [.blk 0, .jn (nav [1, 1, 1] C107)]) (e.mpr h)
theorem L107_1_ok {x0 x3 x4 : Value} {w : World} {Q : Value → World → Prop} (h : L107_1 x0 x3 x4 w Q) : P107_1 x0 x3 x4 w Q :=
  have e : evC Try.prog (entR 3 143) 107 25 H107 Q (nav [1, 1, 0, 1, 4, 5, 1, 1] C107) [.lp (nav [1, 1, 0, 1, 4, 5] C107), .blk 0, .jn (nav [1, 1, 1] C107)] (unpack [0, 3, 4] [x0, x3, x4]) w (contT Try.prog (entR 3 143) 107 25 H107 Try.f107.results.toList Q [.lp (nav [1, 1, 0, 1, 4, 5] C107), .blk 0, .jn (nav [1, 1, 1] C107)]) = L107_1 x0 x3 x4 w Q := by kernel_rfl
  bx (fn := Try.f107) mixed bn Try.func107 H107 (c := (nav [1, 1, 0, 1, 4, 5, 1, 1] C107)) (t := [.lp (nav [1, 1, 0, 1, 4, 5] C107), .blk 0, .jn (nav [1, 1, 1] C107)]) (e.mpr h)

noncomputable def C120 : Code := (Try.f120.body).getD .skip
noncomputable def H120 : Hints := ⟨[(6, [0, 3, 6, 7, 8])], [], [(8, (.leaf [0, 1, 2, 3, 4, 5, 6, 7, 8, 9, 10, 11, 12]))]⟩
noncomputable def T120_0 : List It := [.lp (nav [1, 1, 1, 1, 0, 1, 4, 5] C120), .blk 0, .jn (nav [1, 1, 1, 1, 1] C120)]
def P120_0 (x0 x3 x6 x7 x8 : Value) (w : World) (Q : Value → World → Prop) : Prop := Part Try.prog 120 T120_0 [0, 3, 6, 7, 8] [x0, x3, x6, x7, x8] w Q
def F120 (a0 a1 : Value) (w : World) (Q : Value → World → Prop) : Prop :=
  effv Try.prog (Instr.box 51 a1) w fun t3 w =>
  wpB (pureRun Try.prog (Instr.fieldAt 51 t3 0)) fun t10 =>
  wpB (ldv Try.prog 3 t10 w) fun t11 =>
  wpB (pureRun Try.prog (Instr.fieldAt 51 t3 1)) fun t12 =>
  wpB (ldv Try.prog 3 t12 w) fun t13 =>
  CallR Try.prog 92 [a0, t11, t13] w fun t14 w =>
  wpB (bp Try.prog .lss 3 t14 (Go.Value.int Go.IntKind.i64 0)) fun t16 =>
  cnd t16
  (Q (.tuple #[(Go.Value.bool false), (Go.Value.bool false)]) w)
  (wpB (pureRun Try.prog (Instr.fieldAt 51 t3 2)) fun t17 =>
  wpB (ldv Try.prog 3 t17 w) fun t18 =>
  wpB (be Try.prog .eql 3 (.tmp 18) (.const (Go.Value.int Go.IntKind.i64 0)) t18 (Go.Value.int Go.IntKind.i64 0)) fun t19 =>
  wpB (gd t19 true (pureRun Try.prog (Instr.fieldAt 51 t3 3))) fun t21 =>
  wpB (gd t19 true (ldv Try.prog 3 t21 w)) fun t22 =>
  wpB (gd t19 true (be Try.prog .eql 3 (.tmp 22) (.const (Go.Value.int Go.IntKind.i64 0)) t22 (Go.Value.int Go.IntKind.i64 0))) fun t23 =>
  wpB (pickv t19 (some t23) (some (Go.Value.bool false))) fun t24 =>
  wpB (gd t24 true (pureRun Try.prog (Instr.fieldAt 51 t3 4))) fun t26 =>
  wpB (gd t24 true (ldv Try.prog 3 t26 w)) fun t27 =>
  wpB (gd t24 true (be Try.prog .eql 3 (.tmp 27) (.const (Go.Value.int Go.IntKind.i64 0)) t27 (Go.Value.int Go.IntKind.i64 0))) fun t28 =>
  wpB (pickv t24 (some t28) (some (Go.Value.bool false))) fun t29 =>
  P120_0 a0 t3 t14 t29 (Go.Value.int Go.IntKind.i64 0) w Q)
def L120_0 (x0 x3 x6 x7 x8 : Value) (w : World) (Q : Value → World → Prop) : Prop :=
  wpB (nilv x0) fun t32 =>
  wpB (pureRun Try.prog (Instr.fieldAt 154 t32 4)) fun t33 =>
  wpB (ldv Try.prog 151 t33 w) fun t34 =>
  wpB (pureRun Try.prog (Instr.indexAt 151 t34 x6)) fun t36 =>
  wpB (pureRun Try.prog (Instr.fieldAt 158 t36 7)) fun t37 =>
  wpB (ldv Try.prog 90 t37 w) fun t38 =>
  wpB (pureRun Try.prog (Builtin.len_ #[90] 3 #[t38])) fun t39 =>
  wpB (bp Try.prog .lss 3 x8 t39) fun t40 =>
  cnd t40
  (wpB (nilv x0) fun t44 =>
  wpB (pureRun Try.prog (Instr.fieldAt 154 t44 4)) fun t45 =>
  wpB (ldv Try.prog 151 t45 w.drew) fun t46 =>
  wpB (pureRun Try.prog (Instr.indexAt 151 t46 x6)) fun t48 =>
  wpB (pureRun Try.prog (Instr.fieldAt 158 t48 7)) fun t49 =>
  wpB (ldv Try.prog 90 t49 w.drew) fun t50 =>
  wpB (pureRun Try.prog (Instr.indexAt 90 t50 x8)) fun t52 =>
  wpB (ldv Try.prog 51 t52 w.drew) fun t53 =>
  wpB (ldv Try.prog 51 x3 w.drew) fun t54 =>
  wpB (be Try.prog .eql 51 (.tmp 53) (.tmp 54) t53 t54) fun t55 =>
  cnd t55
  (Q (.tuple #[x7, (Go.Value.bool true)]) w.drew)
  (wpB (bp Try.prog .add 3 x8 (Go.Value.int Go.IntKind.i64 1)) fun t42 =>
  P120_0 x0 x3 x6 x7 t42 w.drew Q))
  (Q (.tuple #[x7, (Go.Value.bool false)]) w)
theorem F120_ok {a0 a1 : Value} {w : World} {Q : Value → World → Prop} (h : F120 a0 a1 w Q) : CallR Try.prog 120 [a0, a1] w Q :=
  have e : evC Try.prog (entR 3 143) 120 58 H120 Q C120 [] (entryE 0 [a0, a1]) w (contT Try.prog (entR 3 143) 120 58 H120 Try.f120.results.toList Q []) = F120 a0 a1 w Q := by kernel_rfl
  bt (fn := Try.f120) mixed bn Try.func120 (c := C120) rfl H120 (Nat.le_of_ble_eq_true rfl) (e.mpr h)
theorem L120_0_ok {x0 x3 x6 x7 x8 : Value} {w : World} {Q : Value → World → Prop} (h : L120_0 x0 x3 x6 x7 x8 w Q) : P120_0 x0 x3 x6 x7 x8 w Q :=
  have e : evC Try.prog (entR 3 143) 120 58 H120 Q (nav [1, 1, 1, 1, 0, 1, 4, 5] C120) T120_0 (unpack [0, 3, 6, 7, 8] [x0, x3, x6, x7, x8]) w (contT Try.prog (entR 3 143) 120 58 H120 Try.f120.results.toList Q T120_0) = L120_0 x0 x3 x6 x7 x8 w Q := by kernel_rfl
  part_lp (fn := Try.f120) mixed bn Try.func120 H120 (c := (nav [1, 1, 1, 1, 0, 1, 4, 5] C120)) (t := [.blk 0, .jn (nav [1, 1, 1, 1, 1] C120)]) (e.mpr h)

noncomputable def C121 : Code := (Try.f121.body).getD .skip
noncomputable def H121 : Hints := ⟨[(2, [1, 2, 5])], [], []⟩
noncomputable def T121_0 : List It := [.lp (nav [1, 0, 1, 4, 5] C121), .blk 0, .jn (nav [1, 1] C121)]
def P121_0 (x1 x2 x5 : Value) (w : World) (Q : Value → World → Prop) : Prop := Part Try.prog 121 T121_0 [1, 2, 5] [x1, x2, x5] w Q
def F121 (a0 a1 : Value) (w : World) (Q : Value → World → Prop) : Prop :=
  effv Try.prog (Instr.box 158 a0) w fun t2 w =>
  P121_0 a1 t2 (Go.Value.int Go.IntKind.i64 0) w Q
def L121_0 (x1 x2 x5 : Value) (w : World) (Q : Value → World → Prop) : Prop :=
  wpB (pureRun Try.prog (Instr.fieldAt 158 x2 5)) fun t7 =>
  wpB (ldv Try.prog 23 t7 w) fun t8 =>
  wpB (pureRun Try.prog (Builtin.len_ #[23] 3 #[t8])) fun t9 =>
  wpB (bp Try.prog .lss 3 x5 t9) fun t10 =>
  cnd t10
  (wpB (pureRun Try.prog (Instr.fieldAt 158 x2 5)) fun t13 =>
  wpB (ldv Try.prog 23 t13 w) fun t14 =>
  wpB (pureRun Try.prog (Instr.indexAt 23 t14 x5)) fun t16 =>
  wpB (ldv Try.prog 3 t16 w) fun t17 =>
  wpB (be Try.prog .eql 3 (.tmp 17) (.tmp 18) t17 x1) fun t19 =>
  cnd t19
  (Q x5 w)
  (wpB (bp Try.prog .add 3 x5 (Go.Value.int Go.IntKind.i64 1)) fun t12 =>
  P121_0 x1 x2 t12 w Q))
  (Q (Go.Value.int Go.IntKind.i64 (-1)) w)
theorem F121_ok {a0 a1 : Value} {w : World} {Q : Value → World → Prop} (h : F121 a0 a1 w Q) : CallR Try.prog 121 [a0, a1] w Q :=
  have e : evC Try.prog (entR 3 143) 121 21 H121 Q C121 [] (entryE 0 [a0, a1]) w (contT Try.prog (entR 3 143) 121 21 H121 Try.f121.results.toList Q []) = F121 a0 a1 w Q := by kernel_rfl
  bt (fn := Try.f121) mixed bn Try.func121 (c := C121) rfl H121 (Nat.le_of_ble_eq_true rfl) (e.mpr h)
theorem L121_0_ok {x1 x2 x5 : Value} {w : World} {Q : Value → World → Prop} (h : L121_0 x1 x2 x5 w Q) : P121_0 x1 x2 x5 w Q :=
  have e : evC Try.prog (entR 3 143) 121 21 H121 Q (nav [1, 0, 1, 4, 5] C121) T121_0 (unpack [1, 2, 5] [x1, x2, x5]) w (contT Try.prog (entR 3 143) 121 21 H121 Try.f121.results.toList Q T121_0) = L121_0 x1 x2 x5 w Q := by kernel_rfl
  part_lp (fn := Try.f121) mixed bn Try.func121 H121 (c := (nav [1, 0, 1, 4, 5] C121)) (t := [.blk 0, .jn (nav [1, 1] C121)]) (e.mpr h)

noncomputable def C122 : Code := (Try.f122.body).getD .skip
noncomputable def H122 : Hints := ⟨[], [], [(2, (.ask 9 15 (.ask 11 15 (.leaf [0, 1, 2, 3, 4, 5, 6, 7, 8, 9, 10, 11, 12, 13, 14, 15, 16, 17, 18]) (.leaf [0, 1, 2, 3, 4, 5, 6, 7, 8, 10, 12, 14, 9, 13, 15, 11, 16, 17, 18])) (.ask 11 15 (.leaf [0, 1, 2, 3, 4, 5, 6, 7, 8, 10, 12, 14, 11, 13, 15, 9, 16, 17, 18]) (.leaf [0, 1, 2, 3, 4, 5, 6, 7, 8, 10, 12, 14, 13, 15, 9, 11, 16, 17, 18]))))]⟩
def F122 (a0 a1 a2 : Value) (w : World) (Q : Value → World → Prop) : Prop :=
  wpB (nilv a0) fun t9 =>
  wpB (pureRun Try.prog (Instr.fieldAt 154 t9 4)) fun t10 =>
  wpB (ldv Try.prog 151 t10 w) fun t11 =>
  wpB (pureRun Try.prog (Instr.indexAt 151 t11 a1)) fun t13 =>
  wpB (ldv Try.prog 158 t13 w) fun t14 =>
  effv Try.prog (Instr.alloc 158 true (.tuple #[])) w fun t7 w =>
  effu Try.prog (Instr.storeAt 158 t7 t14) w fun w =>
  ((wpB (pureRun Try.prog (Instr.fieldAt 158 t7 5)) fun t15 =>
  wpB (ldv Try.prog 23 t15 w.drew) fun t16 =>
  wpB (pureRun Try.prog (Builtin.len_ #[23] 3 #[t16])) fun t17 =>
  wpB (bp Try.prog .gtr 3 t17 (Go.Value.int Go.IntKind.i64 0)) fun t18 =>
  wpB (gd t18 true (nilv (gv t18 true a0))) fun t21 =>
  wpB (gd t18 true (pureRun Try.prog (Instr.fieldAt 154 t21 0))) fun t22 =>
  wpB (gd t18 true (pureRun Try.prog (Instr.fieldAt 74 t22 2))) fun t23 =>
  wpB (gd t18 true (ldv Try.prog 3 t23 w.drew)) fun t24 =>
  wpB (gd t18 true (pureRun Try.prog (Instr.fieldAt 158 t7 3))) fun t25 =>
  wpB (gd t18 true (ldv Try.prog 3 t25 w.drew)) fun t26 =>
  wpB (gd t18 true (pureRun Try.prog (Instr.fieldAt 158 t7 2))) fun t27 =>
  wpB (gd t18 true (ldv Try.prog 3 t27 w.drew)) fun t28 =>
  gE t18 true (CallR Try.prog 123 [t28, (gv t18 true a2)] w.drew) (fun t30 w =>
  gE t18 true (CallR Try.prog 136 [t24, t26, t30] w) (fun t31 w =>
  wpB (pickv t18 (some t31) (some (Go.Value.bool false))) fun t32 =>
  Q t32 w) w) w.drew) ∧
  (wpB (pureRun Try.prog (Instr.fieldAt 158 t7 5)) fun t15_1 =>
  wpB (ldv Try.prog 23 t15_1 w.drew) fun t16_1 =>
  wpB (pureRun Try.prog (Builtin.len_ #[23] 3 #[t16_1])) fun t17_1 =>
  wpB (bp Try.prog .gtr 3 t17_1 (Go.Value.int Go.IntKind.i64 0)) fun t18_1 =>
  wpB (gd t18_1 true (nilv (gv t18_1 true a0))) fun t21_1 =>
  wpB (gd t18_1 true (pureRun Try.prog (Instr.fieldAt 154 t21_1 0))) fun t22_1 =>
  wpB (gd t18_1 true (pureRun Try.prog (Instr.fieldAt 74 t22_1 2))) fun t23_1 =>
  wpB (gd t18_1 true (pureRun Try.prog (Instr.fieldAt 158 t7 3))) fun t25_1 =>
  wpB (gd t18_1 true (pureRun Try.prog (Instr.fieldAt 158 t7 2))) fun t27_1 =>
  wpB (gd t18_1 true (ldv Try.prog 3 t23_1 w.drew)) fun t24_1 =>
  wpB (gd t18_1 true (ldv Try.prog 3 t27_1 w.drew)) fun t28_1 =>
  gE t18_1 true (CallR Try.prog 123 [t28_1, (gv t18_1 true a2)] w.drew) (fun t30_1 w =>
  wpB (gd t18_1 true (ldv Try.prog 3 t25_1 w)) fun t26_1 =>
  gE t18_1 true (CallR Try.prog 136 [t24_1, t26_1, t30_1] w) (fun t31_1 w =>
  wpB (pickv t18_1 (some t31_1) (some (Go.Value.bool false))) fun t32_1 =>
  Q t32_1 w) w) w.drew)) ∧
  ((wpB (pureRun Try.prog (Instr.fieldAt 158 t7 5)) fun t15_2 =>
  wpB (ldv Try.prog 23 t15_2 w.drew) fun t16_2 =>
  wpB (pureRun Try.prog (Builtin.len_ #[23] 3 #[t16_2])) fun t17_2 =>
  wpB (bp Try.prog .gtr 3 t17_2 (Go.Value.int Go.IntKind.i64 0)) fun t18_2 =>
  wpB (gd t18_2 true (nilv (gv t18_2 true a0))) fun t21_2 =>
  wpB (gd t18_2 true (pureRun Try.prog (Instr.fieldAt 154 t21_2 0))) fun t22_2 =>
  wpB (gd t18_2 true (pureRun Try.prog (Instr.fieldAt 74 t22_2 2))) fun t23_2 =>
  wpB (gd t18_2 true (pureRun Try.prog (Instr.fieldAt 158 t7 3))) fun t25_2 =>
  wpB (gd t18_2 true (pureRun Try.prog (Instr.fieldAt 158 t7 2))) fun t27_2 =>
  wpB (gd t18_2 true (ldv Try.prog 3 t25_2 w.drew)) fun t26_2 =>
  wpB (gd t18_2 true (ldv Try.prog 3 t27_2 w.drew)) fun t28_2 =>
  gE t18_2 true (CallR Try.prog 123 [t28_2, (gv t18_2 true a2)] w.drew) (fun t30_2 w =>
  wpB (gd t18_2 true (ldv Try.prog 3 t23_2 w)) fun t24_2 =>
  gE t18_2 true (CallR Try.prog 136 [t24_2, t26_2, t30_2] w) (fun t31_2 w =>
  wpB (pickv t18_2 (some t31_2) (some (Go.Value.bool false))) fun t32_2 =>
  Q t32_2 w) w) w.drew) ∧
  (wpB (pureRun Try.prog (Instr.fieldAt 158 t7 5)) fun t15_3 =>
  wpB (ldv Try.prog 23 t15_3 w.drew) fun t16_3 =>
  wpB (pureRun Try.prog (Builtin.len_ #[23] 3 #[t16_3])) fun t17_3 =>
  wpB (bp Try.prog .gtr 3 t17_3 (Go.Value.int Go.IntKind.i64 0)) fun t18_3 =>
  wpB (gd t18_3 true (nilv (gv t18_3 true a0))) fun t21_3 =>
  wpB (gd t18_3 true (pureRun Try.prog (Instr.fieldAt 154 t21_3 0))) fun t22_3 =>
  wpB (gd t18_3 true (pureRun Try.prog (Instr.fieldAt 74 t22_3 2))) fun t23_3 =>
  wpB (gd t18_3 true (pureRun Try.prog (Instr.fieldAt 158 t7 3))) fun t25_3 =>
  wpB (gd t18_3 true (pureRun Try.prog (Instr.fieldAt 158 t7 2))) fun t27_3 =>
  wpB (gd t18_3 true (ldv Try.prog 3 t27_3 w.drew)) fun t28_3 =>
  gE t18_3 true (CallR Try.prog 123 [t28_3, (gv t18_3 true a2)] w.drew) (fun t30_3 w =>
  wpB (gd t18_3 true (ldv Try.prog 3 t23_3 w)) fun t24_3 =>
  wpB (gd t18_3 true (ldv Try.prog 3 t25_3 w)) fun t26_3 =>
  gE t18_3 true (CallR Try.prog 136 [t24_3, t26_3, t30_3] w) (fun t31_3 w =>
  wpB (pickv t18_3 (some t31_3) (some (Go.Value.bool false))) fun t32_3 =>
  Q t32_3 w) w) w.drew))
theorem F122_ok {a0 a1 a2 : Value} {w : World} {Q : Value → World → Prop} (h : F122 a0 a1 a2 w Q) : CallR Try.prog 122 [a0, a1, a2] w Q :=
  have e : evC Try.prog (entR 3 143) 122 33 H122 Q C122 [] (entryE 0 [a0, a1, a2]) w (contT Try.prog (entR 3 143) 122 33 H122 Try.f122.results.toList Q []) = F122 a0 a1 a2 w Q := by kernel_rfl
  bt (fn := Try.f122) mixed bn Try.func122 (c := C122) rfl H122 (Nat.le_of_ble_eq_true rfl) (e.mpr h)

noncomputable def C123 : Code := (Try.f123.body).getD .skip
noncomputable def H123 : Hints := ⟨[(5, [0, 1, 5, 6]), (8, [1, 5])], [], []⟩
noncomputable def T123_0 : List It := [.lp (nav [1, 1, 1, 0, 1, 4, 5] C123), .blk 0, .jn (nav [1, 1, 1, 1] C123)]
noncomputable def T123_1 : List It := [.lp (nav [1, 1, 1, 1, 0, 4, 5] C123), .blk 2, .jn (nav [1, 1, 1, 1, 1] C123)]
def P123_0 (x0 x1 x5 x6 : Value) (w : World) (Q : Value → World → Prop) : Prop := Part Try.prog 123 T123_0 [0, 1, 5, 6] [x0, x1, x5, x6] w Q
def P123_1 (x1 x5 : Value) (w : World) (Q : Value → World → Prop) : Prop := Part Try.prog 123 T123_1 [1, 5] [x1, x5] w Q
def F123 (a0 a1 : Value) (w : World) (Q : Value → World → Prop) : Prop :=
  CallR Try.prog 137 [a1, (Go.Value.int Go.IntKind.i64 1), (Go.Value.int Go.IntKind.i64 1024)] w fun t8 w =>
  wpB (pureRun Try.prog (Op.unary .not t8)) fun t9 =>
  cnd t9
  (Q (Go.Value.int Go.IntKind.i64 0) w)
  (P123_0 a0 a1 (Go.Value.int Go.IntKind.i64 1) (Go.Value.int Go.IntKind.i64 0) w Q)
def L123_0 (x0 x1 x5 x6 : Value) (w : World) (Q : Value → World → Prop) : Prop :=
  wpB (bp Try.prog .lss 3 x6 x0) fun t12 =>
  wpB (gd t12 true (bp Try.prog .lss 3 (gv t12 true x6) (Go.Value.int Go.IntKind.i64 3))) fun t15 =>
  wpB (pickv t12 (some t15) (some (Go.Value.bool false))) fun t16 =>
  cnd t16
  (wpB (bp Try.prog .mul 3 (Go.Value.int Go.IntKind.i64 2) x5) fun t20 =>
  wpB (bp Try.prog .add 3 x6 (Go.Value.int Go.IntKind.i64 1)) fun t18 =>
  P123_0 x0 x1 t20 t18 w Q)
  (P123_1 x1 x5 w Q)
def L123_1 (x1 x5 : Value) (w : World) (Q : Value → World → Prop) : Prop :=
  wpB (bp Try.prog .rem 3 x1 x5) fun t23 =>
  wpB (be Try.prog .neq 3 (.tmp 23) (.const (Go.Value.int Go.IntKind.i64 0)) t23 (Go.Value.int Go.IntKind.i64 0)) fun t24 =>
  cnd t24
  (wpB (bp Try.prog .add 3 x1 (Go.Value.int Go.IntKind.i64 1)) fun t26 =>
  P123_1 t26 x5 w Q)
  (Q x1 w)
theorem F123_ok {a0 a1 : Value} {w : World} {Q : Value → World → Prop} (h : F123 a0 a1 w Q) : CallR Try.prog 123 [a0, a1] w Q :=
  have e : evC Try.prog (entR 3 143) 123 28 H123 Q C123 [] (entryE 0 [a0, a1]) w (contT Try.prog (entR 3 143) 123 28 H123 Try.f123.results.toList Q []) = F123 a0 a1 w Q := by kernel_rfl
  bt (fn := Try.f123) mixed bn Try.func123 (c := C123) rfl H123 (Nat.le_of_ble_eq_true rfl) (e.mpr h)
theorem L123_0_ok {x0 x1 x5 x6 : Value} {w : World} {Q : Value → World → Prop} (h : L123_0 x0 x1 x5 x6 w Q) : P123_0 x0 x1 x5 x6 w Q :=
  have e : evC Try.prog (entR 3 143) 123 28 H123 Q (nav [1, 1, 1, 0, 1, 4, 5] C123) T123_0 (unpack [0, 1, 5, 6] [x0, x1, x5, x6]) w (contT Try.prog (entR 3 143) 123 28 H123 Try.f123.results.toList Q T123_0) = L123_0 x0 x1 x5 x6 w Q := by kernel_rfl
  part_lp (fn := Try.f123) mixed bn Try.func123 H123 (c := (nav [1, 1, 1, 0, 1, 4, 5] C123)) (t := [.blk 0, .jn (nav [1, 1, 1, 1] C123)]) (e.mpr h)
theorem L123_1_ok {x1 x5 : Value} {w : World} {Q : Value → World → Prop} (h : L123_1 x1 x5 w Q) : P123_1 x1 x5 w Q :=
  have e : evC Try.prog (entR 3 143) 123 28 H123 Q (nav [1, 1, 1, 1, 0, 4, 5] C123) T123_1 (unpack [1, 5] [x1, x5]) w (contT Try.prog (entR 3 143) 123 28 H123 Try.f123.results.toList Q T123_1) = L123_1 x1 x5 w Q := by kernel_rfl
  part_lp (fn := Try.f123) mixed bn Try.func123 H123 (c := (nav [1, 1, 1, 1, 0, 4, 5] C123)) (t := [.blk 2, .jn (nav [1, 1, 1, 1, 1] C123)]) (e.mpr h)

noncomputable def C124 : Code := (Try.f124.body).getD .skip
noncomputable def H124 : Hints := ⟨[(2, [0, 1, 5])], [], []⟩
noncomputable def T124_0 : List It := [.lp (nav [1, 0, 1, 4, 5] C124), .blk 0, .jn (nav [1, 1] C124)]
def P124_0 (x0 x1 x5 : Value) (w : World) (Q : Value → World → Prop) : Prop := Part Try.prog 124 T124_0 [0, 1, 5] [x0, x1, x5] w Q
def F124 (a0 a1 : Value) (w : World) (Q : Value → World → Prop) : Prop :=
  P124_0 a0 a1 (Go.Value.int Go.IntKind.i64 0) w Q
def L124_0 (x0 x1 x5 : Value) (w : World) (Q : Value → World → Prop) : Prop :=
  wpB (nilv x0) fun t8 =>
  wpB (pureRun Try.prog (Instr.fieldAt 154 t8 4)) fun t9 =>
  wpB (ldv Try.prog 151 t9 w) fun t10 =>
  wpB (pureRun Try.prog (Builtin.len_ #[151] 3 #[t10])) fun t11 =>
  wpB (bp Try.prog .lss 3 x5 t11) fun t12 =>
  cnd t12
  (wpB (nilv x0) fun t16 =>
  wpB (pureRun Try.prog (Instr.fieldAt 154 t16 4)) fun t17 =>
  wpB (ldv Try.prog 151 t17 w) fun t18 =>
  wpB (pureRun Try.prog (Instr.indexAt 151 t18 x5)) fun t20 =>
  wpB (pureRun Try.prog (Instr.fieldAt 158 t20 4)) fun t21 =>
  wpB (ldv Try.prog 4 t21 w) fun t22 =>
  wpB (gd t22 true (nilv (gv t22 true x0))) fun t25 =>
  wpB (gd t22 true (pureRun Try.prog (Instr.fieldAt 154 t25 4))) fun t26 =>
  wpB (gd t22 true (ldv Try.prog 151 t26 w)) fun t27 =>
  wpB (gd t22 true (pureRun Try.prog (Instr.indexAt 151 t27 (gv t22 true x5)))) fun t29 =>
  wpB (gd t22 true (ldv Try.prog 158 t29 w)) fun t30 =>
  gE t22 true (CallR Try.prog 121 [t30, (gv t22 true x1)] w) (fun t32 w =>
  wpB (gd t22 true (bp Try.prog .geq 3 t32 (Go.Value.int Go.IntKind.i64 0))) fun t33 =>
  wpB (pickv t22 (some t33) (some (Go.Value.bool false))) fun t34 =>
  cnd t34
  (Q (Go.Value.bool true) w)
  (wpB (bp Try.prog .add 3 x5 (Go.Value.int Go.IntKind.i64 1)) fun t14 =>
  P124_0 x0 x1 t14 w Q)) w)
  (Q (Go.Value.bool false) w)
theorem F124_ok {a0 a1 : Value} {w : World} {Q : Value → World → Prop} (h : F124 a0 a1 w Q) : CallR Try.prog 124 [a0, a1] w Q :=
  have e : evC Try.prog (entR 3 143) 124 35 H124 Q C124 [] (entryE 0 [a0, a1]) w (contT Try.prog (entR 3 143) 124 35 H124 Try.f124.results.toList Q []) = F124 a0 a1 w Q := by kernel_rfl
  bt (fn := Try.f124) mixed bn Try.func124 (c := C124) rfl H124 (Nat.le_of_ble_eq_true rfl) (e.mpr h)
theorem L124_0_ok {x0 x1 x5 : Value} {w : World} {Q : Value → World → Prop} (h : L124_0 x0 x1 x5 w Q) : P124_0 x0 x1 x5 w Q :=
  have e : evC Try.prog (entR 3 143) 124 35 H124 Q (nav [1, 0, 1, 4, 5] C124) T124_0 (unpack [0, 1, 5] [x0, x1, x5]) w (contT Try.prog (entR 3 143) 124 35 H124 Try.f124.results.toList Q T124_0) = L124_0 x0 x1 x5 w Q := by kernel_rfl
  part_lp (fn := Try.f124) mixed bn Try.func124 H124 (c := (nav [1, 0, 1, 4, 5] C124)) (t := [.blk 0, .jn (nav [1, 1] C124)]) (e.mpr h)

noncomputable def C125 : Code := (Try.f125.body).getD .skip
noncomputable def H125 : Hints := ⟨[], [], []⟩
def F125 (a0 a1 : Value) (w : World) (Q : Value → World → Prop) : Prop :=
  CallR Try.prog 138 [a0, a1] w fun t7 w =>
  wpB (pureRun Try.prog (Op.unary .not t7)) fun t8 =>
  cnd t8
  (Q (Go.Value.int Go.IntKind.i64 0) w)
  (CallR Try.prog 139 [a0, a1] w fun t11 w =>
  cnd t11
  (Q a0 w)
  (Q a1 w))
theorem F125_ok {a0 a1 : Value} {w : World} {Q : Value → World → Prop} (h : F125 a0 a1 w Q) : CallR Try.prog 125 [a0, a1] w Q :=
  have e : evC Try.prog (entR 3 143) 125 14 H125 Q C125 [] (entryE 0 [a0, a1]) w (contT Try.prog (entR 3 143) 125 14 H125 Try.f125.results.toList Q []) = F125 a0 a1 w Q := by kernel_rfl
  bt (fn := Try.f125) mixed bn Try.func125 (c := C125) rfl H125 (Nat.le_of_ble_eq_true rfl) (e.mpr h)

noncomputable def C136 : Code := (Try.f136.body).getD .skip
noncomputable def H136 : Hints := ⟨[], [], []⟩
def F136 (a0 a1 a2 : Value) (w : World) (Q : Value → World → Prop) : Prop :=
  CallR Try.prog 138 [a0, a2] w fun t9 w =>
  gE t9 true (CallR Try.prog 139 [(gv t9 true a0), (gv t9 true a2)] w) (fun t13 w =>
  wpB (gd t9 true (pureRun Try.prog (Op.unary .not t13))) fun t14 =>
  wpB (pickv t9 (some t14) (some (Go.Value.bool false))) fun t15 =>
  wpB (gd t15 true (bp Try.prog .geq 3 (gv t15 true a1) (Go.Value.int Go.IntKind.i64 0))) fun t18 =>
  wpB (pickv t15 (some t18) (some (Go.Value.bool false))) fun t19 =>
  wpB (gd t19 true (bp Try.prog .sub 3 (gv t19 true a0) (gv t19 true a2))) fun t24 =>
  wpB (gd t19 true (bp Try.prog .leq 3 (gv t19 true a1) t24)) fun t25 =>
  wpB (pickv t19 (some t25) (some (Go.Value.bool false))) fun t26 =>
  Q t26 w) w
theorem F136_ok {a0 a1 a2 : Value} {w : World} {Q : Value → World → Prop} (h : F136 a0 a1 a2 w Q) : CallR Try.prog 136 [a0, a1, a2] w Q :=
  have e : evC Try.prog (entR 3 143) 136 27 H136 Q C136 [] (entryE 0 [a0, a1, a2]) w (contT Try.prog (entR 3 143) 136 27 H136 Try.f136.results.toList Q []) = F136 a0 a1 a2 w Q := by kernel_rfl
  bt (fn := Try.f136) mixed bn Try.func136 (c := C136) rfl H136 (Nat.le_of_ble_eq_true rfl) (e.mpr h)

noncomputable def C137 : Code := (Try.f137.body).getD .skip
noncomputable def H137 : Hints := ⟨[], [], []⟩
def F137 (a0 a1 a2 : Value) (w : World) (Q : Value → World → Prop) : Prop :=
  wpB (bp Try.prog .geq 3 a0 a1) fun t9 =>
  wpB (gd t9 true (bp Try.prog .leq 3 (gv t9 true a0) (gv t9 true a2))) fun t13 =>
  wpB (pickv t9 (some t13) (some (Go.Value.bool false))) fun t14 =>
  Q t14 w
theorem F137_ok {a0 a1 a2 : Value} {w : World} {Q : Value → World → Prop} (h : F137 a0 a1 a2 w Q) : CallR Try.prog 137 [a0, a1, a2] w Q :=
  have e : evC Try.prog (entR 3 143) 137 15 H137 Q C137 [] (entryE 0 [a0, a1, a2]) w (contT Try.prog (entR 3 143) 137 15 H137 Try.f137.results.toList Q []) = F137 a0 a1 a2 w Q := by kernel_rfl
  bt (fn := Try.f137) mixed bn Try.func137 (c := C137) rfl H137 (Nat.le_of_ble_eq_true rfl) (e.mpr h)

noncomputable def C138 : Code := (Try.f138.body).getD .skip
noncomputable def H138 : Hints := ⟨[], [], []⟩
def F138 (a0 a1 : Value) (w : World) (Q : Value → World → Prop) : Prop :=
  CallR Try.prog 137 [a0, (Go.Value.int Go.IntKind.i64 1), (Go.Value.int Go.IntKind.i64 1024)] w fun t6 w =>
  gE t6 true (CallR Try.prog 137 [(gv t6 true a1), (Go.Value.int Go.IntKind.i64 1), (gv t6 true a0)] w) (fun t10 w =>
  wpB (pickv t6 (some t10) (some (Go.Value.bool false))) fun t11 =>
  Q t11 w) w
theorem F138_ok {a0 a1 : Value} {w : World} {Q : Value → World → Prop} (h : F138 a0 a1 w Q) : CallR Try.prog 138 [a0, a1] w Q :=
  have e : evC Try.prog (entR 3 143) 138 12 H138 Q C138 [] (entryE 0 [a0, a1]) w (contT Try.prog (entR 3 143) 138 12 H138 Try.f138.results.toList Q []) = F138 a0 a1 w Q := by kernel_rfl
  bt (fn := Try.f138) mixed bn Try.func138 (c := C138) rfl H138 (Nat.le_of_ble_eq_true rfl) (e.mpr h)

noncomputable def C139 : Code := (Try.f139.body).getD .skip
noncomputable def H139 : Hints := ⟨[], [], []⟩
def F139 (a0 a1 : Value) (w : World) (Q : Value → World → Prop) : Prop :=
  CallR Try.prog 138 [a0, a1] w fun t7 w =>
  wpB (gd t7 true (bp Try.prog .sub 3 (gv t7 true a0) (gv t7 true a1))) fun t12 =>
  wpB (gd t7 true (bp Try.prog .gtr 3 (gv t7 true a1) t12)) fun t13 =>
  wpB (pickv t7 (some t13) (some (Go.Value.bool false))) fun t14 =>
  Q t14 w
theorem F139_ok {a0 a1 : Value} {w : World} {Q : Value → World → Prop} (h : F139 a0 a1 w Q) : CallR Try.prog 139 [a0, a1] w Q :=
  have e : evC Try.prog (entR 3 143) 139 15 H139 Q C139 [] (entryE 0 [a0, a1]) w (contT Try.prog (entR 3 143) 139 15 H139 Try.f139.results.toList Q []) = F139 a0 a1 w Q := by kernel_rfl
  bt (fn := Try.f139) mixed bn Try.func139 (c := C139) rfl H139 (Nat.le_of_ble_eq_true rfl) (e.mpr h)
end Go.Proofs.Ytgamnncehjcdiaa

namespace Go.Proofs.Ytgamnncehjcdiaa.Ev
open Go Go.RowKit

theorem isAt.row {e : TypeId} {g : Nat} {Ps : List Th} {w : World} {F : Fp} (I : isAt e g Ps w F) (hg : ∀ P ∈ Ps, OwnT P) {k : Nat} {e' : TypeId} {z n : Nat} {Qs : List Th} (hk : Ps[k]? = some (isRow e' z n Qs)) (hq : ∀ Q ∈ Qs, OwnT Q) {j : Nat} {P : Th} (hj : Qs[j]? = some P) :
    ∃ (b c : Nat) (v : Value) (Fk : Fp), ldC (hp w g) k = some (.slice (some ⟨b, 0, none⟩) n c) ∧ b ≠ g ∧ F b ∧ (∀ x, Fk x → F x) ∧ ¬ Fk b ∧ ¬ Fk g ∧ ldC (hp w b) j = some v ∧ P w Fk v ∧
      (∀ w1 F' P', UpdP Fk F' w w1 → P' w1 F' v → ∃ F1, isAt e g (Ps.set k (isRow e' z n (Qs.set j P'))) w1 F1 ∧ UpdP F F1 w w1) ∧
      (∀ w1 F' P' v', UpdP Fk F' w w1 → OwnT P' → P' w1 F' v' → okC (hp w1 b) (j + 1) = true ∧ v'.cells = #[v'] ∧ v'.oneCell' = true ∧ hp w1 g = hp w g ∧
        ∃ F1, isAt e g (Ps.set k (isRow e' z n (Qs.set j P'))) (put w1 b ((getC (hp w1 b)).setIfInBounds j v') (getE (hp w1 b))) F1 ∧ UpdP F F1 w (put w1 b ((getC (hp w1 b)).setIfInBounds j v') (getE (hp w1 b)))) := by
  obtain ⟨rv, Fr, hFg, hng, hsub, hld, hR, hres, _⟩ := isAt.cell I hg hk
  obtain ⟨b, c, v, Fk, hx, hFb, hnb, hsub2, hld2, hv, h3, h4⟩ := isRow.cell hR hq hj
  subst hx
  have hbg : b ≠ g := fun e => hng (by rw [← e]; exact hFb)
  have hkg : ¬ Fk g := fun h => hng (hsub2 g h)
  refine ⟨b, c, v, Fk, hld, hbg, hsub b hFb, fun x hx => hsub x (hsub2 x hx), hnb, hkg, hld2, hv, fun w1 F' P' u hp' => ?_, fun w1 F' P' v' u hg' hp' => ?_⟩
  · obtain ⟨F1, hrow, hupd⟩ := h3 w1 F' P' u hp'
    obtain ⟨F2, e1, e2⟩ := hres _ F1 _ hupd hrow
    exact ⟨F2, e1, e2⟩
  · obtain ⟨ok, F1, hrow, hupd⟩ := h4 w1 F' P' v' u hg' hp'
    obtain ⟨F2, e1, e2⟩ := hres _ F1 _ hupd hrow
    obtain ⟨o1, o2⟩ := hg'.one hp'
    refine ⟨ok, o1, o2, ?_, F2, e1, e2⟩
    exact u.chg.block g (by
      rcases Nat.lt_or_ge g w.heap.size with h | h
      · exact h
      · have h2 : hp w g = none := by simp [hp]; omega
        rw [h2] at hld; cases hld) hkg
theorem isAt.repl {e : TypeId} {g : Nat} {Ps : List Th} {w : World} {F : Fp} (I : isAt e g Ps w F) (hg : ∀ P ∈ Ps, OwnT P) {k : Nat} {P : Th} (hk : Ps[k]? = some P) :
    ∃ (v : Value) (Fk : Fp), (∀ x, Fk x → F x) ∧ ¬ Fk g ∧ ldC (hp w g) k = some v ∧ P w Fk v ∧
      ∀ w1 F' P' v', UpdP Fk F' w w1 → OwnT P' → P' w1 F' v' → okC (hp w1 g) (k + 1) = true ∧ v'.cells = #[v'] ∧ v'.oneCell' = true ∧ hp w1 g = hp w g ∧
        ∃ F1, isAt e g (Ps.set k P') (put w1 g ((getC (hp w1 g)).setIfInBounds k v') (getE (hp w1 g))) F1 ∧ UpdP F F1 w (put w1 g ((getC (hp w1 g)).setIfInBounds k v') (getE (hp w1 g))) := by
  obtain ⟨v, Fk, hFg, hng, hsub, hld, hv, _, hput⟩ := isAt.cell I hg hk
  refine ⟨v, Fk, hsub, hng, hld, hv, fun w1 F' P' v' u hg' hp' => ?_⟩
  obtain ⟨ok, F1, h1, h2⟩ := hput w1 F' P' v' u hg' hp'
  obtain ⟨o1, o2⟩ := hg'.one hp'
  refine ⟨ok, o1, o2, u.chg.block g (by
    rcases Nat.lt_or_ge g w.heap.size with h | h
    · exact h
    · have h2 : hp w g = none := by simp [hp]; omega
      rw [h2] at hld; cases hld) hng, F1, h1, h2⟩
end Go.Proofs.Ytgamnncehjcdiaa.Ev

namespace Go.Proofs.Ytgamnncehjcdiaa
open Go Ev Go.RowKit

structure RfV where
  c : CfV
  loose : Bool
  state : List Int
  gen : List Int
  rgs : List (RgV × Bool)
  depth : List Int
  holds : List (List NmV)
def keysT (L : List NmV) : Th := isRow 187 2 L.length ((L.flatMap nmC).map isV)
def rrT (p : RgV × Bool) : List Th := [iT p.1.nm.1, iT p.1.nm.2, iT p.1.cls, iT p.1.off, isV (.bool p.2), intsT p.1.chunks, wordsT p.1.words, objsT p.1.objs]
def rrsT (L : List (RgV × Bool)) : Th := isRow 158 8 L.length (L.flatMap rrT)
def holdsT (L : List (List NmV)) : Th := isRow 159 1 L.length (L.map keysT)
def rfT (x : RfV) : List Th := (cfC x.c).map isV ++ [isV (.bool x.loose), intsT x.state, intsT x.gen, rrsT x.rgs, intsT x.depth, holdsT x.holds]
def RfI (w : World) (g : Nat) (x : RfV) (F : Fp) : Prop := isAt 154 g (rfT x) w F
def toRf (m : MdV) : RfV := ⟨m.c, m.loose, m.slots.map (·.1), m.slots.map (·.2), m.rgs.map fun r => (r, isLv m r.nm), m.hands.map (·.depth), m.hands.map (·.holds)⟩
theorem good_keys (L : List NmV) : OwnT (keysT L) := good_isRow (good_ints (nmC_int L))
theorem good_rr (p : RgV × Bool) : ∀ P ∈ rrT p, OwnT P := fun P hP => by
  simp only [rrT, List.mem_cons, List.not_mem_nil, or_false] at hP
  rcases hP with rfl | rfl | rfl | rfl | rfl | rfl | rfl | rfl
  · exact good_int _ _
  · exact good_int _ _
  · exact good_int _ _
  · exact good_int _ _
  · exact good_isV ⟨rfl, rfl⟩
  · exact good_intsT _
  · exact good_words _
  · exact cm _
theorem good_rrL (L : List (RgV × Bool)) : ∀ P ∈ L.flatMap rrT, OwnT P := fun P hP => by
  obtain ⟨r, _, hr⟩ := List.mem_flatMap.1 hP; exact good_rr r P hr
theorem good_rrs (L : List (RgV × Bool)) : OwnT (rrsT L) := good_isRow (good_rrL L)
theorem good_holdsL (L : List (List NmV)) : ∀ P ∈ L.map keysT, OwnT P := fun P hP => by
  obtain ⟨l, _, rfl⟩ := List.mem_map.1 hP; exact good_keys l
theorem good_holds (L : List (List NmV)) : OwnT (holdsT L) := good_isRow (good_holdsL L)
theorem cf (x : RfV) : ∀ P ∈ rfT x, OwnT P := fun P hP => by
  rcases List.mem_append.1 hP with h | h
  · refine good_ints (fun u hu => ?_) P h
    simp only [cfC, List.mem_cons, List.not_mem_nil, or_false] at hu
    rcases hu with rfl | rfl | rfl | rfl | rfl | rfl <;> exact ⟨_, _, rfl⟩
  · simp only [List.mem_cons, List.not_mem_nil, or_false] at h
    rcases h with rfl | rfl | rfl | rfl | rfl | rfl
    · exact good_isV ⟨rfl, rfl⟩
    · exact good_intsT _
    · exact good_intsT _
    · exact good_rrs _
    · exact good_intsT _
    · exact good_holds _
theorem rrT_len (p : RgV × Bool) : (rrT p).length = 8 := rfl
theorem RfI.keep {w w' : World} {g : Nat} {x : RfV} {F : Fp} (h : RfI w g x F) (hc : Chg [] w w') : RfI w' g x F := isAt.frame h (cf x) (ChgP.of0 hc none') fun _ _ h => h
structure RfR (w : World) (g : Nat) (x : RfV) (s gn r d h : Value) : Prop where
  c : ∀ k, k < 6 → ldC (hp w g) (0 + 0 + k) = (cfC x.c)[k]?
  l : ldC (hp w g) (0 + 6) = some (.bool x.loose)
  sl : ldC (hp w g) (0 + 7) = some s
  gl : ldC (hp w g) (0 + 8) = some gn
  rl : ldC (hp w g) (0 + 9) = some r
  dl : ldC (hp w g) (0 + 10) = some d
  hl : ldC (hp w g) (0 + 11) = some h
  sT : ∃ F, intsT x.state w F s
  gT : ∃ F, intsT x.gen w F gn
  rT : ∃ F, rrsT x.rgs w F r
  dT : ∃ F, intsT x.depth w F d
  hT : ∃ F, holdsT x.holds w F h
theorem RfI.rd {w : World} {g : Nat} {x : RfV} {F : Fp} (h : RfI w g x F) : ∃ s gn r d hh, RfR w g x s gn r d hh := by
  obtain ⟨sv, _, _, _, _, hs, hS, _⟩ := isAt.cell h (cf x) (k := 7) (P := intsT x.state) rfl
  obtain ⟨gv, _, _, _, _, hg, hG, _⟩ := isAt.cell h (cf x) (k := 8) (P := intsT x.gen) rfl
  obtain ⟨rv, _, _, _, _, hr, hR, _⟩ := isAt.cell h (cf x) (k := 9) (P := rrsT x.rgs) rfl
  obtain ⟨dv, _, _, _, _, hd, hD, _⟩ := isAt.cell h (cf x) (k := 10) (P := intsT x.depth) rfl
  obtain ⟨hv, _, _, _, _, hh, hH, _⟩ := isAt.cell h (cf x) (k := 11) (P := holdsT x.holds) rfl
  obtain ⟨lv, _, _, _, _, hl, hL, _⟩ := isAt.cell h (cf x) (k := 6) (P := isV (.bool x.loose)) rfl
  refine ⟨sv, gv, rv, dv, hv, fun k hk => ?_, hl.trans (by rw [hL.1]), hs, hg, hr, hd, hh, ⟨_, hS⟩, ⟨_, hG⟩, ⟨_, hR⟩, ⟨_, hD⟩, ⟨_, hH⟩⟩
  obtain ⟨u, hu⟩ : ∃ u, (cfC x.c)[k]? = some u := ⟨_, List.getElem?_eq_getElem (by simpa [cfC] using hk)⟩
  have hP : (rfT x)[k]? = some (isV u) := by
    rw [rfT, List.getElem?_append_left (by simpa [cfC] using hk), List.getElem?_map, hu]; rfl
  obtain ⟨cv, _, _, _, _, hc, hC, _⟩ := isAt.cell h (cf x) hP
  rw [show 0 + 0 + k = k by omega, hc, hC.1, hu]
structure RrR (w : World) (b o : Nat) (p : RgV × Bool) (cv wv ov : Value) : Prop where
  c0 : ldC (hp w b) (o + 0) = some (.int .i64 p.1.nm.1)
  c1 : ldC (hp w b) (o + 1) = some (.int .i64 p.1.nm.2)
  c2 : ldC (hp w b) (o + 2) = some (.int .i64 p.1.cls)
  c3 : ldC (hp w b) (o + 3) = some (.int .i64 p.1.off)
  c4 : ldC (hp w b) (o + 4) = some (.bool p.2)
  c5 : ldC (hp w b) (o + 5) = some cv
  c6 : ldC (hp w b) (o + 6) = some wv
  c7 : ldC (hp w b) (o + 7) = some ov
  cT : ∃ F, intsT p.1.chunks w F cv
  wT : ∃ F, wordsT p.1.words w F wv
  oT : ∃ F, objsT p.1.objs w F ov
theorem rr_at {w : World} {L : List (RgV × Bool)} {F : Fp} {x : Value} (h : rrsT L w F x) {i : Nat} {r : RgV × Bool} (hr : L[i]? = some r) : ∃ b c, x = .slice (some ⟨b, 0, none⟩) L.length c ∧ ∃ cv wv ov, RrR w b (i * 8) r cv wv ov := by
  have get : ∀ k, k < 8 → (L.flatMap rrT)[i * 8 + k]? = (rrT r)[k]? := fun k hk => flatM_get rrT_len L i r hr k hk
  obtain ⟨b, c, v0, F0, e0, _, _, _, l0, t0, _⟩ := isRow.cell h (good_rrL L) (get 0 (by omega))
  obtain ⟨b1, c1, v1, F1, e1, _, _, _, l1, t1, _⟩ := isRow.cell h (good_rrL L) (get 1 (by omega))
  obtain ⟨b2, c2, v2, F2, e2, _, _, _, l2, t2, _⟩ := isRow.cell h (good_rrL L) (get 2 (by omega))
  obtain ⟨b3, c3, v3, F3, e3, _, _, _, l3, t3, _⟩ := isRow.cell h (good_rrL L) (get 3 (by omega))
  obtain ⟨b4, c4, v4, F4, e4, _, _, _, l4, t4, _⟩ := isRow.cell h (good_rrL L) (get 4 (by omega))
  obtain ⟨b5, c5, v5, F5, e5, _, _, _, l5, t5, _⟩ := isRow.cell h (good_rrL L) (get 5 (by omega))
  obtain ⟨b6, c6, v6, F6, e6, _, _, _, l6, t6, _⟩ := isRow.cell h (good_rrL L) (get 6 (by omega))
  obtain ⟨b7, c7, v7, F7, e7, _, _, _, l7, t7, _⟩ := isRow.cell h (good_rrL L) (get 7 (by omega))
  subst e0
  cases e1; cases e2; cases e3; cases e4; cases e5; cases e6; cases e7
  rw [t0.1] at l0; rw [t1.1] at l1; rw [t2.1] at l2; rw [t3.1] at l3; rw [t4.1] at l4
  exact ⟨b, c, rfl, v5, v6, v7, l0, l1, l2, l3, l4, l5, l6, l7, ⟨F5, t5⟩, ⟨F6, t6⟩, ⟨F7, t7⟩⟩
theorem RrR.keep {w w' : World} {b o : Nat} {p : RgV × Bool} {cv wv ov : Value} (k : RrR w b o p cv wv ov) (hc : Chg [] w w') : RrR w' b o p cv wv ov := by
  obtain ⟨F, hF⟩ := k.cT
  obtain ⟨G, hG⟩ := k.wT
  obtain ⟨H, hH⟩ := k.oT
  exact ⟨bR hc k.c0, bR hc k.c1, bR hc k.c2, bR hc k.c3, bR hc k.c4, bR hc k.c5, bR hc k.c6, bR hc k.c7,
    ⟨F, (good_intsT _).frame hF (ChgP.of0 hc none') fun _ _ h => h⟩, ⟨G, (good_words _).frame hG (ChgP.of0 hc none') fun _ _ h => h⟩, ⟨H, (cm _).frame hH (ChgP.of0 hc none') fun _ _ h => h⟩⟩
theorem RfR.keep {w w' : World} {g : Nat} {x : RfV} {s gn r d h : Value} (k : RfR w g x s gn r d h) (hc : Chg [] w w') : RfR w' g x s gn r d h := by
  have e : hp w' g = hp w g := hc.block g (by
    rcases Nat.lt_or_ge g w.heap.size with h1 | h1
    · exact h1
    · have h2 : hp w g = none := by simp [hp]; omega
      have := k.l
      rw [h2] at this; cases this) (by simp)
  have ck : ∀ {L v}, (∃ F, intsT L w F v) → ∃ F, intsT L w' F v := fun ⟨F, hF⟩ => ⟨F, (good_intsT _).frame hF (ChgP.of0 hc none') fun _ _ h => h⟩
  obtain ⟨G, hG⟩ := k.rT
  obtain ⟨H, hH⟩ := k.hT
  exact ⟨fun i hi => by rw [e]; exact k.c i hi, by rw [e]; exact k.l, by rw [e]; exact k.sl, by rw [e]; exact k.gl, by rw [e]; exact k.rl, by rw [e]; exact k.dl, by rw [e]; exact k.hl, ck k.sT, ck k.gT,
    ⟨G, (good_rrs _).frame hG (ChgP.of0 hc none') fun _ _ h => h⟩, ck k.dT, ⟨H, (good_holds _).frame hH (ChgP.of0 hc none') fun _ _ h => h⟩⟩
end Go.Proofs.Ytgamnncehjcdiaa

