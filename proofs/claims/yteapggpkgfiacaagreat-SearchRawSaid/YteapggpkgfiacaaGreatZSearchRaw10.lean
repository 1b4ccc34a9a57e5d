/- Parts of the proof of SearchRaw, one behind the other. Conditions: none. -/
import Derived.Test.YteapggpkgfiacaaGreatChecked
import Derived.Eval
import Derived.Test.YteapggpkgfiacaaGreatZSearchRaw9
set_option linter.unusedSimpArgs false
set_option linter.unusedVariables false
set_option maxRecDepth 100000
namespace Go.Proofs.YteapggpkgfiacaaGreat
open Go Ev
def L52_0 (x0 x6 x7 x8 x9 : Value) (w : World) (Q : Value → World → Prop) : Prop :=
  wpB (pureRun Tryz.prog (Instr.fieldAt 36 x6 0)) fun t19 =>
  wpB (ldv Tryz.prog 3 t19 w) fun t20 =>
  wpB (be Tryz.prog .eql 3 (.tmp 20) (.const (.int .i64 3)) t20 (.int .i64 3)) fun t22 =>
  cnd t22
  (wpB (nilv x8) fun t24 =>
  wpB (pureRun Tryz.prog (Instr.fieldAt 96 t24 0)) fun t25 =>
  wpB (ldv Tryz.prog 3 t25 w) fun t26 =>
  wpB (bp Tryz.prog .add 3 t26 (.int .i64 1)) fun t27 =>
  wpB (nilv x8) fun t28 =>
  wpB (pureRun Tryz.prog (Instr.fieldAt 96 t28 0)) fun t29 =>
  effu Tryz.prog (Instr.storeAt 3 t29 t27) w fun w =>
  Q (.tuple #[]) w)
  (wpB (be Tryz.prog .eql 3 (.tmp 20) (.const (.int .i64 4)) t20 (.int .i64 4)) fun t31 =>
  cnd t31
  (wpB (nilv x8) fun t33 =>
  wpB (pureRun Tryz.prog (Instr.fieldAt 96 t33 0)) fun t34 =>
  wpB (ldv Tryz.prog 3 t34 w) fun t35 =>
  wpB (bp Tryz.prog .sub 3 t35 (.int .i64 1)) fun t36 =>
  wpB (nilv x8) fun t37 =>
  wpB (pureRun Tryz.prog (Instr.fieldAt 96 t37 0)) fun t38 =>
  effu Tryz.prog (Instr.storeAt 3 t38 t36) w fun w =>
  wpB (nilv x8) fun t40 =>
  wpB (pureRun Tryz.prog (Instr.fieldAt 96 t40 0)) fun t41 =>
  wpB (ldv Tryz.prog 3 t41 w) fun t42 =>
  wpB (be Tryz.prog .eql 3 (.tmp 42) (.const (.int .i64 0)) t42 (.int .i64 0)) fun t43 =>
  cnd t43
  (wpB (nilv x8) fun t45 =>
  wpB (pureRun Tryz.prog (Instr.fieldAt 96 t45 1)) fun t46 =>
  effu Tryz.prog (Instr.storeAt 94 t46 (.slice none 0 0)) w fun w =>
  Q (.tuple #[]) w)
  (Q (.tuple #[]) w))
  (wpB (be Tryz.prog .eql 3 (.tmp 20) (.const (.int .i64 5)) t20 (.int .i64 5)) fun t48 =>
  cnd t48
  (wpB (nilv x8) fun t50 =>
  wpB (pureRun Tryz.prog (Instr.fieldAt 96 t50 1)) fun t51 =>
  wpB (ldv Tryz.prog 94 t51 w.drew) fun t52 =>
  wpB (ldv Tryz.prog 83 x9 w.drew) fun t53 =>
  CallR Tryz.prog 66 [t52, t53] w.drew fun t54 w =>
  wpB (pureRun Tryz.prog (Op.unary .not t54)) fun t55 =>
  cnd t55
  (wpB (nilv x8) fun t58 =>
  wpB (pureRun Tryz.prog (Instr.fieldAt 96 t58 1)) fun t59 =>
  wpB (ldv Tryz.prog 94 t59 w.drew) fun t60 =>
  wpB (ldv Tryz.prog 83 x9 w.drew) fun t61 =>
  effv Tryz.prog (Instr.buildSlice 94 1 #[(0, t61)]) w.drew fun t62 w =>
  effv Tryz.prog (Builtin.append_ #[94, 94] 94 #[t60, t62]) w fun t63 w =>
  wpB (nilv x8) fun t64 =>
  wpB (pureRun Tryz.prog (Instr.fieldAt 96 t64 1)) fun t65 =>
  effu Tryz.prog (Instr.storeAt 94 t65 t63) w fun w =>
  Q (.tuple #[]) w)
  (Q (.tuple #[]) w))
  (wpB (be Tryz.prog .eql 3 (.tmp 20) (.const (.int .i64 7)) t20 (.int .i64 7)) fun t67 =>
  cnd t67
  ((wpB (pureRun Tryz.prog (Instr.fieldAt 36 x6 3)) fun t70 =>
  wpB (pureRun Tryz.prog (Instr.fieldAt 36 x6 4)) fun t73 =>
  wpB (ldv Tryz.prog 38 x7 w.drew) fun t69 =>
  wpB (ldv Tryz.prog 3 t70 w.drew) fun t71 =>
  wpB (ldv Tryz.prog 34 t73 w.drew) fun t74 =>
  CallR Tryz.prog 41 [x0, t69, t71] w.drew fun t72 w =>
  wpB (nilv t72) fun t75 =>
  effu Tryz.prog (Instr.storeAt 34 t75 t74) w fun w =>
  Q (.tuple #[]) w) ∧
  (wpB (ldv Tryz.prog 38 x7 w.drew) fun t69_1 =>
  wpB (pureRun Tryz.prog (Instr.fieldAt 36 x6 3)) fun t70_1 =>
  wpB (ldv Tryz.prog 3 t70_1 w.drew) fun t71_1 =>
  CallR Tryz.prog 41 [x0, t69_1, t71_1] w.drew fun t72_1 w =>
  wpB (pureRun Tryz.prog (Instr.fieldAt 36 x6 4)) fun t73_1 =>
  wpB (ldv Tryz.prog 34 t73_1 w) fun t74_1 =>
  wpB (nilv t72_1) fun t75_1 =>
  effu Tryz.prog (Instr.storeAt 34 t75_1 t74_1) w fun w =>
  Q (.tuple #[]) w))
  (wpB (be Tryz.prog .eql 3 (.tmp 20) (.const (.int .i64 8)) t20 (.int .i64 8)) fun t77 =>
  cnd t77
  ((wpB (pureRun Tryz.prog (Instr.fieldAt 36 x6 3)) fun t80 =>
  wpB (pureRun Tryz.prog (Instr.fieldAt 36 x6 4)) fun t85 =>
  wpB (ldv Tryz.prog 38 x7 w.drew) fun t79 =>
  wpB (ldv Tryz.prog 3 t80 w.drew) fun t81 =>
  wpB (ldv Tryz.prog 34 t85 w.drew) fun t86 =>
  CallR Tryz.prog 41 [x0, t79, t81] w.drew fun t82 w =>
  wpB (nilv t82) fun t83 =>
  wpB (ldv Tryz.prog 34 t83 w) fun t84 =>
  wpB (bp Tryz.prog .add 34 t84 t86) fun t87 =>
  wpB (nilv t82) fun t88 =>
  effu Tryz.prog (Instr.storeAt 34 t88 t87) w fun w =>
  Q (.tuple #[]) w) ∧
  (wpB (ldv Tryz.prog 38 x7 w.drew) fun t79_1 =>
  wpB (pureRun Tryz.prog (Instr.fieldAt 36 x6 3)) fun t80_1 =>
  wpB (ldv Tryz.prog 3 t80_1 w.drew) fun t81_1 =>
  CallR Tryz.prog 41 [x0, t79_1, t81_1] w.drew fun t82_1 w =>
  wpB (nilv t82_1) fun t83_1 =>
  wpB (ldv Tryz.prog 34 t83_1 w) fun t84_1 =>
  wpB (pureRun Tryz.prog (Instr.fieldAt 36 x6 4)) fun t85_1 =>
  wpB (ldv Tryz.prog 34 t85_1 w) fun t86_1 =>
  wpB (bp Tryz.prog .add 34 t84_1 t86_1) fun t87_1 =>
  wpB (nilv t82_1) fun t88_1 =>
  effu Tryz.prog (Instr.storeAt 34 t88_1 t87_1) w fun w =>
  Q (.tuple #[]) w))
  (wpB (be Tryz.prog .eql 3 (.tmp 20) (.const (.int .i64 9)) t20 (.int .i64 9)) fun t90 =>
  cnd t90
  (wpB (ldv Tryz.prog 38 x7 w) fun t92 =>
  wpB (pureRun Tryz.prog (Instr.fieldAt 36 x6 3)) fun t93 =>
  wpB (ldv Tryz.prog 3 t93 w) fun t94 =>
  CallR Tryz.prog 41 [x0, t92, t94] w fun t95 w =>
  wpB (nilv t95) fun t97 =>
  wpB (ldv Tryz.prog 34 t97 w.drew) fun t98 =>
  wpB (pureRun Tryz.prog (Instr.fieldAt 36 x6 4)) fun t99 =>
  wpB (ldv Tryz.prog 34 t99 w.drew) fun t100 =>
  wpB (be Tryz.prog .eql 34 (.tmp 98) (.tmp 100) t98 t100) fun t101 =>
  cnd t101
  (wpB (pureRun Tryz.prog (Instr.fieldAt 36 x6 5)) fun t103 =>
  wpB (ldv Tryz.prog 34 t103 w.drew) fun t104 =>
  wpB (nilv t95) fun t105 =>
  effu Tryz.prog (Instr.storeAt 34 t105 t104) w.drew fun w =>
  Q (.tuple #[]) w)
  (Q (.tuple #[]) w.drew))
  (wpB (be Tryz.prog .eql 3 (.tmp 20) (.const (.int .i64 10)) t20 (.int .i64 10)) fun t107 =>
  cnd t107
  (wpB (nilv x0) fun t109 =>
  wpB (pureRun Tryz.prog (Instr.fieldAt 61 t109 2)) fun t110 =>
  wpB (ldv Tryz.prog 57 t110 w.drew) fun t111 =>
  wpB (pureRun Tryz.prog (Instr.fieldAt 38 x7 0)) fun t112 =>
  wpB (ldv Tryz.prog 3 t112 w.drew) fun t113 =>
  wpB (pureRun Tryz.prog (Instr.indexAt 57 t111 t113)) fun t114 =>
  wpB (pureRun Tryz.prog (Instr.fieldAt 92 t114 0)) fun t115 =>
  effu Tryz.prog (Instr.storeAt 3 t115 (.int .i64 2)) w.drew fun w =>
  wpB (nilv x0) fun t117 =>
  wpB (pureRun Tryz.prog (Instr.fieldAt 61 t117 1)) fun t118 =>
  wpB (ldv Tryz.prog 4 t118 w) fun t119 =>
  cnd t119
  (wpB (nilv x0) fun t121 =>
  wpB (pureRun Tryz.prog (Instr.fieldAt 61 t121 2)) fun t122 =>
  wpB (ldv Tryz.prog 57 t122 w.drew) fun t123 =>
  wpB (pureRun Tryz.prog (Instr.fieldAt 38 x7 0)) fun t124 =>
  wpB (ldv Tryz.prog 3 t124 w.drew) fun t125 =>
  wpB (pureRun Tryz.prog (Instr.indexAt 57 t123 t125)) fun t126 =>
  wpB (pureRun Tryz.prog (Instr.fieldAt 92 t126 0)) fun t127 =>
  effu Tryz.prog (Instr.storeAt 3 t127 (.int .i64 0)) w.drew fun w =>
  Q (.tuple #[]) w)
  (Q (.tuple #[]) w))
  (Q (.tuple #[]) w)))))))
theorem F52_ok {a0 a1 a2 a3 : Value} {w : World} {Q : Value → World → Prop} (h : F52 a0 a1 a2 a3 w Q) : CallR Tryz.prog 52 [a0, a1, a2, a3] w Q :=
  af mixed ad Tryz.func52 (c := C52) rfl H52 (Nat.le_of_ble_eq_true rfl) (by kernel_rfl) h
theorem L52_0_ok {x0 x6 x7 x8 x9 : Value} {w : World} {Q : Value → World → Prop} (h : L52_0 x0 x6 x7 x8 x9 w Q) : P52_0 x0 x6 x7 x8 x9 w Q :=
  ax mixed ad Tryz.func52 H52 (by kernel_rfl) h

noncomputable def C53 : Code := (Tryz.f53.body).getD .skip
noncomputable def H53 : Hints := ⟨[], [(9, [0, 1, 5, 7]), (13, [])], [(3, (.leaf [0, 1, 2, 3, 4, 5, 6, 7, 8, 9, 10, 11, 12, 13, 14, 15, 16, 17, 18])), (6, (.leaf [0, 1, 2, 3, 4, 5, 6, 7, 8, 9, 10])), (11, (.leaf [0, 1, 2, 3, 4, 5, 6, 7, 8, 9, 10])), (12, (.ask 4 7 (.leaf [0, 1, 2, 3, 4, 5, 6, 7, 8, 9, 10, 11, 12, 13, 14]) (.leaf [0, 1, 2, 3, 5, 8, 6, 7, 9, 4, 10, 11, 12, 13, 14])))]⟩
noncomputable def T53_0 : List It := [.jn (nav [1, 1, 1, 1, 1] C53)]
noncomputable def T53_1 : List It := [.jn (nav [1, 1, 1, 1, 1, 1, 1, 1] C53)]
def P53_0 (x0 x1 x5 x7 : Value) (w : World) (Q : Value → World → Prop) : Prop := Part Tryz.prog 53 T53_0 [0, 1, 5, 7] [x0, x1, x5, x7] w Q
def P53_1 (w : World) (Q : Value → World → Prop) : Prop := Part Tryz.prog 53 T53_1 [] [] w Q
def F53 (a0 a1 a2 : Value) (w : World) (Q : Value → World → Prop) : Prop :=
  effv Tryz.prog (Instr.box 40 a2) w fun t5 w =>
  wpB (ldv Tryz.prog 40 t5 w) fun t9 =>
  wpB (pureRun Tryz.prog (Instr.build 40 #[(0, (.int .i64 7))])) fun t10 =>
  wpB (be Tryz.prog .eql 40 (.tmp 9) (.tmp 10) t9 t10) fun t11 =>
  cnd t11
  (wpB (nilv a0) fun t13 =>
  wpB (pureRun Tryz.prog (Instr.fieldAt 61 t13 1)) fun t14 =>
  wpB (ldv Tryz.prog 4 t14 w) fun t15 =>
  gE t15 false (CallR Tryz.prog 68 [(gv t15 false a0)] w) (fun t18 w =>
  wpB (gd t15 false (be Tryz.prog .eql 3 (.tmp 18) (.const (.int .i64 0)) t18 (.int .i64 0))) fun t19 =>
  wpB (pickv t15 (some (.bool true)) (some t19)) fun t20 =>
  Q t20 w) w)
  (wpB (pureRun Tryz.prog (Instr.fieldAt 40 t5 1)) fun t22 =>
  wpB (pureRun Tryz.prog (Instr.fieldAt 38 t22 0)) fun t23 =>
  wpB (ldv Tryz.prog 3 t23 w.drew) fun t24 =>
  CallR Tryz.prog 69 [a0, t24] w.drew fun t25 w =>
  wpB (pureRun Tryz.prog (Op.unary .not t25)) fun t26 =>
  wpB (gd t26 false (nilv (gv t26 false a0))) fun t29 =>
  wpB (gd t26 false (pureRun Tryz.prog (Instr.fieldAt 61 t29 2))) fun t30 =>
  wpB (gd t26 false (ldv Tryz.prog 57 t30 w)) fun t31 =>
  wpB (gd t26 false (pureRun Tryz.prog (Instr.fieldAt 40 t5 1))) fun t32 =>
  wpB (gd t26 false (pureRun Tryz.prog (Instr.fieldAt 38 t32 0))) fun t33 =>
  wpB (gd t26 false (ldv Tryz.prog 3 t33 w)) fun t34 =>
  wpB (gd t26 false (pureRun Tryz.prog (Instr.indexAt 57 t31 t34))) fun t35 =>
  wpB (gd t26 false (pureRun Tryz.prog (Instr.fieldAt 92 t35 0))) fun t36 =>
  wpB (gd t26 false (ldv Tryz.prog 3 t36 w)) fun t37 =>
  wpB (gd t26 false (be Tryz.prog .neq 3 (.tmp 37) (.const (.int .i64 0)) t37 (.int .i64 0))) fun t38 =>
  wpB (pickv t26 (some (.bool true)) (some t38)) fun t39 =>
  cnd t39
  (Q (.bool false) w)
  (wpB (nilv a0) fun t41 =>
  wpB (pureRun Tryz.prog (Instr.fieldAt 61 t41 2)) fun t42 =>
  wpB (ldv Tryz.prog 57 t42 w.drew) fun t43 =>
  wpB (pureRun Tryz.prog (Instr.fieldAt 40 t5 1)) fun t44 =>
  wpB (pureRun Tryz.prog (Instr.fieldAt 38 t44 0)) fun t45 =>
  wpB (ldv Tryz.prog 3 t45 w.drew) fun t46 =>
  wpB (pureRun Tryz.prog (Instr.indexAt 57 t43 t46)) fun t47 =>
  wpB (pureRun Tryz.prog (Instr.fieldAt 92 t47 1)) fun t48 =>
  wpB (ldv Tryz.prog 3 t48 w.drew) fun t49 =>
  wpB (bp Tryz.prog .lss 3 t49 (.int .i64 4294967295)) fun t51 =>
  cnd t51
  (wpB (bp Tryz.prog .add 3 t49 (.int .i64 1)) fun t53 =>
  P53_0 a0 a1 t5 t53 w.drew Q)
  (P53_0 a0 a1 t5 (.int .i64 0) w.drew Q)))
def L53_0 (x0 x1 x5 x7 : Value) (w : World) (Q : Value → World → Prop) : Prop :=
  wpB (ldv Tryz.prog 40 x5 w) fun t54 =>
  wpB (pureRun Tryz.prog (Instr.fieldAt 40 x5 1)) fun t55 =>
  wpB (pureRun Tryz.prog (Instr.fieldAt 38 t55 0)) fun t56 =>
  wpB (ldv Tryz.prog 3 t56 w) fun t57 =>
  wpB (pureRun Tryz.prog (Instr.build 38 #[(0, t57), (1, x7)])) fun t59 =>
  wpB (pureRun Tryz.prog (Instr.build 40 #[(1, t59)])) fun t60 =>
  wpB (be Tryz.prog .neq 40 (.tmp 54) (.tmp 60) t54 t60) fun t61 =>
  cnd t61
  (Q (.bool false) w)
  (wpB (nilv x0) fun t63 =>
  wpB (pureRun Tryz.prog (Instr.fieldAt 61 t63 2)) fun t64 =>
  wpB (ldv Tryz.prog 57 t64 w.drew) fun t65 =>
  wpB (pureRun Tryz.prog (Instr.fieldAt 40 x5 1)) fun t66 =>
  wpB (pureRun Tryz.prog (Instr.fieldAt 38 t66 0)) fun t67 =>
  wpB (ldv Tryz.prog 3 t67 w.drew) fun t68 =>
  wpB (pureRun Tryz.prog (Instr.build 92 #[(0, (.int .i64 1)), (1, x7)])) fun t70 =>
  wpB (pureRun Tryz.prog (Instr.indexAt 57 t65 t68)) fun t71 =>
  effu Tryz.prog (Instr.storeAt 92 t71 t70) w.drew fun w =>
  (wpB (nilv x0) fun t74 =>
  wpB (pureRun Tryz.prog (Instr.fieldAt 61 t74 3)) fun t75 =>
  wpB (ldv Tryz.prog 58 t75 w.drew) fun t76 =>
  wpB (pureRun Tryz.prog (Instr.fieldAt 40 x5 1)) fun t77 =>
  wpB (ldv Tryz.prog 38 t77 w.drew) fun t78 =>
  CallR Tryz.prog 43 [t78] w.drew fun t79 w =>
  wpB (pureRun Tryz.prog (Instr.build 86 #[(0, t79), (1, x1)])) fun t81 =>
  effv Tryz.prog (Instr.buildSlice 58 1 #[(0, t81)]) w fun t82 w =>
  effv Tryz.prog (Builtin.append_ #[58, 58] 58 #[t76, t82]) w fun t83 w =>
  wpB (nilv x0) fun t84 =>
  wpB (pureRun Tryz.prog (Instr.fieldAt 61 t84 3)) fun t85 =>
  effu Tryz.prog (Instr.storeAt 58 t85 t83) w fun w =>
  P53_1 w Q) ∧
  (wpB (nilv x0) fun t74_1 =>
  wpB (pureRun Tryz.prog (Instr.fieldAt 61 t74_1 3)) fun t75_1 =>
  wpB (pureRun Tryz.prog (Instr.fieldAt 40 x5 1)) fun t77_1 =>
  wpB (ldv Tryz.prog 38 t77_1 w.drew) fun t78_1 =>
  CallR Tryz.prog 43 [t78_1] w.drew fun t79_1 w =>
  wpB (pureRun Tryz.prog (Instr.build 86 #[(0, t79_1), (1, x1)])) fun t81_1 =>
  wpB (ldv Tryz.prog 58 t75_1 w) fun t76_1 =>
  effv Tryz.prog (Instr.buildSlice 58 1 #[(0, t81_1)]) w fun t82_1 w =>
  effv Tryz.prog (Builtin.append_ #[58, 58] 58 #[t76_1, t82_1]) w fun t83_1 w =>
  wpB (nilv x0) fun t84_1 =>
  wpB (pureRun Tryz.prog (Instr.fieldAt 61 t84_1 3)) fun t85_1 =>
  effu Tryz.prog (Instr.storeAt 58 t85_1 t83_1) w fun w =>
  P53_1 w Q))
def L53_1 (w : World) (Q : Value → World → Prop) : Prop :=
  Q (.bool true) w
theorem F53_ok {a0 a1 a2 : Value} {w : World} {Q : Value → World → Prop} (h : F53 a0 a1 a2 w Q) : CallR Tryz.prog 53 [a0, a1, a2] w Q :=
  af mixed ad Tryz.func53 (c := C53) rfl H53 (Nat.le_of_ble_eq_true rfl) (by kernel_rfl) h
theorem L53_0_ok {x0 x1 x5 x7 : Value} {w : World} {Q : Value → World → Prop} (h : L53_0 x0 x1 x5 x7 w Q) : P53_0 x0 x1 x5 x7 w Q :=
  ax mixed ad Tryz.func53 H53 (by kernel_rfl) h
theorem L53_1_ok {w : World} {Q : Value → World → Prop} (h : L53_1  w Q) : P53_1  w Q :=
  ax mixed ad Tryz.func53 H53 (by kernel_rfl) h

noncomputable def C54 : Code := (Tryz.f54.body).getD .skip
noncomputable def H54 : Hints := ⟨[], [(11, [0, 7, 9, 10, 11, 12]), (18, [9, 11])], [(6, (.ask 5 1 (.leaf [0, 2, 3, 4, 5, 1, 6, 7, 8, 9]) (.ask 5 7 (.leaf [0, 1, 2, 3, 4, 5, 6, 7, 8, 9]) (.leaf [0, 2, 3, 4, 1, 6, 7, 5, 8, 9])))), (9, (.leaf [0, 1, 2, 3, 4, 5, 6, 7, 8, 9, 10, 11, 12, 13, 14, 15, 16, 17, 18, 19])), (15, (.leaf [0, 1, 2, 3, 4, 5, 6, 7, 8, 9, 10, 11])), (16, (.leaf [0, 1, 2, 3, 4, 5, 6, 7, 8, 9, 10, 11, 12, 13, 14, 15])), (18, (.leaf [0, 1, 2, 3, 4, 5, 6, 7, 8, 9, 10]))]⟩
noncomputable def T54_0 : List It := [.jn (nav [1, 1, 1, 1, 1, 1] C54)]
noncomputable def T54_1 : List It := [.jn (nav [1, 1, 1, 1, 1, 1, 1, 1] C54)]
def P54_0 (x0 x7 x9 x10 x11 x12 : Value) (w : World) (Q : Value → World → Prop) : Prop := Part Tryz.prog 54 T54_0 [0, 7, 9, 10, 11, 12] [x0, x7, x9, x10, x11, x12] w Q
def P54_1 (x9 x11 : Value) (w : World) (Q : Value → World → Prop) : Prop := Part Tryz.prog 54 T54_1 [9, 11] [x9, x11] w Q
def F54 (a0 a1 a2 a3 : Value) (w : World) (Q : Value → World → Prop) : Prop :=
  effv Tryz.prog (Instr.box 38 a2) w fun t6 w =>
  effv Tryz.prog (Instr.box 40 a3) w fun t7 w =>
  wpB (ldv Tryz.prog 38 t6 w) fun t14 =>
  CallR Tryz.prog 43 [t14] w fun t15 w =>
  CallR Tryz.prog 42 [a0, t15] w fun t16 w =>
  wpB (nilv t16) fun t18 =>
  wpB (pureRun Tryz.prog (Instr.fieldAt 86 t18 1)) fun t19 =>
  wpB (ldv Tryz.prog 3 t19 w) fun t20 =>
  CallR Tryz.prog 70 [t20, a1] w fun t22 w =>
  wpB (pureRun Tryz.prog (Instr.fieldAt 38 t6 0)) fun t23 =>
  wpB (ldv Tryz.prog 3 t23 w) fun t24 =>
  wpB (pureRun Tryz.prog (Instr.fieldAt 38 t6 1)) fun t25 =>
  wpB (ldv Tryz.prog 3 t25 w) fun t26 =>
  wpB (pureRun Tryz.prog (Instr.fieldAt 40 t7 1)) fun t27 =>
  wpB (pureRun Tryz.prog (Instr.fieldAt 38 t27 2)) fun t28 =>
  wpB (ldv Tryz.prog 3 t28 w) fun t29 =>
  wpB (pureRun Tryz.prog (Instr.build 38 #[(0, t24), (1, t26), (2, t29), (4, a1)])) fun t31 =>
  effv Tryz.prog (Instr.alloc 38 true (.tuple #[])) w fun t11 w =>
  effu Tryz.prog (Instr.storeAt 38 t11 t31) w fun w =>
  wpB (nilv a0) fun t34 =>
  wpB (pureRun Tryz.prog (Instr.fieldAt 61 t34 0)) fun t35 =>
  wpB (pureRun Tryz.prog (Instr.fieldAt 23 t35 2)) fun t36 =>
  wpB (ldv Tryz.prog 3 t36 w) fun t37 =>
  CallR Tryz.prog 71 [t16, t37, t22] w fun t39 w =>
  cnd t39
  ((wpB (nilv t16) fun t45 =>
  wpB (pureRun Tryz.prog (Instr.fieldAt 86 t45 2)) fun t46 =>
  wpB (ldv Tryz.prog 3 t46 w.drew) fun t47 =>
  CallR Tryz.prog 72 [t16] w.drew fun t43 w =>
  wpB (pureRun Tryz.prog (Instr.fieldAt 38 t11 2)) fun t48 =>
  effu Tryz.prog (Instr.storeAt 3 t48 t43) w fun w =>
  wpB (pureRun Tryz.prog (Instr.fieldAt 38 t11 3)) fun t49 =>
  effu Tryz.prog (Instr.storeAt 3 t49 t47) w fun w =>
  P54_0 a0 t7 t16 t22 t11 t39 w Q) ∧
  ((CallR Tryz.prog 72 [t16] w.drew fun t43_1 w =>
  wpB (nilv t16) fun t45_1 =>
  wpB (pureRun Tryz.prog (Instr.fieldAt 86 t45_1 2)) fun t46_1 =>
  wpB (ldv Tryz.prog 3 t46_1 w) fun t47_1 =>
  wpB (pureRun Tryz.prog (Instr.fieldAt 38 t11 2)) fun t48_1 =>
  effu Tryz.prog (Instr.storeAt 3 t48_1 t43_1) w fun w =>
  wpB (pureRun Tryz.prog (Instr.fieldAt 38 t11 3)) fun t49_1 =>
  effu Tryz.prog (Instr.storeAt 3 t49_1 t47_1) w fun w =>
  P54_0 a0 t7 t16 t22 t11 t39 w Q) ∧
  (wpB (nilv t16) fun t45_2 =>
  wpB (pureRun Tryz.prog (Instr.fieldAt 86 t45_2 2)) fun t46_2 =>
  CallR Tryz.prog 72 [t16] w.drew fun t43_2 w =>
  wpB (pureRun Tryz.prog (Instr.fieldAt 38 t11 2)) fun t48_2 =>
  effu Tryz.prog (Instr.storeAt 3 t48_2 t43_2) w fun w =>
  wpB (ldv Tryz.prog 3 t46_2 w) fun t47_2 =>
  wpB (pureRun Tryz.prog (Instr.fieldAt 38 t11 3)) fun t49_2 =>
  effu Tryz.prog (Instr.storeAt 3 t49_2 t47_2) w fun w =>
  P54_0 a0 t7 t16 t22 t11 t39 w Q)))
  (wpB (ldv Tryz.prog 40 t7 w) fun t51 =>
  wpB (pureRun Tryz.prog (Instr.build 40 #[(0, (.int .i64 6))])) fun t52 =>
  wpB (be Tryz.prog .eql 40 (.tmp 51) (.tmp 52) t51 t52) fun t53 =>
  cnd t53
  (Q (.bool true) w)
  (wpB (pureRun Tryz.prog (Instr.fieldAt 38 t11 2)) fun t55 =>
  wpB (ldv Tryz.prog 3 t55 w.drew) fun t56 =>
  wpB (bp Tryz.prog .lss 3 t56 (.int .i64 0)) fun t57 =>
  wpB (gd t57 false (pureRun Tryz.prog (Instr.fieldAt 38 t11 2))) fun t59 =>
  wpB (gd t57 false (ldv Tryz.prog 3 t59 w.drew)) fun t60 =>
  wpB (gd t57 false (nilv (gv t57 false a0))) fun t62 =>
  wpB (gd t57 false (pureRun Tryz.prog (Instr.fieldAt 61 t62 0))) fun t63 =>
  wpB (gd t57 false (pureRun Tryz.prog (Instr.fieldAt 23 t63 1))) fun t64 =>
  wpB (gd t57 false (ldv Tryz.prog 3 t64 w.drew)) fun t65 =>
  wpB (gd t57 false (bp Tryz.prog .geq 3 t60 t65)) fun t66 =>
  wpB (pickv t57 (some (.bool true)) (some t66)) fun t67 =>
  wpB (gd t67 false (pureRun Tryz.prog (Instr.fieldAt 38 t11 2))) fun t70 =>
  wpB (gd t67 false (ldv Tryz.prog 3 t70 w.drew)) fun t71 =>
  gE t67 false (CallR Tryz.prog 73 [(gv t67 false a0), t71] w.drew) (fun t72 w =>
  wpB (pickv t67 (some (.bool true)) (some t72)) fun t73 =>
  cnd t73
  (Q (.bool false) w)
  (P54_0 a0 t7 t16 t22 t11 t39 w Q)) w.drew))
def L54_0 (x0 x7 x9 x10 x11 x12 : Value) (w : World) (Q : Value → World → Prop) : Prop :=
  wpB (ldv Tryz.prog 40 x7 w) fun t74 =>
  wpB (ldv Tryz.prog 38 x11 w) fun t75 =>
  wpB (pureRun Tryz.prog (Instr.build 40 #[(1, t75)])) fun t76 =>
  wpB (be Tryz.prog .neq 40 (.tmp 74) (.tmp 76) t74 t76) fun t77 =>
  cnd t77
  (Q (.bool false) w)
  (cnd x12
  (wpB (nilv x9) fun t80 =>
  wpB (pureRun Tryz.prog (Instr.fieldAt 86 t80 2)) fun t81 =>
  wpB (ldv Tryz.prog 3 t81 w) fun t82 =>
  wpB (bp Tryz.prog .add 3 t82 x10) fun t84 =>
  wpB (nilv x9) fun t85 =>
  wpB (pureRun Tryz.prog (Instr.fieldAt 86 t85 2)) fun t86 =>
  effu Tryz.prog (Instr.storeAt 3 t86 t84) w fun w =>
  P54_1 x9 x11 w Q)
  (wpB (nilv x9) fun t89 =>
  wpB (pureRun Tryz.prog (Instr.fieldAt 86 t89 3)) fun t90 =>
  wpB (ldv Tryz.prog 26 t90 w.drew) fun t91 =>
  wpB (pureRun Tryz.prog (Instr.fieldAt 38 x11 2)) fun t92 =>
  wpB (ldv Tryz.prog 3 t92 w.drew) fun t93 =>
  effv Tryz.prog (Instr.buildSlice 26 1 #[(0, t93)]) w.drew fun t94 w =>
  effv Tryz.prog (Builtin.append_ #[26, 26] 26 #[t91, t94]) w fun t95 w =>
  wpB (nilv x9) fun t96 =>
  wpB (pureRun Tryz.prog (Instr.fieldAt 86 t96 3)) fun t97 =>
  effu Tryz.prog (Instr.storeAt 26 t97 t95) w fun w =>
  wpB (nilv x9) fun t100 =>
  wpB (pureRun Tryz.prog (Instr.fieldAt 86 t100 4)) fun t101 =>
  wpB (ldv Tryz.prog 84 t101 w.drew) fun t102 =>
  wpB (nilv x0) fun t104 =>
  wpB (pureRun Tryz.prog (Instr.fieldAt 61 t104 0)) fun t105 =>
  wpB (pureRun Tryz.prog (Instr.fieldAt 23 t105 2)) fun t106 =>
  wpB (ldv Tryz.prog 3 t106 w.drew) fun t107 =>
  effv Tryz.prog (Instr.makeSlice 102 t107 t107) w.drew fun t108 w =>
  effv Tryz.prog (Instr.buildSlice 84 1 #[(0, t108)]) w fun t109 w =>
  effv Tryz.prog (Builtin.append_ #[84, 84] 84 #[t102, t109]) w fun t110 w =>
  wpB (nilv x9) fun t111 =>
  wpB (pureRun Tryz.prog (Instr.fieldAt 86 t111 4)) fun t112 =>
  effu Tryz.prog (Instr.storeAt 84 t112 t110) w fun w =>
  wpB (nilv x0) fun t115 =>
  wpB (pureRun Tryz.prog (Instr.fieldAt 61 t115 0)) fun t116 =>
  wpB (pureRun Tryz.prog (Instr.fieldAt 23 t116 2)) fun t117 =>
  wpB (ldv Tryz.prog 3 t117 w) fun t118 =>
  CallR Tryz.prog 74 [t118, x10] w fun t120 w =>
  wpB (nilv x9) fun t121 =>
  wpB (pureRun Tryz.prog (Instr.fieldAt 86 t121 2)) fun t122 =>
  effu Tryz.prog (Instr.storeAt 3 t122 t120) w fun w =>
  P54_1 x9 x11 w Q))
def L54_1 (x9 x11 : Value) (w : World) (Q : Value → World → Prop) : Prop :=
  wpB (nilv x9) fun t125 =>
  wpB (pureRun Tryz.prog (Instr.fieldAt 86 t125 5)) fun t126 =>
  wpB (ldv Tryz.prog 44 t126 w.drew) fun t127 =>
  wpB (ldv Tryz.prog 38 x11 w.drew) fun t128 =>
  effv Tryz.prog (Instr.buildSlice 44 1 #[(0, t128)]) w.drew fun t129 w =>
  effv Tryz.prog (Builtin.append_ #[44, 44] 44 #[t127, t129]) w fun t130 w =>
  wpB (nilv x9) fun t131 =>
  wpB (pureRun Tryz.prog (Instr.fieldAt 86 t131 5)) fun t132 =>
  effu Tryz.prog (Instr.storeAt 44 t132 t130) w fun w =>
  Q (.bool true) w
theorem F54_ok {a0 a1 a2 a3 : Value} {w : World} {Q : Value → World → Prop} (h : F54 a0 a1 a2 a3 w Q) : CallR Tryz.prog 54 [a0, a1, a2, a3] w Q :=
  af mixed ad Tryz.func54 (c := C54) rfl H54 (Nat.le_of_ble_eq_true rfl) (by kernel_rfl) h
theorem L54_0_ok {x0 x7 x9 x10 x11 x12 : Value} {w : World} {Q : Value → World → Prop} (h : L54_0 x0 x7 x9 x10 x11 x12 w Q) : P54_0 x0 x7 x9 x10 x11 x12 w Q :=
  ax mixed ad Tryz.func54 H54 (by kernel_rfl) h
theorem L54_1_ok {x9 x11 : Value} {w : World} {Q : Value → World → Prop} (h : L54_1 x9 x11 w Q) : P54_1 x9 x11 w Q :=
  ax mixed ad Tryz.func54 H54 (by kernel_rfl) h

noncomputable def C55 : Code := (Tryz.f55.body).getD .skip
noncomputable def H55 : Hints := ⟨[(2, [0, 1, 5])], [], []⟩
noncomputable def T55_0 : List It := [.lp (nav [1, 0, 1, 4, 5] C55), .blk 0, .jn (nav [1, 1] C55)]
def P55_0 (x0 x1 x5 : Value) (w : World) (Q : Value → World → Prop) : Prop := Part Tryz.prog 55 T55_0 [0, 1, 5] [x0, x1, x5] w Q
def F55 (a0 a1 : Value) (w : World) (Q : Value → World → Prop) : Prop :=
  P55_0 a0 a1 (.int .i64 0) w Q
def L55_0 (x0 x1 x5 : Value) (w : World) (Q : Value → World → Prop) : Prop :=
  wpB (nilv x0) fun t8 =>
  wpB (pureRun Tryz.prog (Instr.fieldAt 71 t8 0)) fun t9 =>
  wpB (ldv Tryz.prog 24 t9 w) fun t10 =>
  wpB (pureRun Tryz.prog (Builtin.len_ #[24] 3 #[t10])) fun t11 =>
  wpB (bp Tryz.prog .lss 3 x5 t11) fun t12 =>
  cnd t12
  (wpB (nilv x0) fun t16 =>
  wpB (pureRun Tryz.prog (Instr.fieldAt 71 t16 0)) fun t17 =>
  wpB (ldv Tryz.prog 24 t17 w) fun t18 =>
  wpB (pureRun Tryz.prog (Instr.indexAt 24 t18 x5)) fun t20 =>
  wpB (pureRun Tryz.prog (Instr.fieldAt 42 t20 6)) fun t21 =>
  wpB (ldv Tryz.prog 3 t21 w) fun t22 =>
  wpB (bp Tryz.prog .geq 3 t22 (.int .i64 0)) fun t23 =>
  gE t23 true (CallR Tryz.prog 75 [(gv t23 true x1), (gv t23 true x5)] w) (fun t27 w =>
  wpB (gd t23 true (pureRun Tryz.prog (Op.unary .not t27))) fun t28 =>
  wpB (pickv t23 (some t28) (some (.bool false))) fun t29 =>
  cnd t29
  (Q (.bool false) w)
  (wpB (bp Tryz.prog .add 3 x5 (.int .i64 1)) fun t14 =>
  P55_0 x0 x1 t14 w Q)) w)
  (Q (.bool true) w)
theorem F55_ok {a0 a1 : Value} {w : World} {Q : Value → World → Prop} (h : F55 a0 a1 w Q) : CallR Tryz.prog 55 [a0, a1] w Q :=
  af mixed ad Tryz.func55 (c := C55) rfl H55 (Nat.le_of_ble_eq_true rfl) (by kernel_rfl) h
theorem L55_0_ok {x0 x1 x5 : Value} {w : World} {Q : Value → World → Prop} (h : L55_0 x0 x1 x5 w Q) : P55_0 x0 x1 x5 w Q :=
  aB mixed ad Tryz.func55 H55 (by kernel_rfl) h

noncomputable def C56 : Code := (Tryz.f56.body).getD .skip
noncomputable def H56 : Hints := ⟨[(4, [0, 1, 2, 7])], [], [(6, (.leaf [0, 1, 2, 3, 4, 5, 6, 7, 8, 9, 10, 11, 12, 13, 14, 15, 16, 17, 18, 19, 20, 21, 22, 23, 24, 25, 26, 27, 28, 29, 30, 31]))]⟩
noncomputable def T56_0 : List It := [.lp (nav [1, 1, 0, 1, 4, 5] C56), .blk 0, .jn (nav [1, 1, 1] C56)]
def P56_0 (x0 x1 x2 x7 : Value) (w : World) (Q : Value → World → Prop) : Prop := Part Tryz.prog 56 T56_0 [0, 1, 2, 7] [x0, x1, x2, x7] w Q
def F56 (a0 a1 a2 : Value) (w : World) (Q : Value → World → Prop) : Prop :=
  CallR Tryz.prog 75 [a1, a2] w fun t10 w =>
  cnd t10
  (Q (.bool false) w)
  (P56_0 a0 a1 a2 (.int .i64 0) w Q)
def L56_0 (x0 x1 x2 x7 : Value) (w : World) (Q : Value → World → Prop) : Prop :=
  wpB (nilv x0) fun t13 =>
  wpB (pureRun Tryz.prog (Instr.fieldAt 71 t13 0)) fun t14 =>
  wpB (ldv Tryz.prog 24 t14 w) fun t15 =>
  wpB (pureRun Tryz.prog (Builtin.len_ #[24] 3 #[t15])) fun t16 =>
  wpB (bp Tryz.prog .lss 3 x7 t16) fun t17 =>
  cnd t17
  (wpB (nilv x0) fun t21 =>
  wpB (pureRun Tryz.prog (Instr.fieldAt 71 t21 0)) fun t22 =>
  wpB (ldv Tryz.prog 24 t22 w.drew) fun t23 =>
  wpB (pureRun Tryz.prog (Instr.indexAt 24 t23 x7)) fun t25 =>
  wpB (pureRun Tryz.prog (Instr.fieldAt 42 t25 6)) fun t26 =>
  wpB (ldv Tryz.prog 3 t26 w.drew) fun t27 =>
  wpB (bp Tryz.prog .geq 3 t27 (.int .i64 0)) fun t28 =>
  gE t28 true (CallR Tryz.prog 75 [(gv t28 true x1), (gv t28 true x7)] w.drew) (fun t32 w =>
  wpB (gd t28 true (pureRun Tryz.prog (Op.unary .not t32))) fun t33 =>
  wpB (pickv t28 (some t33) (some (.bool false))) fun t34 =>
  wpB (gd t34 true (nilv (gv t34 true x0))) fun t37 =>
  wpB (gd t34 true (pureRun Tryz.prog (Instr.fieldAt 71 t37 0))) fun t38 =>
  wpB (gd t34 true (ldv Tryz.prog 24 t38 w)) fun t39 =>
  wpB (gd t34 true (pureRun Tryz.prog (Instr.indexAt 24 t39 (gv t34 true x7)))) fun t41 =>
  wpB (gd t34 true (ldv Tryz.prog 42 t41 w)) fun t42 =>
  wpB (gd t34 true (nilv (gv t34 true x0))) fun t44 =>
  wpB (gd t34 true (pureRun Tryz.prog (Instr.fieldAt 71 t44 0))) fun t45 =>
  wpB (gd t34 true (ldv Tryz.prog 24 t45 w)) fun t46 =>
  wpB (gd t34 true (pureRun Tryz.prog (Instr.indexAt 24 t46 (gv t34 true x2)))) fun t48 =>
  wpB (gd t34 true (ldv Tryz.prog 42 t48 w)) fun t49 =>
  gE t34 true (CallR Tryz.prog 18 [t42, t49] w) (fun t50 w =>
  wpB (pickv t34 (some t50) (some (.bool false))) fun t51 =>
  cnd t51
  (Q (.bool false) w)
  (wpB (bp Tryz.prog .add 3 x7 (.int .i64 1)) fun t19 =>
  P56_0 x0 x1 x2 t19 w Q)) w) w.drew)
  (Q (.bool true) w)
theorem F56_ok {a0 a1 a2 : Value} {w : World} {Q : Value → World → Prop} (h : F56 a0 a1 a2 w Q) : CallR Tryz.prog 56 [a0, a1, a2] w Q :=
  af mixed ad Tryz.func56 (c := C56) rfl H56 (Nat.le_of_ble_eq_true rfl) (by kernel_rfl) h
theorem L56_0_ok {x0 x1 x2 x7 : Value} {w : World} {Q : Value → World → Prop} (h : L56_0 x0 x1 x2 x7 w Q) : P56_0 x0 x1 x2 x7 w Q :=
  aB mixed ad Tryz.func56 H56 (by kernel_rfl) h

noncomputable def C57 : Code := (Tryz.f57.body).getD .skip
noncomputable def H57 : Hints := ⟨[(4, [0, 1, 4, 5])], [], [(7, (.leaf [0, 1, 2, 3, 4, 5, 6, 7, 8, 9, 10, 11, 12, 13, 14, 15, 16, 17, 18, 19, 20, 21, 22, 23, 24, 25, 26, 27, 28, 29, 30, 31, 32, 33, 34, 35, 36, 37, 38, 39, 40, 41, 42, 43, 44, 45]))]⟩
noncomputable def T57_0 : List It := [.lp (nav [1, 1, 0, 1, 4, 5] C57), .blk 0, .jn (nav [1, 1, 1] C57)]
def P57_0 (x0 x1 x4 x5 : Value) (w : World) (Q : Value → World → Prop) : Prop := Part Tryz.prog 57 T57_0 [0, 1, 4, 5] [x0, x1, x4, x5] w Q
def F57 (a0 a1 : Value) (w : World) (Q : Value → World → Prop) : Prop :=
  effv Tryz.prog (Instr.alloc 38 true (.tuple #[])) w fun t4 w =>
  wpB (bp Tryz.prog .lss 3 a1 (.int .i64 0)) fun t8 =>
  wpB (gd t8 false (pureRun Tryz.prog (Builtin.len_ #[24] 3 #[(gv t8 false a0)]))) fun t12 =>
  wpB (gd t8 false (bp Tryz.prog .geq 3 (gv t8 false a1) t12)) fun t13 =>
  wpB (pickv t8 (some (.bool true)) (some t13)) fun t14 =>
  wpB (gd t14 false (pureRun Tryz.prog (Instr.indexAt 24 (gv t14 false a0) (gv t14 false a1)))) fun t18 =>
  wpB (gd t14 false (pureRun Tryz.prog (Instr.fieldAt 42 t18 2))) fun t19 =>
  wpB (gd t14 false (pureRun Tryz.prog (Instr.fieldAt 36 t19 0))) fun t20 =>
  wpB (gd t14 false (ldv Tryz.prog 3 t20 w)) fun t21 =>
  gE t14 false (CallR Tryz.prog 76 [t21] w) (fun t22 w =>
  wpB (gd t14 false (be Tryz.prog .eql 3 (.tmp 22) (.const (.int .i64 0)) t22 (.int .i64 0))) fun t23 =>
  wpB (pickv t14 (some (.bool true)) (some t23)) fun t24 =>
  cnd t24
  (wpB (pureRun Tryz.prog (Instr.build 38 #[])) fun t25 =>
  effu Tryz.prog (Instr.storeAt 38 t4 t25) w fun w =>
  wpB (ldv Tryz.prog 38 t4 w) fun r4 => Q r4 w)
  (P57_0 a0 a1 t4 (.int .i64 0) w Q)) w
def L57_0 (x0 x1 x4 x5 : Value) (w : World) (Q : Value → World → Prop) : Prop :=
  wpB (pureRun Tryz.prog (Builtin.len_ #[24] 3 #[x0])) fun t28 =>
  wpB (bp Tryz.prog .lss 3 x5 t28) fun t29 =>
  cnd t29
  (wpB (pureRun Tryz.prog (Instr.indexAt 24 x0 x5)) fun t34 =>
  wpB (ldv Tryz.prog 42 t34 w) fun t35 =>
  effv Tryz.prog (Instr.alloc 42 true (.tuple #[])) w fun t6 w =>
  effu Tryz.prog (Instr.storeAt 42 t6 t35) w fun w =>
  wpB (pureRun Tryz.prog (Instr.fieldAt 42 t6 0)) fun t36 =>
  wpB (ldv Tryz.prog 3 t36 w.drew) fun t37 =>
  wpB (pureRun Tryz.prog (Instr.indexAt 24 x0 x1)) fun t40 =>
  wpB (pureRun Tryz.prog (Instr.fieldAt 42 t40 2)) fun t41 =>
  wpB (pureRun Tryz.prog (Instr.fieldAt 36 t41 1)) fun t42 =>
  wpB (ldv Tryz.prog 3 t42 w.drew) fun t43 =>
  wpB (be Tryz.prog .eql 3 (.tmp 37) (.tmp 43) t37 t43) fun t44 =>
  wpB (gd t44 true (pureRun Tryz.prog (Instr.fieldAt 42 t6 1))) fun t46 =>
  wpB (gd t44 true (ldv Tryz.prog 3 t46 w.drew)) fun t47 =>
  wpB (gd t44 true (pureRun Tryz.prog (Instr.indexAt 24 (gv t44 true x0) (gv t44 true x1)))) fun t50 =>
  wpB (gd t44 true (pureRun Tryz.prog (Instr.fieldAt 42 t50 2))) fun t51 =>
  wpB (gd t44 true (pureRun Tryz.prog (Instr.fieldAt 36 t51 2))) fun t52 =>
  wpB (gd t44 true (ldv Tryz.prog 3 t52 w.drew)) fun t53 =>
  wpB (gd t44 true (be Tryz.prog .eql 3 (.tmp 47) (.tmp 53) t47 t53)) fun t54 =>
  wpB (pickv t44 (some t54) (some (.bool false))) fun t55 =>
  wpB (gd t55 true (ldv Tryz.prog 42 t6 w.drew)) fun t57 =>
  wpB (gd t55 true (pureRun Tryz.prog (Instr.indexAt 24 (gv t55 true x0) (gv t55 true x1)))) fun t60 =>
  wpB (gd t55 true (ldv Tryz.prog 42 t60 w.drew)) fun t61 =>
  gE t55 true (CallR Tryz.prog 18 [t57, t61] w.drew) (fun t62 w =>
  wpB (pickv t55 (some t62) (some (.bool false))) fun t63 =>
  wpB (gd t63 true (pureRun Tryz.prog (Instr.fieldAt 42 t6 7))) fun t65 =>
  wpB (gd t63 true (pureRun Tryz.prog (Instr.fieldAt 40 t65 0))) fun t66 =>
  wpB (gd t63 true (ldv Tryz.prog 27 t66 w)) fun t67 =>
  wpB (gd t63 true (be Tryz.prog .eql 27 (.tmp 67) (.const (.int .i64 0)) t67 (.int .i64 0))) fun t68 =>
  wpB (pickv t63 (some t68) (some (.bool false))) fun t69 =>
  wpB (gd t69 true (pureRun Tryz.prog (Instr.fieldAt 42 t6 2))) fun t71 =>
  wpB (gd t69 true (pureRun Tryz.prog (Instr.fieldAt 36 t71 0))) fun t72 =>
  wpB (gd t69 true (ldv Tryz.prog 3 t72 w)) fun t73 =>
  wpB (gd t69 true (be Tryz.prog .eql 3 (.tmp 73) (.const (.int .i64 1)) t73 (.int .i64 1))) fun t74 =>
  wpB (gd (gv t69 true t74) false (pureRun Tryz.prog (Instr.fieldAt 42 t6 2))) fun t76 =>
  wpB (gd (gv t69 true t74) false (pureRun Tryz.prog (Instr.fieldAt 36 t76 0))) fun t77 =>
  wpB (gd (gv t69 true t74) false (ldv Tryz.prog 3 t77 w)) fun t78 =>
  wpB (gd (gv t69 true t74) false (be Tryz.prog .eql 3 (.tmp 78) (.const (.int .i64 2)) t78 (.int .i64 2))) fun t79 =>
  wpB (gd t69 true (pickv (gv t69 true t74) (some (.bool true)) (some t79))) fun t80 =>
  wpB (pickv t69 (some t80) (some (.bool false))) fun t81 =>
  cnd t81
  (wpB (pureRun Tryz.prog (Instr.fieldAt 42 t6 7)) fun t82 =>
  wpB (pureRun Tryz.prog (Instr.fieldAt 40 t82 1)) fun t83 =>
  wpB (ldv Tryz.prog 38 t83 w) fun t84 =>
  effu Tryz.prog (Instr.storeAt 38 x4 t84) w fun w =>
  wpB (ldv Tryz.prog 38 x4 w) fun r4 => Q r4 w)
  (wpB (bp Tryz.prog .add 3 x5 (.int .i64 1)) fun t31 =>
  P57_0 x0 x1 x4 t31 w Q)) w.drew)
  (wpB (pureRun Tryz.prog (Instr.build 38 #[])) fun t85 =>
  effu Tryz.prog (Instr.storeAt 38 x4 t85) w fun w =>
  wpB (ldv Tryz.prog 38 x4 w) fun r4_1 => Q r4_1 w)
theorem F57_ok {a0 a1 : Value} {w : World} {Q : Value → World → Prop} (h : F57 a0 a1 w Q) : CallR Tryz.prog 57 [a0, a1] w Q :=
  af mixed ad Tryz.func57 (c := C57) rfl H57 (Nat.le_of_ble_eq_true rfl) (by kernel_rfl) h
theorem L57_0_ok {x0 x1 x4 x5 : Value} {w : World} {Q : Value → World → Prop} (h : L57_0 x0 x1 x4 x5 w Q) : P57_0 x0 x1 x4 x5 w Q :=
  aB mixed ad Tryz.func57 H57 (by kernel_rfl) h

noncomputable def C58 : Code := (Tryz.f58.body).getD .skip
noncomputable def H58 : Hints := ⟨[], [(6, [1, 3])], []⟩
noncomputable def T58_0 : List It := [.jn (nav [1, 1, 1] C58)]
def P58_0 (x1 x3 : Value) (w : World) (Q : Value → World → Prop) : Prop := Part Tryz.prog 58 T58_0 [1, 3] [x1, x3] w Q
def F58 (a0 : Value) (w : World) (Q : Value → World → Prop) : Prop :=
  effv Tryz.prog (Instr.box 36 a0) w fun t1 w =>
  wpB (pureRun Tryz.prog (Instr.fieldAt 36 t1 0)) fun t5 =>
  wpB (ldv Tryz.prog 3 t5 w) fun t6 =>
  wpB (be Tryz.prog .eql 3 (.tmp 6) (.const (.int .i64 1)) t6 (.int .i64 1)) fun t7 =>
  cnd t7
  (P58_0 t1 (.int .i64 3) w Q)
  (wpB (pureRun Tryz.prog (Instr.fieldAt 36 t1 0)) fun t9 =>
  wpB (ldv Tryz.prog 3 t9 w) fun t10 =>
  CallR Tryz.prog 77 [t10] w fun t11 w =>
  cnd t11
  (P58_0 t1 (.int .i64 65535) w Q)
  (P58_0 t1 (.int .i64 0) w Q))
def L58_0 (x1 x3 : Value) (w : World) (Q : Value → World → Prop) : Prop :=
  wpB (pureRun Tryz.prog (Instr.fieldAt 36 x1 0)) fun t12 =>
  wpB (ldv Tryz.prog 3 t12 w) fun t13 =>
  CallR Tryz.prog 78 [t13, (.int .i64 1), (.int .i64 12)] w fun t14 w =>
  wpB (pureRun Tryz.prog (Op.unary .not t14)) fun t15 =>
  wpB (gd t15 false (pureRun Tryz.prog (Instr.fieldAt 36 x1 3))) fun t17 =>
  wpB (gd t15 false (ldv Tryz.prog 3 t17 w)) fun t18 =>
  gE t15 false (CallR Tryz.prog 78 [t18, (.int .i64 0), (gv t15 false x3)] w) (fun t20 w =>
  wpB (gd t15 false (pureRun Tryz.prog (Op.unary .not t20))) fun t21 =>
  wpB (pickv t15 (some (.bool true)) (some t21)) fun t22 =>
  wpB (gd t22 false (pureRun Tryz.prog (Instr.fieldAt 36 x1 0))) fun t24 =>
  wpB (gd t22 false (ldv Tryz.prog 3 t24 w)) fun t25 =>
  gE t22 false (CallR Tryz.prog 79 [t25] w) (fun t26 w =>
  wpB (gd t22 false (pureRun Tryz.prog (Op.unary .not t26))) fun t27 =>
  wpB (gd (gv t22 false t27) true (pureRun Tryz.prog (Instr.fieldAt 36 x1 4))) fun t29 =>
  wpB (gd (gv t22 false t27) true (ldv Tryz.prog 34 t29 w)) fun t30 =>
  wpB (gd (gv t22 false t27) true (be Tryz.prog .neq 34 (.tmp 30) (.const (.int .u64 0)) t30 (.int .u64 0))) fun t31 =>
  wpB (gd t22 false (pickv (gv t22 false t27) (some t31) (some (.bool false)))) fun t32 =>
  wpB (pickv t22 (some (.bool true)) (some t32)) fun t33 =>
  wpB (gd t33 false (pureRun Tryz.prog (Instr.fieldAt 36 x1 0))) fun t35 =>
  wpB (gd t33 false (ldv Tryz.prog 3 t35 w)) fun t36 =>
  wpB (gd t33 false (be Tryz.prog .neq 3 (.tmp 36) (.const (.int .i64 9)) t36 (.int .i64 9))) fun t37 =>
  wpB (gd (gv t33 false t37) true (pureRun Tryz.prog (Instr.fieldAt 36 x1 5))) fun t39 =>
  wpB (gd (gv t33 false t37) true (ldv Tryz.prog 34 t39 w)) fun t40 =>
  wpB (gd (gv t33 false t37) true (be Tryz.prog .neq 34 (.tmp 40) (.const (.int .u64 0)) t40 (.int .u64 0))) fun t41 =>
  wpB (gd t33 false (pickv (gv t33 false t37) (some t41) (some (.bool false)))) fun t42 =>
  wpB (pickv t33 (some (.bool true)) (some t42)) fun t43 =>
  cnd t43
  (Q (.bool false) w)
  (wpB (pureRun Tryz.prog (Instr.fieldAt 36 x1 0)) fun t44 =>
  wpB (ldv Tryz.prog 3 t44 w) fun t45 =>
  CallR Tryz.prog 76 [t45] w fun t46 w =>
  wpB (be Tryz.prog .eql 3 (.tmp 46) (.const (.int .i64 0)) t46 (.int .i64 0)) fun t47 =>
  cnd t47
  (wpB (pureRun Tryz.prog (Instr.fieldAt 36 x1 1)) fun t48 =>
  wpB (ldv Tryz.prog 3 t48 w) fun t49 =>
  wpB (be Tryz.prog .eql 3 (.tmp 49) (.const (.int .i64 0)) t49 (.int .i64 0)) fun t50 =>
  wpB (gd t50 true (pureRun Tryz.prog (Instr.fieldAt 36 x1 2))) fun t52 =>
  wpB (gd t50 true (ldv Tryz.prog 3 t52 w)) fun t53 =>
  wpB (gd t50 true (be Tryz.prog .eql 3 (.tmp 53) (.const (.int .i64 0)) t53 (.int .i64 0))) fun t54 =>
  wpB (pickv t50 (some t54) (some (.bool false))) fun t55 =>
  Q t55 w)
  (wpB (pureRun Tryz.prog (Instr.fieldAt 36 x1 1)) fun t56 =>
  wpB (ldv Tryz.prog 3 t56 w) fun t57 =>
  CallR Tryz.prog 78 [t57, (.int .i64 0), (.int .i64 63)] w fun t58 w =>
  wpB (gd t58 true (pureRun Tryz.prog (Instr.fieldAt 36 x1 2))) fun t60 =>
  wpB (gd t58 true (ldv Tryz.prog 3 t60 w)) fun t61 =>
  gE t58 true (CallR Tryz.prog 78 [t61, (.int .i64 0), (.int .i64 999)] w) (fun t62 w =>
  wpB (pickv t58 (some t62) (some (.bool false))) fun t63 =>
  Q t63 w) w))) w) w
theorem F58_ok {a0 : Value} {w : World} {Q : Value → World → Prop} (h : F58 a0 w Q) : CallR Tryz.prog 58 [a0] w Q :=
  af mixed ad Tryz.func58 (c := C58) rfl H58 (Nat.le_of_ble_eq_true rfl) (by kernel_rfl) h
theorem L58_0_ok {x1 x3 : Value} {w : World} {Q : Value → World → Prop} (h : L58_0 x1 x3 w Q) : P58_0 x1 x3 w Q :=
  ax mixed ad Tryz.func58 H58 (by kernel_rfl) h

noncomputable def C59 : Code := (Tryz.f59.body).getD .skip
noncomputable def H59 : Hints := ⟨[], [(6, [0, 1, 6, 7, 8, 10]), (41, [8, 11])], [(12, (.leaf [0, 1, 2, 3, 4, 5, 6, 7, 8, 9, 10, 11, 12, 13]))]⟩
noncomputable def T59_0 : List It := [.jn (nav [1, 1, 1, 1] C59)]
noncomputable def T59_1 : List It := [.jn (nav [1, 1, 1, 1, 1, 1] C59)]
def P59_0 (x0 x1 x6 x7 x8 x10 : Value) (w : World) (Q : Value → World → Prop) : Prop := Part Tryz.prog 59 T59_0 [0, 1, 6, 7, 8, 10] [x0, x1, x6, x7, x8, x10] w Q
def P59_1 (x8 x11 : Value) (w : World) (Q : Value → World → Prop) : Prop := Part Tryz.prog 59 T59_1 [8, 11] [x8, x11] w Q
def F59 (a0 a1 a2 a3 : Value) (w : World) (Q : Value → World → Prop) : Prop :=
  effv Tryz.prog (Instr.box 36 a2) w fun t6 w =>
  effv Tryz.prog (Instr.box 38 a3) w fun t7 w =>
  effv Tryz.prog (Instr.alloc 40 true (.tuple #[])) w fun t8 w =>
  wpB (ldv Tryz.prog 36 t6 w) fun t13 =>
  wpB (ldv Tryz.prog 38 t7 w) fun t14 =>
  CallR Tryz.prog 80 [a0, t13, t14] w fun t15 w =>
  wpB (pureRun Tryz.prog (Op.unary .not t15)) fun t16 =>
  cnd t16
  (wpB (pureRun Tryz.prog (Instr.build 40 #[(0, (.int .i64 2))])) fun t17 =>
  effu Tryz.prog (Instr.storeAt 40 t8 t17) w fun w =>
  wpB (ldv Tryz.prog 40 t8 w) fun r8 => Q (.tuple #[r8, (.bool true)]) w)
  (wpB (pureRun Tryz.prog (Instr.fieldAt 36 t6 0)) fun t18 =>
  wpB (ldv Tryz.prog 3 t18 w) fun t19 =>
  CallR Tryz.prog 76 [t19] w fun t20 w =>
  wpB (be Tryz.prog .neq 3 (.tmp 20) (.const (.int .i64 0)) t20 (.int .i64 0)) fun t21 =>
  cnd t21
  (wpB (pureRun Tryz.prog (Instr.fieldAt 38 t7 0)) fun t23 =>
  wpB (ldv Tryz.prog 3 t23 w) fun t24 =>
  wpB (pureRun Tryz.prog (Instr.fieldAt 38 t7 1)) fun t25 =>
  wpB (ldv Tryz.prog 3 t25 w) fun t26 =>
  CallR Tryz.prog 81 [a0, t24, t26] w fun t27 w =>
  P59_0 a0 a1 t6 t7 t8 t27 w Q)
  (P59_0 a0 a1 t6 t7 t8 (.int .i64 (-1)) w Q))
def L59_0 (x0 x1 x6 x7 x8 x10 : Value) (w : World) (Q : Value → World → Prop) : Prop :=
  wpB (pureRun Tryz.prog (Instr.fieldAt 36 x6 0)) fun t28 =>
  wpB (ldv Tryz.prog 3 t28 w) fun t29 =>
  wpB (be Tryz.prog .eql 3 (.tmp 29) (.const (.int .i64 1)) t29 (.int .i64 1)) fun t37 =>
  cnd t37
  (wpB (pureRun Tryz.prog (Instr.build 40 #[])) fun t38 =>
  effu Tryz.prog (Instr.storeAt 40 x8 t38) w fun w =>
  wpB (ldv Tryz.prog 40 x8 w) fun r8 => Q (.tuple #[r8, (.bool false)]) w)
  (wpB (be Tryz.prog .eql 3 (.tmp 29) (.const (.int .i64 2)) t29 (.int .i64 2)) fun t40 =>
  cnd t40
  (wpB (pureRun Tryz.prog (Instr.fieldAt 36 x6 3)) fun t42 =>
  wpB (ldv Tryz.prog 3 t42 w.drew) fun t43 =>
  wpB (bp Tryz.prog .lss 3 t43 (.int .i64 1)) fun t44 =>
  wpB (gd t44 false (pureRun Tryz.prog (Instr.fieldAt 36 x6 3))) fun t46 =>
  wpB (gd t44 false (ldv Tryz.prog 3 t46 w.drew)) fun t47 =>
  wpB (gd t44 false (nilv (gv t44 false x0))) fun t49 =>
  wpB (gd t44 false (pureRun Tryz.prog (Instr.fieldAt 112 t49 0))) fun t50 =>
  wpB (gd t44 false (pureRun Tryz.prog (Instr.fieldAt 23 t50 2))) fun t51 =>
  wpB (gd t44 false (ldv Tryz.prog 3 t51 w.drew)) fun t52 =>
  wpB (gd t44 false (bp Tryz.prog .gtr 3 t47 t52)) fun t53 =>
  wpB (pickv t44 (some (.bool true)) (some t53)) fun t54 =>
  cnd t54
  (wpB (pureRun Tryz.prog (Instr.build 40 #[(0, (.int .i64 5))])) fun t55 =>
  effu Tryz.prog (Instr.storeAt 40 x8 t55) w.drew fun w =>
  wpB (ldv Tryz.prog 40 x8 w) fun r8_1 => Q (.tuple #[r8_1, (.bool true)]) w)
  (wpB (nilv x0) fun t58 =>
  wpB (pureRun Tryz.prog (Instr.fieldAt 112 t58 4)) fun t59 =>
  wpB (ldv Tryz.prog 109 t59 w.drew) fun t60 =>
  wpB (pureRun Tryz.prog (Instr.indexAt 109 t60 x10)) fun t62 =>
  wpB (pureRun Tryz.prog (Instr.fieldAt 126 t62 4)) fun t63 =>
  wpB (ldv Tryz.prog 4 t63 w.drew) fun t64 =>
  wpB (pureRun Tryz.prog (Op.unary .not t64)) fun t65 =>
  cnd t65
  (wpB (pureRun Tryz.prog (Instr.build 40 #[(0, (.int .i64 3))])) fun t66 =>
  effu Tryz.prog (Instr.storeAt 40 x8 t66) w.drew fun w =>
  wpB (ldv Tryz.prog 40 x8 w) fun r8_2 => Q (.tuple #[r8_2, (.bool true)]) w)
  (wpB (pureRun Tryz.prog (Instr.build 40 #[])) fun t67 =>
  effu Tryz.prog (Instr.storeAt 40 x8 t67) w.drew fun w =>
  wpB (ldv Tryz.prog 40 x8 w) fun r8_3 => Q (.tuple #[r8_3, (.bool false)]) w)))
  (wpB (be Tryz.prog .eql 3 (.tmp 29) (.const (.int .i64 3)) t29 (.int .i64 3)) fun t69 =>
  cnd t69
  (wpB (nilv x0) fun t71 =>
  wpB (pureRun Tryz.prog (Instr.fieldAt 112 t71 5)) fun t72 =>
  wpB (ldv Tryz.prog 26 t72 w) fun t73 =>
  wpB (pureRun Tryz.prog (Instr.indexAt 26 t73 x1)) fun t75 =>
  wpB (ldv Tryz.prog 3 t75 w) fun t76 =>
  wpB (be Tryz.prog .eql 3 (.tmp 76) (.const (.int .i64 15)) t76 (.int .i64 15)) fun t77 =>
  cnd t77
  (P59_1 x8 (.int .i64 8) w Q)
  (P59_1 x8 (.int .i64 0) w Q))
  (wpB (be Tryz.prog .eql 3 (.tmp 29) (.const (.int .i64 4)) t29 (.int .i64 4)) fun t79 =>
  cnd t79
  (wpB (nilv x0) fun t81 =>
  wpB (pureRun Tryz.prog (Instr.fieldAt 112 t81 5)) fun t82 =>
  wpB (ldv Tryz.prog 26 t82 w) fun t83 =>
  wpB (pureRun Tryz.prog (Instr.indexAt 26 t83 x1)) fun t85 =>
  wpB (ldv Tryz.prog 3 t85 w) fun t86 =>
  wpB (be Tryz.prog .eql 3 (.tmp 86) (.const (.int .i64 0)) t86 (.int .i64 0)) fun t87 =>
  cnd t87
  (P59_1 x8 (.int .i64 4) w Q)
  (P59_1 x8 (.int .i64 0) w Q))
  (wpB (be Tryz.prog .eql 3 (.tmp 29) (.const (.int .i64 5)) t29 (.int .i64 5)) fun t89 =>
  cnd t89
  (wpB (nilv x0) fun t92 =>
  wpB (pureRun Tryz.prog (Instr.fieldAt 112 t92 5)) fun t93 =>
  wpB (ldv Tryz.prog 26 t93 w) fun t94 =>
  wpB (pureRun Tryz.prog (Instr.indexAt 26 t94 x1)) fun t96 =>
  wpB (ldv Tryz.prog 3 t96 w) fun t97 =>
  wpB (be Tryz.prog .eql 3 (.tmp 97) (.const (.int .i64 0)) t97 (.int .i64 0)) fun t98 =>
  cnd t98
  (P59_1 x8 (.int .i64 4) w Q)
  (wpB (pureRun Tryz.prog (Instr.fieldAt 38 x7 0)) fun t102 =>
  wpB (ldv Tryz.prog 3 t102 w) fun t103 =>
  wpB (pureRun Tryz.prog (Instr.fieldAt 38 x7 1)) fun t104 =>
  wpB (ldv Tryz.prog 3 t104 w) fun t105 =>
  CallR Tryz.prog 82 [x0, x1, t103, t105] w fun t106 w =>
  cnd t106
  (P59_1 x8 (.int .i64 0) w Q)
  (wpB (nilv x0) fun t109 =>
  wpB (pureRun Tryz.prog (Instr.fieldAt 112 t109 6)) fun t110 =>
  wpB (ldv Tryz.prog 110 t110 w) fun t111 =>
  wpB (pureRun Tryz.prog (Instr.indexAt 110 t111 x1)) fun t113 =>
  wpB (ldv Tryz.prog 127 t113 w) fun t114 =>
  wpB (pureRun Tryz.prog (Builtin.len_ #[127] 3 #[t114])) fun t115 =>
  wpB (be Tryz.prog .eql 3 (.tmp 115) (.const (.int .i64 8)) t115 (.int .i64 8)) fun t116 =>
  cnd t116
  (P59_1 x8 (.int .i64 8) w Q)
  (wpB (nilv x0) fun t119 =>
  wpB (pureRun Tryz.prog (Instr.fieldAt 112 t119 4)) fun t120 =>
  wpB (ldv Tryz.prog 109 t120 w) fun t121 =>
  wpB (pureRun Tryz.prog (Instr.indexAt 109 t121 x10)) fun t123 =>
  wpB (pureRun Tryz.prog (Instr.fieldAt 126 t123 4)) fun t124 =>
  wpB (ldv Tryz.prog 4 t124 w) fun t125 =>
  wpB (pureRun Tryz.prog (Op.unary .not t125)) fun t126 =>
  cnd t126
  (P59_1 x8 (.int .i64 3) w Q)
  (P59_1 x8 (.int .i64 0) w Q)))))
  (wpB (be Tryz.prog .eql 3 (.tmp 29) (.const (.int .i64 10)) t29 (.int .i64 10)) fun t128 =>
  cnd t128
  (wpB (nilv x0) fun t130 =>
  wpB (pureRun Tryz.prog (Instr.fieldAt 112 t130 4)) fun t131 =>
  wpB (ldv Tryz.prog 109 t131 w) fun t132 =>
  wpB (pureRun Tryz.prog (Instr.indexAt 109 t132 x10)) fun t134 =>
  wpB (pureRun Tryz.prog (Instr.fieldAt 126 t134 4)) fun t135 =>
  wpB (ldv Tryz.prog 4 t135 w) fun t136 =>
  wpB (pureRun Tryz.prog (Op.unary .not t136)) fun t137 =>
  cnd t137
  (P59_1 x8 (.int .i64 3) w Q)
  (P59_1 x8 (.int .i64 0) w Q))
  (wpB (be Tryz.prog .eql 3 (.tmp 29) (.const (.int .i64 12)) t29 (.int .i64 12)) fun t139 =>
  cnd t139
  (wpB (nilv x0) fun t141 =>
  wpB (pureRun Tryz.prog (Instr.fieldAt 112 t141 4)) fun t142 =>
  wpB (ldv Tryz.prog 109 t142 w) fun t143 =>
  wpB (pureRun Tryz.prog (Instr.indexAt 109 t143 x10)) fun t145 =>
  wpB (pureRun Tryz.prog (Instr.fieldAt 126 t145 4)) fun t146 =>
  wpB (ldv Tryz.prog 4 t146 w) fun t147 =>
  wpB (pureRun Tryz.prog (Op.unary .not t147)) fun t148 =>
  cnd t148
  (wpB (pureRun Tryz.prog (Instr.build 40 #[(0, (.int .i64 3))])) fun t149 =>
  effu Tryz.prog (Instr.storeAt 40 x8 t149) w fun w =>
  wpB (ldv Tryz.prog 40 x8 w) fun r8_4 => Q (.tuple #[r8_4, (.bool true)]) w)
  (wpB (nilv x0) fun t151 =>
  wpB (pureRun Tryz.prog (Instr.fieldAt 112 t151 4)) fun t152 =>
  wpB (ldv Tryz.prog 109 t152 w) fun t153 =>
  wpB (pureRun Tryz.prog (Instr.indexAt 109 t153 x10)) fun t155 =>
  wpB (pureRun Tryz.prog (Instr.fieldAt 126 t155 3)) fun t156 =>
  wpB (ldv Tryz.prog 3 t156 w) fun t157 =>
  wpB (pureRun Tryz.prog (Instr.build 40 #[(2, t157)])) fun t158 =>
  effu Tryz.prog (Instr.storeAt 40 x8 t158) w fun w =>
  wpB (ldv Tryz.prog 40 x8 w) fun r8_5 => Q (.tuple #[r8_5, (.bool true)]) w))
  (wpB (be Tryz.prog .eql 3 (.tmp 29) (.const (.int .i64 11)) t29 (.int .i64 11)) fun t160 =>
  cnd t160
  (P59_1 x8 (.int .i64 0) w Q)
  (wpB (ldv Tryz.prog 36 x6 w) fun t33 =>
  wpB (ldv Tryz.prog 38 x7 w) fun t34 =>
  CallR Tryz.prog 83 [x0, x1, x10, t33, t34] w fun t35 w =>
  effu Tryz.prog (Instr.storeAt 40 x8 t35) w fun w =>
  wpB (ldv Tryz.prog 40 x8 w) fun r8_6 => Q (.tuple #[r8_6, (.bool true)]) w))))))))
def L59_1 (x8 x11 : Value) (w : World) (Q : Value → World → Prop) : Prop :=
  wpB (pureRun Tryz.prog (Instr.build 40 #[(0, x11)])) fun t162 =>
  effu Tryz.prog (Instr.storeAt 40 x8 t162) w fun w =>
  wpB (ldv Tryz.prog 40 x8 w) fun r8 => Q (.tuple #[r8, (.bool true)]) w
theorem F59_ok {a0 a1 a2 a3 : Value} {w : World} {Q : Value → World → Prop} (h : F59 a0 a1 a2 a3 w Q) : CallR Tryz.prog 59 [a0, a1, a2, a3] w Q :=
  af mixed ad Tryz.func59 (c := C59) rfl H59 (Nat.le_of_ble_eq_true rfl) (by kernel_rfl) h
theorem L59_0_ok {x0 x1 x6 x7 x8 x10 : Value} {w : World} {Q : Value → World → Prop} (h : L59_0 x0 x1 x6 x7 x8 x10 w Q) : P59_0 x0 x1 x6 x7 x8 x10 w Q :=
  ax mixed ad Tryz.func59 H59 (by kernel_rfl) h
theorem L59_1_ok {x8 x11 : Value} {w : World} {Q : Value → World → Prop} (h : L59_1 x8 x11 w Q) : P59_1 x8 x11 w Q :=
  ax mixed ad Tryz.func59 H59 (by kernel_rfl) h

noncomputable def C60 : Code := (Tryz.f60.body).getD .skip
noncomputable def H60 : Hints := ⟨[(3, [0, 3, 4]), (10, [0, 3, 4, 5, 6]), (15, [0, 3, 7])], [], [(1, (.ext [0, 1, 2, 4, 5, 6, 8, 9, 10, 13, 14, 15, 18, 19, 20, 3, 7, 11, 16, 21, 12, 17, 22, 23, 24, 25])), (12, (.ext [0, 2, 3, 4, 6, 10, 1, 5, 7, 8, 9, 11, 12, 13, 14, 15, 16, 17])), (13, (.leaf [0, 1, 2, 3, 4, 5, 6, 7, 8, 9, 10])), (17, (.ext [0, 1, 2, 3, 5, 6, 7, 9, 4, 8, 10, 11, 12, 13, 14, 15, 16, 17]))]⟩
noncomputable def T60_0 : List It := [.lp (nav [1, 1, 0, 1, 4, 5] C60), .blk 0, .jn (nav [1, 1, 1] C60)]
noncomputable def T60_1 : List It := [.lp (nav [1, 1, 0, 1, 4, 5, 1, 0, 4, 1, 1, 1, 1, 0, 1, 4, 5] C60), .blk 2, .jn (nav [1, 1, 0, 1, 4, 5, 1, 0, 4, 1, 1, 1, 1, 1] C60), .blk 1, .jn (nav [1, 1, 0, 1, 4, 5, 1, 1] C60), .lp (nav [1, 1, 0, 1, 4, 5] C60), .blk 0, .jn (nav [1, 1, 1] C60)]
noncomputable def T60_2 : List It := [.lp (nav [1, 1, 1, 0, 1, 4, 5] C60), .blk 4, .jn (nav [1, 1, 1, 1] C60)]
def P60_0 (x0 x3 x4 : Value) (w : World) (Q : Value → World → Prop) : Prop := Part Tryz.prog 60 T60_0 [0, 3, 4] [x0, x3, x4] w Q
def P60_1 (x0 x3 x4 x5 x6 : Value) (w : World) (Q : Value → World → Prop) : Prop := Part Tryz.prog 60 T60_1 [0, 3, 4, 5, 6] [x0, x3, x4, x5, x6] w Q
def P60_2 (x0 x3 x7 : Value) (w : World) (Q : Value → World → Prop) : Prop := Part Tryz.prog 60 T60_2 [0, 3, 7] [x0, x3, x7] w Q
def F60 (a0 : Value) (w : World) (Q : Value → World → Prop) : Prop :=
  wpB (nilv a0) fun t9 =>
  wpB (pureRun Tryz.prog (Instr.fieldAt 112 t9 0)) fun t10 =>
  wpB (nilv a0) fun t13 =>
  wpB (pureRun Tryz.prog (Instr.fieldAt 112 t13 1)) fun t14 =>
  wpB (nilv a0) fun t17 =>
  wpB (pureRun Tryz.prog (Instr.fieldAt 112 t17 2)) fun t18 =>
  wpB (nilv a0) fun t22 =>
  wpB (pureRun Tryz.prog (Instr.fieldAt 112 t22 3)) fun t23 =>
  wpB (nilv a0) fun t27 =>
  wpB (pureRun Tryz.prog (Instr.fieldAt 112 t27 5)) fun t28 =>
  wpB (ldv Tryz.prog 23 t10 w.drew) fun t11 =>
  wpB (ldv Tryz.prog 4 t14 w.drew) fun t15 =>
  wpB (ldv Tryz.prog 26 t18 w.drew) fun t19 =>
  wpB (ldv Tryz.prog 26 t23 w.drew) fun t24 =>
  wpB (ldv Tryz.prog 26 t28 w.drew) fun t29 =>
  effv Tryz.prog (Builtin.append_ #[26, 26] 26 #[(.slice none 0 0), t19]) w.drew fun t20 w =>
  effv Tryz.prog (Builtin.append_ #[26, 26] 26 #[(.slice none 0 0), t24]) w fun t25 w =>
  effv Tryz.prog (Builtin.append_ #[26, 26] 26 #[(.slice none 0 0), t29]) w fun t30 w =>
  wpB (pureRun Tryz.prog (Instr.build 112 #[(0, t11), (1, t15), (2, t20), (3, t25), (5, t30)])) fun t31 =>
  effv Tryz.prog (Instr.box 112 t31) w fun t32 w =>
  P60_0 a0 t32 (.int .i64 0) w Q
def L60_0 (x0 x3 x4 : Value) (w : World) (Q : Value → World → Prop) : Prop :=
  wpB (nilv x0) fun t35 =>
  wpB (pureRun Tryz.prog (Instr.fieldAt 112 t35 4)) fun t36 =>
  wpB (ldv Tryz.prog 109 t36 w) fun t37 =>
  wpB (pureRun Tryz.prog (Builtin.len_ #[109] 3 #[t37])) fun t38 =>
  wpB (bp Tryz.prog .lss 3 x4 t38) fun t39 =>
  cnd t39
  (wpB (nilv x0) fun t43 =>
  wpB (pureRun Tryz.prog (Instr.fieldAt 112 t43 4)) fun t44 =>
  wpB (ldv Tryz.prog 109 t44 w) fun t45 =>
  wpB (pureRun Tryz.prog (Instr.indexAt 109 t45 x4)) fun t47 =>
  wpB (ldv Tryz.prog 126 t47 w) fun t48 =>
  effv Tryz.prog (Instr.alloc 126 true (.tuple #[])) w fun t5 w =>
  effu Tryz.prog (Instr.storeAt 126 t5 t48) w fun w =>
  wpB (pureRun Tryz.prog (Instr.fieldAt 126 t5 5)) fun t49 =>
  wpB (ldv Tryz.prog 26 t49 w) fun t50 =>
  effv Tryz.prog (Builtin.append_ #[26, 26] 26 #[(.slice none 0 0), t50]) w fun t51 w =>
  wpB (pureRun Tryz.prog (Instr.fieldAt 126 t5 5)) fun t52 =>
  effu Tryz.prog (Instr.storeAt 26 t52 t51) w fun w =>
  wpB (pureRun Tryz.prog (Instr.fieldAt 126 t5 7)) fun t53 =>
  wpB (ldv Tryz.prog 44 t53 w) fun t54 =>
  effv Tryz.prog (Builtin.append_ #[44, 44] 44 #[(.slice none 0 0), t54]) w fun t55 w =>
  wpB (pureRun Tryz.prog (Instr.fieldAt 126 t5 7)) fun t56 =>
  effu Tryz.prog (Instr.storeAt 44 t56 t55) w fun w =>
  wpB (pureRun Tryz.prog (Instr.fieldAt 126 t5 6)) fun t57 =>
  effu Tryz.prog (Instr.storeAt 84 t57 (.slice none 0 0)) w fun w =>
  P60_1 x0 x3 x4 t5 (.int .i64 0) w Q)
  (P60_2 x0 x3 (.int .i64 0) w Q)
def L60_1 (x0 x3 x4 x5 x6 : Value) (w : World) (Q : Value → World → Prop) : Prop :=
  wpB (nilv x0) fun t60 =>
  wpB (pureRun Tryz.prog (Instr.fieldAt 112 t60 4)) fun t61 =>
  wpB (ldv Tryz.prog 109 t61 w) fun t62 =>
  wpB (pureRun Tryz.prog (Instr.indexAt 109 t62 x4)) fun t64 =>
  wpB (pureRun Tryz.prog (Instr.fieldAt 126 t64 6)) fun t65 =>
  wpB (ldv Tryz.prog 84 t65 w) fun t66 =>
  wpB (pureRun Tryz.prog (Builtin.len_ #[84] 3 #[t66])) fun t67 =>
  wpB (bp Tryz.prog .lss 3 x6 t67) fun t68 =>
  cnd t68
  (wpB (pureRun Tryz.prog (Instr.fieldAt 126 x5 6)) fun t71 =>
  wpB (nilv x0) fun t74 =>
  wpB (pureRun Tryz.prog (Instr.fieldAt 112 t74 4)) fun t75 =>
  wpB (ldv Tryz.prog 84 t71 w.drew) fun t72 =>
  wpB (ldv Tryz.prog 109 t75 w.drew) fun t76 =>
  wpB (pureRun Tryz.prog (Instr.indexAt 109 t76 x4)) fun t78 =>
  wpB (pureRun Tryz.prog (Instr.fieldAt 126 t78 6)) fun t79 =>
  wpB (ldv Tryz.prog 84 t79 w.drew) fun t80 =>
  wpB (pureRun Tryz.prog (Instr.indexAt 84 t80 x6)) fun t82 =>
  wpB (ldv Tryz.prog 102 t82 w.drew) fun t83 =>
  effv Tryz.prog (Builtin.append_ #[102, 102] 102 #[(.slice none 0 0), t83]) w.drew fun t84 w =>
  effv Tryz.prog (Instr.buildSlice 84 1 #[(0, t84)]) w fun t85 w =>
  effv Tryz.prog (Builtin.append_ #[84, 84] 84 #[t72, t85]) w fun t86 w =>
  wpB (pureRun Tryz.prog (Instr.fieldAt 126 x5 6)) fun t87 =>
  effu Tryz.prog (Instr.storeAt 84 t87 t86) w fun w =>
  wpB (bp Tryz.prog .add 3 x6 (.int .i64 1)) fun t70 =>
  P60_1 x0 x3 x4 x5 t70 w Q)
  (wpB (nilv x3) fun t90 =>
  wpB (pureRun Tryz.prog (Instr.fieldAt 112 t90 4)) fun t91 =>
  wpB (ldv Tryz.prog 109 t91 w.drew) fun t92 =>
  wpB (ldv Tryz.prog 126 x5 w.drew) fun t93 =>
  effv Tryz.prog (Instr.buildSlice 109 1 #[(0, t93)]) w.drew fun t94 w =>
  effv Tryz.prog (Builtin.append_ #[109, 109] 109 #[t92, t94]) w fun t95 w =>
  wpB (nilv x3) fun t96 =>
  wpB (pureRun Tryz.prog (Instr.fieldAt 112 t96 4)) fun t97 =>
  effu Tryz.prog (Instr.storeAt 109 t97 t95) w fun w =>
  wpB (bp Tryz.prog .add 3 x4 (.int .i64 1)) fun t41 =>
  P60_0 x0 x3 t41 w Q)
def L60_2 (x0 x3 x7 : Value) (w : World) (Q : Value → World → Prop) : Prop :=
  wpB (nilv x0) fun t100 =>
  wpB (pureRun Tryz.prog (Instr.fieldAt 112 t100 6)) fun t101 =>
  wpB (ldv Tryz.prog 110 t101 w) fun t102 =>
  wpB (pureRun Tryz.prog (Builtin.len_ #[110] 3 #[t102])) fun t103 =>
  wpB (bp Tryz.prog .lss 3 x7 t103) fun t104 =>
  cnd t104
  (wpB (nilv x3) fun t109 =>
  wpB (pureRun Tryz.prog (Instr.fieldAt 112 t109 6)) fun t110 =>
  wpB (nilv x0) fun t113 =>
  wpB (pureRun Tryz.prog (Instr.fieldAt 112 t113 6)) fun t114 =>
  wpB (ldv Tryz.prog 110 t110 w.drew) fun t111 =>
  wpB (ldv Tryz.prog 110 t114 w.drew) fun t115 =>
  wpB (pureRun Tryz.prog (Instr.indexAt 110 t115 x7)) fun t117 =>
  wpB (ldv Tryz.prog 127 t117 w.drew) fun t118 =>
  effv Tryz.prog (Builtin.append_ #[127, 127] 127 #[(.slice none 0 0), t118]) w.drew fun t119 w =>
  effv Tryz.prog (Instr.buildSlice 110 1 #[(0, t119)]) w fun t120 w =>
  effv Tryz.prog (Builtin.append_ #[110, 110] 110 #[t111, t120]) w fun t121 w =>
  wpB (nilv x3) fun t122 =>
  wpB (pureRun Tryz.prog (Instr.fieldAt 112 t122 6)) fun t123 =>
  effu Tryz.prog (Instr.storeAt 110 t123 t121) w fun w =>
  wpB (bp Tryz.prog .add 3 x7 (.int .i64 1)) fun t106 =>
  P60_2 x0 x3 t106 w Q)
  (Q x3 w)
theorem F60_ok {a0 : Value} {w : World} {Q : Value → World → Prop} (h : F60 a0 w Q) : CallR Tryz.prog 60 [a0] w Q :=
  af mixed ad Tryz.func60 (c := C60) rfl H60 (Nat.le_of_ble_eq_true rfl) (by kernel_rfl) h
theorem L60_0_ok {x0 x3 x4 : Value} {w : World} {Q : Value → World → Prop} (h : L60_0 x0 x3 x4 w Q) : P60_0 x0 x3 x4 w Q :=
  aB mixed ad Tryz.func60 H60 (by kernel_rfl) h
theorem L60_1_ok {x0 x3 x4 x5 x6 : Value} {w : World} {Q : Value → World → Prop} (h : L60_1 x0 x3 x4 x5 x6 w Q) : P60_1 x0 x3 x4 x5 x6 w Q :=
  aB mixed ad Tryz.func60 H60 (by kernel_rfl) h
theorem L60_2_ok {x0 x3 x7 : Value} {w : World} {Q : Value → World → Prop} (h : L60_2 x0 x3 x7 w Q) : P60_2 x0 x3 x7 w Q :=
  aB mixed ad Tryz.func60 H60 (by kernel_rfl) h

noncomputable def C61 : Code := (Tryz.f61.body).getD .skip
noncomputable def H61 : Hints := ⟨[], [(9, [])], []⟩
noncomputable def T61_0 : List It := [.jn (nav [1, 1, 1, 0, 4, 1, 2, 1, 1] C61), .blk 0, .jn (nav [1, 1, 1, 1] C61)]
def P61_0 (w : World) (Q : Value → World → Prop) : Prop := Part Tryz.prog 61 T61_0 [] [] w Q
def F61 (a0 a1 a2 a3 a4 : Value) (w : World) (Q : Value → World → Prop) : Prop :=
  effv Tryz.prog (Instr.box 36 a2) w fun t7 w =>
  effv Tryz.prog (Instr.box 38 a3) w fun t8 w =>
  effv Tryz.prog (Instr.box 40 a4) w fun t9 w =>
  wpB (ldv Tryz.prog 36 t7 w) fun t13 =>
  CallR Tryz.prog 58 [t13] w fun t14 w =>
  wpB (pureRun Tryz.prog (Op.unary .not t14)) fun t15 =>
  wpB (gd t15 false (bp Tryz.prog .lss 3 (gv t15 false a1) (.int .i64 0))) fun t18 =>
  wpB (pickv t15 (some (.bool true)) (some t18)) fun t19 =>
  wpB (gd t19 false (nilv (gv t19 false a0))) fun t23 =>
  wpB (gd t19 false (pureRun Tryz.prog (Instr.fieldAt 112 t23 0))) fun t24 =>
  wpB (gd t19 false (pureRun Tryz.prog (Instr.fieldAt 23 t24 0))) fun t25 =>
  wpB (gd t19 false (ldv Tryz.prog 3 t25 w)) fun t26 =>
  wpB (gd t19 false (bp Tryz.prog .geq 3 (gv t19 false a1) t26)) fun t27 =>
  wpB (pickv t19 (some (.bool true)) (some t27)) fun t28 =>
  cnd t28
  (Q (.bool false) w)
  (wpB (ldv Tryz.prog 36 t7 w) fun t32 =>
  wpB (ldv Tryz.prog 38 t8 w) fun t33 =>
  CallR Tryz.prog 59 [a0, a1, t32, t33] w fun t34 w =>
  wpB (pureRun Tryz.prog (Instr.extract t34 0)) fun t35 =>
  wpB (pureRun Tryz.prog (Instr.extract t34 1)) fun t36 =>
  effv Tryz.prog (Instr.alloc 40 true (.tuple #[])) w fun t11 w =>
  effu Tryz.prog (Instr.storeAt 40 t11 t35) w fun w =>
  cnd t36
  (wpB (ldv Tryz.prog 40 t9 w) fun t39 =>
  wpB (ldv Tryz.prog 40 t11 w) fun t40 =>
  wpB (be Tryz.prog .neq 40 (.tmp 39) (.tmp 40) t39 t40) fun t41 =>
  cnd t41
  (Q (.bool false) w)
  (wpB (pureRun Tryz.prog (Instr.fieldAt 40 t9 0)) fun t42 =>
  wpB (ldv Tryz.prog 27 t42 w) fun t43 =>
  wpB (be Tryz.prog .eql 27 (.tmp 43) (.const (.int .i64 0)) t43 (.int .i64 0)) fun t44 =>
  cnd t44
  (wpB (ldv Tryz.prog 36 t7 w) fun t47 =>
  wpB (ldv Tryz.prog 38 t8 w) fun t48 =>
  CallR Tryz.prog 84 [a0, a1, t47, t48] w fun t49 w =>
  P61_0 w Q)
  (P61_0 w Q)))
  (wpB (pureRun Tryz.prog (Instr.fieldAt 36 t7 0)) fun t51 =>
  wpB (ldv Tryz.prog 3 t51 w) fun t52 =>
  wpB (be Tryz.prog .eql 3 (.tmp 52) (.const (.int .i64 1)) t52 (.int .i64 1)) fun t53 =>
  cnd t53
  (wpB (ldv Tryz.prog 36 t7 w) fun t55 =>
  wpB (ldv Tryz.prog 40 t9 w) fun t56 =>
  CallR Tryz.prog 85 [a0, t55, t56] w fun t57 w =>
  Q t57 w)
  (wpB (ldv Tryz.prog 36 t7 w) fun t59 =>
  wpB (ldv Tryz.prog 38 t8 w) fun t60 =>
  wpB (ldv Tryz.prog 40 t9 w) fun t61 =>
  CallR Tryz.prog 86 [a0, t59, t60, t61] w fun t62 w =>
  Q t62 w)))
def L61_0 (w : World) (Q : Value → World → Prop) : Prop :=
  Q (.bool true) w
theorem F61_ok {a0 a1 a2 a3 a4 : Value} {w : World} {Q : Value → World → Prop} (h : F61 a0 a1 a2 a3 a4 w Q) : CallR Tryz.prog 61 [a0, a1, a2, a3, a4] w Q :=
  af mixed ad Tryz.func61 (c := C61) rfl H61 (Nat.le_of_ble_eq_true rfl) (by kernel_rfl) h
theorem L61_0_ok {w : World} {Q : Value → World → Prop} (h : L61_0  w Q) : P61_0  w Q :=
  ax mixed ad Tryz.func61 H61 (by kernel_rfl) h

noncomputable def C62 : Code := (Tryz.f62.body).getD .skip
noncomputable def H62 : Hints := ⟨[(2, [0, 1, 7, 8])], [], []⟩
noncomputable def T62_0 : List It := [.lp (nav [1, 0, 1, 4, 5] C62), .blk 0, .jn (nav [1, 1] C62)]
def P62_0 (x0 x1 x7 x8 : Value) (w : World) (Q : Value → World → Prop) : Prop := Part Tryz.prog 62 T62_0 [0, 1, 7, 8] [x0, x1, x7, x8] w Q
def F62 (a0 a1 : Value) (w : World) (Q : Value → World → Prop) : Prop :=
  wpB (pureRun Tryz.prog (Builtin.len_ #[26] 3 #[a0])) fun t7 =>
  P62_0 a0 a1 t7 (.int .i64 0) w Q
def L62_0 (x0 x1 x7 x8 : Value) (w : World) (Q : Value → World → Prop) : Prop :=
  wpB (bp Tryz.prog .lss 3 x8 x7) fun t9 =>
  cnd t9
  (wpB (pureRun Tryz.prog (Instr.indexAt 26 x0 x8)) fun t14 =>
  wpB (ldv Tryz.prog 3 t14 w) fun t15 =>
  wpB (be Tryz.prog .eql 3 (.tmp 11) (.tmp 15) x1 t15) fun t16 =>
  cnd t16
  (Q x8 w)
  (wpB (bp Tryz.prog .add 3 x8 (.int .i64 1)) fun t18 =>
  P62_0 x0 x1 x7 t18 w Q))
  (Q (.int .i64 (-1)) w)
theorem F62_ok {a0 a1 : Value} {w : World} {Q : Value → World → Prop} (h : F62 a0 a1 w Q) : CallR Tryz.prog 62 [a0, a1] w Q :=
  af mixed ad Tryz.func62 (c := C62) rfl H62 (Nat.le_of_ble_eq_true rfl) (by kernel_rfl) h
theorem L62_0_ok {x0 x1 x7 x8 : Value} {w : World} {Q : Value → World → Prop} (h : L62_0 x0 x1 x7 x8 w Q) : P62_0 x0 x1 x7 x8 w Q :=
  aB mixed ad Tryz.func62 H62 (by kernel_rfl) h

noncomputable def C63 : Code := (Tryz.f63.body).getD .skip
noncomputable def H63 : Hints := ⟨[], [], []⟩
def F63 (a0 : Value) (w : World) (Q : Value → World → Prop) : Prop :=
  effv Tryz.prog (Instr.alloc 116 true (.tuple #[])) w fun t2 w =>
  wpB (pureRun Tryz.prog (Instr.build 116 #[])) fun t4 =>
  wpB (pureRun Tryz.prog (Instr.build 116 #[(0, (.string { data := #[99, 114, 101, 97, 116, 101] })), (2, (.bool true))])) fun t5 =>
  wpB (pureRun Tryz.prog (Instr.build 116 #[(0, (.string { data := #[97, 108, 108, 111, 99] })), (1, (.int .i64 1)), (2, (.bool true))])) fun t6 =>
  wpB (pureRun Tryz.prog (Instr.build 116 #[(0, (.string { data := #[112, 105, 110] }))])) fun t7 =>
  wpB (pureRun Tryz.prog (Instr.build 116 #[(0, (.string { data := #[117, 110, 112, 105, 110] }))])) fun t8 =>
  wpB (pureRun Tryz.prog (Instr.build 116 #[(0, (.string { data := #[104, 111, 108, 100] })), (1, (.int .i64 3))])) fun t9 =>
  wpB (pureRun Tryz.prog (Instr.build 116 #[(0, (.string { data := #[108, 111, 97, 100] })), (1, (.int .i64 2)), (2, (.bool true))])) fun t10 =>
  wpB (pureRun Tryz.prog (Instr.build 116 #[(0, (.string { data := #[115, 116, 111, 114, 101] })), (1, (.int .i64 2)), (2, (.bool true)), (3, (.bool true))])) fun t11 =>
  wpB (pureRun Tryz.prog (Instr.build 116 #[(0, (.string { data := #[97, 100, 100] })), (1, (.int .i64 2)), (2, (.bool true)), (3, (.bool true))])) fun t12 =>
  wpB (pureRun Tryz.prog (Instr.build 116 #[(0, (.string { data := #[99, 97, 115] })), (1, (.int .i64 2)), (2, (.bool true)), (3, (.bool true)), (4, (.bool true))])) fun t13 =>
  wpB (pureRun Tryz.prog (Instr.build 116 #[(0, (.string { data := #[102, 114, 101, 101] })), (1, (.int .i64 1))])) fun t14 =>
  wpB (pureRun Tryz.prog (Instr.build 116 #[(0, (.string { data := #[99, 111, 108, 108, 101, 99, 116] }))])) fun t15 =>
  wpB (pureRun Tryz.prog (Instr.build 116 #[(0, (.string { data := #[115, 116, 97, 116, 115] })), (1, (.int .i64 1))])) fun t16 =>
  effv Tryz.prog (Instr.buildSlice 131 13 #[(0, t4), (1, t5), (2, t6), (3, t7), (4, t8), (5, t9), (6, t10), (7, t11), (8, t12), (9, t13), (10, t14), (11, t15), (12, t16)]) w fun t17 w =>
  wpB (bp Tryz.prog .lss 3 a0 (.int .i64 1)) fun t19 =>
  wpB (gd t19 false (pureRun Tryz.prog (Builtin.len_ #[131] 3 #[(gv t19 false t17)]))) fun t23 =>
  wpB (gd t19 false (bp Tryz.prog .geq 3 (gv t19 false a0) t23)) fun t24 =>
  wpB (pickv t19 (some (.bool true)) (some t24)) fun t25 =>
  cnd t25
  (wpB (pureRun Tryz.prog (Instr.indexAt 131 t17 (.int .i64 0))) fun t27 =>
  wpB (ldv Tryz.prog 116 t27 w) fun t28 =>
  effu Tryz.prog (Instr.storeAt 116 t2 t28) w fun w =>
  wpB (ldv Tryz.prog 116 t2 w) fun r2 => Q r2 w)
  (wpB (pureRun Tryz.prog (Instr.indexAt 131 t17 a0)) fun t31 =>
  wpB (ldv Tryz.prog 116 t31 w) fun t32 =>
  effu Tryz.prog (Instr.storeAt 116 t2 t32) w fun w =>
  wpB (ldv Tryz.prog 116 t2 w) fun r2_1 => Q r2_1 w)
theorem F63_ok {a0 : Value} {w : World} {Q : Value → World → Prop} (h : F63 a0 w Q) : CallR Tryz.prog 63 [a0] w Q :=
  af mixed ad Tryz.func63 (c := C63) rfl H63 (Nat.le_of_ble_eq_true rfl) (by kernel_rfl) h

noncomputable def C64 : Code := (Tryz.f64.body).getD .skip
noncomputable def H64 : Hints := ⟨[], [(5, [1, 3, 4, 5, 6]), (9, [1, 3, 4, 5, 6])], []⟩
noncomputable def T64_0 : List It := [.jn (nav [1, 1, 1, 1] C64)]
noncomputable def T64_1 : List It := [.jn (nav [1, 1, 1, 1, 1] C64)]
def P64_0 (x1 x3 x4 x5 x6 : Value) (w : World) (Q : Value → World → Prop) : Prop := Part Tryz.prog 64 T64_0 [1, 3, 4, 5, 6] [x1, x3, x4, x5, x6] w Q
def P64_1 (x1 x3 x4 x5 x6 : Value) (w : World) (Q : Value → World → Prop) : Prop := Part Tryz.prog 64 T64_1 [1, 3, 4, 5, 6] [x1, x3, x4, x5, x6] w Q
def F64 (a0 : Value) (w : World) (Q : Value → World → Prop) : Prop :=
  effv Tryz.prog (Instr.box 36 a0) w fun t1 w =>
  wpB (pureRun Tryz.prog (Instr.fieldAt 36 t1 0)) fun t7 =>
  wpB (ldv Tryz.prog 3 t7 w) fun t8 =>
  CallR Tryz.prog 63 [t8] w fun t9 w =>
  effv Tryz.prog (Instr.alloc 116 true (.tuple #[])) w fun t3 w =>
  effu Tryz.prog (Instr.storeAt 116 t3 t9) w fun w =>
  wpB (pureRun Tryz.prog (Instr.fieldAt 116 t3 1)) fun t10 =>
  wpB (ldv Tryz.prog 3 t10 w) fun t11 =>
  wpB (be Tryz.prog .neq 3 (.tmp 11) (.const (.int .i64 0)) t11 (.int .i64 0)) fun t12 =>
  cnd t12
  (P64_0 t1 t3 (.int .i64 63) (.int .i64 999) (.int .i64 0) w Q)
  (P64_0 t1 t3 (.int .i64 0) (.int .i64 0) (.int .i64 0) w Q)
def L64_0 (x1 x3 x4 x5 x6 : Value) (w : World) (Q : Value → World → Prop) : Prop :=
  wpB (pureRun Tryz.prog (Instr.fieldAt 36 x1 0)) fun t14 =>
  wpB (ldv Tryz.prog 3 t14 w) fun t15 =>
  wpB (be Tryz.prog .eql 3 (.tmp 15) (.const (.int .i64 1)) t15 (.int .i64 1)) fun t16 =>
  cnd t16
  (P64_1 x1 x3 x4 x5 (.int .i64 3) w Q)
  (wpB (pureRun Tryz.prog (Instr.fieldAt 116 x3 2)) fun t18 =>
  wpB (ldv Tryz.prog 4 t18 w) fun t19 =>
  cnd t19
  (P64_1 x1 x3 x4 x5 (.int .i64 65535) w Q)
  (P64_1 x1 x3 x4 x5 x6 w Q))
def L64_1 (x1 x3 x4 x5 x6 : Value) (w : World) (Q : Value → World → Prop) : Prop :=
  wpB (pureRun Tryz.prog (Instr.fieldAt 116 x3 0)) fun t20 =>
  wpB (ldv Tryz.prog 9 t20 w) fun t21 =>
  wpB (be Tryz.prog .neq 9 (.tmp 21) (.const (.string { data := #[] })) t21 (.string { data := #[] })) fun t22 =>
  wpB (gd t22 true (pureRun Tryz.prog (Instr.fieldAt 36 x1 1))) fun t24 =>
  wpB (gd t22 true (ldv Tryz.prog 3 t24 w)) fun t25 =>
  gE t22 true (CallR Tryz.prog 87 [t25, (gv t22 true x4)] w) (fun t27 w =>
  wpB (pickv t22 (some t27) (some (.bool false))) fun t28 =>
  wpB (gd t28 true (pureRun Tryz.prog (Instr.fieldAt 36 x1 2))) fun t30 =>
  wpB (gd t28 true (ldv Tryz.prog 3 t30 w)) fun t31 =>
  gE t28 true (CallR Tryz.prog 87 [t31, (gv t28 true x5)] w) (fun t33 w =>
  wpB (pickv t28 (some t33) (some (.bool false))) fun t34 =>
  wpB (gd t34 true (pureRun Tryz.prog (Instr.fieldAt 36 x1 3))) fun t36 =>
  wpB (gd t34 true (ldv Tryz.prog 3 t36 w)) fun t37 =>
  gE t34 true (CallR Tryz.prog 87 [t37, (gv t34 true x6)] w) (fun t39 w =>
  wpB (pickv t34 (some t39) (some (.bool false))) fun t40 =>
  wpB (gd t40 true (pureRun Tryz.prog (Instr.fieldAt 116 x3 3))) fun t42 =>
  wpB (gd t40 true (ldv Tryz.prog 4 t42 w)) fun t43 =>
  wpB (gd (gv t40 true t43) false (pureRun Tryz.prog (Instr.fieldAt 36 x1 4))) fun t45 =>
  wpB (gd (gv t40 true t43) false (ldv Tryz.prog 34 t45 w)) fun t46 =>
  wpB (gd (gv t40 true t43) false (be Tryz.prog .eql 34 (.tmp 46) (.const (.int .u64 0)) t46 (.int .u64 0))) fun t47 =>
  wpB (gd t40 true (pickv (gv t40 true t43) (some (.bool true)) (some t47))) fun t48 =>
  wpB (pickv t40 (some t48) (some (.bool false))) fun t49 =>
  wpB (gd t49 true (pureRun Tryz.prog (Instr.fieldAt 116 x3 4))) fun t51 =>
  wpB (gd t49 true (ldv Tryz.prog 4 t51 w)) fun t52 =>
  wpB (gd (gv t49 true t52) false (pureRun Tryz.prog (Instr.fieldAt 36 x1 5))) fun t54 =>
  wpB (gd (gv t49 true t52) false (ldv Tryz.prog 34 t54 w)) fun t55 =>
  wpB (gd (gv t49 true t52) false (be Tryz.prog .eql 34 (.tmp 55) (.const (.int .u64 0)) t55 (.int .u64 0))) fun t56 =>
  wpB (gd t49 true (pickv (gv t49 true t52) (some (.bool true)) (some t56))) fun t57 =>
  wpB (pickv t49 (some t57) (some (.bool false))) fun t58 =>
  Q t58 w) w) w) w
theorem F64_ok {a0 : Value} {w : World} {Q : Value → World → Prop} (h : F64 a0 w Q) : CallR Tryz.prog 64 [a0] w Q :=
  af mixed ad Tryz.func64 (c := C64) rfl H64 (Nat.le_of_ble_eq_true rfl) (by kernel_rfl) h
theorem L64_0_ok {x1 x3 x4 x5 x6 : Value} {w : World} {Q : Value → World → Prop} (h : L64_0 x1 x3 x4 x5 x6 w Q) : P64_0 x1 x3 x4 x5 x6 w Q :=
  ax mixed ad Tryz.func64 H64 (by kernel_rfl) h
theorem L64_1_ok {x1 x3 x4 x5 x6 : Value} {w : World} {Q : Value → World → Prop} (h : L64_1 x1 x3 x4 x5 x6 w Q) : P64_1 x1 x3 x4 x5 x6 w Q :=
  ax mixed ad Tryz.func64 H64 (by kernel_rfl) h

noncomputable def C65 : Code := (Tryz.f65.body).getD .skip
noncomputable def H65 : Hints := ⟨[], [], [(6, (.leaf [0, 1, 2, 3, 4, 5, 6, 7, 8, 9, 10]))]⟩
def F65 (a0 a1 a2 : Value) (w : World) (Q : Value → World → Prop) : Prop :=
  effv Tryz.prog (Instr.box 38 a1) w fun t4 w =>
  wpB (ldv Tryz.prog 38 t4 w) fun t9 =>
  CallR Tryz.prog 43 [t9] w fun t10 w =>
  CallR Tryz.prog 42 [a0, t10] w fun t11 w =>
  wpB (be Tryz.prog .eql 87 (.tmp 12) (.const (.pointer none)) t11 (.pointer none)) fun t13 =>
  cnd t13
  (Q (.bool false) w)
  (wpB (pureRun Tryz.prog (Instr.fieldAt 38 t4 4)) fun t14 =>
  wpB (ldv Tryz.prog 3 t14 w) fun t15 =>
  wpB (be Tryz.prog .eql 3 (.tmp 15) (.const (.int .i64 0)) t15 (.int .i64 0)) fun t16 =>
  cnd t16
  (wpB (pureRun Tryz.prog (Instr.fieldAt 38 t4 2)) fun t17 =>
  wpB (ldv Tryz.prog 3 t17 w) fun t18 =>
  wpB (be Tryz.prog .eql 3 (.tmp 18) (.const (.int .i64 0)) t18 (.int .i64 0)) fun t19 =>
  wpB (gd t19 true (pureRun Tryz.prog (Instr.fieldAt 38 t4 3))) fun t21 =>
  wpB (gd t19 true (ldv Tryz.prog 3 t21 w)) fun t22 =>
  wpB (gd t19 true (be Tryz.prog .eql 3 (.tmp 22) (.const (.int .i64 0)) t22 (.int .i64 0))) fun t23 =>
  wpB (pickv t19 (some t23) (some (.bool false))) fun t24 =>
  wpB (gd t24 true (be Tryz.prog .neq 3 (.tmp 26) (.const (.int .i64 2)) (gv t24 true a2) (.int .i64 2))) fun t27 =>
  wpB (pickv t24 (some t27) (some (.bool false))) fun t28 =>
  Q t28 w)
  (wpB (be Tryz.prog .neq 3 (.tmp 29) (.const (.int .i64 1)) a2 (.int .i64 1)) fun t30 =>
  wpB (gd t30 true (nilv (gv t30 true t11))) fun t33 =>
  wpB (gd t30 true (pureRun Tryz.prog (Instr.fieldAt 86 t33 5))) fun t34 =>
  wpB (gd t30 true (ldv Tryz.prog 44 t34 w.drew)) fun t35 =>
  wpB (gd t30 true (ldv Tryz.prog 38 t4 w.drew)) fun t36 =>
  gE t30 true (CallR Tryz.prog 88 [t35, t36] w.drew) (fun t37 w =>
  wpB (pickv t30 (some t37) (some (.bool false))) fun t38 =>
  Q t38 w) w.drew))
theorem F65_ok {a0 a1 a2 : Value} {w : World} {Q : Value → World → Prop} (h : F65 a0 a1 a2 w Q) : CallR Tryz.prog 65 [a0, a1, a2] w Q :=
  af mixed ad Tryz.func65 (c := C65) rfl H65 (Nat.le_of_ble_eq_true rfl) (by kernel_rfl) h

noncomputable def C66 : Code := (Tryz.f66.body).getD .skip
noncomputable def H66 : Hints := ⟨[], [], []⟩
def F66 (a0 a1 : Value) (w : World) (Q : Value → World → Prop) : Prop :=
  effv Tryz.prog (Instr.box 83 a1) w fun t3 w =>
  wpB (ldv Tryz.prog 83 t3 w) fun t6 =>
  CallR Tryz.prog 89 [a0, t6] w fun t7 w =>
  wpB (bp Tryz.prog .geq 3 t7 (.int .i64 0)) fun t8 =>
  Q t8 w
theorem F66_ok {a0 a1 : Value} {w : World} {Q : Value → World → Prop} (h : F66 a0 a1 w Q) : CallR Tryz.prog 66 [a0, a1] w Q :=
  af mixed ad Tryz.func66 (c := C66) rfl H66 (Nat.le_of_ble_eq_true rfl) (by kernel_rfl) h

noncomputable def C67 : Code := (Tryz.f67.body).getD .skip
noncomputable def H67 : Hints := ⟨[], [], [(1, (.leaf [0, 1, 2, 3, 4, 5, 6, 7, 8, 9, 10, 11, 12, 13, 14, 15, 16, 17, 18]))]⟩
def F67 (a0 a1 : Value) (w : World) (Q : Value → World → Prop) : Prop :=
  effv Tryz.prog (Instr.box 83 a1) w fun t3 w =>
  wpB (pureRun Tryz.prog (Instr.fieldAt 83 t3 0)) fun t6 =>
  wpB (ldv Tryz.prog 3 t6 w.drew) fun t7 =>
  CallR Tryz.prog 69 [a0, t7] w.drew fun t8 w =>
  wpB (gd t8 true (nilv (gv t8 true a0))) fun t11 =>
  wpB (gd t8 true (pureRun Tryz.prog (Instr.fieldAt 61 t11 2))) fun t12 =>
  wpB (gd t8 true (ldv Tryz.prog 57 t12 w)) fun t13 =>
  wpB (gd t8 true (pureRun Tryz.prog (Instr.fieldAt 83 t3 0))) fun t14 =>
  wpB (gd t8 true (ldv Tryz.prog 3 t14 w)) fun t15 =>
  wpB (gd t8 true (pureRun Tryz.prog (Instr.indexAt 57 t13 t15))) fun t16 =>
  wpB (gd t8 true (ldv Tryz.prog 92 t16 w)) fun t17 =>
  wpB (gd t8 true (pureRun Tryz.prog (Instr.fieldAt 83 t3 1))) fun t18 =>
  wpB (gd t8 true (ldv Tryz.prog 3 t18 w)) fun t19 =>
  wpB (gd t8 true (pureRun Tryz.prog (Instr.build 92 #[(0, (.int .i64 1)), (1, t19)]))) fun t20 =>
  wpB (gd t8 true (be Tryz.prog .eql 92 (.tmp 17) (.tmp 20) t17 t20)) fun t21 =>
  wpB (pickv t8 (some t21) (some (.bool false))) fun t22 =>
  Q t22 w
theorem F67_ok {a0 a1 : Value} {w : World} {Q : Value → World → Prop} (h : F67 a0 a1 w Q) : CallR Tryz.prog 67 [a0, a1] w Q :=
  af mixed ad Tryz.func67 (c := C67) rfl H67 (Nat.le_of_ble_eq_true rfl) (by kernel_rfl) h

noncomputable def C68 : Code := (Tryz.f68.body).getD .skip
noncomputable def H68 : Hints := ⟨[(3, [3, 9, 10, 11])], [(7, [3, 9, 10, 11])], []⟩
noncomputable def T68_0 : List It := [.lp (nav [1, 1, 0, 1, 4, 5] C68), .blk 0, .jn (nav [1, 1, 1] C68)]
noncomputable def T68_1 : List It := [.jn (nav [1, 1, 0, 1, 4, 5, 1, 1, 1] C68), .lp (nav [1, 1, 0, 1, 4, 5] C68), .blk 0, .jn (nav [1, 1, 1] C68)]
def P68_0 (x3 x9 x10 x11 : Value) (w : World) (Q : Value → World → Prop) : Prop := Part Tryz.prog 68 T68_0 [3, 9, 10, 11] [x3, x9, x10, x11] w Q
def P68_1 (x3 x9 x10 x11 : Value) (w : World) (Q : Value → World → Prop) : Prop := Part Tryz.prog 68 T68_1 [3, 9, 10, 11] [x3, x9, x10, x11] w Q
def F68 (a0 : Value) (w : World) (Q : Value → World → Prop) : Prop :=
  wpB (nilv a0) fun t7 =>
  wpB (pureRun Tryz.prog (Instr.fieldAt 61 t7 2)) fun t8 =>
  wpB (ldv Tryz.prog 57 t8 w) fun t9 =>
  wpB (pureRun Tryz.prog (Builtin.len_ #[57] 3 #[t9])) fun t10 =>
  P68_0 (.int .i64 0) t9 t10 (.int .i64 0) w Q
def L68_0 (x3 x9 x10 x11 : Value) (w : World) (Q : Value → World → Prop) : Prop :=
  wpB (bp Tryz.prog .lss 3 x11 x10) fun t12 =>
  cnd t12
  (wpB (pureRun Tryz.prog (Instr.indexAt 57 x9 x11)) fun t13 =>
  wpB (ldv Tryz.prog 92 t13 w) fun t14 =>
  effv Tryz.prog (Instr.alloc 92 true (.tuple #[])) w fun t5 w =>
  effu Tryz.prog (Instr.storeAt 92 t5 t14) w fun w =>
  wpB (pureRun Tryz.prog (Instr.fieldAt 92 t5 0)) fun t15 =>
  wpB (ldv Tryz.prog 3 t15 w) fun t16 =>
  wpB (be Tryz.prog .eql 3 (.tmp 16) (.const (.int .i64 0)) t16 (.int .i64 0)) fun t17 =>
  cnd t17
  (wpB (bp Tryz.prog .add 3 x3 (.int .i64 1)) fun t19 =>
  P68_1 t19 x9 x10 x11 w Q)
  (P68_1 x3 x9 x10 x11 w Q))
  (Q x3 w)
def L68_1 (x3 x9 x10 x11 : Value) (w : World) (Q : Value → World → Prop) : Prop :=
  wpB (bp Tryz.prog .add 3 x11 (.int .i64 1)) fun t20 =>
  P68_0 x3 x9 x10 t20 w Q
theorem F68_ok {a0 : Value} {w : World} {Q : Value → World → Prop} (h : F68 a0 w Q) : CallR Tryz.prog 68 [a0] w Q :=
  af mixed ad Tryz.func68 (c := C68) rfl H68 (Nat.le_of_ble_eq_true rfl) (by kernel_rfl) h
theorem L68_0_ok {x3 x9 x10 x11 : Value} {w : World} {Q : Value → World → Prop} (h : L68_0 x3 x9 x10 x11 w Q) : P68_0 x3 x9 x10 x11 w Q :=
  aB mixed ad Tryz.func68 H68 (by kernel_rfl) h
theorem L68_1_ok {x3 x9 x10 x11 : Value} {w : World} {Q : Value → World → Prop} (h : L68_1 x3 x9 x10 x11 w Q) : P68_1 x3 x9 x10 x11 w Q :=
  ax mixed ad Tryz.func68 H68 (by kernel_rfl) h

noncomputable def C69 : Code := (Tryz.f69.body).getD .skip
noncomputable def H69 : Hints := ⟨[], [], []⟩
def F69 (a0 a1 : Value) (w : World) (Q : Value → World → Prop) : Prop :=
  wpB (bp Tryz.prog .geq 3 a1 (.int .i64 0)) fun t6 =>
  wpB (gd t6 true (nilv (gv t6 true a0))) fun t10 =>
  wpB (gd t6 true (pureRun Tryz.prog (Instr.fieldAt 61 t10 2))) fun t11 =>
  wpB (gd t6 true (ldv Tryz.prog 57 t11 w)) fun t12 =>
  wpB (gd t6 true (pureRun Tryz.prog (Builtin.len_ #[57] 3 #[t12]))) fun t13 =>
  wpB (gd t6 true (bp Tryz.prog .lss 3 (gv t6 true a1) t13)) fun t14 =>
  wpB (pickv t6 (some t14) (some (.bool false))) fun t15 =>
  Q t15 w
theorem F69_ok {a0 a1 : Value} {w : World} {Q : Value → World → Prop} (h : F69 a0 a1 w Q) : CallR Tryz.prog 69 [a0, a1] w Q :=
  af mixed ad Tryz.func69 (c := C69) rfl H69 (Nat.le_of_ble_eq_true rfl) (by kernel_rfl) h

noncomputable def C70 : Code := (Tryz.f70.body).getD .skip
noncomputable def H70 : Hints := ⟨[], [], []⟩
def F70 (a0 a1 : Value) (w : World) (Q : Value → World → Prop) : Prop :=
  wpB (bp Tryz.prog .lss 3 a1 (.int .i64 1)) fun t7 =>
  wpB (gd t7 false (bp Tryz.prog .gtr 3 (gv t7 false a1) (.int .i64 1024))) fun t10 =>
  wpB (pickv t7 (some (.bool true)) (some t10)) fun t11 =>
  cnd t11
  (Q (.int .i64 0) w)
  (wpB (pureRun Tryz.prog (Builtin.max_ #[3, 3] 3 #[a0, (.int .i64 0)])) fun t13 =>
  wpB (pureRun Tryz.prog (Builtin.min_ #[3, 3] 3 #[t13, (.int .i64 3)])) fun t14 =>
  wpB (bp Tryz.prog .shl 3 (.int .i64 1) t14) fun t15 =>
  wpB (bp Tryz.prog .add 3 a1 t15) fun t18 =>
  wpB (bp Tryz.prog .sub 3 t18 (.int .i64 1)) fun t19 =>
  wpB (bp Tryz.prog .quo 3 t19 t15) fun t21 =>
  wpB (bp Tryz.prog .mul 3 t21 t15) fun t23 =>
  Q t23 w)
theorem F70_ok {a0 a1 : Value} {w : World} {Q : Value → World → Prop} (h : F70 a0 a1 w Q) : CallR Tryz.prog 70 [a0, a1] w Q :=
  af mixed ad Tryz.func70 (c := C70) rfl H70 (Nat.le_of_ble_eq_true rfl) (by kernel_rfl) h

noncomputable def C71 : Code := (Tryz.f71.body).getD .skip
noncomputable def H71 : Hints := ⟨[], [], []⟩
def F71 (a0 a1 a2 : Value) (w : World) (Q : Value → World → Prop) : Prop :=
  wpB (nilv a0) fun t8 =>
  wpB (pureRun Tryz.prog (Instr.fieldAt 86 t8 3)) fun t9 =>
  wpB (ldv Tryz.prog 26 t9 w) fun t10 =>
  wpB (pureRun Tryz.prog (Builtin.len_ #[26] 3 #[t10])) fun t11 =>
  wpB (bp Tryz.prog .gtr 3 t11 (.int .i64 0)) fun t12 =>
  wpB (gd t12 true (nilv (gv t12 true a0))) fun t16 =>
  wpB (gd t12 true (pureRun Tryz.prog (Instr.fieldAt 86 t16 2))) fun t17 =>
  wpB (gd t12 true (ldv Tryz.prog 3 t17 w)) fun t18 =>
  gE t12 true (CallR Tryz.prog 90 [(gv t12 true a1), t18, (gv t12 true a2)] w) (fun t20 w =>
  wpB (pickv t12 (some t20) (some (.bool false))) fun t21 =>
  Q t21 w) w
theorem F71_ok {a0 a1 a2 : Value} {w : World} {Q : Value → World → Prop} (h : F71 a0 a1 a2 w Q) : CallR Tryz.prog 71 [a0, a1, a2] w Q :=
  af mixed ad Tryz.func71 (c := C71) rfl H71 (Nat.le_of_ble_eq_true rfl) (by kernel_rfl) h

noncomputable def C72 : Code := (Tryz.f72.body).getD .skip
noncomputable def H72 : Hints := ⟨[], [], [(3, (.leaf [0, 1, 2, 3, 4, 5, 6, 7, 8, 9, 10, 11, 12]))]⟩
def F72 (a0 : Value) (w : World) (Q : Value → World → Prop) : Prop :=
  wpB (nilv a0) fun t4 =>
  wpB (pureRun Tryz.prog (Instr.fieldAt 86 t4 3)) fun t5 =>
  wpB (ldv Tryz.prog 26 t5 w) fun t6 =>
  wpB (pureRun Tryz.prog (Builtin.len_ #[26] 3 #[t6])) fun t7 =>
  wpB (be Tryz.prog .eql 3 (.tmp 7) (.const (.int .i64 0)) t7 (.int .i64 0)) fun t8 =>
  cnd t8
  (Q (.int .i64 (-1)) w)
  (wpB (nilv a0) fun t10 =>
  wpB (pureRun Tryz.prog (Instr.fieldAt 86 t10 3)) fun t11 =>
  wpB (ldv Tryz.prog 26 t11 w.drew) fun t12 =>
  wpB (nilv a0) fun t14 =>
  wpB (pureRun Tryz.prog (Instr.fieldAt 86 t14 3)) fun t15 =>
  wpB (ldv Tryz.prog 26 t15 w.drew) fun t16 =>
  wpB (pureRun Tryz.prog (Builtin.len_ #[26] 3 #[t16])) fun t17 =>
  wpB (bp Tryz.prog .sub 3 t17 (.int .i64 1)) fun t18 =>
  wpB (pureRun Tryz.prog (Instr.indexAt 26 t12 t18)) fun t19 =>
  wpB (ldv Tryz.prog 3 t19 w.drew) fun t20 =>
  Q t20 w.drew)
theorem F72_ok {a0 : Value} {w : World} {Q : Value → World → Prop} (h : F72 a0 w Q) : CallR Tryz.prog 72 [a0] w Q :=
  af mixed ad Tryz.func72 (c := C72) rfl H72 (Nat.le_of_ble_eq_true rfl) (by kernel_rfl) h

noncomputable def C73 : Code := (Tryz.f73.body).getD .skip
noncomputable def H73 : Hints := ⟨[(2, [0, 1, 10, 11, 12])], [], []⟩
noncomputable def T73_0 : List It := [.lp (nav [1, 0, 1, 4, 5] C73), .blk 0, .jn (nav [1, 1] C73)]
def P73_0 (x0 x1 x10 x11 x12 : Value) (w : World) (Q : Value → World → Prop) : Prop := Part Tryz.prog 73 T73_0 [0, 1, 10, 11, 12] [x0, x1, x10, x11, x12] w Q
def F73 (a0 a1 : Value) (w : World) (Q : Value → World → Prop) : Prop :=
  wpB (nilv a0) fun t8 =>
  wpB (pureRun Tryz.prog (Instr.fieldAt 61 t8 3)) fun t9 =>
  wpB (ldv Tryz.prog 58 t9 w) fun t10 =>
  wpB (pureRun Tryz.prog (Builtin.len_ #[58] 3 #[t10])) fun t11 =>
  P73_0 a0 a1 t10 t11 (.int .i64 0) w Q
def L73_0 (x0 x1 x10 x11 x12 : Value) (w : World) (Q : Value → World → Prop) : Prop :=
  wpB (bp Tryz.prog .lss 3 x12 x11) fun t13 =>
  cnd t13
  (wpB (pureRun Tryz.prog (Instr.indexAt 58 x10 x12)) fun t14 =>
  wpB (ldv Tryz.prog 86 t14 w) fun t15 =>
  effv Tryz.prog (Instr.alloc 86 true (.tuple #[])) w fun t6 w =>
  effu Tryz.prog (Instr.storeAt 86 t6 t15) w fun w =>
  wpB (pureRun Tryz.prog (Instr.fieldAt 86 t6 0)) fun t17 =>
  wpB (ldv Tryz.prog 83 t17 w) fun t18 =>
  CallR Tryz.prog 67 [x0, t18] w fun t19 w =>
  wpB (gd t19 true (pureRun Tryz.prog (Instr.fieldAt 86 t6 3))) fun t21 =>
  wpB (gd t19 true (ldv Tryz.prog 26 t21 w)) fun t22 =>
  gE t19 true (CallR Tryz.prog 36 [t22, (gv t19 true x1)] w) (fun t24 w =>
  wpB (pickv t19 (some t24) (some (.bool false))) fun t25 =>
  cnd t25
  (Q (.bool true) w)
  (wpB (bp Tryz.prog .add 3 x12 (.int .i64 1)) fun t26 =>
  P73_0 x0 x1 x10 x11 t26 w Q)) w)
  (Q (.bool false) w)
theorem F73_ok {a0 a1 : Value} {w : World} {Q : Value → World → Prop} (h : F73 a0 a1 w Q) : CallR Tryz.prog 73 [a0, a1] w Q :=
  af mixed ad Tryz.func73 (c := C73) rfl H73 (Nat.le_of_ble_eq_true rfl) (by kernel_rfl) h
theorem L73_0_ok {x0 x1 x10 x11 x12 : Value} {w : World} {Q : Value → World → Prop} (h : L73_0 x0 x1 x10 x11 x12 w Q) : P73_0 x0 x1 x10 x11 x12 w Q :=
  aB mixed ad Tryz.func73 H73 (by kernel_rfl) h

noncomputable def C74 : Code := (Tryz.f74.body).getD .skip
noncomputable def H74 : Hints := ⟨[], [], []⟩
def F74 (a0 a1 : Value) (w : World) (Q : Value → World → Prop) : Prop :=
  CallR Tryz.prog 91 [a0, a1] w fun t8 w =>
  wpB (pureRun Tryz.prog (Op.unary .not t8)) fun t9 =>
  cnd t9
  (Q (.int .i64 0) w)
  (CallR Tryz.prog 92 [a0, a1] w fun t13 w =>
  cnd t13
  (Q a0 w)
  (Q a1 w))
theorem F74_ok {a0 a1 : Value} {w : World} {Q : Value → World → Prop} (h : F74 a0 a1 w Q) : CallR Tryz.prog 74 [a0, a1] w Q :=
  af mixed ad Tryz.func74 (c := C74) rfl H74 (Nat.le_of_ble_eq_true rfl) (by kernel_rfl) h

noncomputable def C75 : Code := (Tryz.f75.body).getD .skip
noncomputable def H75 : Hints := ⟨[(2, [0, 1, 5])], [], []⟩
noncomputable def T75_0 : List It := [.lp (nav [1, 0, 1, 4, 5] C75), .blk 0, .jn (nav [1, 1] C75)]
def P75_0 (x0 x1 x5 : Value) (w : World) (Q : Value → World → Prop) : Prop := Part Tryz.prog 75 T75_0 [0, 1, 5] [x0, x1, x5] w Q
def F75 (a0 a1 : Value) (w : World) (Q : Value → World → Prop) : Prop :=
  P75_0 a0 a1 (.int .i64 0) w Q
def L75_0 (x0 x1 x5 : Value) (w : World) (Q : Value → World → Prop) : Prop :=
  wpB (pureRun Tryz.prog (Builtin.len_ #[26] 3 #[x0])) fun t8 =>
  wpB (bp Tryz.prog .lss 3 x5 t8) fun t9 =>
  cnd t9
  (wpB (pureRun Tryz.prog (Instr.indexAt 26 x0 x5)) fun t14 =>
  wpB (ldv Tryz.prog 3 t14 w) fun t15 =>
  wpB (be Tryz.prog .eql 3 (.tmp 15) (.tmp 16) t15 x1) fun t17 =>
  cnd t17
  (Q (.bool true) w)
  (wpB (bp Tryz.prog .add 3 x5 (.int .i64 1)) fun t11 =>
  P75_0 x0 x1 t11 w Q))
  (Q (.bool false) w)
theorem F75_ok {a0 a1 : Value} {w : World} {Q : Value → World → Prop} (h : F75 a0 a1 w Q) : CallR Tryz.prog 75 [a0, a1] w Q :=
  af mixed ad Tryz.func75 (c := C75) rfl H75 (Nat.le_of_ble_eq_true rfl) (by kernel_rfl) h
theorem L75_0_ok {x0 x1 x5 : Value} {w : World} {Q : Value → World → Prop} (h : L75_0 x0 x1 x5 w Q) : P75_0 x0 x1 x5 w Q :=
  aB mixed ad Tryz.func75 H75 (by kernel_rfl) h

noncomputable def C76 : Code := (Tryz.f76.body).getD .skip
noncomputable def H76 : Hints := ⟨[], [(5, [3, 4]), (10, [3, 8])], []⟩
noncomputable def T76_0 : List It := [.jn (nav [1, 0, 1, 4, 1] C76), .blk 0, .jn (nav [1, 1] C76)]
noncomputable def T76_1 : List It := [.jn (nav [1, 0, 1, 4, 1, 3, 1] C76), .blk 0, .jn (nav [1, 1] C76)]
def P76_0 (x3 x4 : Value) (w : World) (Q : Value → World → Prop) : Prop := Part Tryz.prog 76 T76_0 [3, 4] [x3, x4] w Q
def P76_1 (x3 x8 : Value) (w : World) (Q : Value → World → Prop) : Prop := Part Tryz.prog 76 T76_1 [3, 8] [x3, x8] w Q
def F76 (a0 : Value) (w : World) (Q : Value → World → Prop) : Prop :=
  wpB (be Tryz.prog .eql 3 (.tmp 3) (.const (.int .i64 2)) a0 (.int .i64 2)) fun t5 =>
  cnd t5
  (P76_0 a0 t5 w Q)
  (wpB (be Tryz.prog .eql 3 (.tmp 3) (.const (.int .i64 10)) a0 (.int .i64 10)) fun t6 =>
  cnd t6
  (P76_0 a0 t6 w Q)
  (wpB (be Tryz.prog .eql 3 (.tmp 3) (.const (.int .i64 12)) a0 (.int .i64 12)) fun t7 =>
  P76_0 a0 t7 w Q))
def L76_0 (x3 x4 : Value) (w : World) (Q : Value → World → Prop) : Prop :=
  cnd x4
  (Q (.int .i64 1) w)
  (wpB (be Tryz.prog .eql 3 (.tmp 3) (.const (.int .i64 6)) x3 (.int .i64 6)) fun t9 =>
  cnd t9
  (P76_1 x3 t9 w Q)
  (wpB (be Tryz.prog .eql 3 (.tmp 3) (.const (.int .i64 7)) x3 (.int .i64 7)) fun t10 =>
  cnd t10
  (P76_1 x3 t10 w Q)
  (wpB (be Tryz.prog .eql 3 (.tmp 3) (.const (.int .i64 8)) x3 (.int .i64 8)) fun t11 =>
  cnd t11
  (P76_1 x3 t11 w Q)
  (wpB (be Tryz.prog .eql 3 (.tmp 3) (.const (.int .i64 9)) x3 (.int .i64 9)) fun t12 =>
  P76_1 x3 t12 w Q))))
def L76_1 (x3 x8 : Value) (w : World) (Q : Value → World → Prop) : Prop :=
  cnd x8
  (Q (.int .i64 2) w)
  (wpB (be Tryz.prog .eql 3 (.tmp 3) (.const (.int .i64 5)) x3 (.int .i64 5)) fun t14 =>
  cnd t14
  (Q (.int .i64 3) w)
  (Q (.int .i64 0) w))
theorem F76_ok {a0 : Value} {w : World} {Q : Value → World → Prop} (h : F76 a0 w Q) : CallR Tryz.prog 76 [a0] w Q :=
  af mixed ad Tryz.func76 (c := C76) rfl H76 (Nat.le_of_ble_eq_true rfl) (by kernel_rfl) h
theorem L76_0_ok {x3 x4 : Value} {w : World} {Q : Value → World → Prop} (h : L76_0 x3 x4 w Q) : P76_0 x3 x4 w Q :=
  ax mixed ad Tryz.func76 H76 (by kernel_rfl) h
theorem L76_1_ok {x3 x8 : Value} {w : World} {Q : Value → World → Prop} (h : L76_1 x3 x8 w Q) : P76_1 x3 x8 w Q :=
  ax mixed ad Tryz.func76 H76 (by kernel_rfl) h

noncomputable def C77 : Code := (Tryz.f77.body).getD .skip
noncomputable def H77 : Hints := ⟨[], [], []⟩
def F77 (a0 : Value) (w : World) (Q : Value → World → Prop) : Prop :=
  wpB (be Tryz.prog .eql 3 (.tmp 3) (.const (.int .i64 1)) a0 (.int .i64 1)) fun t4 =>
  wpB (gd t4 false (be Tryz.prog .eql 3 (.tmp 6) (.const (.int .i64 2)) (gv t4 false a0) (.int .i64 2))) fun t7 =>
  wpB (pickv t4 (some (.bool true)) (some t7)) fun t8 =>
  wpB (gd t8 false (bp Tryz.prog .geq 3 (gv t8 false a0) (.int .i64 6))) fun t11 =>
  wpB (gd (gv t8 false t11) true (bp Tryz.prog .leq 3 (gv (gv t8 false t11) true a0) (.int .i64 9))) fun t14 =>
  wpB (gd t8 false (pickv (gv t8 false t11) (some t14) (some (.bool false)))) fun t15 =>
  wpB (pickv t8 (some (.bool true)) (some t15)) fun t16 =>
  Q t16 w
theorem F77_ok {a0 : Value} {w : World} {Q : Value → World → Prop} (h : F77 a0 w Q) : CallR Tryz.prog 77 [a0] w Q :=
  af mixed ad Tryz.func77 (c := C77) rfl H77 (Nat.le_of_ble_eq_true rfl) (by kernel_rfl) h

noncomputable def C78 : Code := (Tryz.f78.body).getD .skip
noncomputable def H78 : Hints := ⟨[], [], []⟩
def F78 (a0 a1 a2 : Value) (w : World) (Q : Value → World → Prop) : Prop :=
  wpB (bp Tryz.prog .geq 3 a0 a1) fun t9 =>
  wpB (gd t9 true (bp Tryz.prog .leq 3 (gv t9 true a0) (gv t9 true a2))) fun t13 =>
  wpB (pickv t9 (some t13) (some (.bool false))) fun t14 =>
  Q t14 w
theorem F78_ok {a0 a1 a2 : Value} {w : World} {Q : Value → World → Prop} (h : F78 a0 a1 a2 w Q) : CallR Tryz.prog 78 [a0, a1, a2] w Q :=
  af mixed ad Tryz.func78 (c := C78) rfl H78 (Nat.le_of_ble_eq_true rfl) (by kernel_rfl) h

noncomputable def C79 : Code := (Tryz.f79.body).getD .skip
noncomputable def H79 : Hints := ⟨[], [], []⟩
def F79 (a0 : Value) (w : World) (Q : Value → World → Prop) : Prop :=
  wpB (bp Tryz.prog .geq 3 a0 (.int .i64 7)) fun t4 =>
  wpB (gd t4 true (bp Tryz.prog .leq 3 (gv t4 true a0) (.int .i64 9))) fun t7 =>
  wpB (pickv t4 (some t7) (some (.bool false))) fun t8 =>
  Q t8 w
theorem F79_ok {a0 : Value} {w : World} {Q : Value → World → Prop} (h : F79 a0 w Q) : CallR Tryz.prog 79 [a0] w Q :=
  af mixed ad Tryz.func79 (c := C79) rfl H79 (Nat.le_of_ble_eq_true rfl) (by kernel_rfl) h

noncomputable def C80 : Code := (Tryz.f80.body).getD .skip
noncomputable def H80 : Hints := ⟨[], [], []⟩
def F80 (a0 a1 a2 : Value) (w : World) (Q : Value → World → Prop) : Prop :=
  effv Tryz.prog (Instr.box 36 a1) w fun t4 w =>
  effv Tryz.prog (Instr.box 38 a2) w fun t5 w =>
  wpB (ldv Tryz.prog 38 t5 w) fun t11 =>
  CallR Tryz.prog 93 [a0, t11] w fun t12 w =>
  wpB (pureRun Tryz.prog (Instr.extract t12 0)) fun t13 =>
  wpB (pureRun Tryz.prog (Instr.extract t12 1)) fun t14 =>
  wpB (pureRun Tryz.prog (Instr.fieldAt 36 t4 0)) fun t15 =>
  wpB (ldv Tryz.prog 3 t15 w) fun t16 =>
  CallR Tryz.prog 76 [t16] w fun t17 w =>
  wpB (be Tryz.prog .eql 3 (.tmp 17) (.const (.int .i64 1)) t17 (.int .i64 1)) fun t19 =>
  cnd t19
  (Q t13 w)
  (wpB (be Tryz.prog .eql 3 (.tmp 17) (.const (.int .i64 2)) t17 (.int .i64 2)) fun t22 =>
  cnd t22
  (Q t14 w)
  (wpB (be Tryz.prog .eql 3 (.tmp 17) (.const (.int .i64 3)) t17 (.int .i64 3)) fun t25 =>
  cnd t25
  (wpB (pickv t13 (some (.bool true)) (some (gv t13 false t14))) fun t29 =>
  Q t29 w)
  (Q (.bool true) w)))
theorem F80_ok {a0 a1 a2 : Value} {w : World} {Q : Value → World → Prop} (h : F80 a0 a1 a2 w Q) : CallR Tryz.prog 80 [a0, a1, a2] w Q :=
  af mixed ad Tryz.func80 (c := C80) rfl H80 (Nat.le_of_ble_eq_true rfl) (by kernel_rfl) h

noncomputable def C81 : Code := (Tryz.f81.body).getD .skip
noncomputable def H81 : Hints := ⟨[(2, [0, 1, 2, 7])], [], []⟩
noncomputable def T81_0 : List It := [.lp (nav [1, 0, 1, 4, 5] C81), .blk 0, .jn (nav [1, 1] C81)]
def P81_0 (x0 x1 x2 x7 : Value) (w : World) (Q : Value → World → Prop) : Prop := Part Tryz.prog 81 T81_0 [0, 1, 2, 7] [x0, x1, x2, x7] w Q
def F81 (a0 a1 a2 : Value) (w : World) (Q : Value → World → Prop) : Prop :=
  P81_0 a0 a1 a2 (.int .i64 0) w Q
def L81_0 (x0 x1 x2 x7 : Value) (w : World) (Q : Value → World → Prop) : Prop :=
  wpB (nilv x0) fun t10 =>
  wpB (pureRun Tryz.prog (Instr.fieldAt 112 t10 4)) fun t11 =>
  wpB (ldv Tryz.prog 109 t11 w) fun t12 =>
  wpB (pureRun Tryz.prog (Builtin.len_ #[109] 3 #[t12])) fun t13 =>
  wpB (bp Tryz.prog .lss 3 x7 t13) fun t14 =>
  cnd t14
  (wpB (nilv x0) fun t18 =>
  wpB (pureRun Tryz.prog (Instr.fieldAt 112 t18 4)) fun t19 =>
  wpB (ldv Tryz.prog 109 t19 w) fun t20 =>
  wpB (pureRun Tryz.prog (Instr.indexAt 109 t20 x7)) fun t22 =>
  wpB (pureRun Tryz.prog (Instr.fieldAt 126 t22 0)) fun t23 =>
  wpB (ldv Tryz.prog 3 t23 w) fun t24 =>
  wpB (be Tryz.prog .eql 3 (.tmp 24) (.tmp 25) t24 x1) fun t26 =>
  wpB (gd t26 true (nilv (gv t26 true x0))) fun t29 =>
  wpB (gd t26 true (pureRun Tryz.prog (Instr.fieldAt 112 t29 4))) fun t30 =>
  wpB (gd t26 true (ldv Tryz.prog 109 t30 w)) fun t31 =>
  wpB (gd t26 true (pureRun Tryz.prog (Instr.indexAt 109 t31 (gv t26 true x7)))) fun t33 =>
  wpB (gd t26 true (pureRun Tryz.prog (Instr.fieldAt 126 t33 1))) fun t34 =>
  wpB (gd t26 true (ldv Tryz.prog 3 t34 w)) fun t35 =>
  wpB (gd t26 true (be Tryz.prog .eql 3 (.tmp 35) (.tmp 36) t35 (gv t26 true x2))) fun t37 =>
  wpB (pickv t26 (some t37) (some (.bool false))) fun t38 =>
  cnd t38
  (Q x7 w)
  (wpB (bp Tryz.prog .add 3 x7 (.int .i64 1)) fun t16 =>
  P81_0 x0 x1 x2 t16 w Q))
  (Q (.int .i64 (-1)) w)
theorem F81_ok {a0 a1 a2 : Value} {w : World} {Q : Value → World → Prop} (h : F81 a0 a1 a2 w Q) : CallR Tryz.prog 81 [a0, a1, a2] w Q :=
  af mixed ad Tryz.func81 (c := C81) rfl H81 (Nat.le_of_ble_eq_true rfl) (by kernel_rfl) h
theorem L81_0_ok {x0 x1 x2 x7 : Value} {w : World} {Q : Value → World → Prop} (h : L81_0 x0 x1 x2 x7 w Q) : P81_0 x0 x1 x2 x7 w Q :=
  aB mixed ad Tryz.func81 H81 (by kernel_rfl) h

noncomputable def C82 : Code := (Tryz.f82.body).getD .skip
noncomputable def H82 : Hints := ⟨[(2, [0, 1, 2, 3, 9])], [], []⟩
noncomputable def T82_0 : List It := [.lp (nav [1, 0, 1, 4, 5] C82), .blk 0, .jn (nav [1, 1] C82)]
def P82_0 (x0 x1 x2 x3 x9 : Value) (w : World) (Q : Value → World → Prop) : Prop := Part Tryz.prog 82 T82_0 [0, 1, 2, 3, 9] [x0, x1, x2, x3, x9] w Q
def F82 (a0 a1 a2 a3 : Value) (w : World) (Q : Value → World → Prop) : Prop :=
  P82_0 a0 a1 a2 a3 (.int .i64 0) w Q
def L82_0 (x0 x1 x2 x3 x9 : Value) (w : World) (Q : Value → World → Prop) : Prop :=
  wpB (nilv x0) fun t12 =>
  wpB (pureRun Tryz.prog (Instr.fieldAt 112 t12 6)) fun t13 =>
  wpB (ldv Tryz.prog 110 t13 w) fun t14 =>
  wpB (pureRun Tryz.prog (Instr.indexAt 110 t14 x1)) fun t16 =>
  wpB (ldv Tryz.prog 127 t16 w) fun t17 =>
  wpB (pureRun Tryz.prog (Builtin.len_ #[127] 3 #[t17])) fun t18 =>
  wpB (bp Tryz.prog .lss 3 x9 t18) fun t19 =>
  cnd t19
  (wpB (nilv x0) fun t23 =>
  wpB (pureRun Tryz.prog (Instr.fieldAt 112 t23 6)) fun t24 =>
  wpB (ldv Tryz.prog 110 t24 w) fun t25 =>
  wpB (pureRun Tryz.prog (Instr.indexAt 110 t25 x1)) fun t27 =>
  wpB (ldv Tryz.prog 127 t27 w) fun t28 =>
  wpB (pureRun Tryz.prog (Instr.indexAt 127 t28 x9)) fun t30 =>
  wpB (ldv Tryz.prog 137 t30 w) fun t31 =>
  wpB (pureRun Tryz.prog (Instr.build 137 #[(0, x2), (1, x3)])) fun t34 =>
  wpB (be Tryz.prog .eql 137 (.tmp 31) (.tmp 34) t31 t34) fun t35 =>
  cnd t35
  (Q (.bool true) w)
  (wpB (bp Tryz.prog .add 3 x9 (.int .i64 1)) fun t21 =>
  P82_0 x0 x1 x2 x3 t21 w Q))
  (Q (.bool false) w)
theorem F82_ok {a0 a1 a2 a3 : Value} {w : World} {Q : Value → World → Prop} (h : F82 a0 a1 a2 a3 w Q) : CallR Tryz.prog 82 [a0, a1, a2, a3] w Q :=
  af mixed ad Tryz.func82 (c := C82) rfl H82 (Nat.le_of_ble_eq_true rfl) (by kernel_rfl) h
theorem L82_0_ok {x0 x1 x2 x3 x9 : Value} {w : World} {Q : Value → World → Prop} (h : L82_0 x0 x1 x2 x3 x9 w Q) : P82_0 x0 x1 x2 x3 x9 w Q :=
  aB mixed ad Tryz.func82 H82 (by kernel_rfl) h

noncomputable def C83 : Code := (Tryz.f83.body).getD .skip
noncomputable def H83 : Hints := ⟨[], [(6, [8, 10, 11]), (9, [8, 10, 11, 57, 58]), (13, [10])], [(5, (.ask 3 17 (.ask 7 17 (.ask 21 17 (.ask 23 17 (.leaf [0, 1, 2, 4, 8, 9, 10, 12, 15, 20, 22, 3, 5, 6, 7, 11, 13, 14, 16, 21, 23, 24, 17, 18, 19, 25, 26, 27]) (.leaf [0, 1, 2, 4, 8, 9, 10, 12, 15, 20, 22, 3, 5, 6, 7, 11, 13, 14, 16, 21, 17, 18, 19, 23, 24, 25, 26, 27])) (.ask 23 17 (.leaf [0, 1, 2, 4, 8, 9, 10, 12, 15, 20, 22, 3, 5, 6, 7, 11, 13, 14, 16, 23, 17, 18, 19, 21, 24, 25, 26, 27]) (.leaf [0, 1, 2, 3, 4, 5, 6, 7, 8, 9, 10, 11, 12, 13, 14, 15, 16, 17, 18, 19, 20, 21, 22, 23, 24, 25, 26, 27]))) (.ask 21 17 (.ask 23 17 (.leaf [0, 1, 2, 4, 8, 9, 10, 12, 15, 20, 22, 3, 5, 6, 11, 13, 14, 16, 21, 23, 24, 17, 7, 18, 19, 25, 26, 27]) (.leaf [0, 1, 2, 4, 8, 9, 10, 12, 15, 20, 22, 3, 5, 6, 11, 13, 14, 16, 21, 17, 7, 18, 19, 23, 24, 25, 26, 27])) (.ask 23 17 (.leaf [0, 1, 2, 4, 8, 9, 10, 12, 15, 20, 22, 3, 5, 6, 11, 13, 14, 16, 23, 17, 7, 18, 19, 21, 24, 25, 26, 27]) (.leaf [0, 1, 2, 4, 8, 9, 10, 12, 15, 20, 22, 3, 5, 6, 11, 13, 14, 16, 17, 7, 18, 19, 21, 23, 24, 25, 26, 27])))) (.ask 21 17 (.ask 23 17 (.leaf [0, 1, 2, 4, 8, 9, 10, 12, 15, 20, 22, 11, 13, 14, 16, 21, 23, 24, 17, 3, 5, 6, 7, 18, 19, 25, 26, 27]) (.leaf [0, 1, 2, 4, 8, 9, 10, 12, 15, 20, 22, 11, 13, 14, 16, 21, 17, 3, 5, 6, 7, 18, 19, 23, 24, 25, 26, 27])) (.ask 23 17 (.leaf [0, 1, 2, 4, 8, 9, 10, 12, 15, 20, 22, 11, 13, 14, 16, 23, 17, 3, 5, 6, 7, 18, 19, 21, 24, 25, 26, 27]) (.leaf [0, 1, 2, 4, 8, 9, 10, 12, 15, 20, 22, 11, 13, 14, 16, 17, 3, 5, 6, 7, 18, 19, 21, 23, 24, 25, 26, 27])))))]⟩
noncomputable def T83_0 : List It := [.jn (nav [1, 1, 1] C83)]
noncomputable def T83_1 : List It := [.jn (nav [1, 1, 1, 0, 1, 4, 1] C83), .blk 1, .jn (nav [1, 1, 1, 1] C83)]
noncomputable def T83_2 : List It := [.jn (nav [1, 1, 1, 1] C83)]
def P83_0 (x8 x10 x11 : Value) (w : World) (Q : Value → World → Prop) : Prop := Part Tryz.prog 83 T83_0 [8, 10, 11] [x8, x10, x11] w Q
def P83_1 (x8 x10 x11 x57 x58 : Value) (w : World) (Q : Value → World → Prop) : Prop := Part Tryz.prog 83 T83_1 [8, 10, 11, 57, 58] [x8, x10, x11, x57, x58] w Q
def P83_2 (x10 : Value) (w : World) (Q : Value → World → Prop) : Prop := Part Tryz.prog 83 T83_2 [10] [x10] w Q
def F83 (a0 a1 a2 a3 a4 : Value) (w : World) (Q : Value → World → Prop) : Prop :=
  effv Tryz.prog (Instr.box 36 a3) w fun t8 w =>
  effv Tryz.prog (Instr.box 38 a4) w fun t9 w =>
  effv Tryz.prog (Instr.alloc 40 true (.tuple #[])) w fun t10 w =>
  wpB (pureRun Tryz.prog (Instr.fieldAt 38 t9 0)) fun t15 =>
  wpB (ldv Tryz.prog 3 t15 w) fun t16 =>
  wpB (pureRun Tryz.prog (Instr.fieldAt 38 t9 1)) fun t17 =>
  wpB (ldv Tryz.prog 3 t17 w) fun t18 =>
  CallR Tryz.prog 82 [a0, a1, t16, t18] w fun t19 w =>
  wpB (pureRun Tryz.prog (Op.unary .not t19)) fun t20 =>
  cnd t20
  (wpB (pureRun Tryz.prog (Instr.build 40 #[(0, (.int .i64 4))])) fun t21 =>
  effu Tryz.prog (Instr.storeAt 40 t10 t21) w fun w =>
  wpB (ldv Tryz.prog 40 t10 w) fun r10 => Q r10 w)
  (wpB (pureRun Tryz.prog (Instr.fieldAt 36 t8 3)) fun t23 =>
  wpB (ldv Tryz.prog 3 t23 w) fun t24 =>
  wpB (pureRun Tryz.prog (Instr.fieldAt 38 t9 4)) fun t25 =>
  wpB (ldv Tryz.prog 3 t25 w) fun t26 =>
  wpB (bp Tryz.prog .geq 3 t24 t26) fun t27 =>
  cnd t27
  (wpB (pureRun Tryz.prog (Instr.build 40 #[(0, (.int .i64 5))])) fun t28 =>
  effu Tryz.prog (Instr.storeAt 40 t10 t28) w fun w =>
  wpB (ldv Tryz.prog 40 t10 w) fun r10_1 => Q r10_1 w)
  (((((wpB (nilv a0) fun t30 =>
  wpB (pureRun Tryz.prog (Instr.fieldAt 112 t30 4)) fun t31 =>
  wpB (nilv a0) fun t38 =>
  wpB (pureRun Tryz.prog (Instr.fieldAt 112 t38 4)) fun t39 =>
  wpB (pureRun Tryz.prog (Instr.fieldAt 38 t9 2)) fun t44 =>
  wpB (pureRun Tryz.prog (Instr.fieldAt 38 t9 3)) fun t49 =>
  wpB (pureRun Tryz.prog (Instr.fieldAt 36 t8 3)) fun t51 =>
  wpB (ldv Tryz.prog 109 t31 w.drew) fun t32 =>
  wpB (pureRun Tryz.prog (Instr.indexAt 109 t32 a2)) fun t34 =>
  wpB (pureRun Tryz.prog (Instr.fieldAt 126 t34 6)) fun t35 =>
  wpB (ldv Tryz.prog 84 t35 w.drew) fun t36 =>
  wpB (ldv Tryz.prog 109 t39 w.drew) fun t40 =>
  wpB (pureRun Tryz.prog (Instr.indexAt 109 t40 a2)) fun t42 =>
  wpB (ldv Tryz.prog 126 t42 w.drew) fun t43 =>
  wpB (ldv Tryz.prog 3 t44 w.drew) fun t45 =>
  wpB (ldv Tryz.prog 3 t49 w.drew) fun t50 =>
  wpB (ldv Tryz.prog 3 t51 w.drew) fun t52 =>
  wpB (bp Tryz.prog .add 3 t50 t52) fun t53 =>
  CallR Tryz.prog 94 [t43, t45] w.drew fun t46 w =>
  wpB (pureRun Tryz.prog (Instr.indexAt 84 t36 t46)) fun t47 =>
  wpB (ldv Tryz.prog 102 t47 w) fun t48 =>
  wpB (pureRun Tryz.prog (Instr.indexAt 102 t48 t53)) fun t54 =>
  wpB (ldv Tryz.prog 34 t54 w) fun t55 =>
  P83_0 t8 t10 t55 w Q) ∧
  (wpB (nilv a0) fun t30_1 =>
  wpB (pureRun Tryz.prog (Instr.fieldAt 112 t30_1 4)) fun t31_1 =>
  wpB (nilv a0) fun t38_1 =>
  wpB (pureRun Tryz.prog (Instr.fieldAt 112 t38_1 4)) fun t39_1 =>
  wpB (pureRun Tryz.prog (Instr.fieldAt 38 t9 2)) fun t44_1 =>
  wpB (pureRun Tryz.prog (Instr.fieldAt 38 t9 3)) fun t49_1 =>
  wpB (pureRun Tryz.prog (Instr.fieldAt 36 t8 3)) fun t51_1 =>
  wpB (ldv Tryz.prog 109 t31_1 w.drew) fun t32_1 =>
  wpB (pureRun Tryz.prog (Instr.indexAt 109 t32_1 a2)) fun t34_1 =>
  wpB (pureRun Tryz.prog (Instr.fieldAt 126 t34_1 6)) fun t35_1 =>
  wpB (ldv Tryz.prog 84 t35_1 w.drew) fun t36_1 =>
  wpB (ldv Tryz.prog 109 t39_1 w.drew) fun t40_1 =>
  wpB (pureRun Tryz.prog (Instr.indexAt 109 t40_1 a2)) fun t42_1 =>
  wpB (ldv Tryz.prog 126 t42_1 w.drew) fun t43_1 =>
  wpB (ldv Tryz.prog 3 t44_1 w.drew) fun t45_1 =>
  wpB (ldv Tryz.prog 3 t49_1 w.drew) fun t50_1 =>
  CallR Tryz.prog 94 [t43_1, t45_1] w.drew fun t46_1 w =>
  wpB (pureRun Tryz.prog (Instr.indexAt 84 t36_1 t46_1)) fun t47_1 =>
  wpB (ldv Tryz.prog 102 t47_1 w) fun t48_1 =>
  wpB (ldv Tryz.prog 3 t51_1 w) fun t52_1 =>
  wpB (bp Tryz.prog .add 3 t50_1 t52_1) fun t53_1 =>
  wpB (pureRun Tryz.prog (Instr.indexAt 102 t48_1 t53_1)) fun t54_1 =>
  wpB (ldv Tryz.prog 34 t54_1 w) fun t55_1 =>
  P83_0 t8 t10 t55_1 w Q)) ∧
  ((wpB (nilv a0) fun t30_2 =>
  wpB (pureRun Tryz.prog (Instr.fieldAt 112 t30_2 4)) fun t31_2 =>
  wpB (nilv a0) fun t38_2 =>
  wpB (pureRun Tryz.prog (Instr.fieldAt 112 t38_2 4)) fun t39_2 =>
  wpB (pureRun Tryz.prog (Instr.fieldAt 38 t9 2)) fun t44_2 =>
  wpB (pureRun Tryz.prog (Instr.fieldAt 38 t9 3)) fun t49_2 =>
  wpB (pureRun Tryz.prog (Instr.fieldAt 36 t8 3)) fun t51_2 =>
  wpB (ldv Tryz.prog 109 t31_2 w.drew) fun t32_2 =>
  wpB (pureRun Tryz.prog (Instr.indexAt 109 t32_2 a2)) fun t34_2 =>
  wpB (pureRun Tryz.prog (Instr.fieldAt 126 t34_2 6)) fun t35_2 =>
  wpB (ldv Tryz.prog 84 t35_2 w.drew) fun t36_2 =>
  wpB (ldv Tryz.prog 109 t39_2 w.drew) fun t40_2 =>
  wpB (pureRun Tryz.prog (Instr.indexAt 109 t40_2 a2)) fun t42_2 =>
  wpB (ldv Tryz.prog 126 t42_2 w.drew) fun t43_2 =>
  wpB (ldv Tryz.prog 3 t44_2 w.drew) fun t45_2 =>
  wpB (ldv Tryz.prog 3 t51_2 w.drew) fun t52_2 =>
  CallR Tryz.prog 94 [t43_2, t45_2] w.drew fun t46_2 w =>
  wpB (pureRun Tryz.prog (Instr.indexAt 84 t36_2 t46_2)) fun t47_2 =>
  wpB (ldv Tryz.prog 102 t47_2 w) fun t48_2 =>
  wpB (ldv Tryz.prog 3 t49_2 w) fun t50_2 =>
  wpB (bp Tryz.prog .add 3 t50_2 t52_2) fun t53_2 =>
  wpB (pureRun Tryz.prog (Instr.indexAt 102 t48_2 t53_2)) fun t54_2 =>
  wpB (ldv Tryz.prog 34 t54_2 w) fun t55_2 =>
  P83_0 t8 t10 t55_2 w Q) ∧
  (wpB (nilv a0) fun t30_3 =>
  wpB (pureRun Tryz.prog (Instr.fieldAt 112 t30_3 4)) fun t31_3 =>
  wpB (ldv Tryz.prog 109 t31_3 w.drew) fun t32_3 =>
  wpB (pureRun Tryz.prog (Instr.indexAt 109 t32_3 a2)) fun t34_3 =>
  wpB (pureRun Tryz.prog (Instr.fieldAt 126 t34_3 6)) fun t35_3 =>
  wpB (ldv Tryz.prog 84 t35_3 w.drew) fun t36_3 =>
  wpB (nilv a0) fun t38_3 =>
  wpB (pureRun Tryz.prog (Instr.fieldAt 112 t38_3 4)) fun t39_3 =>
  wpB (ldv Tryz.prog 109 t39_3 w.drew) fun t40_3 =>
  wpB (pureRun Tryz.prog (Instr.indexAt 109 t40_3 a2)) fun t42_3 =>
  wpB (ldv Tryz.prog 126 t42_3 w.drew) fun t43_3 =>
  wpB (pureRun Tryz.prog (Instr.fieldAt 38 t9 2)) fun t44_3 =>
  wpB (ldv Tryz.prog 3 t44_3 w.drew) fun t45_3 =>
  CallR Tryz.prog 94 [t43_3, t45_3] w.drew fun t46_3 w =>
  wpB (pureRun Tryz.prog (Instr.indexAt 84 t36_3 t46_3)) fun t47_3 =>
  wpB (ldv Tryz.prog 102 t47_3 w) fun t48_3 =>
  wpB (pureRun Tryz.prog (Instr.fieldAt 38 t9 3)) fun t49_3 =>
  wpB (ldv Tryz.prog 3 t49_3 w) fun t50_3 =>
  wpB (pureRun Tryz.prog (Instr.fieldAt 36 t8 3)) fun t51_3 =>
  wpB (ldv Tryz.prog 3 t51_3 w) fun t52_3 =>
  wpB (bp Tryz.prog .add 3 t50_3 t52_3) fun t53_3 =>
  wpB (pureRun Tryz.prog (Instr.indexAt 102 t48_3 t53_3)) fun t54_3 =>
  wpB (ldv Tryz.prog 34 t54_3 w) fun t55_3 =>
  P83_0 t8 t10 t55_3 w Q))) ∧
  (((wpB (nilv a0) fun t30_4 =>
  wpB (pureRun Tryz.prog (Instr.fieldAt 112 t30_4 4)) fun t31_4 =>
  wpB (nilv a0) fun t38_4 =>
  wpB (pureRun Tryz.prog (Instr.fieldAt 112 t38_4 4)) fun t39_4 =>
  wpB (pureRun Tryz.prog (Instr.fieldAt 38 t9 2)) fun t44_4 =>
  wpB (pureRun Tryz.prog (Instr.fieldAt 38 t9 3)) fun t49_4 =>
  wpB (pureRun Tryz.prog (Instr.fieldAt 36 t8 3)) fun t51_4 =>
  wpB (ldv Tryz.prog 109 t31_4 w.drew) fun t32_4 =>
  wpB (pureRun Tryz.prog (Instr.indexAt 109 t32_4 a2)) fun t34_4 =>
  wpB (pureRun Tryz.prog (Instr.fieldAt 126 t34_4 6)) fun t35_4 =>
  wpB (ldv Tryz.prog 109 t39_4 w.drew) fun t40_4 =>
  wpB (pureRun Tryz.prog (Instr.indexAt 109 t40_4 a2)) fun t42_4 =>
  wpB (ldv Tryz.prog 126 t42_4 w.drew) fun t43_4 =>
  wpB (ldv Tryz.prog 3 t44_4 w.drew) fun t45_4 =>
  wpB (ldv Tryz.prog 3 t49_4 w.drew) fun t50_4 =>
  wpB (ldv Tryz.prog 3 t51_4 w.drew) fun t52_4 =>
  wpB (bp Tryz.prog .add 3 t50_4 t52_4) fun t53_4 =>
  CallR Tryz.prog 94 [t43_4, t45_4] w.drew fun t46_4 w =>
  wpB (ldv Tryz.prog 84 t35_4 w) fun t36_4 =>
  wpB (pureRun Tryz.prog (Instr.indexAt 84 t36_4 t46_4)) fun t47_4 =>
  wpB (ldv Tryz.prog 102 t47_4 w) fun t48_4 =>
  wpB (pureRun Tryz.prog (Instr.indexAt 102 t48_4 t53_4)) fun t54_4 =>
  wpB (ldv Tryz.prog 34 t54_4 w) fun t55_4 =>
  P83_0 t8 t10 t55_4 w Q) ∧
  (wpB (nilv a0) fun t30_5 =>
  wpB (pureRun Tryz.prog (Instr.fieldAt 112 t30_5 4)) fun t31_5 =>
  wpB (nilv a0) fun t38_5 =>
  wpB (pureRun Tryz.prog (Instr.fieldAt 112 t38_5 4)) fun t39_5 =>
  wpB (pureRun Tryz.prog (Instr.fieldAt 38 t9 2)) fun t44_5 =>
  wpB (pureRun Tryz.prog (Instr.fieldAt 38 t9 3)) fun t49_5 =>
  wpB (pureRun Tryz.prog (Instr.fieldAt 36 t8 3)) fun t51_5 =>
  wpB (ldv Tryz.prog 109 t31_5 w.drew) fun t32_5 =>
  wpB (pureRun Tryz.prog (Instr.indexAt 109 t32_5 a2)) fun t34_5 =>
  wpB (pureRun Tryz.prog (Instr.fieldAt 126 t34_5 6)) fun t35_5 =>
  wpB (ldv Tryz.prog 109 t39_5 w.drew) fun t40_5 =>
  wpB (pureRun Tryz.prog (Instr.indexAt 109 t40_5 a2)) fun t42_5 =>
  wpB (ldv Tryz.prog 126 t42_5 w.drew) fun t43_5 =>
  wpB (ldv Tryz.prog 3 t44_5 w.drew) fun t45_5 =>
  wpB (ldv Tryz.prog 3 t49_5 w.drew) fun t50_5 =>
  CallR Tryz.prog 94 [t43_5, t45_5] w.drew fun t46_5 w =>
  wpB (ldv Tryz.prog 84 t35_5 w) fun t36_5 =>
  wpB (pureRun Tryz.prog (Instr.indexAt 84 t36_5 t46_5)) fun t47_5 =>
  wpB (ldv Tryz.prog 102 t47_5 w) fun t48_5 =>
  wpB (ldv Tryz.prog 3 t51_5 w) fun t52_5 =>
  wpB (bp Tryz.prog .add 3 t50_5 t52_5) fun t53_5 =>
  wpB (pureRun Tryz.prog (Instr.indexAt 102 t48_5 t53_5)) fun t54_5 =>
  wpB (ldv Tryz.prog 34 t54_5 w) fun t55_5 =>
  P83_0 t8 t10 t55_5 w Q)) ∧
  ((wpB (nilv a0) fun t30_6 =>
  wpB (pureRun Tryz.prog (Instr.fieldAt 112 t30_6 4)) fun t31_6 =>
  wpB (nilv a0) fun t38_6 =>
  wpB (pureRun Tryz.prog (Instr.fieldAt 112 t38_6 4)) fun t39_6 =>
  wpB (pureRun Tryz.prog (Instr.fieldAt 38 t9 2)) fun t44_6 =>
  wpB (pureRun Tryz.prog (Instr.fieldAt 38 t9 3)) fun t49_6 =>
  wpB (pureRun Tryz.prog (Instr.fieldAt 36 t8 3)) fun t51_6 =>
  wpB (ldv Tryz.prog 109 t31_6 w.drew) fun t32_6 =>
  wpB (pureRun Tryz.prog (Instr.indexAt 109 t32_6 a2)) fun t34_6 =>
  wpB (pureRun Tryz.prog (Instr.fieldAt 126 t34_6 6)) fun t35_6 =>
  wpB (ldv Tryz.prog 109 t39_6 w.drew) fun t40_6 =>
  wpB (pureRun Tryz.prog (Instr.indexAt 109 t40_6 a2)) fun t42_6 =>
  wpB (ldv Tryz.prog 126 t42_6 w.drew) fun t43_6 =>
  wpB (ldv Tryz.prog 3 t44_6 w.drew) fun t45_6 =>
  wpB (ldv Tryz.prog 3 t51_6 w.drew) fun t52_6 =>
  CallR Tryz.prog 94 [t43_6, t45_6] w.drew fun t46_6 w =>
  wpB (ldv Tryz.prog 84 t35_6 w) fun t36_6 =>
  wpB (pureRun Tryz.prog (Instr.indexAt 84 t36_6 t46_6)) fun t47_6 =>
  wpB (ldv Tryz.prog 102 t47_6 w) fun t48_6 =>
  wpB (ldv Tryz.prog 3 t49_6 w) fun t50_6 =>
  wpB (bp Tryz.prog .add 3 t50_6 t52_6) fun t53_6 =>
  wpB (pureRun Tryz.prog (Instr.indexAt 102 t48_6 t53_6)) fun t54_6 =>
  wpB (ldv Tryz.prog 34 t54_6 w) fun t55_6 =>
  P83_0 t8 t10 t55_6 w Q) ∧
  (wpB (nilv a0) fun t30_7 =>
  wpB (pureRun Tryz.prog (Instr.fieldAt 112 t30_7 4)) fun t31_7 =>
  wpB (nilv a0) fun t38_7 =>
  wpB (pureRun Tryz.prog (Instr.fieldAt 112 t38_7 4)) fun t39_7 =>
  wpB (pureRun Tryz.prog (Instr.fieldAt 38 t9 2)) fun t44_7 =>
  wpB (pureRun Tryz.prog (Instr.fieldAt 38 t9 3)) fun t49_7 =>
  wpB (pureRun Tryz.prog (Instr.fieldAt 36 t8 3)) fun t51_7 =>
  wpB (ldv Tryz.prog 109 t31_7 w.drew) fun t32_7 =>
  wpB (pureRun Tryz.prog (Instr.indexAt 109 t32_7 a2)) fun t34_7 =>
  wpB (pureRun Tryz.prog (Instr.fieldAt 126 t34_7 6)) fun t35_7 =>
  wpB (ldv Tryz.prog 109 t39_7 w.drew) fun t40_7 =>
  wpB (pureRun Tryz.prog (Instr.indexAt 109 t40_7 a2)) fun t42_7 =>
  wpB (ldv Tryz.prog 126 t42_7 w.drew) fun t43_7 =>
  wpB (ldv Tryz.prog 3 t44_7 w.drew) fun t45_7 =>
  CallR Tryz.prog 94 [t43_7, t45_7] w.drew fun t46_7 w =>
  wpB (ldv Tryz.prog 84 t35_7 w) fun t36_7 =>
  wpB (pureRun Tryz.prog (Instr.indexAt 84 t36_7 t46_7)) fun t47_7 =>
  wpB (ldv Tryz.prog 102 t47_7 w) fun t48_7 =>
  wpB (ldv Tryz.prog 3 t49_7 w) fun t50_7 =>
  wpB (ldv Tryz.prog 3 t51_7 w) fun t52_7 =>
  wpB (bp Tryz.prog .add 3 t50_7 t52_7) fun t53_7 =>
  wpB (pureRun Tryz.prog (Instr.indexAt 102 t48_7 t53_7)) fun t54_7 =>
  wpB (ldv Tryz.prog 34 t54_7 w) fun t55_7 =>
  P83_0 t8 t10 t55_7 w Q)))) ∧
  (((wpB (nilv a0) fun t30_8 =>
  wpB (pureRun Tryz.prog (Instr.fieldAt 112 t30_8 4)) fun t31_8 =>
  wpB (nilv a0) fun t38_8 =>
  wpB (pureRun Tryz.prog (Instr.fieldAt 112 t38_8 4)) fun t39_8 =>
  wpB (pureRun Tryz.prog (Instr.fieldAt 38 t9 2)) fun t44_8 =>
  wpB (pureRun Tryz.prog (Instr.fieldAt 38 t9 3)) fun t49_8 =>
  wpB (pureRun Tryz.prog (Instr.fieldAt 36 t8 3)) fun t51_8 =>
  wpB (ldv Tryz.prog 109 t39_8 w.drew) fun t40_8 =>
  wpB (pureRun Tryz.prog (Instr.indexAt 109 t40_8 a2)) fun t42_8 =>
  wpB (ldv Tryz.prog 126 t42_8 w.drew) fun t43_8 =>
  wpB (ldv Tryz.prog 3 t44_8 w.drew) fun t45_8 =>
  wpB (ldv Tryz.prog 3 t49_8 w.drew) fun t50_8 =>
  wpB (ldv Tryz.prog 3 t51_8 w.drew) fun t52_8 =>
  wpB (bp Tryz.prog .add 3 t50_8 t52_8) fun t53_8 =>
  CallR Tryz.prog 94 [t43_8, t45_8] w.drew fun t46_8 w =>
  wpB (ldv Tryz.prog 109 t31_8 w) fun t32_8 =>
  wpB (pureRun Tryz.prog (Instr.indexAt 109 t32_8 a2)) fun t34_8 =>
  wpB (pureRun Tryz.prog (Instr.fieldAt 126 t34_8 6)) fun t35_8 =>
  wpB (ldv Tryz.prog 84 t35_8 w) fun t36_8 =>
  wpB (pureRun Tryz.prog (Instr.indexAt 84 t36_8 t46_8)) fun t47_8 =>
  wpB (ldv Tryz.prog 102 t47_8 w) fun t48_8 =>
  wpB (pureRun Tryz.prog (Instr.indexAt 102 t48_8 t53_8)) fun t54_8 =>
  wpB (ldv Tryz.prog 34 t54_8 w) fun t55_8 =>
  P83_0 t8 t10 t55_8 w Q) ∧
  (wpB (nilv a0) fun t30_9 =>
  wpB (pureRun Tryz.prog (Instr.fieldAt 112 t30_9 4)) fun t31_9 =>
  wpB (nilv a0) fun t38_9 =>
  wpB (pureRun Tryz.prog (Instr.fieldAt 112 t38_9 4)) fun t39_9 =>
  wpB (pureRun Tryz.prog (Instr.fieldAt 38 t9 2)) fun t44_9 =>
  wpB (pureRun Tryz.prog (Instr.fieldAt 38 t9 3)) fun t49_9 =>
  wpB (pureRun Tryz.prog (Instr.fieldAt 36 t8 3)) fun t51_9 =>
  wpB (ldv Tryz.prog 109 t39_9 w.drew) fun t40_9 =>
  wpB (pureRun Tryz.prog (Instr.indexAt 109 t40_9 a2)) fun t42_9 =>
  wpB (ldv Tryz.prog 126 t42_9 w.drew) fun t43_9 =>
  wpB (ldv Tryz.prog 3 t44_9 w.drew) fun t45_9 =>
  wpB (ldv Tryz.prog 3 t49_9 w.drew) fun t50_9 =>
  CallR Tryz.prog 94 [t43_9, t45_9] w.drew fun t46_9 w =>
  wpB (ldv Tryz.prog 109 t31_9 w) fun t32_9 =>
  wpB (pureRun Tryz.prog (Instr.indexAt 109 t32_9 a2)) fun t34_9 =>
  wpB (pureRun Tryz.prog (Instr.fieldAt 126 t34_9 6)) fun t35_9 =>
  wpB (ldv Tryz.prog 84 t35_9 w) fun t36_9 =>
  wpB (pureRun Tryz.prog (Instr.indexAt 84 t36_9 t46_9)) fun t47_9 =>
  wpB (ldv Tryz.prog 102 t47_9 w) fun t48_9 =>
  wpB (ldv Tryz.prog 3 t51_9 w) fun t52_9 =>
  wpB (bp Tryz.prog .add 3 t50_9 t52_9) fun t53_9 =>
  wpB (pureRun Tryz.prog (Instr.indexAt 102 t48_9 t53_9)) fun t54_9 =>
  wpB (ldv Tryz.prog 34 t54_9 w) fun t55_9 =>
  P83_0 t8 t10 t55_9 w Q)) ∧
  ((wpB (nilv a0) fun t30_10 =>
  wpB (pureRun Tryz.prog (Instr.fieldAt 112 t30_10 4)) fun t31_10 =>
  wpB (nilv a0) fun t38_10 =>
  wpB (pureRun Tryz.prog (Instr.fieldAt 112 t38_10 4)) fun t39_10 =>
  wpB (pureRun Tryz.prog (Instr.fieldAt 38 t9 2)) fun t44_10 =>
  wpB (pureRun Tryz.prog (Instr.fieldAt 38 t9 3)) fun t49_10 =>
  wpB (pureRun Tryz.prog (Instr.fieldAt 36 t8 3)) fun t51_10 =>
  wpB (ldv Tryz.prog 109 t39_10 w.drew) fun t40_10 =>
  wpB (pureRun Tryz.prog (Instr.indexAt 109 t40_10 a2)) fun t42_10 =>
  wpB (ldv Tryz.prog 126 t42_10 w.drew) fun t43_10 =>
  wpB (ldv Tryz.prog 3 t44_10 w.drew) fun t45_10 =>
  wpB (ldv Tryz.prog 3 t51_10 w.drew) fun t52_10 =>
  CallR Tryz.prog 94 [t43_10, t45_10] w.drew fun t46_10 w =>
  wpB (ldv Tryz.prog 109 t31_10 w) fun t32_10 =>
  wpB (pureRun Tryz.prog (Instr.indexAt 109 t32_10 a2)) fun t34_10 =>
  wpB (pureRun Tryz.prog (Instr.fieldAt 126 t34_10 6)) fun t35_10 =>
  wpB (ldv Tryz.prog 84 t35_10 w) fun t36_10 =>
  wpB (pureRun Tryz.prog (Instr.indexAt 84 t36_10 t46_10)) fun t47_10 =>
  wpB (ldv Tryz.prog 102 t47_10 w) fun t48_10 =>
  wpB (ldv Tryz.prog 3 t49_10 w) fun t50_10 =>
  wpB (bp Tryz.prog .add 3 t50_10 t52_10) fun t53_10 =>
  wpB (pureRun Tryz.prog (Instr.indexAt 102 t48_10 t53_10)) fun t54_10 =>
  wpB (ldv Tryz.prog 34 t54_10 w) fun t55_10 =>
  P83_0 t8 t10 t55_10 w Q) ∧
  (wpB (nilv a0) fun t30_11 =>
  wpB (pureRun Tryz.prog (Instr.fieldAt 112 t30_11 4)) fun t31_11 =>
  wpB (nilv a0) fun t38_11 =>
  wpB (pureRun Tryz.prog (Instr.fieldAt 112 t38_11 4)) fun t39_11 =>
  wpB (pureRun Tryz.prog (Instr.fieldAt 38 t9 2)) fun t44_11 =>
  wpB (pureRun Tryz.prog (Instr.fieldAt 38 t9 3)) fun t49_11 =>
  wpB (pureRun Tryz.prog (Instr.fieldAt 36 t8 3)) fun t51_11 =>
  wpB (ldv Tryz.prog 109 t39_11 w.drew) fun t40_11 =>
  wpB (pureRun Tryz.prog (Instr.indexAt 109 t40_11 a2)) fun t42_11 =>
  wpB (ldv Tryz.prog 126 t42_11 w.drew) fun t43_11 =>
  wpB (ldv Tryz.prog 3 t44_11 w.drew) fun t45_11 =>
  CallR Tryz.prog 94 [t43_11, t45_11] w.drew fun t46_11 w =>
  wpB (ldv Tryz.prog 109 t31_11 w) fun t32_11 =>
  wpB (pureRun Tryz.prog (Instr.indexAt 109 t32_11 a2)) fun t34_11 =>
  wpB (pureRun Tryz.prog (Instr.fieldAt 126 t34_11 6)) fun t35_11 =>
  wpB (ldv Tryz.prog 84 t35_11 w) fun t36_11 =>
  wpB (pureRun Tryz.prog (Instr.indexAt 84 t36_11 t46_11)) fun t47_11 =>
  wpB (ldv Tryz.prog 102 t47_11 w) fun t48_11 =>
  wpB (ldv Tryz.prog 3 t49_11 w) fun t50_11 =>
  wpB (ldv Tryz.prog 3 t51_11 w) fun t52_11 =>
  wpB (bp Tryz.prog .add 3 t50_11 t52_11) fun t53_11 =>
  wpB (pureRun Tryz.prog (Instr.indexAt 102 t48_11 t53_11)) fun t54_11 =>
  wpB (ldv Tryz.prog 34 t54_11 w) fun t55_11 =>
  P83_0 t8 t10 t55_11 w Q)))))
def L83_0 (x8 x10 x11 : Value) (w : World) (Q : Value → World → Prop) : Prop :=
  wpB (pureRun Tryz.prog (Instr.fieldAt 36 x8 0)) fun t56 =>
  wpB (ldv Tryz.prog 3 t56 w) fun t57 =>
  wpB (be Tryz.prog .eql 3 (.tmp 57) (.const (.int .i64 6)) t57 (.int .i64 6)) fun t59 =>
  cnd t59
  (P83_1 x8 x10 x11 t57 t59 w Q)
  (wpB (be Tryz.prog .eql 3 (.tmp 57) (.const (.int .i64 8)) t57 (.int .i64 8)) fun t60 =>
  P83_1 x8 x10 x11 t57 t60 w Q)
def L83_1 (x8 x10 x11 x57 x58 : Value) (w : World) (Q : Value → World → Prop) : Prop :=
  cnd x58
  (wpB (pureRun Tryz.prog (Instr.build 40 #[(3, x11)])) fun t62 =>
  effu Tryz.prog (Instr.storeAt 40 x10 t62) w fun w =>
  wpB (ldv Tryz.prog 40 x10 w) fun r10 => Q r10 w)
  (wpB (be Tryz.prog .eql 3 (.tmp 57) (.const (.int .i64 9)) x57 (.int .i64 9)) fun t64 =>
  cnd t64
  (wpB (pureRun Tryz.prog (Instr.fieldAt 36 x8 4)) fun t66 =>
  wpB (ldv Tryz.prog 34 t66 w) fun t67 =>
  wpB (be Tryz.prog .eql 34 (.tmp 65) (.tmp 67) x11 t67) fun t68 =>
  cnd t68
  (wpB (pureRun Tryz.prog (Instr.build 40 #[(2, (.int .i64 1))])) fun t69 =>
  effu Tryz.prog (Instr.storeAt 40 x10 t69) w fun w =>
  wpB (ldv Tryz.prog 40 x10 w) fun r10_1 => Q r10_1 w)
  (P83_2 x10 w Q))
  (P83_2 x10 w Q))
def L83_2 (x10 : Value) (w : World) (Q : Value → World → Prop) : Prop :=
  wpB (pureRun Tryz.prog (Instr.build 40 #[])) fun t70 =>
  effu Tryz.prog (Instr.storeAt 40 x10 t70) w fun w =>
  wpB (ldv Tryz.prog 40 x10 w) fun r10 => Q r10 w
theorem F83_ok {a0 a1 a2 a3 a4 : Value} {w : World} {Q : Value → World → Prop} (h : F83 a0 a1 a2 a3 a4 w Q) : CallR Tryz.prog 83 [a0, a1, a2, a3, a4] w Q :=
  af mixed ad Tryz.func83 (c := C83) rfl H83 (Nat.le_of_ble_eq_true rfl) (by kernel_rfl) h
theorem L83_0_ok {x8 x10 x11 : Value} {w : World} {Q : Value → World → Prop} (h : L83_0 x8 x10 x11 w Q) : P83_0 x8 x10 x11 w Q :=
  ax mixed ad Tryz.func83 H83 (by kernel_rfl) h
theorem L83_1_ok {x8 x10 x11 x57 x58 : Value} {w : World} {Q : Value → World → Prop} (h : L83_1 x8 x10 x11 x57 x58 w Q) : P83_1 x8 x10 x11 x57 x58 w Q :=
  ax mixed ad Tryz.func83 H83 (by kernel_rfl) h
theorem L83_2_ok {x10 : Value} {w : World} {Q : Value → World → Prop} (h : L83_2 x10 w Q) : P83_2 x10 w Q :=
  ax mixed ad Tryz.func83 H83 (by kernel_rfl) h

noncomputable def C84 : Code := (Tryz.f84.body).getD .skip
noncomputable def H84 : Hints := ⟨[], [(4, [0, 1, 6, 7, 8]), (22, [0, 6, 7, 8, 117]), (23, [0, 6, 8, 9, 10])], [(13, (.ask 3 18 (.leaf [0, 1, 2, 3, 4, 5, 6, 7, 8, 9, 10, 11, 12, 13, 14, 15, 16, 17, 18, 19, 20]) (.leaf [0, 1, 2, 4, 5, 6, 7, 9, 12, 14, 8, 10, 11, 13, 15, 16, 17, 18, 3, 19, 20]))), (16, (.leaf [0, 1, 2, 3, 4, 5, 6, 7])), (18, (.leaf [0, 1, 2, 3, 4, 5, 6, 7])), (22, (.ask 11 9 (.ask 13 9 (.leaf [0, 1, 2, 4, 7, 10, 12, 3, 5, 6, 8, 11, 13, 14, 9, 15, 16]) (.leaf [0, 1, 2, 4, 7, 10, 12, 3, 5, 6, 8, 11, 9, 15, 13, 14, 16])) (.ask 13 9 (.leaf [0, 1, 2, 4, 7, 10, 12, 3, 5, 6, 8, 13, 9, 15, 11, 14, 16]) (.leaf [0, 1, 2, 3, 4, 5, 6, 7, 8, 9, 10, 11, 12, 13, 14, 15, 16])))), (25, (.leaf [0, 1, 2, 3, 4, 5, 6, 7, 8, 9, 10, 11, 12, 13, 14, 15])), (27, (.leaf [0, 1, 2, 3, 4, 5, 6, 7, 8, 9, 10, 11, 12, 13, 14, 15, 16, 17])), (29, (.leaf [0, 1, 2, 3, 4, 5, 6, 7, 8, 9, 10, 11, 12, 13, 14, 15]))]⟩
noncomputable def T84_0 : List It := [.jn (nav [1, 1, 1] C84)]
noncomputable def T84_1 : List It := [.jn (nav [1, 1, 1, 1, 4, 1, 3, 1, 3, 1, 3, 1, 3, 1] C84), .blk 0]
noncomputable def T84_2 : List It := [.jn (nav [1, 1, 1, 1, 4, 1, 3, 1, 3, 1, 3, 1, 3, 1, 2, 1] C84), .blk 0]
def P84_0 (x0 x1 x6 x7 x8 : Value) (w : World) (Q : Value → World → Prop) : Prop := Part Tryz.prog 84 T84_0 [0, 1, 6, 7, 8] [x0, x1, x6, x7, x8] w Q
def P84_1 (x0 x6 x7 x8 x117 : Value) (w : World) (Q : Value → World → Prop) : Prop := Part Tryz.prog 84 T84_1 [0, 6, 7, 8, 117] [x0, x6, x7, x8, x117] w Q
def P84_2 (x0 x6 x8 x9 x10 : Value) (w : World) (Q : Value → World → Prop) : Prop := Part Tryz.prog 84 T84_2 [0, 6, 8, 9, 10] [x0, x6, x8, x9, x10] w Q
def F84 (a0 a1 a2 a3 : Value) (w : World) (Q : Value → World → Prop) : Prop :=
  effv Tryz.prog (Instr.box 36 a2) w fun t6 w =>
  effv Tryz.prog (Instr.box 38 a3) w fun t7 w =>
  wpB (pureRun Tryz.prog (Instr.fieldAt 36 t6 0)) fun t12 =>
  wpB (ldv Tryz.prog 3 t12 w) fun t13 =>
  CallR Tryz.prog 76 [t13] w fun t14 w =>
  wpB (be Tryz.prog .neq 3 (.tmp 14) (.const (.int .i64 0)) t14 (.int .i64 0)) fun t15 =>
  cnd t15
  (wpB (pureRun Tryz.prog (Instr.fieldAt 38 t7 0)) fun t17 =>
  wpB (ldv Tryz.prog 3 t17 w) fun t18 =>
  wpB (pureRun Tryz.prog (Instr.fieldAt 38 t7 1)) fun t19 =>
  wpB (ldv Tryz.prog 3 t19 w) fun t20 =>
  CallR Tryz.prog 81 [a0, t18, t20] w fun t21 w =>
  P84_0 a0 a1 t6 t7 t21 w Q)
  (P84_0 a0 a1 t6 t7 (.int .i64 (-1)) w Q)
def L84_0 (x0 x1 x6 x7 x8 : Value) (w : World) (Q : Value → World → Prop) : Prop :=
  wpB (pureRun Tryz.prog (Instr.fieldAt 36 x6 0)) fun t22 =>
  wpB (ldv Tryz.prog 3 t22 w) fun t23 =>
  wpB (be Tryz.prog .eql 3 (.tmp 23) (.const (.int .i64 3)) t23 (.int .i64 3)) fun t25 =>
  cnd t25
  (wpB (nilv x0) fun t27 =>
  wpB (pureRun Tryz.prog (Instr.fieldAt 112 t27 5)) fun t28 =>
  wpB (ldv Tryz.prog 26 t28 w) fun t29 =>
  wpB (pureRun Tryz.prog (Instr.indexAt 26 t29 x1)) fun t31 =>
  wpB (ldv Tryz.prog 3 t31 w) fun t32 =>
  wpB (bp Tryz.prog .add 3 t32 (.int .i64 1)) fun t33 =>
  wpB (pureRun Tryz.prog (Instr.indexAt 26 t29 x1)) fun t34 =>
  effu Tryz.prog (Instr.storeAt 3 t34 t33) w fun w =>
  Q (.tuple #[]) w)
  (wpB (be Tryz.prog .eql 3 (.tmp 23) (.const (.int .i64 4)) t23 (.int .i64 4)) fun t36 =>
  cnd t36
  (wpB (nilv x0) fun t38 =>
  wpB (pureRun Tryz.prog (Instr.fieldAt 112 t38 5)) fun t39 =>
  wpB (ldv Tryz.prog 26 t39 w) fun t40 =>
  wpB (pureRun Tryz.prog (Instr.indexAt 26 t40 x1)) fun t42 =>
  wpB (ldv Tryz.prog 3 t42 w) fun t43 =>
  wpB (bp Tryz.prog .sub 3 t43 (.int .i64 1)) fun t44 =>
  wpB (pureRun Tryz.prog (Instr.indexAt 26 t40 x1)) fun t45 =>
  effu Tryz.prog (Instr.storeAt 3 t45 t44) w fun w =>
  wpB (nilv x0) fun t47 =>
  wpB (pureRun Tryz.prog (Instr.fieldAt 112 t47 5)) fun t48 =>
  wpB (ldv Tryz.prog 26 t48 w) fun t49 =>
  wpB (pureRun Tryz.prog (Instr.indexAt 26 t49 x1)) fun t51 =>
  wpB (ldv Tryz.prog 3 t51 w) fun t52 =>
  wpB (be Tryz.prog .eql 3 (.tmp 52) (.const (.int .i64 0)) t52 (.int .i64 0)) fun t53 =>
  cnd t53
  (wpB (nilv x0) fun t55 =>
  wpB (pureRun Tryz.prog (Instr.fieldAt 112 t55 6)) fun t56 =>
  wpB (ldv Tryz.prog 110 t56 w) fun t57 =>
  wpB (pureRun Tryz.prog (Instr.indexAt 110 t57 x1)) fun t59 =>
  effu Tryz.prog (Instr.storeAt 127 t59 (.slice none 0 0)) w fun w =>
  Q (.tuple #[]) w)
  (Q (.tuple #[]) w))
  (wpB (be Tryz.prog .eql 3 (.tmp 23) (.const (.int .i64 5)) t23 (.int .i64 5)) fun t61 =>
  cnd t61
  (wpB (pureRun Tryz.prog (Instr.fieldAt 38 x7 0)) fun t64 =>
  wpB (ldv Tryz.prog 3 t64 w) fun t65 =>
  wpB (pureRun Tryz.prog (Instr.fieldAt 38 x7 1)) fun t66 =>
  wpB (ldv Tryz.prog 3 t66 w) fun t67 =>
  CallR Tryz.prog 82 [x0, x1, t65, t67] w fun t68 w =>
  wpB (pureRun Tryz.prog (Op.unary .not t68)) fun t69 =>
  cnd t69
  ((wpB (nilv x0) fun t71 =>
  wpB (pureRun Tryz.prog (Instr.fieldAt 112 t71 6)) fun t72 =>
  wpB (ldv Tryz.prog 110 t72 w.drew) fun t73 =>
  wpB (nilv x0) fun t76 =>
  wpB (pureRun Tryz.prog (Instr.fieldAt 112 t76 6)) fun t77 =>
  wpB (ldv Tryz.prog 110 t77 w.drew) fun t78 =>
  wpB (pureRun Tryz.prog (Instr.indexAt 110 t78 x1)) fun t80 =>
  wpB (ldv Tryz.prog 127 t80 w.drew) fun t81 =>
  wpB (pureRun Tryz.prog (Instr.fieldAt 38 x7 0)) fun t82 =>
  wpB (ldv Tryz.prog 3 t82 w.drew) fun t83 =>
  wpB (pureRun Tryz.prog (Instr.fieldAt 38 x7 1)) fun t84 =>
  wpB (ldv Tryz.prog 3 t84 w.drew) fun t85 =>
  wpB (pureRun Tryz.prog (Instr.build 137 #[(0, t83), (1, t85)])) fun t86 =>
  effv Tryz.prog (Instr.buildSlice 127 1 #[(0, t86)]) w.drew fun t87 w =>
  effv Tryz.prog (Builtin.append_ #[127, 127] 127 #[t81, t87]) w fun t88 w =>
  wpB (pureRun Tryz.prog (Instr.indexAt 110 t73 x1)) fun t89 =>
  effu Tryz.prog (Instr.storeAt 127 t89 t88) w fun w =>
  Q (.tuple #[]) w) ∧
  (wpB (nilv x0) fun t71_1 =>
  wpB (pureRun Tryz.prog (Instr.fieldAt 112 t71_1 6)) fun t72_1 =>
  wpB (nilv x0) fun t76_1 =>
  wpB (pureRun Tryz.prog (Instr.fieldAt 112 t76_1 6)) fun t77_1 =>
  wpB (pureRun Tryz.prog (Instr.fieldAt 38 x7 0)) fun t82_1 =>
  wpB (pureRun Tryz.prog (Instr.fieldAt 38 x7 1)) fun t84_1 =>
  wpB (ldv Tryz.prog 110 t77_1 w.drew) fun t78_1 =>
  wpB (pureRun Tryz.prog (Instr.indexAt 110 t78_1 x1)) fun t80_1 =>
  wpB (ldv Tryz.prog 127 t80_1 w.drew) fun t81_1 =>
  wpB (ldv Tryz.prog 3 t82_1 w.drew) fun t83_1 =>
  wpB (ldv Tryz.prog 3 t84_1 w.drew) fun t85_1 =>
  wpB (pureRun Tryz.prog (Instr.build 137 #[(0, t83_1), (1, t85_1)])) fun t86_1 =>
  effv Tryz.prog (Instr.buildSlice 127 1 #[(0, t86_1)]) w.drew fun t87_1 w =>
  effv Tryz.prog (Builtin.append_ #[127, 127] 127 #[t81_1, t87_1]) w fun t88_1 w =>
  wpB (ldv Tryz.prog 110 t72_1 w) fun t73_1 =>
  wpB (pureRun Tryz.prog (Instr.indexAt 110 t73_1 x1)) fun t89_1 =>
  effu Tryz.prog (Instr.storeAt 127 t89_1 t88_1) w fun w =>
  Q (.tuple #[]) w))
  (Q (.tuple #[]) w))
  (wpB (be Tryz.prog .eql 3 (.tmp 23) (.const (.int .i64 10)) t23 (.int .i64 10)) fun t91 =>
  cnd t91
  (wpB (nilv x0) fun t93 =>
  wpB (pureRun Tryz.prog (Instr.fieldAt 112 t93 4)) fun t94 =>
  wpB (ldv Tryz.prog 109 t94 w) fun t95 =>
  wpB (pureRun Tryz.prog (Instr.indexAt 109 t95 x8)) fun t97 =>
  wpB (pureRun Tryz.prog (Instr.fieldAt 126 t97 4)) fun t98 =>
  effu Tryz.prog (Instr.storeAt 4 t98 (.bool false)) w fun w =>
  wpB (nilv x0) fun t100 =>
  wpB (pureRun Tryz.prog (Instr.fieldAt 112 t100 2)) fun t101 =>
  wpB (ldv Tryz.prog 26 t101 w.drew) fun t102 =>
  wpB (pureRun Tryz.prog (Instr.fieldAt 38 x7 0)) fun t103 =>
  wpB (ldv Tryz.prog 3 t103 w.drew) fun t104 =>
  wpB (pureRun Tryz.prog (Instr.indexAt 26 t102 t104)) fun t105 =>
  effu Tryz.prog (Instr.storeAt 3 t105 (.int .i64 2)) w.drew fun w =>
  wpB (nilv x0) fun t107 =>
  wpB (pureRun Tryz.prog (Instr.fieldAt 112 t107 1)) fun t108 =>
  wpB (ldv Tryz.prog 4 t108 w) fun t109 =>
  cnd t109
  (wpB (nilv x0) fun t111 =>
  wpB (pureRun Tryz.prog (Instr.fieldAt 112 t111 2)) fun t112 =>
  wpB (ldv Tryz.prog 26 t112 w.drew) fun t113 =>
  wpB (pureRun Tryz.prog (Instr.fieldAt 38 x7 0)) fun t114 =>
  wpB (ldv Tryz.prog 3 t114 w.drew) fun t115 =>
  wpB (pureRun Tryz.prog (Instr.indexAt 26 t113 t115)) fun t116 =>
  effu Tryz.prog (Instr.storeAt 3 t116 (.int .i64 0)) w.drew fun w =>
  Q (.tuple #[]) w)
  (Q (.tuple #[]) w))
  (wpB (be Tryz.prog .eql 3 (.tmp 23) (.const (.int .i64 7)) t23 (.int .i64 7)) fun t118 =>
  cnd t118
  (P84_1 x0 x6 x7 x8 t118 w Q)
  (wpB (be Tryz.prog .eql 3 (.tmp 23) (.const (.int .i64 8)) t23 (.int .i64 8)) fun t119 =>
  cnd t119
  (P84_1 x0 x6 x7 x8 t119 w Q)
  (wpB (be Tryz.prog .eql 3 (.tmp 23) (.const (.int .i64 9)) t23 (.int .i64 9)) fun t120 =>
  P84_1 x0 x6 x7 x8 t120 w Q))))))
def L84_1 (x0 x6 x7 x8 x117 : Value) (w : World) (Q : Value → World → Prop) : Prop :=
  cnd x117
  (((wpB (nilv x0) fun t122 =>
  wpB (pureRun Tryz.prog (Instr.fieldAt 112 t122 4)) fun t123 =>
  wpB (pureRun Tryz.prog (Instr.fieldAt 38 x7 2)) fun t128 =>
  wpB (pureRun Tryz.prog (Instr.fieldAt 38 x7 3)) fun t131 =>
  wpB (pureRun Tryz.prog (Instr.fieldAt 36 x6 3)) fun t133 =>
  wpB (ldv Tryz.prog 109 t123 w.drew) fun t124 =>
  wpB (pureRun Tryz.prog (Instr.indexAt 109 t124 x8)) fun t126 =>
  wpB (ldv Tryz.prog 126 t126 w.drew) fun t127 =>
  wpB (ldv Tryz.prog 3 t128 w.drew) fun t129 =>
  wpB (ldv Tryz.prog 3 t131 w.drew) fun t132 =>
  wpB (ldv Tryz.prog 3 t133 w.drew) fun t134 =>
  wpB (bp Tryz.prog .add 3 t132 t134) fun t135 =>
  CallR Tryz.prog 94 [t127, t129] w.drew fun t130 w =>
  P84_2 x0 x6 x8 t130 t135 w Q) ∧
  (wpB (nilv x0) fun t122_1 =>
  wpB (pureRun Tryz.prog (Instr.fieldAt 112 t122_1 4)) fun t123_1 =>
  wpB (pureRun Tryz.prog (Instr.fieldAt 38 x7 2)) fun t128_1 =>
  wpB (pureRun Tryz.prog (Instr.fieldAt 38 x7 3)) fun t131_1 =>
  wpB (pureRun Tryz.prog (Instr.fieldAt 36 x6 3)) fun t133_1 =>
  wpB (ldv Tryz.prog 109 t123_1 w.drew) fun t124_1 =>
  wpB (pureRun Tryz.prog (Instr.indexAt 109 t124_1 x8)) fun t126_1 =>
  wpB (ldv Tryz.prog 126 t126_1 w.drew) fun t127_1 =>
  wpB (ldv Tryz.prog 3 t128_1 w.drew) fun t129_1 =>
  wpB (ldv Tryz.prog 3 t131_1 w.drew) fun t132_1 =>
  CallR Tryz.prog 94 [t127_1, t129_1] w.drew fun t130_1 w =>
  wpB (ldv Tryz.prog 3 t133_1 w) fun t134_1 =>
  wpB (bp Tryz.prog .add 3 t132_1 t134_1) fun t135_1 =>
  P84_2 x0 x6 x8 t130_1 t135_1 w Q)) ∧
  ((wpB (nilv x0) fun t122_2 =>
  wpB (pureRun Tryz.prog (Instr.fieldAt 112 t122_2 4)) fun t123_2 =>
  wpB (pureRun Tryz.prog (Instr.fieldAt 38 x7 2)) fun t128_2 =>
  wpB (pureRun Tryz.prog (Instr.fieldAt 38 x7 3)) fun t131_2 =>
  wpB (pureRun Tryz.prog (Instr.fieldAt 36 x6 3)) fun t133_2 =>
  wpB (ldv Tryz.prog 109 t123_2 w.drew) fun t124_2 =>
  wpB (pureRun Tryz.prog (Instr.indexAt 109 t124_2 x8)) fun t126_2 =>
  wpB (ldv Tryz.prog 126 t126_2 w.drew) fun t127_2 =>
  wpB (ldv Tryz.prog 3 t128_2 w.drew) fun t129_2 =>
  wpB (ldv Tryz.prog 3 t133_2 w.drew) fun t134_2 =>
  CallR Tryz.prog 94 [t127_2, t129_2] w.drew fun t130_2 w =>
  wpB (ldv Tryz.prog 3 t131_2 w) fun t132_2 =>
  wpB (bp Tryz.prog .add 3 t132_2 t134_2) fun t135_2 =>
  P84_2 x0 x6 x8 t130_2 t135_2 w Q) ∧
  (wpB (nilv x0) fun t122_3 =>
  wpB (pureRun Tryz.prog (Instr.fieldAt 112 t122_3 4)) fun t123_3 =>
  wpB (ldv Tryz.prog 109 t123_3 w.drew) fun t124_3 =>
  wpB (pureRun Tryz.prog (Instr.indexAt 109 t124_3 x8)) fun t126_3 =>
  wpB (ldv Tryz.prog 126 t126_3 w.drew) fun t127_3 =>
  wpB (pureRun Tryz.prog (Instr.fieldAt 38 x7 2)) fun t128_3 =>
  wpB (ldv Tryz.prog 3 t128_3 w.drew) fun t129_3 =>
  CallR Tryz.prog 94 [t127_3, t129_3] w.drew fun t130_3 w =>
  wpB (pureRun Tryz.prog (Instr.fieldAt 38 x7 3)) fun t131_3 =>
  wpB (ldv Tryz.prog 3 t131_3 w) fun t132_3 =>
  wpB (pureRun Tryz.prog (Instr.fieldAt 36 x6 3)) fun t133_3 =>
  wpB (ldv Tryz.prog 3 t133_3 w) fun t134_3 =>
  wpB (bp Tryz.prog .add 3 t132_3 t134_3) fun t135_3 =>
  P84_2 x0 x6 x8 t130_3 t135_3 w Q)))
  (Q (.tuple #[]) w)
def L84_2 (x0 x6 x8 x9 x10 : Value) (w : World) (Q : Value → World → Prop) : Prop :=
  wpB (nilv x0) fun t137 =>
  wpB (pureRun Tryz.prog (Instr.fieldAt 112 t137 4)) fun t138 =>
  wpB (ldv Tryz.prog 109 t138 w) fun t139 =>
  wpB (pureRun Tryz.prog (Instr.indexAt 109 t139 x8)) fun t141 =>
  wpB (pureRun Tryz.prog (Instr.fieldAt 126 t141 6)) fun t142 =>
  wpB (ldv Tryz.prog 84 t142 w) fun t143 =>
  wpB (pureRun Tryz.prog (Instr.indexAt 84 t143 x9)) fun t145 =>
  wpB (ldv Tryz.prog 102 t145 w) fun t146 =>
  wpB (pureRun Tryz.prog (Instr.indexAt 102 t146 x10)) fun t148 =>
  wpB (ldv Tryz.prog 34 t148 w) fun t149 =>
  wpB (pureRun Tryz.prog (Instr.fieldAt 36 x6 0)) fun t151 =>
  wpB (ldv Tryz.prog 3 t151 w) fun t152 =>
  wpB (be Tryz.prog .eql 3 (.tmp 152) (.const (.int .i64 7)) t152 (.int .i64 7)) fun t153 =>
  cnd t153
  (wpB (nilv x0) fun t155 =>
  wpB (pureRun Tryz.prog (Instr.fieldAt 112 t155 4)) fun t156 =>
  wpB (ldv Tryz.prog 109 t156 w.drew) fun t157 =>
  wpB (pureRun Tryz.prog (Instr.indexAt 109 t157 x8)) fun t159 =>
  wpB (pureRun Tryz.prog (Instr.fieldAt 126 t159 6)) fun t160 =>
  wpB (ldv Tryz.prog 84 t160 w.drew) fun t161 =>
  wpB (pureRun Tryz.prog (Instr.indexAt 84 t161 x9)) fun t163 =>
  wpB (ldv Tryz.prog 102 t163 w.drew) fun t164 =>
  wpB (pureRun Tryz.prog (Instr.fieldAt 36 x6 4)) fun t166 =>
  wpB (ldv Tryz.prog 34 t166 w.drew) fun t167 =>
  wpB (pureRun Tryz.prog (Instr.indexAt 102 t164 x10)) fun t168 =>
  effu Tryz.prog (Instr.storeAt 34 t168 t167) w.drew fun w =>
  Q (.tuple #[]) w)
  (wpB (pureRun Tryz.prog (Instr.fieldAt 36 x6 0)) fun t170 =>
  wpB (ldv Tryz.prog 3 t170 w) fun t171 =>
  wpB (be Tryz.prog .eql 3 (.tmp 171) (.const (.int .i64 8)) t171 (.int .i64 8)) fun t172 =>
  cnd t172
  (wpB (nilv x0) fun t174 =>
  wpB (pureRun Tryz.prog (Instr.fieldAt 112 t174 4)) fun t175 =>
  wpB (ldv Tryz.prog 109 t175 w.drew) fun t176 =>
  wpB (pureRun Tryz.prog (Instr.indexAt 109 t176 x8)) fun t178 =>
  wpB (pureRun Tryz.prog (Instr.fieldAt 126 t178 6)) fun t179 =>
  wpB (ldv Tryz.prog 84 t179 w.drew) fun t180 =>
  wpB (pureRun Tryz.prog (Instr.indexAt 84 t180 x9)) fun t182 =>
  wpB (ldv Tryz.prog 102 t182 w.drew) fun t183 =>
  wpB (pureRun Tryz.prog (Instr.fieldAt 36 x6 4)) fun t186 =>
  wpB (ldv Tryz.prog 34 t186 w.drew) fun t187 =>
  wpB (bp Tryz.prog .add 34 t149 t187) fun t188 =>
  wpB (pureRun Tryz.prog (Instr.indexAt 102 t183 x10)) fun t189 =>
  effu Tryz.prog (Instr.storeAt 34 t189 t188) w.drew fun w =>
  Q (.tuple #[]) w)
  (wpB (pureRun Tryz.prog (Instr.fieldAt 36 x6 4)) fun t192 =>
  wpB (ldv Tryz.prog 34 t192 w) fun t193 =>
  wpB (be Tryz.prog .eql 34 (.tmp 191) (.tmp 193) t149 t193) fun t194 =>
  cnd t194
  (wpB (nilv x0) fun t196 =>
  wpB (pureRun Tryz.prog (Instr.fieldAt 112 t196 4)) fun t197 =>
  wpB (ldv Tryz.prog 109 t197 w.drew) fun t198 =>
  wpB (pureRun Tryz.prog (Instr.indexAt 109 t198 x8)) fun t200 =>
  wpB (pureRun Tryz.prog (Instr.fieldAt 126 t200 6)) fun t201 =>
  wpB (ldv Tryz.prog 84 t201 w.drew) fun t202 =>
  wpB (pureRun Tryz.prog (Instr.indexAt 84 t202 x9)) fun t204 =>
  wpB (ldv Tryz.prog 102 t204 w.drew) fun t205 =>
  wpB (pureRun Tryz.prog (Instr.fieldAt 36 x6 5)) fun t207 =>
  wpB (ldv Tryz.prog 34 t207 w.drew) fun t208 =>
  wpB (pureRun Tryz.prog (Instr.indexAt 102 t205 x10)) fun t209 =>
  effu Tryz.prog (Instr.storeAt 34 t209 t208) w.drew fun w =>
  Q (.tuple #[]) w)
  (Q (.tuple #[]) w)))
theorem F84_ok {a0 a1 a2 a3 : Value} {w : World} {Q : Value → World → Prop} (h : F84 a0 a1 a2 a3 w Q) : CallR Tryz.prog 84 [a0, a1, a2, a3] w Q :=
  af mixed ad Tryz.func84 (c := C84) rfl H84 (Nat.le_of_ble_eq_true rfl) (by kernel_rfl) h
theorem L84_0_ok {x0 x1 x6 x7 x8 : Value} {w : World} {Q : Value → World → Prop} (h : L84_0 x0 x1 x6 x7 x8 w Q) : P84_0 x0 x1 x6 x7 x8 w Q :=
  ax mixed ad Tryz.func84 H84 (by kernel_rfl) h
theorem L84_1_ok {x0 x6 x7 x8 x117 : Value} {w : World} {Q : Value → World → Prop} (h : L84_1 x0 x6 x7 x8 x117 w Q) : P84_1 x0 x6 x7 x8 x117 w Q :=
  ax mixed ad Tryz.func84 H84 (by kernel_rfl) h
theorem L84_2_ok {x0 x6 x8 x9 x10 : Value} {w : World} {Q : Value → World → Prop} (h : L84_2 x0 x6 x8 x9 x10 w Q) : P84_2 x0 x6 x8 x9 x10 w Q :=
  ax mixed ad Tryz.func84 H84 (by kernel_rfl) h

noncomputable def C85 : Code := (Tryz.f85.body).getD .skip
noncomputable def H85 : Hints := ⟨[], [], [(9, (.leaf [0, 1, 2, 3, 4, 5, 6, 7, 8, 9, 10, 11, 12, 13, 14])), (10, (.leaf [0, 1, 2, 3, 4, 5, 6, 7, 8, 9, 10, 11, 12, 13, 14]))]⟩
def F85 (a0 a1 a2 : Value) (w : World) (Q : Value → World → Prop) : Prop :=
  effv Tryz.prog (Instr.box 36 a1) w fun t4 w =>
  effv Tryz.prog (Instr.box 40 a2) w fun t5 w =>
  wpB (ldv Tryz.prog 40 t5 w) fun t9 =>
  wpB (pureRun Tryz.prog (Instr.build 40 #[(0, (.int .i64 7))])) fun t10 =>
  wpB (be Tryz.prog .eql 40 (.tmp 9) (.tmp 10) t9 t10) fun t11 =>
  cnd t11
  (wpB (nilv a0) fun t13 =>
  wpB (pureRun Tryz.prog (Instr.fieldAt 112 t13 1)) fun t14 =>
  wpB (ldv Tryz.prog 4 t14 w) fun t15 =>
  gE t15 false (CallR Tryz.prog 95 [(gv t15 false a0)] w) (fun t18 w =>
  wpB (gd t15 false (be Tryz.prog .eql 3 (.tmp 18) (.const (.int .i64 0)) t18 (.int .i64 0))) fun t19 =>
  wpB (pickv t15 (some (.bool true)) (some t19)) fun t20 =>
  Q t20 w) w)
  (wpB (pureRun Tryz.prog (Instr.fieldAt 40 t5 1)) fun t21 =>
  wpB (pureRun Tryz.prog (Instr.fieldAt 38 t21 0)) fun t22 =>
  wpB (ldv Tryz.prog 3 t22 w) fun t23 =>
  wpB (bp Tryz.prog .lss 3 t23 (.int .i64 0)) fun t25 =>
  wpB (gd t25 false (nilv (gv t25 false a0))) fun t29 =>
  wpB (gd t25 false (pureRun Tryz.prog (Instr.fieldAt 112 t29 0))) fun t30 =>
  wpB (gd t25 false (pureRun Tryz.prog (Instr.fieldAt 23 t30 3))) fun t31 =>
  wpB (gd t25 false (ldv Tryz.prog 3 t31 w)) fun t32 =>
  wpB (gd t25 false (bp Tryz.prog .geq 3 (gv t25 false t23) t32)) fun t33 =>
  wpB (pickv t25 (some (.bool true)) (some t33)) fun t34 =>
  wpB (gd t34 false (nilv (gv t34 false a0))) fun t37 =>
  wpB (gd t34 false (pureRun Tryz.prog (Instr.fieldAt 112 t37 2))) fun t38 =>
  wpB (gd t34 false (ldv Tryz.prog 26 t38 w)) fun t39 =>
  wpB (gd t34 false (pureRun Tryz.prog (Instr.indexAt 26 t39 (gv t34 false t23)))) fun t41 =>
  wpB (gd t34 false (ldv Tryz.prog 3 t41 w)) fun t42 =>
  wpB (gd t34 false (be Tryz.prog .neq 3 (.tmp 42) (.const (.int .i64 0)) t42 (.int .i64 0))) fun t43 =>
  wpB (pickv t34 (some (.bool true)) (some t43)) fun t44 =>
  cnd t44
  (Q (.bool false) w)
  (wpB (nilv a0) fun t46 =>
  wpB (pureRun Tryz.prog (Instr.fieldAt 112 t46 3)) fun t47 =>
  wpB (ldv Tryz.prog 26 t47 w) fun t48 =>
  wpB (pureRun Tryz.prog (Instr.indexAt 26 t48 t23)) fun t50 =>
  wpB (ldv Tryz.prog 3 t50 w) fun t51 =>
  CallR Tryz.prog 96 [t51] w fun t52 w =>
  wpB (ldv Tryz.prog 40 t5 w) fun t53 =>
  wpB (pureRun Tryz.prog (Instr.build 38 #[(0, t23), (1, t52)])) fun t56 =>
  wpB (pureRun Tryz.prog (Instr.build 40 #[(1, t56)])) fun t57 =>
  wpB (be Tryz.prog .neq 40 (.tmp 53) (.tmp 57) t53 t57) fun t58 =>
  cnd t58
  (Q (.bool false) w)
  (wpB (nilv a0) fun t60 =>
  wpB (pureRun Tryz.prog (Instr.fieldAt 112 t60 2)) fun t61 =>
  wpB (ldv Tryz.prog 26 t61 w.drew) fun t62 =>
  wpB (nilv a0) fun t65 =>
  wpB (pureRun Tryz.prog (Instr.fieldAt 112 t65 3)) fun t66 =>
  wpB (ldv Tryz.prog 26 t66 w.drew) fun t67 =>
  wpB (pureRun Tryz.prog (Instr.indexAt 26 t62 t23)) fun t70 =>
  effu Tryz.prog (Instr.storeAt 3 t70 (.int .i64 1)) w.drew fun w =>
  wpB (pureRun Tryz.prog (Instr.indexAt 26 t67 t23)) fun t71 =>
  effu Tryz.prog (Instr.storeAt 3 t71 t52) w fun w =>
  wpB (nilv a0) fun t74 =>
  wpB (pureRun Tryz.prog (Instr.fieldAt 112 t74 4)) fun t75 =>
  wpB (ldv Tryz.prog 109 t75 w.drew) fun t76 =>
  wpB (pureRun Tryz.prog (Instr.fieldAt 36 t4 3)) fun t79 =>
  wpB (ldv Tryz.prog 3 t79 w.drew) fun t80 =>
  wpB (pureRun Tryz.prog (Instr.build 126 #[(0, t23), (1, t52), (2, t80), (4, (.bool true))])) fun t81 =>
  effv Tryz.prog (Instr.buildSlice 109 1 #[(0, t81)]) w.drew fun t82 w =>
  effv Tryz.prog (Builtin.append_ #[109, 109] 109 #[t76, t82]) w fun t83 w =>
  wpB (nilv a0) fun t84 =>
  wpB (pureRun Tryz.prog (Instr.fieldAt 112 t84 4)) fun t85 =>
  effu Tryz.prog (Instr.storeAt 109 t85 t83) w fun w =>
  Q (.bool true) w)))
theorem F85_ok {a0 a1 a2 : Value} {w : World} {Q : Value → World → Prop} (h : F85 a0 a1 a2 w Q) : CallR Tryz.prog 85 [a0, a1, a2] w Q :=
  af mixed ad Tryz.func85 (c := C85) rfl H85 (Nat.le_of_ble_eq_true rfl) (by kernel_rfl) h

noncomputable def C86 : Code := (Tryz.f86.body).getD .skip
noncomputable def H86 : Hints := ⟨[], [(9, [0, 7, 9, 10, 11, 12]), (16, [0, 9, 11, 12]), (17, [0, 9, 11, 12]), (18, [0, 9, 11]), (19, [])], [(6, (.leaf [0, 1, 2, 3, 4, 5, 6, 7, 8, 9, 10, 11])), (8, (.ask 23 29 (.ask 27 29 (.leaf [0, 1, 2, 3, 4, 5, 6, 7, 8, 9, 10, 11, 12, 13, 14, 15, 16, 17, 18, 19, 20, 21, 22, 23, 24, 25, 26, 27, 28, 29, 30, 31]) (.leaf [0, 1, 2, 4, 8, 9, 10, 12, 20, 21, 22, 24, 3, 5, 6, 7, 11, 13, 14, 15, 16, 17, 18, 19, 28, 23, 25, 26, 29, 27, 30, 31])) (.leaf [0, 1, 2, 4, 8, 9, 10, 12, 20, 21, 22, 24, 3, 5, 6, 7, 11, 13, 14, 15, 16, 17, 18, 19, 28, 29, 23, 25, 26, 27, 30, 31]))), (12, (.leaf [0, 1, 2, 3, 4, 5, 6, 7, 8, 9, 10, 11, 12, 13, 14, 15, 16, 17])), (13, (.leaf [0, 1, 2, 3, 4, 5, 6, 7, 8, 9, 10, 11, 12, 13, 14, 15, 16, 17, 18])), (15, (.ask 3 16 (.leaf [0, 1, 2, 3, 4, 5, 6, 7, 8, 9, 10, 11, 12, 13, 14, 15, 16, 17, 18, 19]) (.leaf [0, 1, 2, 4, 5, 6, 7, 9, 13, 8, 10, 11, 12, 14, 15, 16, 3, 17, 18, 19]))), (16, (.ask 3 20 (.leaf [0, 1, 2, 3, 4, 5, 6, 7, 8, 9, 10, 11, 12, 13, 14, 15, 16, 17, 18, 19, 20, 21, 22, 23]) (.leaf [0, 1, 2, 4, 5, 6, 7, 9, 13, 14, 15, 16, 8, 10, 11, 12, 17, 18, 19, 20, 3, 21, 22, 23]))), (17, (.ask 3 11 (.leaf [0, 1, 2, 3, 4, 5, 6, 7, 8, 9, 10, 11, 12, 13, 14]) (.leaf [0, 1, 2, 4, 5, 6, 7, 8, 10, 9, 11, 3, 12, 13, 14]))), (18, (.ask 3 15 (.leaf [0, 1, 2, 3, 4, 5, 6, 7, 8, 9, 10, 11, 12, 13, 14, 15, 16, 17, 18]) (.leaf [0, 1, 2, 4, 5, 6, 7, 9, 8, 10, 11, 12, 13, 14, 15, 3, 16, 17, 18])))]⟩
noncomputable def T86_0 : List It := [.jn (nav [1, 1, 1, 1, 1, 1, 1] C86)]
noncomputable def T86_1 : List It := [.jn (nav [1, 1, 1, 1, 1, 1, 1, 1, 1] C86)]
noncomputable def T86_2 : List It := [.jn (nav [1, 1, 1, 1, 1, 1, 1, 1, 0, 1, 3, 1, 1] C86), .jn (nav [1, 1, 1, 1, 1, 1, 1, 1, 1] C86)]
noncomputable def T86_3 : List It := [.jn (nav [1, 1, 1, 1, 1, 1, 1, 1, 1, 1] C86)]
noncomputable def T86_4 : List It := [.jn (nav [1, 1, 1, 1, 1, 1, 1, 1, 0, 1, 3, 1, 1, 1] C86), .jn (nav [1, 1, 1, 1, 1, 1, 1, 1, 1] C86)]
def P86_0 (x0 x7 x9 x10 x11 x12 : Value) (w : World) (Q : Value → World → Prop) : Prop := Part Tryz.prog 86 T86_0 [0, 7, 9, 10, 11, 12] [x0, x7, x9, x10, x11, x12] w Q
def P86_1 (x0 x9 x11 : Value) (w : World) (Q : Value → World → Prop) : Prop := Part Tryz.prog 86 T86_1 [0, 9, 11] [x0, x9, x11] w Q
def P86_2 (x0 x9 x11 x12 : Value) (w : World) (Q : Value → World → Prop) : Prop := Part Tryz.prog 86 T86_2 [0, 9, 11, 12] [x0, x9, x11, x12] w Q
def P86_3 (w : World) (Q : Value → World → Prop) : Prop := Part Tryz.prog 86 T86_3 [] [] w Q
def P86_4 (x0 x9 x11 x12 : Value) (w : World) (Q : Value → World → Prop) : Prop := Part Tryz.prog 86 T86_4 [0, 9, 11, 12] [x0, x9, x11, x12] w Q
def F86 (a0 a1 a2 a3 : Value) (w : World) (Q : Value → World → Prop) : Prop :=
  effv Tryz.prog (Instr.box 36 a1) w fun t5 w =>
  effv Tryz.prog (Instr.box 38 a2) w fun t6 w =>
  effv Tryz.prog (Instr.box 40 a3) w fun t7 w =>
  wpB (pureRun Tryz.prog (Instr.fieldAt 38 t6 0)) fun t14 =>
  wpB (ldv Tryz.prog 3 t14 w) fun t15 =>
  wpB (pureRun Tryz.prog (Instr.fieldAt 38 t6 1)) fun t16 =>
  wpB (ldv Tryz.prog 3 t16 w) fun t17 =>
  CallR Tryz.prog 81 [a0, t15, t17] w fun t18 w =>
  wpB (pureRun Tryz.prog (Instr.fieldAt 36 t5 3)) fun t21 =>
  wpB (ldv Tryz.prog 3 t21 w) fun t22 =>
  CallR Tryz.prog 97 [a0, t18, t22] w fun t23 w =>
  wpB (ldv Tryz.prog 40 t7 w) fun t24 =>
  wpB (pureRun Tryz.prog (Instr.build 40 #[(0, (.int .i64 6))])) fun t25 =>
  wpB (be Tryz.prog .eql 40 (.tmp 24) (.tmp 25) t24 t25) fun t26 =>
  cnd t26
  (wpB (pureRun Tryz.prog (Op.unary .not t23)) fun t28 =>
  Q t28 w)
  (wpB (pureRun Tryz.prog (Instr.fieldAt 38 t6 0)) fun t29 =>
  wpB (ldv Tryz.prog 3 t29 w) fun t30 =>
  wpB (pureRun Tryz.prog (Instr.fieldAt 38 t6 1)) fun t31 =>
  wpB (ldv Tryz.prog 3 t31 w) fun t32 =>
  wpB (pureRun Tryz.prog (Instr.fieldAt 40 t7 1)) fun t33 =>
  wpB (pureRun Tryz.prog (Instr.fieldAt 38 t33 2)) fun t34 =>
  wpB (ldv Tryz.prog 3 t34 w) fun t35 =>
  wpB (pureRun Tryz.prog (Instr.fieldAt 36 t5 3)) fun t36 =>
  wpB (ldv Tryz.prog 3 t36 w) fun t37 =>
  wpB (pureRun Tryz.prog (Instr.build 38 #[(0, t30), (1, t32), (2, t35), (4, t37)])) fun t38 =>
  effv Tryz.prog (Instr.alloc 38 true (.tuple #[])) w fun t11 w =>
  effu Tryz.prog (Instr.storeAt 38 t11 t38) w fun w =>
  wpB (nilv a0) fun t40 =>
  wpB (pureRun Tryz.prog (Instr.fieldAt 112 t40 4)) fun t41 =>
  wpB (ldv Tryz.prog 109 t41 w.drew) fun t42 =>
  wpB (pureRun Tryz.prog (Instr.indexAt 109 t42 t18)) fun t44 =>
  wpB (pureRun Tryz.prog (Instr.fieldAt 126 t44 2)) fun t45 =>
  wpB (ldv Tryz.prog 3 t45 w.drew) fun t46 =>
  wpB (pureRun Tryz.prog (Instr.fieldAt 36 t5 3)) fun t47 =>
  wpB (ldv Tryz.prog 3 t47 w.drew) fun t48 =>
  CallR Tryz.prog 98 [t46, t48] w.drew fun t49 w =>
  cnd t23
  (((wpB (nilv a0) fun t52 =>
  wpB (pureRun Tryz.prog (Instr.fieldAt 112 t52 4)) fun t53 =>
  wpB (ldv Tryz.prog 109 t53 w.drew) fun t54 =>
  wpB (pureRun Tryz.prog (Instr.indexAt 109 t54 t18)) fun t56 =>
  wpB (pureRun Tryz.prog (Instr.fieldAt 126 t56 5)) fun t57 =>
  wpB (ldv Tryz.prog 26 t57 w.drew) fun t58 =>
  wpB (nilv a0) fun t60 =>
  wpB (pureRun Tryz.prog (Instr.fieldAt 112 t60 4)) fun t61 =>
  wpB (ldv Tryz.prog 109 t61 w.drew) fun t62 =>
  wpB (pureRun Tryz.prog (Instr.indexAt 109 t62 t18)) fun t64 =>
  wpB (pureRun Tryz.prog (Instr.fieldAt 126 t64 5)) fun t65 =>
  wpB (ldv Tryz.prog 26 t65 w.drew) fun t66 =>
  wpB (pureRun Tryz.prog (Builtin.len_ #[26] 3 #[t66])) fun t67 =>
  wpB (bp Tryz.prog .sub 3 t67 (.int .i64 1)) fun t68 =>
  wpB (pureRun Tryz.prog (Instr.indexAt 26 t58 t68)) fun t69 =>
  wpB (ldv Tryz.prog 3 t69 w.drew) fun t70 =>
  wpB (nilv a0) fun t72 =>
  wpB (pureRun Tryz.prog (Instr.fieldAt 112 t72 4)) fun t73 =>
  wpB (ldv Tryz.prog 109 t73 w.drew) fun t74 =>
  wpB (pureRun Tryz.prog (Instr.indexAt 109 t74 t18)) fun t76 =>
  wpB (pureRun Tryz.prog (Instr.fieldAt 126 t76 3)) fun t77 =>
  wpB (ldv Tryz.prog 3 t77 w.drew) fun t78 =>
  wpB (pureRun Tryz.prog (Instr.fieldAt 38 t11 2)) fun t79 =>
  effu Tryz.prog (Instr.storeAt 3 t79 t70) w.drew fun w =>
  wpB (pureRun Tryz.prog (Instr.fieldAt 38 t11 3)) fun t80 =>
  effu Tryz.prog (Instr.storeAt 3 t80 t78) w fun w =>
  P86_0 a0 t7 t18 t23 t11 t49 w Q) ∧
  (wpB (nilv a0) fun t52_1 =>
  wpB (pureRun Tryz.prog (Instr.fieldAt 112 t52_1 4)) fun t53_1 =>
  wpB (nilv a0) fun t60_1 =>
  wpB (pureRun Tryz.prog (Instr.fieldAt 112 t60_1 4)) fun t61_1 =>
  wpB (nilv a0) fun t72_1 =>
  wpB (pureRun Tryz.prog (Instr.fieldAt 112 t72_1 4)) fun t73_1 =>
  wpB (ldv Tryz.prog 109 t53_1 w.drew) fun t54_1 =>
  wpB (pureRun Tryz.prog (Instr.indexAt 109 t54_1 t18)) fun t56_1 =>
  wpB (pureRun Tryz.prog (Instr.fieldAt 126 t56_1 5)) fun t57_1 =>
  wpB (ldv Tryz.prog 26 t57_1 w.drew) fun t58_1 =>
  wpB (ldv Tryz.prog 109 t61_1 w.drew) fun t62_1 =>
  wpB (pureRun Tryz.prog (Instr.indexAt 109 t62_1 t18)) fun t64_1 =>
  wpB (pureRun Tryz.prog (Instr.fieldAt 126 t64_1 5)) fun t65_1 =>
  wpB (ldv Tryz.prog 26 t65_1 w.drew) fun t66_1 =>
  wpB (pureRun Tryz.prog (Builtin.len_ #[26] 3 #[t66_1])) fun t67_1 =>
  wpB (bp Tryz.prog .sub 3 t67_1 (.int .i64 1)) fun t68_1 =>
  wpB (pureRun Tryz.prog (Instr.indexAt 26 t58_1 t68_1)) fun t69_1 =>
  wpB (ldv Tryz.prog 3 t69_1 w.drew) fun t70_1 =>
  wpB (pureRun Tryz.prog (Instr.fieldAt 38 t11 2)) fun t79_1 =>
  wpB (ldv Tryz.prog 109 t73_1 w.drew) fun t74_1 =>
  wpB (pureRun Tryz.prog (Instr.indexAt 109 t74_1 t18)) fun t76_1 =>
  wpB (pureRun Tryz.prog (Instr.fieldAt 126 t76_1 3)) fun t77_1 =>
  effu Tryz.prog (Instr.storeAt 3 t79_1 t70_1) w.drew fun w =>
  wpB (ldv Tryz.prog 3 t77_1 w) fun t78_1 =>
  wpB (pureRun Tryz.prog (Instr.fieldAt 38 t11 3)) fun t80_1 =>
  effu Tryz.prog (Instr.storeAt 3 t80_1 t78_1) w fun w =>
  P86_0 a0 t7 t18 t23 t11 t49 w Q)) ∧
  (wpB (nilv a0) fun t52_2 =>
  wpB (pureRun Tryz.prog (Instr.fieldAt 112 t52_2 4)) fun t53_2 =>
  wpB (nilv a0) fun t60_2 =>
  wpB (pureRun Tryz.prog (Instr.fieldAt 112 t60_2 4)) fun t61_2 =>
  wpB (nilv a0) fun t72_2 =>
  wpB (pureRun Tryz.prog (Instr.fieldAt 112 t72_2 4)) fun t73_2 =>
  wpB (ldv Tryz.prog 109 t53_2 w.drew) fun t54_2 =>
  wpB (pureRun Tryz.prog (Instr.indexAt 109 t54_2 t18)) fun t56_2 =>
  wpB (pureRun Tryz.prog (Instr.fieldAt 126 t56_2 5)) fun t57_2 =>
  wpB (ldv Tryz.prog 26 t57_2 w.drew) fun t58_2 =>
  wpB (ldv Tryz.prog 109 t61_2 w.drew) fun t62_2 =>
  wpB (pureRun Tryz.prog (Instr.indexAt 109 t62_2 t18)) fun t64_2 =>
  wpB (pureRun Tryz.prog (Instr.fieldAt 126 t64_2 5)) fun t65_2 =>
  wpB (ldv Tryz.prog 26 t65_2 w.drew) fun t66_2 =>
  wpB (pureRun Tryz.prog (Builtin.len_ #[26] 3 #[t66_2])) fun t67_2 =>
  wpB (bp Tryz.prog .sub 3 t67_2 (.int .i64 1)) fun t68_2 =>
  wpB (pureRun Tryz.prog (Instr.indexAt 26 t58_2 t68_2)) fun t69_2 =>
  wpB (ldv Tryz.prog 3 t69_2 w.drew) fun t70_2 =>
  wpB (pureRun Tryz.prog (Instr.fieldAt 38 t11 2)) fun t79_2 =>
  effu Tryz.prog (Instr.storeAt 3 t79_2 t70_2) w.drew fun w =>
  wpB (ldv Tryz.prog 109 t73_2 w) fun t74_2 =>
  wpB (pureRun Tryz.prog (Instr.indexAt 109 t74_2 t18)) fun t76_2 =>
  wpB (pureRun Tryz.prog (Instr.fieldAt 126 t76_2 3)) fun t77_2 =>
  wpB (ldv Tryz.prog 3 t77_2 w) fun t78_2 =>
  wpB (pureRun Tryz.prog (Instr.fieldAt 38 t11 3)) fun t80_2 =>
  effu Tryz.prog (Instr.storeAt 3 t80_2 t78_2) w fun w =>
  P86_0 a0 t7 t18 t23 t11 t49 w Q))
  (P86_0 a0 t7 t18 t23 t11 t49 w Q))
def L86_0 (x0 x7 x9 x10 x11 x12 : Value) (w : World) (Q : Value → World → Prop) : Prop :=
  wpB (ldv Tryz.prog 40 x7 w) fun t81 =>
  wpB (ldv Tryz.prog 38 x11 w) fun t82 =>
  wpB (pureRun Tryz.prog (Instr.build 40 #[(1, t82)])) fun t83 =>
  wpB (be Tryz.prog .neq 40 (.tmp 81) (.tmp 83) t81 t83) fun t84 =>
  cnd t84
  (Q (.bool false) w)
  (cnd x10
  (wpB (nilv x0) fun t87 =>
  wpB (pureRun Tryz.prog (Instr.fieldAt 112 t87 4)) fun t88 =>
  wpB (ldv Tryz.prog 109 t88 w.drew) fun t89 =>
  wpB (nilv x0) fun t92 =>
  wpB (pureRun Tryz.prog (Instr.fieldAt 112 t92 4)) fun t93 =>
  wpB (ldv Tryz.prog 109 t93 w.drew) fun t94 =>
  wpB (pureRun Tryz.prog (Instr.indexAt 109 t94 x9)) fun t96 =>
  wpB (pureRun Tryz.prog (Instr.fieldAt 126 t96 3)) fun t97 =>
  wpB (ldv Tryz.prog 3 t97 w.drew) fun t98 =>
  wpB (bp Tryz.prog .add 3 t98 x12) fun t100 =>
  wpB (pureRun Tryz.prog (Instr.indexAt 109 t89 x9)) fun t101 =>
  wpB (pureRun Tryz.prog (Instr.fieldAt 126 t101 3)) fun t102 =>
  effu Tryz.prog (Instr.storeAt 3 t102 t100) w.drew fun w =>
  P86_1 x0 x9 x11 w Q)
  (wpB (pureRun Tryz.prog (Instr.fieldAt 38 x11 2)) fun t103 =>
  wpB (ldv Tryz.prog 3 t103 w.drew) fun t104 =>
  wpB (bp Tryz.prog .lss 3 t104 (.int .i64 0)) fun t105 =>
  wpB (gd t105 false (pureRun Tryz.prog (Instr.fieldAt 38 x11 2))) fun t107 =>
  wpB (gd t105 false (ldv Tryz.prog 3 t107 w.drew)) fun t108 =>
  wpB (gd t105 false (nilv (gv t105 false x0))) fun t110 =>
  wpB (gd t105 false (pureRun Tryz.prog (Instr.fieldAt 112 t110 0))) fun t111 =>
  wpB (gd t105 false (pureRun Tryz.prog (Instr.fieldAt 23 t111 1))) fun t112 =>
  wpB (gd t105 false (ldv Tryz.prog 3 t112 w.drew)) fun t113 =>
  wpB (gd t105 false (bp Tryz.prog .geq 3 t108 t113)) fun t114 =>
  wpB (pickv t105 (some (.bool true)) (some t114)) fun t115 =>
  wpB (gd t115 false (pureRun Tryz.prog (Instr.fieldAt 38 x11 2))) fun t118 =>
  wpB (gd t115 false (ldv Tryz.prog 3 t118 w.drew)) fun t119 =>
  gE t115 false (CallR Tryz.prog 99 [(gv t115 false x0), t119] w.drew) (fun t120 w =>
  wpB (pickv t115 (some (.bool true)) (some t120)) fun t121 =>
  cnd t121
  (Q (.bool false) w)
  ((wpB (nilv x0) fun t123 =>
  wpB (pureRun Tryz.prog (Instr.fieldAt 112 t123 4)) fun t124 =>
  wpB (ldv Tryz.prog 109 t124 w.drew) fun t125 =>
  wpB (nilv x0) fun t128 =>
  wpB (pureRun Tryz.prog (Instr.fieldAt 112 t128 4)) fun t129 =>
  wpB (ldv Tryz.prog 109 t129 w.drew) fun t130 =>
  wpB (pureRun Tryz.prog (Instr.indexAt 109 t130 x9)) fun t132 =>
  wpB (pureRun Tryz.prog (Instr.fieldAt 126 t132 5)) fun t133 =>
  wpB (ldv Tryz.prog 26 t133 w.drew) fun t134 =>
  wpB (pureRun Tryz.prog (Instr.fieldAt 38 x11 2)) fun t135 =>
  wpB (ldv Tryz.prog 3 t135 w.drew) fun t136 =>
  effv Tryz.prog (Instr.buildSlice 26 1 #[(0, t136)]) w.drew fun t137 w =>
  effv Tryz.prog (Builtin.append_ #[26, 26] 26 #[t134, t137]) w fun t138 w =>
  wpB (pureRun Tryz.prog (Instr.indexAt 109 t125 x9)) fun t139 =>
  wpB (pureRun Tryz.prog (Instr.fieldAt 126 t139 5)) fun t140 =>
  effu Tryz.prog (Instr.storeAt 26 t140 t138) w fun w =>
  P86_2 x0 x9 x11 x12 w Q) ∧
  (wpB (nilv x0) fun t123_1 =>
  wpB (pureRun Tryz.prog (Instr.fieldAt 112 t123_1 4)) fun t124_1 =>
  wpB (nilv x0) fun t128_1 =>
  wpB (pureRun Tryz.prog (Instr.fieldAt 112 t128_1 4)) fun t129_1 =>
  wpB (pureRun Tryz.prog (Instr.fieldAt 38 x11 2)) fun t135_1 =>
  wpB (ldv Tryz.prog 109 t129_1 w.drew) fun t130_1 =>
  wpB (pureRun Tryz.prog (Instr.indexAt 109 t130_1 x9)) fun t132_1 =>
  wpB (pureRun Tryz.prog (Instr.fieldAt 126 t132_1 5)) fun t133_1 =>
  wpB (ldv Tryz.prog 26 t133_1 w.drew) fun t134_1 =>
  wpB (ldv Tryz.prog 3 t135_1 w.drew) fun t136_1 =>
  effv Tryz.prog (Instr.buildSlice 26 1 #[(0, t136_1)]) w.drew fun t137_1 w =>
  effv Tryz.prog (Builtin.append_ #[26, 26] 26 #[t134_1, t137_1]) w fun t138_1 w =>
  wpB (ldv Tryz.prog 109 t124_1 w) fun t125_1 =>
  wpB (pureRun Tryz.prog (Instr.indexAt 109 t125_1 x9)) fun t139_1 =>
  wpB (pureRun Tryz.prog (Instr.fieldAt 126 t139_1 5)) fun t140_1 =>
  effu Tryz.prog (Instr.storeAt 26 t140_1 t138_1) w fun w =>
  P86_2 x0 x9 x11 x12 w Q))) w.drew))
def L86_1 (x0 x9 x11 : Value) (w : World) (Q : Value → World → Prop) : Prop :=
  (wpB (nilv x0) fun t179 =>
  wpB (pureRun Tryz.prog (Instr.fieldAt 112 t179 4)) fun t180 =>
  wpB (ldv Tryz.prog 109 t180 w.drew) fun t181 =>
  wpB (nilv x0) fun t184 =>
  wpB (pureRun Tryz.prog (Instr.fieldAt 112 t184 4)) fun t185 =>
  wpB (ldv Tryz.prog 109 t185 w.drew) fun t186 =>
  wpB (pureRun Tryz.prog (Instr.indexAt 109 t186 x9)) fun t188 =>
  wpB (pureRun Tryz.prog (Instr.fieldAt 126 t188 7)) fun t189 =>
  wpB (ldv Tryz.prog 44 t189 w.drew) fun t190 =>
  wpB (ldv Tryz.prog 38 x11 w.drew) fun t191 =>
  effv Tryz.prog (Instr.buildSlice 44 1 #[(0, t191)]) w.drew fun t192 w =>
  effv Tryz.prog (Builtin.append_ #[44, 44] 44 #[t190, t192]) w fun t193 w =>
  wpB (pureRun Tryz.prog (Instr.indexAt 109 t181 x9)) fun t194 =>
  wpB (pureRun Tryz.prog (Instr.fieldAt 126 t194 7)) fun t195 =>
  effu Tryz.prog (Instr.storeAt 44 t195 t193) w fun w =>
  P86_3 w Q) ∧
  (wpB (nilv x0) fun t179_1 =>
  wpB (pureRun Tryz.prog (Instr.fieldAt 112 t179_1 4)) fun t180_1 =>
  wpB (nilv x0) fun t184_1 =>
  wpB (pureRun Tryz.prog (Instr.fieldAt 112 t184_1 4)) fun t185_1 =>
  wpB (ldv Tryz.prog 109 t185_1 w.drew) fun t186_1 =>
  wpB (pureRun Tryz.prog (Instr.indexAt 109 t186_1 x9)) fun t188_1 =>
  wpB (pureRun Tryz.prog (Instr.fieldAt 126 t188_1 7)) fun t189_1 =>
  wpB (ldv Tryz.prog 44 t189_1 w.drew) fun t190_1 =>
  wpB (ldv Tryz.prog 38 x11 w.drew) fun t191_1 =>
  effv Tryz.prog (Instr.buildSlice 44 1 #[(0, t191_1)]) w.drew fun t192_1 w =>
  effv Tryz.prog (Builtin.append_ #[44, 44] 44 #[t190_1, t192_1]) w fun t193_1 w =>
  wpB (ldv Tryz.prog 109 t180_1 w) fun t181_1 =>
  wpB (pureRun Tryz.prog (Instr.indexAt 109 t181_1 x9)) fun t194_1 =>
  wpB (pureRun Tryz.prog (Instr.fieldAt 126 t194_1 7)) fun t195_1 =>
  effu Tryz.prog (Instr.storeAt 44 t195_1 t193_1) w fun w =>
  P86_3 w Q)
def L86_2 (x0 x9 x11 x12 : Value) (w : World) (Q : Value → World → Prop) : Prop :=
  (wpB (nilv x0) fun t142 =>
  wpB (pureRun Tryz.prog (Instr.fieldAt 112 t142 4)) fun t143 =>
  wpB (ldv Tryz.prog 109 t143 w.drew) fun t144 =>
  wpB (nilv x0) fun t147 =>
  wpB (pureRun Tryz.prog (Instr.fieldAt 112 t147 4)) fun t148 =>
  wpB (ldv Tryz.prog 109 t148 w.drew) fun t149 =>
  wpB (pureRun Tryz.prog (Instr.indexAt 109 t149 x9)) fun t151 =>
  wpB (pureRun Tryz.prog (Instr.fieldAt 126 t151 6)) fun t152 =>
  wpB (ldv Tryz.prog 84 t152 w.drew) fun t153 =>
  wpB (nilv x0) fun t155 =>
  wpB (pureRun Tryz.prog (Instr.fieldAt 112 t155 0)) fun t156 =>
  wpB (pureRun Tryz.prog (Instr.fieldAt 23 t156 2)) fun t157 =>
  wpB (ldv Tryz.prog 3 t157 w.drew) fun t158 =>
  effv Tryz.prog (Instr.makeSlice 102 t158 t158) w.drew fun t159 w =>
  effv Tryz.prog (Instr.buildSlice 84 1 #[(0, t159)]) w fun t160 w =>
  effv Tryz.prog (Builtin.append_ #[84, 84] 84 #[t153, t160]) w fun t161 w =>
  wpB (pureRun Tryz.prog (Instr.indexAt 109 t144 x9)) fun t162 =>
  wpB (pureRun Tryz.prog (Instr.fieldAt 126 t162 6)) fun t163 =>
  effu Tryz.prog (Instr.storeAt 84 t163 t161) w fun w =>
  P86_4 x0 x9 x11 x12 w Q) ∧
  (wpB (nilv x0) fun t142_1 =>
  wpB (pureRun Tryz.prog (Instr.fieldAt 112 t142_1 4)) fun t143_1 =>
  wpB (nilv x0) fun t147_1 =>
  wpB (pureRun Tryz.prog (Instr.fieldAt 112 t147_1 4)) fun t148_1 =>
  wpB (nilv x0) fun t155_1 =>
  wpB (pureRun Tryz.prog (Instr.fieldAt 112 t155_1 0)) fun t156_1 =>
  wpB (pureRun Tryz.prog (Instr.fieldAt 23 t156_1 2)) fun t157_1 =>
  wpB (ldv Tryz.prog 109 t148_1 w.drew) fun t149_1 =>
  wpB (pureRun Tryz.prog (Instr.indexAt 109 t149_1 x9)) fun t151_1 =>
  wpB (pureRun Tryz.prog (Instr.fieldAt 126 t151_1 6)) fun t152_1 =>
  wpB (ldv Tryz.prog 84 t152_1 w.drew) fun t153_1 =>
  wpB (ldv Tryz.prog 3 t157_1 w.drew) fun t158_1 =>
  effv Tryz.prog (Instr.makeSlice 102 t158_1 t158_1) w.drew fun t159_1 w =>
  effv Tryz.prog (Instr.buildSlice 84 1 #[(0, t159_1)]) w fun t160_1 w =>
  effv Tryz.prog (Builtin.append_ #[84, 84] 84 #[t153_1, t160_1]) w fun t161_1 w =>
  wpB (ldv Tryz.prog 109 t143_1 w) fun t144_1 =>
  wpB (pureRun Tryz.prog (Instr.indexAt 109 t144_1 x9)) fun t162_1 =>
  wpB (pureRun Tryz.prog (Instr.fieldAt 126 t162_1 6)) fun t163_1 =>
  effu Tryz.prog (Instr.storeAt 84 t163_1 t161_1) w fun w =>
  P86_4 x0 x9 x11 x12 w Q)
def L86_3 (w : World) (Q : Value → World → Prop) : Prop :=
  Q (.bool true) w
def L86_4 (x0 x9 x11 x12 : Value) (w : World) (Q : Value → World → Prop) : Prop :=
  (wpB (nilv x0) fun t165 =>
  wpB (pureRun Tryz.prog (Instr.fieldAt 112 t165 4)) fun t166 =>
  wpB (ldv Tryz.prog 109 t166 w.drew) fun t167 =>
  wpB (nilv x0) fun t170 =>
  wpB (pureRun Tryz.prog (Instr.fieldAt 112 t170 0)) fun t171 =>
  wpB (pureRun Tryz.prog (Instr.fieldAt 23 t171 2)) fun t172 =>
  wpB (ldv Tryz.prog 3 t172 w.drew) fun t173 =>
  CallR Tryz.prog 100 [t173, x12] w.drew fun t175 w =>
  wpB (pureRun Tryz.prog (Instr.indexAt 109 t167 x9)) fun t176 =>
  wpB (pureRun Tryz.prog (Instr.fieldAt 126 t176 3)) fun t177 =>
  effu Tryz.prog (Instr.storeAt 3 t177 t175) w fun w =>
  P86_1 x0 x9 x11 w Q) ∧
  (wpB (nilv x0) fun t165_1 =>
  wpB (pureRun Tryz.prog (Instr.fieldAt 112 t165_1 4)) fun t166_1 =>
  wpB (nilv x0) fun t170_1 =>
  wpB (pureRun Tryz.prog (Instr.fieldAt 112 t170_1 0)) fun t171_1 =>
  wpB (pureRun Tryz.prog (Instr.fieldAt 23 t171_1 2)) fun t172_1 =>
  wpB (ldv Tryz.prog 3 t172_1 w.drew) fun t173_1 =>
  CallR Tryz.prog 100 [t173_1, x12] w.drew fun t175_1 w =>
  wpB (ldv Tryz.prog 109 t166_1 w) fun t167_1 =>
  wpB (pureRun Tryz.prog (Instr.indexAt 109 t167_1 x9)) fun t176_1 =>
  wpB (pureRun Tryz.prog (Instr.fieldAt 126 t176_1 3)) fun t177_1 =>
  effu Tryz.prog (Instr.storeAt 3 t177_1 t175_1) w fun w =>
  P86_1 x0 x9 x11 w Q)
theorem F86_ok {a0 a1 a2 a3 : Value} {w : World} {Q : Value → World → Prop} (h : F86 a0 a1 a2 a3 w Q) : CallR Tryz.prog 86 [a0, a1, a2, a3] w Q :=
  af mixed ad Tryz.func86 (c := C86) rfl H86 (Nat.le_of_ble_eq_true rfl) (by kernel_rfl) h
theorem L86_0_ok {x0 x7 x9 x10 x11 x12 : Value} {w : World} {Q : Value → World → Prop} (h : L86_0 x0 x7 x9 x10 x11 x12 w Q) : P86_0 x0 x7 x9 x10 x11 x12 w Q :=
  ax mixed ad Tryz.func86 H86 (by kernel_rfl) h
theorem L86_1_ok {x0 x9 x11 : Value} {w : World} {Q : Value → World → Prop} (h : L86_1 x0 x9 x11 w Q) : P86_1 x0 x9 x11 w Q :=
  ax mixed ad Tryz.func86 H86 (by kernel_rfl) h
theorem L86_2_ok {x0 x9 x11 x12 : Value} {w : World} {Q : Value → World → Prop} (h : L86_2 x0 x9 x11 x12 w Q) : P86_2 x0 x9 x11 x12 w Q :=
  ax mixed ad Tryz.func86 H86 (by kernel_rfl) h
theorem L86_3_ok {w : World} {Q : Value → World → Prop} (h : L86_3  w Q) : P86_3  w Q :=
  ax mixed ad Tryz.func86 H86 (by kernel_rfl) h
theorem L86_4_ok {x0 x9 x11 x12 : Value} {w : World} {Q : Value → World → Prop} (h : L86_4 x0 x9 x11 x12 w Q) : P86_4 x0 x9 x11 x12 w Q :=
  ax mixed ad Tryz.func86 H86 (by kernel_rfl) h

noncomputable def C87 : Code := (Tryz.f87.body).getD .skip
noncomputable def H87 : Hints := ⟨[], [], []⟩
def F87 (a0 a1 : Value) (w : World) (Q : Value → World → Prop) : Prop :=
  wpB (bp Tryz.prog .geq 3 a0 (.int .i64 0)) fun t6 =>
  wpB (gd t6 true (bp Tryz.prog .leq 3 (gv t6 true a0) (gv t6 true a1))) fun t10 =>
  wpB (pickv t6 (some t10) (some (.bool false))) fun t11 =>
  Q t11 w
theorem F87_ok {a0 a1 : Value} {w : World} {Q : Value → World → Prop} (h : F87 a0 a1 w Q) : CallR Tryz.prog 87 [a0, a1] w Q :=
  af mixed ad Tryz.func87 (c := C87) rfl H87 (Nat.le_of_ble_eq_true rfl) (by kernel_rfl) h

noncomputable def C88 : Code := (Tryz.f88.body).getD .skip
noncomputable def H88 : Hints := ⟨[], [], []⟩
def F88 (a0 a1 : Value) (w : World) (Q : Value → World → Prop) : Prop :=
  effv Tryz.prog (Instr.box 38 a1) w fun t3 w =>
  wpB (ldv Tryz.prog 38 t3 w) fun t6 =>
  CallR Tryz.prog 101 [a0, t6] w fun t7 w =>
  wpB (bp Tryz.prog .geq 3 t7 (.int .i64 0)) fun t8 =>
  Q t8 w
theorem F88_ok {a0 a1 : Value} {w : World} {Q : Value → World → Prop} (h : F88 a0 a1 w Q) : CallR Tryz.prog 88 [a0, a1] w Q :=
  af mixed ad Tryz.func88 (c := C88) rfl H88 (Nat.le_of_ble_eq_true rfl) (by kernel_rfl) h

noncomputable def C89 : Code := (Tryz.f89.body).getD .skip
noncomputable def H89 : Hints := ⟨[(2, [0, 3, 7, 8])], [], [(4, (.leaf [0, 1, 2, 3, 4, 5]))]⟩
noncomputable def T89_0 : List It := [.lp (nav [1, 0, 1, 4, 5] C89), .blk 0, .jn (nav [1, 1] C89)]
def P89_0 (x0 x3 x7 x8 : Value) (w : World) (Q : Value → World → Prop) : Prop := Part Tryz.prog 89 T89_0 [0, 3, 7, 8] [x0, x3, x7, x8] w Q
def F89 (a0 a1 : Value) (w : World) (Q : Value → World → Prop) : Prop :=
  effv Tryz.prog (Instr.box 83 a1) w fun t3 w =>
  wpB (pureRun Tryz.prog (Builtin.len_ #[94] 3 #[a0])) fun t7 =>
  P89_0 a0 t3 t7 (.int .i64 0) w Q
def L89_0 (x0 x3 x7 x8 : Value) (w : World) (Q : Value → World → Prop) : Prop :=
  wpB (bp Tryz.prog .lss 3 x8 x7) fun t9 =>
  cnd t9
  (wpB (ldv Tryz.prog 83 x3 w.drew) fun t11 =>
  wpB (pureRun Tryz.prog (Instr.indexAt 94 x0 x8)) fun t14 =>
  wpB (ldv Tryz.prog 83 t14 w.drew) fun t15 =>
  wpB (be Tryz.prog .eql 83 (.tmp 11) (.tmp 15) t11 t15) fun t16 =>
  cnd t16
  (Q x8 w.drew)
  (wpB (bp Tryz.prog .add 3 x8 (.int .i64 1)) fun t18 =>
  P89_0 x0 x3 x7 t18 w.drew Q))
  (Q (.int .i64 (-1)) w)
theorem F89_ok {a0 a1 : Value} {w : World} {Q : Value → World → Prop} (h : F89 a0 a1 w Q) : CallR Tryz.prog 89 [a0, a1] w Q :=
  af mixed ad Tryz.func89 (c := C89) rfl H89 (Nat.le_of_ble_eq_true rfl) (by kernel_rfl) h
theorem L89_0_ok {x0 x3 x7 x8 : Value} {w : World} {Q : Value → World → Prop} (h : L89_0 x0 x3 x7 x8 w Q) : P89_0 x0 x3 x7 x8 w Q :=
  aB mixed ad Tryz.func89 H89 (by kernel_rfl) h

noncomputable def C90 : Code := (Tryz.f90.body).getD .skip
noncomputable def H90 : Hints := ⟨[], [], []⟩
def F90 (a0 a1 a2 : Value) (w : World) (Q : Value → World → Prop) : Prop :=
  CallR Tryz.prog 91 [a0, a2] w fun t9 w =>
  gE t9 true (CallR Tryz.prog 92 [(gv t9 true a0), (gv t9 true a2)] w) (fun t13 w =>
  wpB (gd t9 true (pureRun Tryz.prog (Op.unary .not t13))) fun t14 =>
  wpB (pickv t9 (some t14) (some (.bool false))) fun t15 =>
  wpB (gd t15 true (bp Tryz.prog .geq 3 (gv t15 true a1) (.int .i64 0))) fun t18 =>
  wpB (pickv t15 (some t18) (some (.bool false))) fun t19 =>
  wpB (gd t19 true (bp Tryz.prog .sub 3 (gv t19 true a0) (gv t19 true a2))) fun t24 =>
  wpB (gd t19 true (bp Tryz.prog .leq 3 (gv t19 true a1) t24)) fun t25 =>
  wpB (pickv t19 (some t25) (some (.bool false))) fun t26 =>
  Q t26 w) w
theorem F90_ok {a0 a1 a2 : Value} {w : World} {Q : Value → World → Prop} (h : F90 a0 a1 a2 w Q) : CallR Tryz.prog 90 [a0, a1, a2] w Q :=
  af mixed ad Tryz.func90 (c := C90) rfl H90 (Nat.le_of_ble_eq_true rfl) (by kernel_rfl) h

noncomputable def C91 : Code := (Tryz.f91.body).getD .skip
noncomputable def H91 : Hints := ⟨[], [], []⟩
def F91 (a0 a1 : Value) (w : World) (Q : Value → World → Prop) : Prop :=
  wpB (bp Tryz.prog .geq 3 a0 (.int .i64 1)) fun t6 =>
  wpB (gd t6 true (bp Tryz.prog .leq 3 (gv t6 true a0) (.int .i64 1024))) fun t9 =>
  wpB (pickv t6 (some t9) (some (.bool false))) fun t10 =>
  wpB (gd t10 true (bp Tryz.prog .geq 3 (gv t10 true a1) (.int .i64 1))) fun t13 =>
  wpB (pickv t10 (some t13) (some (.bool false))) fun t14 =>
  wpB (gd t14 true (bp Tryz.prog .leq 3 (gv t14 true a1) (gv t14 true a0))) fun t18 =>
  wpB (pickv t14 (some t18) (some (.bool false))) fun t19 =>
  Q t19 w
theorem F91_ok {a0 a1 : Value} {w : World} {Q : Value → World → Prop} (h : F91 a0 a1 w Q) : CallR Tryz.prog 91 [a0, a1] w Q :=
  af mixed ad Tryz.func91 (c := C91) rfl H91 (Nat.le_of_ble_eq_true rfl) (by kernel_rfl) h

noncomputable def C92 : Code := (Tryz.f92.body).getD .skip
noncomputable def H92 : Hints := ⟨[], [], []⟩
def F92 (a0 a1 : Value) (w : World) (Q : Value → World → Prop) : Prop :=
  CallR Tryz.prog 91 [a0, a1] w fun t7 w =>
  wpB (gd t7 true (bp Tryz.prog .mul 3 (.int .i64 2) (gv t7 true a1))) fun t10 =>
  wpB (gd t7 true (bp Tryz.prog .gtr 3 t10 (gv t7 true a0))) fun t12 =>
  wpB (pickv t7 (some t12) (some (.bool false))) fun t13 =>
  Q t13 w
theorem F92_ok {a0 a1 : Value} {w : World} {Q : Value → World → Prop} (h : F92 a0 a1 w Q) : CallR Tryz.prog 92 [a0, a1] w Q :=
  af mixed ad Tryz.func92 (c := C92) rfl H92 (Nat.le_of_ble_eq_true rfl) (by kernel_rfl) h

noncomputable def C93 : Code := (Tryz.f93.body).getD .skip
noncomputable def H93 : Hints := ⟨[(6, [0, 3, 6, 7, 8])], [], [(8, (.leaf [0, 1, 2, 3, 4, 5, 6, 7, 8, 9, 10, 11, 12]))]⟩
noncomputable def T93_0 : List It := [.lp (nav [1, 1, 1, 1, 0, 1, 4, 5] C93), .blk 0, .jn (nav [1, 1, 1, 1, 1] C93)]
def P93_0 (x0 x3 x6 x7 x8 : Value) (w : World) (Q : Value → World → Prop) : Prop := Part Tryz.prog 93 T93_0 [0, 3, 6, 7, 8] [x0, x3, x6, x7, x8] w Q
def F93 (a0 a1 : Value) (w : World) (Q : Value → World → Prop) : Prop :=
  effv Tryz.prog (Instr.box 38 a1) w fun t3 w =>
  wpB (pureRun Tryz.prog (Instr.fieldAt 38 t3 0)) fun t10 =>
  wpB (ldv Tryz.prog 3 t10 w) fun t11 =>
  wpB (pureRun Tryz.prog (Instr.fieldAt 38 t3 1)) fun t12 =>
  wpB (ldv Tryz.prog 3 t12 w) fun t13 =>
  CallR Tryz.prog 81 [a0, t11, t13] w fun t14 w =>
  wpB (bp Tryz.prog .lss 3 t14 (.int .i64 0)) fun t16 =>
  cnd t16
  (Q (.tuple #[(.bool false), (.bool false)]) w)
  (wpB (pureRun Tryz.prog (Instr.fieldAt 38 t3 2)) fun t17 =>
  wpB (ldv Tryz.prog 3 t17 w) fun t18 =>
  wpB (be Tryz.prog .eql 3 (.tmp 18) (.const (.int .i64 0)) t18 (.int .i64 0)) fun t19 =>
  wpB (gd t19 true (pureRun Tryz.prog (Instr.fieldAt 38 t3 3))) fun t21 =>
  wpB (gd t19 true (ldv Tryz.prog 3 t21 w)) fun t22 =>
  wpB (gd t19 true (be Tryz.prog .eql 3 (.tmp 22) (.const (.int .i64 0)) t22 (.int .i64 0))) fun t23 =>
  wpB (pickv t19 (some t23) (some (.bool false))) fun t24 =>
  wpB (gd t24 true (pureRun Tryz.prog (Instr.fieldAt 38 t3 4))) fun t26 =>
  wpB (gd t24 true (ldv Tryz.prog 3 t26 w)) fun t27 =>
  wpB (gd t24 true (be Tryz.prog .eql 3 (.tmp 27) (.const (.int .i64 0)) t27 (.int .i64 0))) fun t28 =>
  wpB (pickv t24 (some t28) (some (.bool false))) fun t29 =>
  P93_0 a0 t3 t14 t29 (.int .i64 0) w Q)
def L93_0 (x0 x3 x6 x7 x8 : Value) (w : World) (Q : Value → World → Prop) : Prop :=
  wpB (nilv x0) fun t32 =>
  wpB (pureRun Tryz.prog (Instr.fieldAt 112 t32 4)) fun t33 =>
  wpB (ldv Tryz.prog 109 t33 w) fun t34 =>
  wpB (pureRun Tryz.prog (Instr.indexAt 109 t34 x6)) fun t36 =>
  wpB (pureRun Tryz.prog (Instr.fieldAt 126 t36 7)) fun t37 =>
  wpB (ldv Tryz.prog 44 t37 w) fun t38 =>
  wpB (pureRun Tryz.prog (Builtin.len_ #[44] 3 #[t38])) fun t39 =>
  wpB (bp Tryz.prog .lss 3 x8 t39) fun t40 =>
  cnd t40
  (wpB (nilv x0) fun t44 =>
  wpB (pureRun Tryz.prog (Instr.fieldAt 112 t44 4)) fun t45 =>
  wpB (ldv Tryz.prog 109 t45 w.drew) fun t46 =>
  wpB (pureRun Tryz.prog (Instr.indexAt 109 t46 x6)) fun t48 =>
  wpB (pureRun Tryz.prog (Instr.fieldAt 126 t48 7)) fun t49 =>
  wpB (ldv Tryz.prog 44 t49 w.drew) fun t50 =>
  wpB (pureRun Tryz.prog (Instr.indexAt 44 t50 x8)) fun t52 =>
  wpB (ldv Tryz.prog 38 t52 w.drew) fun t53 =>
  wpB (ldv Tryz.prog 38 x3 w.drew) fun t54 =>
  wpB (be Tryz.prog .eql 38 (.tmp 53) (.tmp 54) t53 t54) fun t55 =>
  cnd t55
  (Q (.tuple #[x7, (.bool true)]) w.drew)
  (wpB (bp Tryz.prog .add 3 x8 (.int .i64 1)) fun t42 =>
  P93_0 x0 x3 x6 x7 t42 w.drew Q))
  (Q (.tuple #[x7, (.bool false)]) w)
theorem F93_ok {a0 a1 : Value} {w : World} {Q : Value → World → Prop} (h : F93 a0 a1 w Q) : CallR Tryz.prog 93 [a0, a1] w Q :=
  af mixed ad Tryz.func93 (c := C93) rfl H93 (Nat.le_of_ble_eq_true rfl) (by kernel_rfl) h
theorem L93_0_ok {x0 x3 x6 x7 x8 : Value} {w : World} {Q : Value → World → Prop} (h : L93_0 x0 x3 x6 x7 x8 w Q) : P93_0 x0 x3 x6 x7 x8 w Q :=
  aB mixed ad Tryz.func93 H93 (by kernel_rfl) h

noncomputable def C94 : Code := (Tryz.f94.body).getD .skip
noncomputable def H94 : Hints := ⟨[(2, [1, 2, 5])], [], []⟩
noncomputable def T94_0 : List It := [.lp (nav [1, 0, 1, 4, 5] C94), .blk 0, .jn (nav [1, 1] C94)]
def P94_0 (x1 x2 x5 : Value) (w : World) (Q : Value → World → Prop) : Prop := Part Tryz.prog 94 T94_0 [1, 2, 5] [x1, x2, x5] w Q
def F94 (a0 a1 : Value) (w : World) (Q : Value → World → Prop) : Prop :=
  effv Tryz.prog (Instr.box 126 a0) w fun t2 w =>
  P94_0 a1 t2 (.int .i64 0) w Q
def L94_0 (x1 x2 x5 : Value) (w : World) (Q : Value → World → Prop) : Prop :=
  wpB (pureRun Tryz.prog (Instr.fieldAt 126 x2 5)) fun t7 =>
  wpB (ldv Tryz.prog 26 t7 w) fun t8 =>
  wpB (pureRun Tryz.prog (Builtin.len_ #[26] 3 #[t8])) fun t9 =>
  wpB (bp Tryz.prog .lss 3 x5 t9) fun t10 =>
  cnd t10
  (wpB (pureRun Tryz.prog (Instr.fieldAt 126 x2 5)) fun t13 =>
  wpB (ldv Tryz.prog 26 t13 w) fun t14 =>
  wpB (pureRun Tryz.prog (Instr.indexAt 26 t14 x5)) fun t16 =>
  wpB (ldv Tryz.prog 3 t16 w) fun t17 =>
  wpB (be Tryz.prog .eql 3 (.tmp 17) (.tmp 18) t17 x1) fun t19 =>
  cnd t19
  (Q x5 w)
  (wpB (bp Tryz.prog .add 3 x5 (.int .i64 1)) fun t12 =>
  P94_0 x1 x2 t12 w Q))
  (Q (.int .i64 (-1)) w)
theorem F94_ok {a0 a1 : Value} {w : World} {Q : Value → World → Prop} (h : F94 a0 a1 w Q) : CallR Tryz.prog 94 [a0, a1] w Q :=
  af mixed ad Tryz.func94 (c := C94) rfl H94 (Nat.le_of_ble_eq_true rfl) (by kernel_rfl) h
theorem L94_0_ok {x1 x2 x5 : Value} {w : World} {Q : Value → World → Prop} (h : L94_0 x1 x2 x5 w Q) : P94_0 x1 x2 x5 w Q :=
  aB mixed ad Tryz.func94 H94 (by kernel_rfl) h

noncomputable def C95 : Code := (Tryz.f95.body).getD .skip
noncomputable def H95 : Hints := ⟨[(3, [0, 3, 4])], [(4, [0, 3, 4])], []⟩
noncomputable def T95_0 : List It := [.lp (nav [1, 1, 0, 1, 4, 5] C95), .blk 0, .jn (nav [1, 1, 1] C95)]
noncomputable def T95_1 : List It := [.jn (nav [1, 1, 0, 1, 4, 5, 1, 1] C95), .lp (nav [1, 1, 0, 1, 4, 5] C95), .blk 0, .jn (nav [1, 1, 1] C95)]
def P95_0 (x0 x3 x4 : Value) (w : World) (Q : Value → World → Prop) : Prop := Part Tryz.prog 95 T95_0 [0, 3, 4] [x0, x3, x4] w Q
def P95_1 (x0 x3 x4 : Value) (w : World) (Q : Value → World → Prop) : Prop := Part Tryz.prog 95 T95_1 [0, 3, 4] [x0, x3, x4] w Q
def F95 (a0 : Value) (w : World) (Q : Value → World → Prop) : Prop :=
  P95_0 a0 (.int .i64 0) (.int .i64 0) w Q
def L95_0 (x0 x3 x4 : Value) (w : World) (Q : Value → World → Prop) : Prop :=
  wpB (nilv x0) fun t7 =>
  wpB (pureRun Tryz.prog (Instr.fieldAt 112 t7 2)) fun t8 =>
  wpB (ldv Tryz.prog 26 t8 w) fun t9 =>
  wpB (pureRun Tryz.prog (Builtin.len_ #[26] 3 #[t9])) fun t10 =>
  wpB (bp Tryz.prog .lss 3 x4 t10) fun t11 =>
  cnd t11
  (wpB (nilv x0) fun t15 =>
  wpB (pureRun Tryz.prog (Instr.fieldAt 112 t15 2)) fun t16 =>
  wpB (ldv Tryz.prog 26 t16 w) fun t17 =>
  wpB (pureRun Tryz.prog (Instr.indexAt 26 t17 x4)) fun t19 =>
  wpB (ldv Tryz.prog 3 t19 w) fun t20 =>
  wpB (be Tryz.prog .eql 3 (.tmp 20) (.const (.int .i64 0)) t20 (.int .i64 0)) fun t21 =>
  cnd t21
  (wpB (bp Tryz.prog .add 3 x3 (.int .i64 1)) fun t23 =>
  P95_1 x0 t23 x4 w Q)
  (P95_1 x0 x3 x4 w Q))
  (Q x3 w)
def L95_1 (x0 x3 x4 : Value) (w : World) (Q : Value → World → Prop) : Prop :=
  wpB (bp Tryz.prog .add 3 x4 (.int .i64 1)) fun t13 =>
  P95_0 x0 x3 t13 w Q
theorem F95_ok {a0 : Value} {w : World} {Q : Value → World → Prop} (h : F95 a0 w Q) : CallR Tryz.prog 95 [a0] w Q :=
  af mixed ad Tryz.func95 (c := C95) rfl H95 (Nat.le_of_ble_eq_true rfl) (by kernel_rfl) h
theorem L95_0_ok {x0 x3 x4 : Value} {w : World} {Q : Value → World → Prop} (h : L95_0 x0 x3 x4 w Q) : P95_0 x0 x3 x4 w Q :=
  aB mixed ad Tryz.func95 H95 (by kernel_rfl) h
theorem L95_1_ok {x0 x3 x4 : Value} {w : World} {Q : Value → World → Prop} (h : L95_1 x0 x3 x4 w Q) : P95_1 x0 x3 x4 w Q :=
  ax mixed ad Tryz.func95 H95 (by kernel_rfl) h

noncomputable def C96 : Code := (Tryz.f96.body).getD .skip
noncomputable def H96 : Hints := ⟨[], [], []⟩
def F96 (a0 : Value) (w : World) (Q : Value → World → Prop) : Prop :=
  wpB (bp Tryz.prog .geq 3 a0 (.int .i64 4294967295)) fun t4 =>
  cnd t4
  (Q (.int .i64 0) w)
  (wpB (bp Tryz.prog .add 3 a0 (.int .i64 1)) fun t6 =>
  Q t6 w)
theorem F96_ok {a0 : Value} {w : World} {Q : Value → World → Prop} (h : F96 a0 w Q) : CallR Tryz.prog 96 [a0] w Q :=
  af mixed ad Tryz.func96 (c := C96) rfl H96 (Nat.le_of_ble_eq_true rfl) (by kernel_rfl) h

noncomputable def C97 : Code := (Tryz.f97.body).getD .skip
noncomputable def H97 : Hints := ⟨[], [], [(2, (.ask 9 15 (.ask 11 15 (.leaf [0, 1, 2, 3, 4, 5, 6, 7, 8, 9, 10, 11, 12, 13, 14, 15, 16, 17, 18]) (.leaf [0, 1, 2, 3, 4, 5, 6, 7, 8, 10, 12, 14, 9, 13, 15, 11, 16, 17, 18])) (.ask 11 15 (.leaf [0, 1, 2, 3, 4, 5, 6, 7, 8, 10, 12, 14, 11, 13, 15, 9, 16, 17, 18]) (.leaf [0, 1, 2, 3, 4, 5, 6, 7, 8, 10, 12, 14, 13, 15, 9, 11, 16, 17, 18]))))]⟩
def F97 (a0 a1 a2 : Value) (w : World) (Q : Value → World → Prop) : Prop :=
  wpB (nilv a0) fun t9 =>
  wpB (pureRun Tryz.prog (Instr.fieldAt 112 t9 4)) fun t10 =>
  wpB (ldv Tryz.prog 109 t10 w) fun t11 =>
  wpB (pureRun Tryz.prog (Instr.indexAt 109 t11 a1)) fun t13 =>
  wpB (ldv Tryz.prog 126 t13 w) fun t14 =>
  effv Tryz.prog (Instr.alloc 126 true (.tuple #[])) w fun t7 w =>
  effu Tryz.prog (Instr.storeAt 126 t7 t14) w fun w =>
  ((wpB (pureRun Tryz.prog (Instr.fieldAt 126 t7 5)) fun t15 =>
  wpB (ldv Tryz.prog 26 t15 w.drew) fun t16 =>
  wpB (pureRun Tryz.prog (Builtin.len_ #[26] 3 #[t16])) fun t17 =>
  wpB (bp Tryz.prog .gtr 3 t17 (.int .i64 0)) fun t18 =>
  wpB (gd t18 true (nilv (gv t18 true a0))) fun t21 =>
  wpB (gd t18 true (pureRun Tryz.prog (Instr.fieldAt 112 t21 0))) fun t22 =>
  wpB (gd t18 true (pureRun Tryz.prog (Instr.fieldAt 23 t22 2))) fun t23 =>
  wpB (gd t18 true (ldv Tryz.prog 3 t23 w.drew)) fun t24 =>
  wpB (gd t18 true (pureRun Tryz.prog (Instr.fieldAt 126 t7 3))) fun t25 =>
  wpB (gd t18 true (ldv Tryz.prog 3 t25 w.drew)) fun t26 =>
  wpB (gd t18 true (pureRun Tryz.prog (Instr.fieldAt 126 t7 2))) fun t27 =>
  wpB (gd t18 true (ldv Tryz.prog 3 t27 w.drew)) fun t28 =>
  gE t18 true (CallR Tryz.prog 98 [t28, (gv t18 true a2)] w.drew) (fun t30 w =>
  gE t18 true (CallR Tryz.prog 102 [t24, t26, t30] w) (fun t31 w =>
  wpB (pickv t18 (some t31) (some (.bool false))) fun t32 =>
  Q t32 w) w) w.drew) ∧
  (wpB (pureRun Tryz.prog (Instr.fieldAt 126 t7 5)) fun t15_1 =>
  wpB (ldv Tryz.prog 26 t15_1 w.drew) fun t16_1 =>
  wpB (pureRun Tryz.prog (Builtin.len_ #[26] 3 #[t16_1])) fun t17_1 =>
  wpB (bp Tryz.prog .gtr 3 t17_1 (.int .i64 0)) fun t18_1 =>
  wpB (gd t18_1 true (nilv (gv t18_1 true a0))) fun t21_1 =>
  wpB (gd t18_1 true (pureRun Tryz.prog (Instr.fieldAt 112 t21_1 0))) fun t22_1 =>
  wpB (gd t18_1 true (pureRun Tryz.prog (Instr.fieldAt 23 t22_1 2))) fun t23_1 =>
  wpB (gd t18_1 true (pureRun Tryz.prog (Instr.fieldAt 126 t7 3))) fun t25_1 =>
  wpB (gd t18_1 true (pureRun Tryz.prog (Instr.fieldAt 126 t7 2))) fun t27_1 =>
  wpB (gd t18_1 true (ldv Tryz.prog 3 t23_1 w.drew)) fun t24_1 =>
  wpB (gd t18_1 true (ldv Tryz.prog 3 t27_1 w.drew)) fun t28_1 =>
  gE t18_1 true (CallR Tryz.prog 98 [t28_1, (gv t18_1 true a2)] w.drew) (fun t30_1 w =>
  wpB (gd t18_1 true (ldv Tryz.prog 3 t25_1 w)) fun t26_1 =>
  gE t18_1 true (CallR Tryz.prog 102 [t24_1, t26_1, t30_1] w) (fun t31_1 w =>
  wpB (pickv t18_1 (some t31_1) (some (.bool false))) fun t32_1 =>
  Q t32_1 w) w) w.drew)) ∧
  ((wpB (pureRun Tryz.prog (Instr.fieldAt 126 t7 5)) fun t15_2 =>
  wpB (ldv Tryz.prog 26 t15_2 w.drew) fun t16_2 =>
  wpB (pureRun Tryz.prog (Builtin.len_ #[26] 3 #[t16_2])) fun t17_2 =>
  wpB (bp Tryz.prog .gtr 3 t17_2 (.int .i64 0)) fun t18_2 =>
  wpB (gd t18_2 true (nilv (gv t18_2 true a0))) fun t21_2 =>
  wpB (gd t18_2 true (pureRun Tryz.prog (Instr.fieldAt 112 t21_2 0))) fun t22_2 =>
  wpB (gd t18_2 true (pureRun Tryz.prog (Instr.fieldAt 23 t22_2 2))) fun t23_2 =>
  wpB (gd t18_2 true (pureRun Tryz.prog (Instr.fieldAt 126 t7 3))) fun t25_2 =>
  wpB (gd t18_2 true (pureRun Tryz.prog (Instr.fieldAt 126 t7 2))) fun t27_2 =>
  wpB (gd t18_2 true (ldv Tryz.prog 3 t25_2 w.drew)) fun t26_2 =>
  wpB (gd t18_2 true (ldv Tryz.prog 3 t27_2 w.drew)) fun t28_2 =>
  gE t18_2 true (CallR Tryz.prog 98 [t28_2, (gv t18_2 true a2)] w.drew) (fun t30_2 w =>
  wpB (gd t18_2 true (ldv Tryz.prog 3 t23_2 w)) fun t24_2 =>
  gE t18_2 true (CallR Tryz.prog 102 [t24_2, t26_2, t30_2] w) (fun t31_2 w =>
  wpB (pickv t18_2 (some t31_2) (some (.bool false))) fun t32_2 =>
  Q t32_2 w) w) w.drew) ∧
  (wpB (pureRun Tryz.prog (Instr.fieldAt 126 t7 5)) fun t15_3 =>
  wpB (ldv Tryz.prog 26 t15_3 w.drew) fun t16_3 =>
  wpB (pureRun Tryz.prog (Builtin.len_ #[26] 3 #[t16_3])) fun t17_3 =>
  wpB (bp Tryz.prog .gtr 3 t17_3 (.int .i64 0)) fun t18_3 =>
  wpB (gd t18_3 true (nilv (gv t18_3 true a0))) fun t21_3 =>
  wpB (gd t18_3 true (pureRun Tryz.prog (Instr.fieldAt 112 t21_3 0))) fun t22_3 =>
  wpB (gd t18_3 true (pureRun Tryz.prog (Instr.fieldAt 23 t22_3 2))) fun t23_3 =>
  wpB (gd t18_3 true (pureRun Tryz.prog (Instr.fieldAt 126 t7 3))) fun t25_3 =>
  wpB (gd t18_3 true (pureRun Tryz.prog (Instr.fieldAt 126 t7 2))) fun t27_3 =>
  wpB (gd t18_3 true (ldv Tryz.prog 3 t27_3 w.drew)) fun t28_3 =>
  gE t18_3 true (CallR Tryz.prog 98 [t28_3, (gv t18_3 true a2)] w.drew) (fun t30_3 w =>
  wpB (gd t18_3 true (ldv Tryz.prog 3 t23_3 w)) fun t24_3 =>
  wpB (gd t18_3 true (ldv Tryz.prog 3 t25_3 w)) fun t26_3 =>
  gE t18_3 true (CallR Tryz.prog 102 [t24_3, t26_3, t30_3] w) (fun t31_3 w =>
  wpB (pickv t18_3 (some t31_3) (some (.bool false))) fun t32_3 =>
  Q t32_3 w) w) w.drew))
theorem F97_ok {a0 a1 a2 : Value} {w : World} {Q : Value → World → Prop} (h : F97 a0 a1 a2 w Q) : CallR Tryz.prog 97 [a0, a1, a2] w Q :=
  af mixed ad Tryz.func97 (c := C97) rfl H97 (Nat.le_of_ble_eq_true rfl) (by kernel_rfl) h

noncomputable def C98 : Code := (Tryz.f98.body).getD .skip
noncomputable def H98 : Hints := ⟨[(5, [0, 1, 5, 6]), (8, [1, 5])], [], []⟩
noncomputable def T98_0 : List It := [.lp (nav [1, 1, 1, 0, 1, 4, 5] C98), .blk 0, .jn (nav [1, 1, 1, 1] C98)]
noncomputable def T98_1 : List It := [.lp (nav [1, 1, 1, 1, 0, 4, 5] C98), .blk 2, .jn (nav [1, 1, 1, 1, 1] C98)]
def P98_0 (x0 x1 x5 x6 : Value) (w : World) (Q : Value → World → Prop) : Prop := Part Tryz.prog 98 T98_0 [0, 1, 5, 6] [x0, x1, x5, x6] w Q
def P98_1 (x1 x5 : Value) (w : World) (Q : Value → World → Prop) : Prop := Part Tryz.prog 98 T98_1 [1, 5] [x1, x5] w Q
def F98 (a0 a1 : Value) (w : World) (Q : Value → World → Prop) : Prop :=
  CallR Tryz.prog 15 [a1, (.int .i64 1), (.int .i64 1024)] w fun t8 w =>
  wpB (pureRun Tryz.prog (Op.unary .not t8)) fun t9 =>
  cnd t9
  (Q (.int .i64 0) w)
  (P98_0 a0 a1 (.int .i64 1) (.int .i64 0) w Q)
def L98_0 (x0 x1 x5 x6 : Value) (w : World) (Q : Value → World → Prop) : Prop :=
  wpB (bp Tryz.prog .lss 3 x6 x0) fun t12 =>
  wpB (gd t12 true (bp Tryz.prog .lss 3 (gv t12 true x6) (.int .i64 3))) fun t15 =>
  wpB (pickv t12 (some t15) (some (.bool false))) fun t16 =>
  cnd t16
  (wpB (bp Tryz.prog .mul 3 (.int .i64 2) x5) fun t20 =>
  wpB (bp Tryz.prog .add 3 x6 (.int .i64 1)) fun t18 =>
  P98_0 x0 x1 t20 t18 w Q)
  (P98_1 x1 x5 w Q)
def L98_1 (x1 x5 : Value) (w : World) (Q : Value → World → Prop) : Prop :=
  wpB (bp Tryz.prog .rem 3 x1 x5) fun t23 =>
  wpB (be Tryz.prog .neq 3 (.tmp 23) (.const (.int .i64 0)) t23 (.int .i64 0)) fun t24 =>
  cnd t24
  (wpB (bp Tryz.prog .add 3 x1 (.int .i64 1)) fun t26 =>
  P98_1 t26 x5 w Q)
  (Q x1 w)
theorem F98_ok {a0 a1 : Value} {w : World} {Q : Value → World → Prop} (h : F98 a0 a1 w Q) : CallR Tryz.prog 98 [a0, a1] w Q :=
  af mixed ad Tryz.func98 (c := C98) rfl H98 (Nat.le_of_ble_eq_true rfl) (by kernel_rfl) h
theorem L98_0_ok {x0 x1 x5 x6 : Value} {w : World} {Q : Value → World → Prop} (h : L98_0 x0 x1 x5 x6 w Q) : P98_0 x0 x1 x5 x6 w Q :=
  aB mixed ad Tryz.func98 H98 (by kernel_rfl) h
theorem L98_1_ok {x1 x5 : Value} {w : World} {Q : Value → World → Prop} (h : L98_1 x1 x5 w Q) : P98_1 x1 x5 w Q :=
  aB mixed ad Tryz.func98 H98 (by kernel_rfl) h

noncomputable def C99 : Code := (Tryz.f99.body).getD .skip
noncomputable def H99 : Hints := ⟨[(2, [0, 1, 5])], [], []⟩
noncomputable def T99_0 : List It := [.lp (nav [1, 0, 1, 4, 5] C99), .blk 0, .jn (nav [1, 1] C99)]
def P99_0 (x0 x1 x5 : Value) (w : World) (Q : Value → World → Prop) : Prop := Part Tryz.prog 99 T99_0 [0, 1, 5] [x0, x1, x5] w Q
def F99 (a0 a1 : Value) (w : World) (Q : Value → World → Prop) : Prop :=
  P99_0 a0 a1 (.int .i64 0) w Q
def L99_0 (x0 x1 x5 : Value) (w : World) (Q : Value → World → Prop) : Prop :=
  wpB (nilv x0) fun t8 =>
  wpB (pureRun Tryz.prog (Instr.fieldAt 112 t8 4)) fun t9 =>
  wpB (ldv Tryz.prog 109 t9 w) fun t10 =>
  wpB (pureRun Tryz.prog (Builtin.len_ #[109] 3 #[t10])) fun t11 =>
  wpB (bp Tryz.prog .lss 3 x5 t11) fun t12 =>
  cnd t12
  (wpB (nilv x0) fun t16 =>
  wpB (pureRun Tryz.prog (Instr.fieldAt 112 t16 4)) fun t17 =>
  wpB (ldv Tryz.prog 109 t17 w) fun t18 =>
  wpB (pureRun Tryz.prog (Instr.indexAt 109 t18 x5)) fun t20 =>
  wpB (pureRun Tryz.prog (Instr.fieldAt 126 t20 4)) fun t21 =>
  wpB (ldv Tryz.prog 4 t21 w) fun t22 =>
  wpB (gd t22 true (nilv (gv t22 true x0))) fun t25 =>
  wpB (gd t22 true (pureRun Tryz.prog (Instr.fieldAt 112 t25 4))) fun t26 =>
  wpB (gd t22 true (ldv Tryz.prog 109 t26 w)) fun t27 =>
  wpB (gd t22 true (pureRun Tryz.prog (Instr.indexAt 109 t27 (gv t22 true x5)))) fun t29 =>
  wpB (gd t22 true (ldv Tryz.prog 126 t29 w)) fun t30 =>
  gE t22 true (CallR Tryz.prog 94 [t30, (gv t22 true x1)] w) (fun t32 w =>
  wpB (gd t22 true (bp Tryz.prog .geq 3 t32 (.int .i64 0))) fun t33 =>
  wpB (pickv t22 (some t33) (some (.bool false))) fun t34 =>
  cnd t34
  (Q (.bool true) w)
  (wpB (bp Tryz.prog .add 3 x5 (.int .i64 1)) fun t14 =>
  P99_0 x0 x1 t14 w Q)) w)
  (Q (.bool false) w)
theorem F99_ok {a0 a1 : Value} {w : World} {Q : Value → World → Prop} (h : F99 a0 a1 w Q) : CallR Tryz.prog 99 [a0, a1] w Q :=
  af mixed ad Tryz.func99 (c := C99) rfl H99 (Nat.le_of_ble_eq_true rfl) (by kernel_rfl) h
theorem L99_0_ok {x0 x1 x5 : Value} {w : World} {Q : Value → World → Prop} (h : L99_0 x0 x1 x5 w Q) : P99_0 x0 x1 x5 w Q :=
  aB mixed ad Tryz.func99 H99 (by kernel_rfl) h

noncomputable def C100 : Code := (Tryz.f100.body).getD .skip
noncomputable def H100 : Hints := ⟨[], [], []⟩
def F100 (a0 a1 : Value) (w : World) (Q : Value → World → Prop) : Prop :=
  CallR Tryz.prog 103 [a0, a1] w fun t7 w =>
  wpB (pureRun Tryz.prog (Op.unary .not t7)) fun t8 =>
  cnd t8
  (Q (.int .i64 0) w)
  (CallR Tryz.prog 104 [a0, a1] w fun t11 w =>
  cnd t11
  (Q a0 w)
  (Q a1 w))
theorem F100_ok {a0 a1 : Value} {w : World} {Q : Value → World → Prop} (h : F100 a0 a1 w Q) : CallR Tryz.prog 100 [a0, a1] w Q :=
  af mixed ad Tryz.func100 (c := C100) rfl H100 (Nat.le_of_ble_eq_true rfl) (by kernel_rfl) h

noncomputable def C101 : Code := (Tryz.f101.body).getD .skip
noncomputable def H101 : Hints := ⟨[(2, [0, 3, 7, 8])], [], [(4, (.leaf [0, 1, 2, 3, 4, 5]))]⟩
noncomputable def T101_0 : List It := [.lp (nav [1, 0, 1, 4, 5] C101), .blk 0, .jn (nav [1, 1] C101)]
def P101_0 (x0 x3 x7 x8 : Value) (w : World) (Q : Value → World → Prop) : Prop := Part Tryz.prog 101 T101_0 [0, 3, 7, 8] [x0, x3, x7, x8] w Q
def F101 (a0 a1 : Value) (w : World) (Q : Value → World → Prop) : Prop :=
  effv Tryz.prog (Instr.box 38 a1) w fun t3 w =>
  wpB (pureRun Tryz.prog (Builtin.len_ #[44] 3 #[a0])) fun t7 =>
  P101_0 a0 t3 t7 (.int .i64 0) w Q
def L101_0 (x0 x3 x7 x8 : Value) (w : World) (Q : Value → World → Prop) : Prop :=
  wpB (bp Tryz.prog .lss 3 x8 x7) fun t9 =>
  cnd t9
  (wpB (ldv Tryz.prog 38 x3 w.drew) fun t11 =>
  wpB (pureRun Tryz.prog (Instr.indexAt 44 x0 x8)) fun t14 =>
  wpB (ldv Tryz.prog 38 t14 w.drew) fun t15 =>
  wpB (be Tryz.prog .eql 38 (.tmp 11) (.tmp 15) t11 t15) fun t16 =>
  cnd t16
  (Q x8 w.drew)
  (wpB (bp Tryz.prog .add 3 x8 (.int .i64 1)) fun t18 =>
  P101_0 x0 x3 x7 t18 w.drew Q))
  (Q (.int .i64 (-1)) w)
theorem F101_ok {a0 a1 : Value} {w : World} {Q : Value → World → Prop} (h : F101 a0 a1 w Q) : CallR Tryz.prog 101 [a0, a1] w Q :=
  af mixed ad Tryz.func101 (c := C101) rfl H101 (Nat.le_of_ble_eq_true rfl) (by kernel_rfl) h
theorem L101_0_ok {x0 x3 x7 x8 : Value} {w : World} {Q : Value → World → Prop} (h : L101_0 x0 x3 x7 x8 w Q) : P101_0 x0 x3 x7 x8 w Q :=
  aB mixed ad Tryz.func101 H101 (by kernel_rfl) h

noncomputable def C102 : Code := (Tryz.f102.body).getD .skip
noncomputable def H102 : Hints := ⟨[], [], []⟩
def F102 (a0 a1 a2 : Value) (w : World) (Q : Value → World → Prop) : Prop :=
  CallR Tryz.prog 103 [a0, a2] w fun t9 w =>
  gE t9 true (CallR Tryz.prog 104 [(gv t9 true a0), (gv t9 true a2)] w) (fun t13 w =>
  wpB (gd t9 true (pureRun Tryz.prog (Op.unary .not t13))) fun t14 =>
  wpB (pickv t9 (some t14) (some (.bool false))) fun t15 =>
  wpB (gd t15 true (bp Tryz.prog .geq 3 (gv t15 true a1) (.int .i64 0))) fun t18 =>
  wpB (pickv t15 (some t18) (some (.bool false))) fun t19 =>
  wpB (gd t19 true (bp Tryz.prog .sub 3 (gv t19 true a0) (gv t19 true a2))) fun t24 =>
  wpB (gd t19 true (bp Tryz.prog .leq 3 (gv t19 true a1) t24)) fun t25 =>
  wpB (pickv t19 (some t25) (some (.bool false))) fun t26 =>
  Q t26 w) w
theorem F102_ok {a0 a1 a2 : Value} {w : World} {Q : Value → World → Prop} (h : F102 a0 a1 a2 w Q) : CallR Tryz.prog 102 [a0, a1, a2] w Q :=
  af mixed ad Tryz.func102 (c := C102) rfl H102 (Nat.le_of_ble_eq_true rfl) (by kernel_rfl) h

noncomputable def C103 : Code := (Tryz.f103.body).getD .skip
noncomputable def H103 : Hints := ⟨[], [], []⟩
def F103 (a0 a1 : Value) (w : World) (Q : Value → World → Prop) : Prop :=
  CallR Tryz.prog 15 [a0, (.int .i64 1), (.int .i64 1024)] w fun t6 w =>
  gE t6 true (CallR Tryz.prog 15 [(gv t6 true a1), (.int .i64 1), (gv t6 true a0)] w) (fun t10 w =>
  wpB (pickv t6 (some t10) (some (.bool false))) fun t11 =>
  Q t11 w) w
theorem F103_ok {a0 a1 : Value} {w : World} {Q : Value → World → Prop} (h : F103 a0 a1 w Q) : CallR Tryz.prog 103 [a0, a1] w Q :=
  af mixed ad Tryz.func103 (c := C103) rfl H103 (Nat.le_of_ble_eq_true rfl) (by kernel_rfl) h

noncomputable def C104 : Code := (Tryz.f104.body).getD .skip
noncomputable def H104 : Hints := ⟨[], [], []⟩
def F104 (a0 a1 : Value) (w : World) (Q : Value → World → Prop) : Prop :=
  CallR Tryz.prog 103 [a0, a1] w fun t7 w =>
  wpB (gd t7 true (bp Tryz.prog .sub 3 (gv t7 true a0) (gv t7 true a1))) fun t12 =>
  wpB (gd t7 true (bp Tryz.prog .gtr 3 (gv t7 true a1) t12)) fun t13 =>
  wpB (pickv t7 (some t13) (some (.bool false))) fun t14 =>
  Q t14 w
theorem F104_ok {a0 a1 : Value} {w : World} {Q : Value → World → Prop} (h : F104 a0 a1 w Q) : CallR Tryz.prog 104 [a0, a1] w Q :=
  af mixed ad Tryz.func104 (c := C104) rfl H104 (Nat.le_of_ble_eq_true rfl) (by kernel_rfl) h
end Go.Proofs.YteapggpkgfiacaaGreat

namespace Go.Proofs.YteapggpkgfiacaaGreat
open Go Ev Go.RowKit

def ofK (k : Int) : Int := if k = 2 ∨ k = 10 ∨ k = 12 then 1 else if 6 ≤ k ∧ k ≤ 9 then 2 else if k = 5 then 3 else 0
def nB (k : Int) : Bool := decide (k = 1 ∨ k = 2 ∨ (6 ≤ k ∧ k ≤ 9))
def vB (k : Int) : Bool := decide (7 ≤ k ∧ k ≤ 9)
def wB (k : Int) : Bool := decide (k = 9)
theorem kind_cases (k : Int) : k = 1 ∨ k = 2 ∨ k = 3 ∨ k = 4 ∨ k = 5 ∨ k = 6 ∨ k = 7 ∨ k = 8 ∨ k = 9 ∨ k = 10 ∨ k = 11 ∨ k = 12 ∨ (k < 1 ∨ 12 < k) := by omega
theorem eqf {k c : Int} (h : k ≠ c) : (k == c) = false := by simpa using h
theorem c_Of (k : Int) (w : World) : CallR Tryz.prog 76 [.int .i64 k] w fun v w' => v = .int .i64 (ofK k) ∧ w' = w := by
  rcases kind_cases k with rfl | rfl | rfl | rfl | rfl | rfl | rfl | rfl | rfl | rfl | rfl | rfl | h
  all_goals
    apply F76_ok
    try simp -implicitDefEqProofs [F76]
    try rw [eqf (show k ≠ 2 by omega), eqf (show k ≠ 10 by omega), eqf (show k ≠ 12 by omega)]
    try simp -implicitDefEqProofs only [aC]
    try apply L76_0_ok
    try simp -implicitDefEqProofs [L76_0]
    try rw [eqf (show k ≠ 6 by omega), eqf (show k ≠ 7 by omega), eqf (show k ≠ 8 by omega), eqf (show k ≠ 9 by omega)]
    try simp -implicitDefEqProofs only [aC]
    try apply L76_1_ok
    try simp -implicitDefEqProofs [L76_1]
    try rw [eqf (show k ≠ 5 by omega)]
    try simp -implicitDefEqProofs only [aC]
    try (simp [ofK]; done)
    try (rw [ofK, if_neg (by omega), if_neg (by omega), if_neg (by omega)])
theorem c_HasN (k : Int) (w : World) : CallR Tryz.prog 77 [.int .i64 k] w fun v w' => v = .bool (nB k) ∧ w' = w := by
  apply F77_ok
  by_cases h1 : k = 1 <;> by_cases h2 : k = 2 <;> by_cases h6 : 6 ≤ k <;> by_cases h9 : k ≤ 9 <;> simp -implicitDefEqProofs [F77, h1, h2, h6, h9, eqf, nB] <;> omega
theorem c_HasV (k : Int) (w : World) : CallR Tryz.prog 79 [.int .i64 k] w fun v w' => v = .bool (vB k) ∧ w' = w := by
  apply F79_ok
  by_cases h6 : 7 ≤ k <;> by_cases h9 : k ≤ 9 <;> simp -implicitDefEqProofs [F79, h6, h9, vB]
def nameK (k : Int) : ByteArray :=
  if k = 1 then { data := #[99, 114, 101, 97, 116, 101] } else if k = 2 then { data := #[97, 108, 108, 111, 99] } else if k = 3 then { data := #[112, 105, 110] } else if k = 4 then { data := #[117, 110, 112, 105, 110] }
  else if k = 5 then { data := #[104, 111, 108, 100] } else if k = 6 then { data := #[108, 111, 97, 100] } else if k = 7 then { data := #[115, 116, 111, 114, 101] } else if k = 8 then { data := #[97, 100, 100] }
  else if k = 9 then { data := #[99, 97, 115] } else if k = 10 then { data := #[102, 114, 101, 101] } else if k = 11 then { data := #[99, 111, 108, 108, 101, 99, 116] } else if k = 12 then { data := #[115, 116, 97, 116, 115] } else { data := #[] }
def formC (k : Int) : List Value := [.string (nameK k), .int .i64 (ofK k), .bool (nB k), .bool (vB k), .bool (wB k)]
theorem formC_out {k : Int} (h : k < 1 ∨ 12 < k) : formC k = [.string { data := #[] }, .int .i64 0, .bool false, .bool false, .bool false] := by
  have e1 : nameK k = { data := #[] } := by
    unfold nameK
    rw [if_neg (by omega), if_neg (by omega), if_neg (by omega), if_neg (by omega), if_neg (by omega), if_neg (by omega), if_neg (by omega), if_neg (by omega), if_neg (by omega), if_neg (by omega), if_neg (by omega), if_neg (by omega)]
  have e2 : ofK k = 0 := by rw [ofK, if_neg (by omega), if_neg (by omega), if_neg (by omega)]
  have e3 : nB k = false := by simp [nB]; omega
  have e4 : vB k = false := by simp [vB]; omega
  have e5 : wB k = false := by simp [wB]; omega
  rw [formC, e1, e2, e3, e4, e5]
theorem c_formOf (k : Int) (w : World) : CallR Tryz.prog 63 [.int .i64 k] w fun v w' => v = .agg (formC k).toArray ∧ Chg [] w w' := by
  have hb : ∀ w' : World, w' = w → Chg [] w w' := fun w' h => h ▸ Chg.refl _ _
  have hch : ∀ c1 c2 c3 : Array Value, Chg [] w (put ((w.alloc (.cells c1 116)).alloc (.cells c2 116)) w.heap.size c3 116) := fun c1 c2 c3 => (((Chg.refl [] w).alloc _).alloc _).put (.inr (Nat.le_refl _)) _ _
  rcases kind_cases k with rfl | rfl | rfl | rfl | rfl | rfl | rfl | rfl | rfl | rfl | rfl | rfl | h
  case inr.inr.inr.inr.inr.inr.inr.inr.inr.inr.inr.inr =>
    apply F63_ok
    rw [formC_out h]
    rcases h with h | h
    · have h' : k < 1 := h
      simp -implicitDefEqProofs [F63, h', ia_131, ld_116, st_116, hch]
    · have h1 : ¬ k < 1 := by omega
      have h2 : (13 : Int) ≤ k := by omega
      simp -implicitDefEqProofs [F63, h1, h2, ia_131, ld_116, st_116, hch]
  all_goals
    apply F63_ok
    simp -implicitDefEqProofs [F63, ia_131, ld_116, st_116, formC, nameK, ofK, nB, vB, wB, hch]
theorem c_opOf (k : Int) (w : World) : CallR Tryz.prog 37 [.int .i64 k] w fun v w' => v = .int .i64 (ofK k) ∧ Chg [] w w' := by
  apply F37_ok
  refine (c_formOf k w).mono ?_
  rintro v w1 ⟨rfl, hc⟩
  simp -implicitDefEqProofs [F37, formC, hc]
end Go.Proofs.YteapggpkgfiacaaGreat

namespace Go.Proofs.YteapggpkgfiacaaGreat
open Go Ev Go.RowKit

abbrev OpV := Int × Int × Int × Int × Int × Int
def opC (o : OpV) : List Value := [.int .i64 o.1, .int .i64 o.2.1, .int .i64 o.2.2.1, .int .i64 o.2.2.2.1, .int .u64 o.2.2.2.2.1, .int .u64 o.2.2.2.2.2]
end Go.Proofs.YteapggpkgfiacaaGreat

namespace Go.Proofs.YteapggpkgfiacaaGreat
open Go Ev Go.RowKit

theorem tup0 (a b : Value) : pureRun Tryz.prog (Instr.extract (.tuple #[a, b]) 0) = some a := by rw [pr_extract]; rfl
theorem tup1 (a b : Value) : pureRun Tryz.prog (Instr.extract (.tuple #[a, b]) 1) = some b := by rw [pr_extract]; rfl
theorem c_within (n m : Int) (w : World) : CallR Tryz.prog 87 [.int .i64 n, .int .i64 m] w fun v w' => v = .bool (decide (0 ≤ n ∧ n ≤ m)) ∧ w' = w := by
  apply F87_ok
  by_cases h : 0 ≤ n
  · have e : decide (0 ≤ n ∧ n ≤ m) = decide (n ≤ m) := by simp [h]
    simp -implicitDefEqProofs only [F87, zS, h, e, and_self]
    exact ⟨by simp, trivial⟩
  · simp -implicitDefEqProofs only [F87, zS, h, false_and, and_self]
theorem c_in18 (n a m : Int) (w : World) : CallR Tryz.prog 78 [.int .i64 n, .int .i64 a, .int .i64 m] w fun v w' => v = .bool (decide (a ≤ n ∧ n ≤ m)) ∧ w' = w := by
  apply F78_ok
  by_cases h : a ≤ n
  · simp -implicitDefEqProofs only [F78, zS, h, true_and, and_self]
  · simp -implicitDefEqProofs only [F78, zS, h, false_and, and_self]
def frM (k : Int) : Int := if ofK k = 0 then 0 else 63
def atM (k : Int) : Int := if ofK k = 0 then 0 else 999
def nM (k : Int) : Int := if k = 1 then 3 else if nB k then 65535 else 0
def mayO (o : OpV) : Bool := decide ((1 ≤ o.1 ∧ o.1 ≤ 12) ∧ (0 ≤ o.2.1 ∧ o.2.1 ≤ frM o.1) ∧ (0 ≤ o.2.2.1 ∧ o.2.2.1 ≤ atM o.1) ∧ (0 ≤ o.2.2.2.1 ∧ o.2.2.2.1 ≤ nM o.1) ∧ (vB o.1 = true ∨ o.2.2.2.2.1 = 0) ∧ (wB o.1 = true ∨ o.2.2.2.2.2 = 0))
theorem az (o : OpV) : (opC o).toArray[0 + 0]? = some (.int .i64 o.1) := rfl
theorem op_1 (o : OpV) : (opC o).toArray[0 + 1]? = some (.int .i64 o.2.1) := rfl
theorem op_2 (o : OpV) : (opC o).toArray[0 + 2]? = some (.int .i64 o.2.2.1) := rfl
theorem op_3 (o : OpV) : (opC o).toArray[0 + 3]? = some (.int .i64 o.2.2.2.1) := rfl
theorem op_4 (o : OpV) : (opC o).toArray[0 + 4]? = some (.int .u64 o.2.2.2.2.1) := rfl
theorem op_5 (o : OpV) : (opC o).toArray[0 + 5]? = some (.int .u64 o.2.2.2.2.2) := rfl
theorem form_0 (k : Int) : (formC k).toArray[0 + 0]? = some (.string (nameK k)) := rfl
theorem form_1 (k : Int) : (formC k).toArray[0 + 1]? = some (.int .i64 (ofK k)) := rfl
theorem form_2 (k : Int) : (formC k).toArray[0 + 2]? = some (.bool (nB k)) := rfl
theorem form_3 (k : Int) : (formC k).toArray[0 + 3]? = some (.bool (vB k)) := rfl
theorem form_4 (k : Int) : (formC k).toArray[0 + 4]? = some (.bool (wB k)) := rfl
theorem name_ne (k : Int) : (!((nameK k).toList == (({ data := #[] } : ByteArray)).toList)) = decide (1 ≤ k ∧ k ≤ 12) := by
  have e : (({ data := #[] } : ByteArray)).toList = [] := ByteArray.toList_mk []
  rw [e]
  rcases kind_cases k with rfl | rfl | rfl | rfl | rfl | rfl | rfl | rfl | rfl | rfl | rfl | rfl | h
  case inr.inr.inr.inr.inr.inr.inr.inr.inr.inr.inr.inr =>
    have := formC_out h
    have e2 : nameK k = { data := #[] } := by
      have h0 := congrArg (fun l : List Value => l[0]?) this
      simp [formC] at h0; exact h0
    rw [e2, e]
    have : ¬ (1 ≤ k ∧ k ≤ 12) := by omega
    simp [this]
  all_goals decide +kernel
theorem mayO_eq (o : OpV) {b : Bool} (h : ((1 ≤ o.1 ∧ o.1 ≤ 12) ∧ (0 ≤ o.2.1 ∧ o.2.1 ≤ frM o.1) ∧ (0 ≤ o.2.2.1 ∧ o.2.2.1 ≤ atM o.1) ∧ (0 ≤ o.2.2.2.1 ∧ o.2.2.2.1 ≤ nM o.1) ∧ (vB o.1 = true ∨ o.2.2.2.2.1 = 0) ∧ (wB o.1 = true ∨ o.2.2.2.2.2 = 0)) ↔ b = true) : mayO o = b := by
  unfold mayO
  cases b
  · exact decide_eq_false fun h' => by have := h.1 h'; cases this
  · exact decide_eq_true (h.2 rfl)
set_option maxHeartbeats 1000000 in
theorem l_opMay1 {w w0 : World} (hw0 : Chg [] w0 w) {o : OpV} {g1 g3 : Nat} (h1 : hp w g1 = some (.cells (opC o).toArray 36)) (h3 : hp w g3 = some (.cells (formC o.1).toArray 116)) :
    P64_1 (.pointer (some ⟨g1, 0, none⟩)) (.pointer (some ⟨g3, 0, none⟩)) (.int .i64 (frM o.1)) (.int .i64 (atM o.1)) (.int .i64 (nM o.1)) w fun v w' => v = .bool (mayO o) ∧ Chg [] w0 w' := by
  apply L64_1_ok
  by_cases k1 : 1 ≤ o.1 ∧ o.1 ≤ 12
  rotate_left
  · simp -implicitDefEqProofs only [L64_1, zS, fa_116_0, ld_9, h3, form_0, be_neqstr, name_ne, k1]
    exact ⟨by rw [mayO_eq o (b := false) ⟨fun h => absurd h.1 k1, fun h => by cases h⟩], hw0⟩
  simp -implicitDefEqProofs only [L64_1, zS, fa_116_0, ld_9, h3, form_0, be_neqstr, name_ne, decide_eq_true k1, fa_36_1, ac, h1, op_1]
  refine (c_within _ _ _).step ?_
  by_cases k2 : 0 ≤ o.2.1 ∧ o.2.1 ≤ frM o.1
  rotate_left
  · simp -implicitDefEqProofs only [decide_eq_false k2, zS]
    exact ⟨by rw [mayO_eq o (b := false) ⟨fun h => absurd h.2.1 k2, fun h => by cases h⟩], hw0⟩
  simp -implicitDefEqProofs only [decide_eq_true k2, zS, fa_36_2, ac, h1, op_2]
  refine (c_within _ _ _).step ?_
  by_cases k3 : 0 ≤ o.2.2.1 ∧ o.2.2.1 ≤ atM o.1
  rotate_left
  · simp -implicitDefEqProofs only [decide_eq_false k3, zS]
    exact ⟨by rw [mayO_eq o (b := false) ⟨fun h => absurd h.2.2.1 k3, fun h => by cases h⟩], hw0⟩
  simp -implicitDefEqProofs only [decide_eq_true k3, zS, aY, ac, h1, op_3]
  refine (c_within _ _ _).step ?_
  by_cases k4 : 0 ≤ o.2.2.2.1 ∧ o.2.2.2.1 ≤ nM o.1
  rotate_left
  · simp -implicitDefEqProofs only [decide_eq_false k4, zS]
    exact ⟨by rw [mayO_eq o (b := false) ⟨fun h => absurd h.2.2.2.1 k4, fun h => by cases h⟩], hw0⟩
  simp -implicitDefEqProofs only [decide_eq_true k4, zS, fa_116_3, ld_4, h3, form_3]
  have last : ∀ b : Bool, (vB o.1 = true ∨ o.2.2.2.2.1 = 0) → ((wB o.1 = true ∨ o.2.2.2.2.2 = 0) ↔ b = true) → mayO o = b := fun b h5 h6 => mayO_eq o ⟨fun h => h6.1 h.2.2.2.2.2, fun h => ⟨k1, k2, k3, k4, h5, h6.2 h⟩⟩
  have no5 : ¬ (vB o.1 = true ∨ o.2.2.2.2.1 = 0) → mayO o = false := fun h5 => mayO_eq o ⟨fun h => absurd h.2.2.2.2.1 h5, fun h => by cases h⟩
  cases hv : vB o.1 with
  | true =>
    rw [hv] at last
    cases hww : wB o.1 with
    | true =>
      rw [hww] at last
      simp -implicitDefEqProofs only [zS, fa_116_4, ld_4, h3, form_4, hww]
      exact ⟨by rw [last true (.inl rfl) (by simp)], hw0⟩
    | false =>
      rw [hww] at last
      simp -implicitDefEqProofs only [zS, fa_116_4, ld_4, h3, form_4, hww, fa_36_5, ld_34, h1, op_5]
      exact ⟨by rw [last (o.2.2.2.2.2 == 0) (.inl rfl) (by simp)], hw0⟩
  | false =>
    rw [hv] at last no5
    by_cases k5 : o.2.2.2.2.1 = 0
    rotate_left
    · simp -implicitDefEqProofs only [zS, fa_36_4, ld_34, h1, op_4, eqf k5]
      exact ⟨by rw [no5 (by simp [k5])], hw0⟩
    have k5' : (o.2.2.2.2.1 == 0) = true := by rw [k5]; rfl
    cases hww : wB o.1 with
    | true =>
      rw [hww] at last
      simp -implicitDefEqProofs only [zS, fa_36_4, ld_34, h1, op_4, k5', fa_116_4, ld_4, h3, form_4, hww]
      exact ⟨by rw [last true (.inr k5) (by simp)], hw0⟩
    | false =>
      rw [hww] at last
      simp -implicitDefEqProofs only [zS, fa_36_4, ld_34, h1, op_4, k5', fa_116_4, ld_4, h3, form_4, hww, fa_36_5, ld_34, h1, op_5]
      exact ⟨by rw [last (o.2.2.2.2.2 == 0) (.inr k5) (by simp)], hw0⟩
theorem c_opMay (o : OpV) (w : World) : CallR Tryz.prog 64 [.agg (opC o).toArray] w fun v w' => v = .bool (mayO o) ∧ Chg [] w w' := by
  apply F64_ok
  have h1 : hp (w.alloc (.cells (opC o).toArray 36)) w.heap.size = some (.cells (opC o).toArray 36) := by rw [aa, if_pos rfl]
  have hc1 : Chg [] w (w.alloc (.cells (opC o).toArray 36)) := (Chg.refl _ _).alloc _
  have hlt : w.heap.size < (w.alloc (.cells (opC o).toArray 36)).heap.size := by simp
  simp -implicitDefEqProofs only [F64, ak, au, zS, aj, ac, h1, az]
  generalize w.alloc (.cells (opC o).toArray 36) = w1 at *
  generalize hg : w.heap.size = g1 at *
  refine (c_formOf o.1 w1).mono ?_
  rintro v w2 ⟨rfl, hc2⟩
  simp -implicitDefEqProofs only [al_116]
  rw [st_116 (by rfl) (by rfl) (by rw [aa, if_pos rfl]; rfl) (by rw [aa, if_pos rfl]; rfl), aa, if_pos rfl]
  simp -implicitDefEqProofs only [ay]
  generalize hz : w2.alloc _ = wa
  have hca : Chg [] w2 wa := by rw [← hz]; exact (Chg.refl _ _).alloc _
  have hza : wa.heap.size = w2.heap.size + 1 := by rw [← hz]; simp
  have hcp : Chg [] w2 (put wa w2.heap.size (formC o.1).toArray 116) := hca.put (.inr (Nat.le_refl _)) _ _
  have h3 : hp (put wa w2.heap.size (formC o.1).toArray 116) w2.heap.size = some (.cells (formC o.1).toArray 116) := by rw [aR, if_pos rfl, if_pos (by omega)]
  have h1 := (hc2.trans hcp).at h1 (by simp)
  have hcc := (hc1.trans hc2).trans hcp
  clear hz hca hza hcp
  generalize put wa w2.heap.size (formC o.1).toArray 116 = w3 at *
  generalize w2.heap.size = g3 at *
  simp -implicitDefEqProofs only [zS, fa_116_1, ac, h3, form_1]
  have zero : ∀ f a : Int, f = frM o.1 → a = atM o.1 → P64_0 (.pointer (some ⟨g1, 0, none⟩)) (.pointer (some ⟨g3, 0, none⟩)) (.int .i64 f) (.int .i64 a) (.int .i64 0) w3 fun v w' => v = .bool (mayO o) ∧ Chg [] w w' := by
    intro f a hf ha
    subst hf; subst ha
    apply L64_0_ok
    by_cases k1 : o.1 = 1
    · have k1' : (o.1 == 1) = true := by rw [k1]; rfl
      have e : (3 : Int) = nM o.1 := by simp [nM, k1]
      simp -implicitDefEqProofs only [L64_0, zS, aj, ac, h1, az, k1']
      rw [e]
      exact l_opMay1 hcc h1 h3
    · cases hn : nB o.1 with
      | true =>
        have e : (65535 : Int) = nM o.1 := by simp [nM, k1, hn]
        simp -implicitDefEqProofs only [L64_0, zS, aj, ac, h1, az, eqf k1, fa_116_2, ld_4, h3, form_2, hn]
        rw [e]
        exact l_opMay1 hcc h1 h3
      | false =>
        have e : (0 : Int) = nM o.1 := by simp [nM, k1, hn]
        simp -implicitDefEqProofs only [L64_0, zS, aj, ac, h1, az, eqf k1, fa_116_2, ld_4, h3, form_2, hn]
        have := l_opMay1 (w0 := w) hcc h1 h3
        rw [← e] at this
        exact this
  by_cases k : ofK o.1 = 0
  · have k' : (ofK o.1 != 0) = false := by rw [k]; rfl
    simp -implicitDefEqProofs only [k', zS]
    exact zero 0 0 (by simp [frM, k]) (by simp [atM, k])
  · simp -implicitDefEqProofs only [bne_iff_ne.2 k, zS]
    exact zero 63 999 (by simp [frM, k]) (by simp [atM, k])
set_option maxHeartbeats 1000000 in
theorem l_refMay {w : World} {o : OpV} {g1 : Nat} (h1 : hp w g1 = some (.cells (opC o).toArray 36)) :
    P58_0 (.pointer (some ⟨g1, 0, none⟩)) (.int .i64 (nM o.1)) w fun v w' => v = .bool (mayO o) ∧ w' = w := by
  apply L58_0_ok
  simp -implicitDefEqProofs only [L58_0, zS, aj, ac, h1, az]
  refine (c_in18 _ _ _ _).step ?_
  have no : ¬ ((1 ≤ o.1 ∧ o.1 ≤ 12) ∧ (0 ≤ o.2.1 ∧ o.2.1 ≤ frM o.1) ∧ (0 ≤ o.2.2.1 ∧ o.2.2.1 ≤ atM o.1) ∧ (0 ≤ o.2.2.2.1 ∧ o.2.2.2.1 ≤ nM o.1) ∧ (vB o.1 = true ∨ o.2.2.2.2.1 = 0) ∧ (wB o.1 = true ∨ o.2.2.2.2.2 = 0)) → mayO o = false := fun h => mayO_eq o ⟨fun h' => absurd h' h, fun h => by cases h⟩
  by_cases k1 : 1 ≤ o.1 ∧ o.1 ≤ 12
  rotate_left
  · simp -implicitDefEqProofs only [decide_eq_false k1, zS]
    exact ⟨by rw [no fun h => k1 h.1], trivial⟩
  simp -implicitDefEqProofs only [decide_eq_true k1, zS, aY, ac, h1, op_3]
  refine (c_in18 _ _ _ _).step ?_
  by_cases k4 : 0 ≤ o.2.2.2.1 ∧ o.2.2.2.1 ≤ nM o.1
  rotate_left
  · simp -implicitDefEqProofs only [decide_eq_false k4, zS]
    exact ⟨by rw [no fun h => k4 h.2.2.2.1], trivial⟩
  simp -implicitDefEqProofs only [decide_eq_true k4, zS, aj, ac, h1, az]
  refine (c_HasV _ _).step ?_
  have rest : (vB o.1 = true ∨ o.2.2.2.2.1 = 0) → (wB o.1 = true ∨ o.2.2.2.2.2 = 0) →
      (wpB (pureRun Tryz.prog (Instr.fieldAt 36 (.pointer (some ⟨g1, 0, none⟩)) 0)) fun t44 =>
       wpB (ldv Tryz.prog 3 t44 w) fun t45 =>
       CallR Tryz.prog 76 [t45] w fun t46 w1 =>
       wpB (be Tryz.prog .eql 3 (.tmp 46) (.const (.int .i64 0)) t46 (.int .i64 0)) fun t47 =>
       cnd t47
        (wpB (pureRun Tryz.prog (Instr.fieldAt 36 (.pointer (some ⟨g1, 0, none⟩)) 1)) fun t48 =>
         wpB (ldv Tryz.prog 3 t48 w1) fun t49 =>
         wpB (be Tryz.prog .eql 3 (.tmp 49) (.const (.int .i64 0)) t49 (.int .i64 0)) fun t50 =>
         wpB (gd t50 true (pureRun Tryz.prog (Instr.fieldAt 36 (.pointer (some ⟨g1, 0, none⟩)) 2))) fun t52 =>
         wpB (gd t50 true (ldv Tryz.prog 3 t52 w1)) fun t53 =>
         wpB (gd t50 true (be Tryz.prog .eql 3 (.tmp 53) (.const (.int .i64 0)) t53 (.int .i64 0))) fun t54 =>
         wpB (pickv t50 (some t54) (some (.bool false))) fun t55 => t55 = .bool (mayO o) ∧ w1 = w)
        (wpB (pureRun Tryz.prog (Instr.fieldAt 36 (.pointer (some ⟨g1, 0, none⟩)) 1)) fun t56 =>
         wpB (ldv Tryz.prog 3 t56 w1) fun t57 =>
         CallR Tryz.prog 78 [t57, .int .i64 0, .int .i64 63] w1 fun t58 w' =>
         wpB (gd t58 true (pureRun Tryz.prog (Instr.fieldAt 36 (.pointer (some ⟨g1, 0, none⟩)) 2))) fun t60 =>
         wpB (gd t58 true (ldv Tryz.prog 3 t60 w')) fun t61 =>
         gE t58 true (CallR Tryz.prog 78 [t61, .int .i64 0, .int .i64 999] w') (fun t62 w' =>
         wpB (pickv t58 (some t62) (some (.bool false))) fun t63 => t63 = .bool (mayO o) ∧ w' = w) w')) := by
    intro h5 h6
    simp -implicitDefEqProofs only [zS, aj, ac, h1, az]
    refine (c_Of _ _).step ?_
    have fin : ∀ b : Bool, (((0 ≤ o.2.1 ∧ o.2.1 ≤ frM o.1) ∧ (0 ≤ o.2.2.1 ∧ o.2.2.1 ≤ atM o.1)) ↔ b = true) → mayO o = b := fun b h => mayO_eq o ⟨fun h' => h.1 ⟨h'.2.1, h'.2.2.1⟩, fun h' => ⟨k1, (h.2 h').1, (h.2 h').2, k4, h5, h6⟩⟩
    by_cases k : ofK o.1 = 0
    · have k' : (ofK o.1 == 0) = true := by rw [k]; rfl
      have ef : frM o.1 = 0 := by simp [frM, k]
      have ea : atM o.1 = 0 := by simp [atM, k]
      rw [ef, ea] at fin
      by_cases z1 : o.2.1 = 0
      · have z1' : (o.2.1 == 0) = true := by rw [z1]; rfl
        simp -implicitDefEqProofs only [k', zS, fa_36_1, fa_36_2, ac, h1, op_1, op_2, z1']
        exact ⟨by rw [fin (o.2.2.1 == 0) (by simp; omega)], trivial⟩
      · simp -implicitDefEqProofs only [k', zS, fa_36_1, fa_36_2, ac, h1, op_1, op_2, eqf z1]
        exact ⟨by rw [fin false (by simp; omega)], trivial⟩
    · have ef : frM o.1 = 63 := by simp [frM, k]
      have ea : atM o.1 = 999 := by simp [atM, k]
      rw [ef, ea] at fin
      simp -implicitDefEqProofs only [eqf k, zS, fa_36_1, fa_36_2, ac, h1, op_1, op_2]
      refine (c_in18 _ _ _ _).step ?_
      by_cases z1 : 0 ≤ o.2.1 ∧ o.2.1 ≤ 63
      · simp -implicitDefEqProofs only [decide_eq_true z1, zS, fa_36_2, ac, h1, op_2]
        refine (c_in18 _ _ _ _).step ?_
        simp -implicitDefEqProofs only [zS]
        exact ⟨by rw [fin (decide (0 ≤ o.2.2.1 ∧ o.2.2.1 ≤ 999)) (by simp; omega)], trivial⟩
      · simp -implicitDefEqProofs only [decide_eq_false z1, zS]
        exact ⟨by rw [fin false (by simp; omega)], trivial⟩
  simp -implicitDefEqProofs only [zS, aj, ac, h1, az] at rest
  have wq : wB o.1 = decide (o.1 = 9) := rfl
  have six : (vB o.1 = true ∨ o.2.2.2.2.1 = 0) → (o.1 = 9 ∨ o.2.2.2.2.2 = 0 → wB o.1 = true ∨ o.2.2.2.2.2 = 0) := fun _ h => by rw [wq]; simpa using h
  by_cases k9 : o.1 = 9
  · have k9' : (o.1 != 9) = false := by rw [k9]; rfl
    have hv : vB o.1 = true := by rw [k9]; decide
    rw [hv]
    have := rest (.inl hv) (.inl (by rw [wq]; simpa using k9))
    simp -implicitDefEqProofs only [zS, aj, ac, h1, az, k9']
    exact this
  · cases hv : vB o.1 with
    | true =>
      by_cases k5 : o.2.2.2.2.2 = 0
      · have k5' : (o.2.2.2.2.2 != 0) = false := by rw [k5]; rfl
        have := rest (.inl hv) (.inr k5)
        simp -implicitDefEqProofs only [zS, aj, fa_36_5, ac, ld_34, h1, az, op_5, bne_iff_ne.2 k9, k5']
        exact this
      · simp -implicitDefEqProofs only [zS, aj, fa_36_5, ac, ld_34, h1, az, op_5, bne_iff_ne.2 k9, bne_iff_ne.2 k5]
        exact ⟨by rw [no fun h => by have := h.2.2.2.2.2; rw [wq] at this; simp [k9, k5] at this], trivial⟩
    | false =>
      by_cases k6 : o.2.2.2.2.1 = 0
      · have k6' : (o.2.2.2.2.1 != 0) = false := by rw [k6]; rfl
        by_cases k5 : o.2.2.2.2.2 = 0
        · have k5' : (o.2.2.2.2.2 != 0) = false := by rw [k5]; rfl
          have := rest (.inr k6) (.inr k5)
          simp -implicitDefEqProofs only [zS, aj, fa_36_4, fa_36_5, ac, ld_34, h1, az, op_4, op_5, bne_iff_ne.2 k9, k5', k6']
          exact this
        · simp -implicitDefEqProofs only [zS, aj, fa_36_4, fa_36_5, ac, ld_34, h1, az, op_4, op_5, bne_iff_ne.2 k9, bne_iff_ne.2 k5, k6']
          exact ⟨by rw [no fun h => by have := h.2.2.2.2.2; rw [wq] at this; simp [k9, k5] at this], trivial⟩
      · simp -implicitDefEqProofs only [zS, aj, fa_36_4, ac, ld_34, h1, az, op_4, bne_iff_ne.2 k6]
        exact ⟨by rw [no fun h => by have := h.2.2.2.2.1; rw [hv] at this; simp [k6] at this], trivial⟩
theorem c_refMay (o : OpV) (w : World) : CallR Tryz.prog 58 [.agg (opC o).toArray] w fun v w' => v = .bool (mayO o) ∧ Chg [] w w' := by
  apply F58_ok
  have h1 : hp (w.alloc (.cells (opC o).toArray 36)) w.heap.size = some (.cells (opC o).toArray 36) := by rw [aa, if_pos rfl]
  have hc1 : Chg [] w (w.alloc (.cells (opC o).toArray 36)) := (Chg.refl _ _).alloc _
  have fin : P58_0 (.pointer (some ⟨w.heap.size, 0, none⟩)) (.int .i64 (nM o.1)) (w.alloc (.cells (opC o).toArray 36)) fun v w' => v = .bool (mayO o) ∧ Chg [] w w' := by
    have := l_refMay h1
    exact Part.mono this fun v w' ⟨h, e⟩ => ⟨h, by rw [e]; exact hc1⟩
  by_cases k1 : o.1 = 1
  · have k1' : (o.1 == 1) = true := by rw [k1]; rfl
    have e : nM o.1 = 3 := by simp [nM, k1]
    simp -implicitDefEqProofs only [F58, ak, au, zS, aj, ac, h1, az, k1']
    rw [e] at fin
    exact fin
  · simp -implicitDefEqProofs only [F58, ak, au, zS, aj, ac, h1, az, eqf k1]
    refine (c_HasN _ _).step ?_
    cases hn : nB o.1 with
    | true =>
      have e : nM o.1 = 65535 := by simp [nM, k1, hn]
      rw [e] at fin
      simp -implicitDefEqProofs only [zS]
      exact fin
    | false =>
      have e : nM o.1 = 0 := by simp [nM, k1, hn]
      rw [e] at fin
      simp -implicitDefEqProofs only [zS]
      exact fin
end Go.Proofs.YteapggpkgfiacaaGreat

namespace Go.Proofs.YteapggpkgfiacaaGreat
open Go Ev Go.RowKit

theorem tmod_cases2 (a m : Int) (hm : 0 < m) : (0 ≤ a.tmod m ∧ a.tmod m = a % m) ∨ (a.tmod m < 0 ∧ a.tmod m + m = a % m) := by
  have h1 := Int.emod_lt_of_pos a hm
  have h2 := Int.emod_nonneg a (b := m) (by omega)
  rcases Int.lt_or_le a 0 with h | h
  · have h5 := Int.tmod_eq_emod (a := a) (b := m)
    by_cases hd : 0 ≤ a ∨ m ∣ a
    · rw [if_pos hd] at h5
      left; omega
    · rw [if_neg hd] at h5
      have h6 : (m.natAbs : Int) = m := by omega
      rw [h6] at h5
      right; omega
  · left
    rw [Int.tmod_eq_emod_of_nonneg h]; omega
theorem c_Number (a m : Int) (w : World) (hm : 0 < m) (hm2 : m ≤ 4611686018427387904) : CallR Tryz.prog 21 [.int .i64 a, .int .i64 m] w fun v w' => v = .int .i64 (a % m) ∧ w' = w := by
  apply F21_ok
  have hlt := Int.emod_lt_of_pos a hm
  have hge := Int.emod_nonneg a (b := m) (by omega)
  simp -implicitDefEqProofs only [F21, bp_rem (show m ≠ 0 by omega), zS]
  rcases tmod_cases2 a m hm with ⟨h1, h2⟩ | ⟨h1, h2⟩
  · simp -implicitDefEqProofs only [show ¬ a.tmod m < 0 by omega, zS]
    apply L21_0_ok
    simp -implicitDefEqProofs only [L21_0, h2, and_self]
  · simp -implicitDefEqProofs only [h1, zS, am]
    apply L21_0_ok
    simp -implicitDefEqProofs only [L21_0, h2, aq (n := a % m) (by omega) (by omega), and_self]
end Go.Proofs.YteapggpkgfiacaaGreat

namespace Go.Proofs.YteapggpkgfiacaaGreat.Ev
open Go Go.RowKit

abbrev Fp := Nat → Prop
def FDis (F G : Fp) : Prop := ∀ k, F k → G k → False
def none' : Fp := fun _ => False
structure ChgP (F : Fp) (w w' : World) : Prop where
  os : w'.os = w.os
  tape : w'.tape = w.tape
  output : w'.output = w.output
  size : w.heap.size ≤ w'.heap.size
  block : ∀ k, k < w.heap.size → ¬ F k → hp w' k = hp w k
structure UpdP (F F' : Fp) (w w' : World) : Prop where
  chg : ChgP F w w'
  sub : ∀ k, F' k → F k ∨ w.heap.size ≤ k
theorem ChgP.refl (F : Fp) (w : World) : ChgP F w w := ⟨rfl, rfl, rfl, Nat.le_refl _, fun _ _ _ => rfl⟩
theorem ChgP.mono {F G : Fp} {w w' : World} (h : ChgP F w w') (hs : ∀ k, F k → G k) : ChgP G w w' := ⟨h.os, h.tape, h.output, h.size, fun k hk hn => h.block k hk fun hm => hn (hs k hm)⟩
theorem ChgP.of {S : List Nat} {w w' : World} (h : Chg S w w') : ChgP (· ∈ S) w w' := ⟨h.os, h.tape, h.output, h.size, fun k hk hn => h.block k hk hn⟩
theorem ChgP.of0 {w w' : World} (h : Chg [] w w') (F : Fp) : ChgP F w w' := ⟨h.os, h.tape, h.output, h.size, fun k hk _ => h.block k hk (by simp)⟩
theorem UpdP.refl (F : Fp) (w : World) : UpdP F F w w := ⟨ChgP.refl _ _, fun k hk => .inl hk⟩
theorem UpdP.trans {F G H : Fp} {a b c : World} (h : UpdP F G a b) (k : UpdP G H b c) : UpdP F H a c :=
  ⟨⟨k.chg.os.trans h.chg.os, k.chg.tape.trans h.chg.tape, k.chg.output.trans h.chg.output, Nat.le_trans h.chg.size k.chg.size, fun i hi hn =>
    (k.chg.block i (Nat.lt_of_lt_of_le hi h.chg.size) fun hg => by rcases h.sub i hg with h1 | h1; exact hn h1; omega).trans (h.chg.block i hi hn)⟩,
   fun i hi => by
    rcases k.sub i hi with h1 | h1
    · exact h.sub i h1
    · exact .inr (Nat.le_trans h.chg.size h1)⟩
theorem UpdP.of0 {F : Fp} {a b : World} (k : Chg [] a b) : UpdP F F a b := ⟨ChgP.of0 k F, fun i hi => .inl hi⟩
theorem ChgP.at {F : Fp} {w w' : World} (h : ChgP F w w') {b : Nat} {o : Obj} (hb : hp w b = some o) (hn : ¬ F b) : hp w' b = some o := by rw [h.block b (av hb) hn]; exact hb
theorem ChgP.row {F : Fp} {w w' : World} {base : Nat} {e : TypeId} {z : Nat} {v : Value} {n : Nat} {xs : List Value} (h : w.ownsRow base e z v n xs) (hc : ChgP F w w') (hn : ∀ k, v.ownBlock = some k → ¬ F k) : w'.ownsRow base e z v n xs := by
  refine ⟨h.1, h.2.imp id fun ⟨g, cap, cur, h1, h2, h3, h4⟩ => ⟨g, cap, cur, h1, h2, ?_, h4⟩⟩
  exact hc.at h3 (hn g (by rw [h1]; rfl))
abbrev Th := World → Fp → Value → Prop
structure OwnT (P : Th) : Prop where
  frame : ∀ {w w' : World} {F G : Fp} {v : Value}, P w F v → ChgP G w w' → FDis F G → P w' F v
  lt : ∀ {w : World} {F : Fp} {v : Value}, P w F v → ∀ k, F k → k < w.heap.size
  one : ∀ {w : World} {F : Fp} {v : Value}, P w F v → v.cells = #[v] ∧ v.oneCell' = true
def isV (u : Value) : Th := fun _ F v => v = u ∧ ∀ k, ¬ F k
theorem good_isV {u : Value} (h : u.cells = #[u] ∧ u.oneCell' = true) : OwnT (isV u) :=
  ⟨fun h _ _ => h, fun h k hk => absurd hk (h.2 k), fun h' => by rw [h'.1]; exact h⟩
structure Parts (w : World) (Ps : List Th) (xs : List Value) (Fs : Nat → Fp) : Prop where
  len : Ps.length = xs.length
  each : ∀ (k : Nat) (P : Th) (v : Value), Ps[k]? = some P → xs[k]? = some v → P w (Fs k) v
  dis : ∀ j k, j < Ps.length → k < Ps.length → j ≠ k → FDis (Fs j) (Fs k)
def under (n : Nat) (Fs : Nat → Fp) : Fp := fun b => ∃ k, k < n ∧ Fs k b
def fset (Fs : Nat → Fp) (k : Nat) (F : Fp) : Nat → Fp := fun j => if j = k then F else Fs j
theorem Parts.frame {w w' : World} {Ps : List Th} {xs : List Value} {Fs : Nat → Fp} {G : Fp} (h : Parts w Ps xs Fs) (hg : ∀ P ∈ Ps, OwnT P) (hc : ChgP G w w') (hd : FDis (under Ps.length Fs) G) : Parts w' Ps xs Fs :=
  ⟨h.len, fun k P v hP hv => (hg P (List.mem_of_getElem? hP)).frame (h.each k P v hP hv) hc fun b h1 h2 => hd b ⟨k, (List.getElem?_eq_some_iff.1 hP).1, h1⟩ h2, h.dis⟩
theorem Parts.lt {w : World} {Ps : List Th} {xs : List Value} {Fs : Nat → Fp} (h : Parts w Ps xs Fs) (hg : ∀ P ∈ Ps, OwnT P) : ∀ b, under Ps.length Fs b → b < w.heap.size := fun b ⟨k, hk, hb⟩ => by
  obtain ⟨P, hP⟩ : ∃ P, Ps[k]? = some P := ⟨_, List.getElem?_eq_getElem hk⟩
  obtain ⟨v, hv⟩ : ∃ v, xs[k]? = some v := ⟨_, List.getElem?_eq_getElem (by rw [← h.len]; exact hk)⟩
  exact (hg P (List.mem_of_getElem? hP)).lt (h.each k P v hP hv) b hb
theorem Parts.set {w w' : World} {Ps : List Th} {xs : List Value} {Fs : Nat → Fp} {k : Nat} {F' : Fp} {P' : Th} {v' : Value} (h : Parts w Ps xs Fs) (hg : ∀ P ∈ Ps, OwnT P) (hk : k < Ps.length) (u : UpdP (Fs k) F' w w') (hv : P' w' F' v') :
    Parts w' (Ps.set k P') (xs.set k v') (fset Fs k F') := by
  have apart : ∀ j, j < Ps.length → j ≠ k → FDis (Fs j) F' := fun j hj hne b h1 h2 => by
    rcases u.sub b h2 with h3 | h3
    · exact h.dis j k hj hk hne b h1 h3
    · have := h.lt hg b ⟨j, hj, h1⟩; omega
  refine ⟨by simp [h.len], fun j P v hP hv' => ?_, fun i j hi hj hij => ?_⟩
  · rw [List.getElem?_set] at hP hv'
    by_cases hjk : k = j
    · subst hjk
      rw [if_pos rfl, if_pos hk] at hP
      rw [if_pos rfl, if_pos (by rw [← h.len]; exact hk)] at hv'
      cases hP; cases hv'
      simpa [fset] using hv
    · rw [if_neg hjk] at hP hv'
      have hj := (List.getElem?_eq_some_iff.1 hP).1
      simp only [fset, if_neg (Ne.symm hjk)]
      exact (hg P (List.mem_of_getElem? hP)).frame (h.each j P v hP hv') u.chg (h.dis j k hj hk (Ne.symm hjk))
  · simp only [List.length_set] at hi hj
    unfold fset
    by_cases h1 : i = k
    · rw [if_pos h1, if_neg (by omega)]
      exact fun b a c => apart j hj (by omega) b c a
    · rw [if_neg h1]
      by_cases h2 : j = k
      · rw [if_pos h2]; exact apart i hi h1
      · rw [if_neg h2]; exact h.dis i j hi hj hij
theorem under_set {n k : Nat} {Fs : Nat → Fp} {F' : Fp} (b : Nat) (h : under n (fset Fs k F') b) : F' b ∨ under n Fs b := by
  obtain ⟨j, hj, hb⟩ := h
  unfold fset at hb
  split at hb
  · exact .inl hb
  · exact .inr ⟨j, hj, hb⟩
theorem Parts.app {w : World} {Ps Qs : List Th} {xs ys : List Value} {Fs Gs : Nat → Fp} (h : Parts w Ps xs Fs) (k : Parts w Qs ys Gs) (hd : FDis (under Ps.length Fs) (under Qs.length Gs)) :
    Parts w (Ps ++ Qs) (xs ++ ys) fun j => if j < Ps.length then Fs j else Gs (j - Ps.length) := by
  refine ⟨by simp [h.len, k.len], fun j P v hP hv => ?_, fun i j hi hj hij => ?_⟩
  · by_cases hj : j < Ps.length
    · rw [List.getElem?_append_left hj] at hP
      rw [List.getElem?_append_left (by rw [← h.len]; exact hj)] at hv
      simp only [if_pos hj]
      exact h.each j P v hP hv
    · rw [List.getElem?_append_right (by omega)] at hP
      rw [List.getElem?_append_right (by rw [← h.len]; omega), ← h.len] at hv
      simp only [if_neg hj]
      exact k.each _ P v hP hv
  · simp only [List.length_append] at hi hj
    by_cases h1 : i < Ps.length
    · by_cases h2 : j < Ps.length
      · simp only [if_pos h1, if_pos h2]; exact h.dis i j h1 h2 hij
      · simp only [if_pos h1, if_neg h2]
        exact fun b a c => hd b ⟨i, h1, a⟩ ⟨_, by omega, c⟩
    · by_cases h2 : j < Ps.length
      · simp only [if_neg h1, if_pos h2]
        exact fun b a c => hd b ⟨j, h2, c⟩ ⟨_, by omega, a⟩
      · simp only [if_neg h1, if_neg h2]
        exact k.dis _ _ (by omega) (by omega) (by omega)
theorem under_app {n m : Nat} {Fs Gs : Nat → Fp} (b : Nat) : under (n + m) (fun j => if j < n then Fs j else Gs (j - n)) b ↔ under n Fs b ∨ under m Gs b := by
  constructor
  · rintro ⟨j, hj, hb⟩
    by_cases h : j < n
    · rw [if_pos h] at hb; exact .inl ⟨j, h, hb⟩
    · rw [if_neg h] at hb; exact .inr ⟨j - n, by omega, hb⟩
  · rintro (⟨j, hj, hb⟩ | ⟨j, hj, hb⟩)
    · exact ⟨j, by omega, by simp only [if_pos hj]; exact hb⟩
    · exact ⟨n + j, by omega, by simp only [if_neg (show ¬ n + j < n by omega), Nat.add_sub_cancel_left]; exact hb⟩
def isRow (e : TypeId) (z n : Nat) (Ps : List Th) : Th := fun w F x => ∃ (xs : List Value) (Fs : Nat → Fp), w.ownsRow 0 e z x n xs ∧ Parts w Ps xs Fs ∧ (∀ b, under Ps.length Fs b → x.ownBlock ≠ some b) ∧ ∀ b, F b ↔ x.ownBlock = some b ∨ under Ps.length Fs b
theorem aX {e : TypeId} {z n : Nat} {Ps : List Th} (hg : ∀ P ∈ Ps, OwnT P) : OwnT (isRow e z n Ps) := by
  refine ⟨fun ⟨xs, Fs, h1, h2, h3, h4⟩ hc hd => ⟨xs, Fs, hc.row h1 fun k hk hG => hd k ((h4 k).2 (.inl hk)) hG, h2.frame hg hc fun b a c => hd b ((h4 b).2 (.inr a)) c, h3, h4⟩, fun ⟨xs, Fs, h1, h2, h3, h4⟩ k hk => ?_, fun ⟨xs, Fs, h1, _⟩ => ?_⟩
  · rcases (h4 k).1 hk with h | h
    · exact (h1.lt k h).2
    · exact h2.lt hg k h
  · rcases h1.2 with ⟨rfl, _⟩ | ⟨g, cap, cur, rfl, _⟩ <;> exact ⟨rfl, rfl⟩
theorem isRow.nil {e : TypeId} {z : Nat} {w : World} : isRow e z 0 [] w none' (.slice none 0 0) :=
  ⟨[], fun _ => none', World.ownsRow_nil _ _ _ _, ⟨rfl, fun k P v h => by simp at h, fun j k h => by simp at h⟩, fun b ⟨k, hk, _⟩ => by simp at hk, fun b => ⟨fun h => h.elim, fun h => by rcases h with h | ⟨k, hk, _⟩; cases h; simp at hk⟩⟩
theorem ChgP.put (w : World) (g : Nat) (c : Array Value) (e : TypeId) : ChgP (fun b => b = g) w (Ev.put w g c e) := (ChgP.of (S := [g]) ((Chg.refl _ _).put (.inl (by simp)) c e)).mono fun k hk => by simpa using hk
theorem UpdP.put {F F' : Fp} {w w1 : World} (u : UpdP F F' w w1) {g : Nat} (hg : F' g) (c : Array Value) (e : TypeId) : UpdP F F' w (Ev.put w1 g c e) :=
  u.trans ⟨(ChgP.put w1 g c e).mono fun k hk => by rw [hk]; exact hg, fun k hk => .inl hk⟩
theorem set_same {α : Type} {l : List α} {k : Nat} {v : α} (h : l[k]? = some v) : l.set k v = l := by
  apply List.ext_getElem?
  intro j
  rw [List.getElem?_set]
  split
  · rename_i e; subst e
    rw [if_pos (List.getElem?_eq_some_iff.1 h).1, h]
  · rfl
theorem isRow.turn {e : TypeId} {z n : Nat} {Ps : List Th} {w w1 : World} {F F' : Fp} {x v : Value} {xs : List Value} {Fs : Nat → Fp} {k : Nat} {P' : Th} (h1 : w.ownsRow 0 e z x n xs) (h2 : Parts w Ps xs Fs) (h3 : ∀ b, under Ps.length Fs b → x.ownBlock ≠ some b) (h4 : ∀ b, F b ↔ x.ownBlock = some b ∨ under Ps.length Fs b)
    (hg : ∀ P ∈ Ps, OwnT P) (hk : k < Ps.length) (u : UpdP (Fs k) F' w w1) (hv : P' w1 F' v) :
    w1.ownsRow 0 e z x n xs ∧ Parts w1 (Ps.set k P') (xs.set k v) (fset Fs k F') ∧ (∀ b, under (Ps.set k P').length (fset Fs k F') b → x.ownBlock ≠ some b) ∧ UpdP F (fun b => x.ownBlock = some b ∨ under (Ps.set k P').length (fset Fs k F') b) w w1 := by
  refine ⟨u.chg.row h1 fun b hb hf => h3 b ⟨k, hk, hf⟩ hb, h2.set hg hk u hv, fun b hb hx => ?_, u.chg.mono fun b hb => (h4 b).2 (.inr ⟨k, hk, hb⟩), fun b hb => ?_⟩
  · rw [List.length_set] at hb
    rcases under_set b hb with h | h
    · rcases u.sub b h with h5 | h5
      · exact h3 b ⟨k, hk, h5⟩ hx
      · have := (h1.lt b hx).2; omega
    · exact h3 b h hx
  · rcases hb with hb | hb
    · exact .inl ((h4 b).2 (.inl hb))
    · rw [List.length_set] at hb
      rcases under_set b hb with h | h
      · rcases u.sub b h with h5 | h5
        · exact .inl ((h4 b).2 (.inr ⟨k, hk, h5⟩))
        · exact .inr h5
      · exact .inl ((h4 b).2 (.inr h))
theorem isRow.cell {e : TypeId} {z n : Nat} {Ps : List Th} {w : World} {F : Fp} {x : Value} (h : isRow e z n Ps w F x) (hg : ∀ P ∈ Ps, OwnT P) {k : Nat} {P : Th} (hP : Ps[k]? = some P) :
    ∃ (g c : Nat) (v : Value) (Fk : Fp), x = .slice (some ⟨g, 0, none⟩) n c ∧ F g ∧ ¬ Fk g ∧ (∀ b, Fk b → F b) ∧ ldC (hp w g) k = some v ∧ P w Fk v ∧
      (∀ w1 F' P', UpdP Fk F' w w1 → P' w1 F' v → ∃ F1, isRow e z n (Ps.set k P') w1 F1 x ∧ UpdP F F1 w w1) ∧
      (∀ w1 F' P' v', UpdP Fk F' w w1 → OwnT P' → P' w1 F' v' → okC (hp w1 g) (k + 1) = true ∧ ∃ F1, isRow e z n (Ps.set k P') (put w1 g ((getC (hp w1 g)).setIfInBounds k v') (getE (hp w1 g))) F1 x ∧ UpdP F F1 w (put w1 g ((getC (hp w1 g)).setIfInBounds k v') (getE (hp w1 g)))) := by
  obtain ⟨xs, Fs, h1, h2, h3, h4⟩ := h
  have hk := (List.getElem?_eq_some_iff.1 hP).1
  have hkx : k < xs.length := by rw [← h2.len]; exact hk
  obtain ⟨v, hv⟩ : ∃ v, xs[k]? = some v := ⟨_, List.getElem?_eq_getElem hkx⟩
  have hnz := h1.1
  obtain ⟨g, cap, hx, hld⟩ : ∃ g cap, x = .slice (some ⟨g, 0, none⟩) n cap ∧ ldC (hp w g) k = some v := by
    rcases h1.2 with ⟨rfl, h0⟩ | ⟨g, cap, cur, rfl, hbg, hgc, hnc, hcm, hcs, htake⟩
    · subst h0; omega
    · refine ⟨g, cap, rfl, ?_⟩
      have hg' : hp w g = some (.cells cur e (0, 0)) := hgc
      rw [hg', aH]
      have := hv
      rw [← htake, List.getElem?_take, if_pos (by omega)] at this
      simpa using this
  subst hx
  have hown : (Value.slice (some ⟨g, 0, none⟩) n cap).ownBlock = some g := rfl
  refine ⟨g, cap, v, Fs k, rfl, (h4 g).2 (.inl hown), fun hf => h3 g ⟨k, hk, hf⟩ hown, fun b hb => (h4 b).2 (.inr ⟨k, hk, hb⟩), hld, h2.each k P v hP hv, fun w1 F' P' u hp' => ?_, fun w1 F' P' v' u hgp hp' => ?_⟩
  · obtain ⟨a, b, c, d⟩ := isRow.turn h1 h2 h3 h4 hg hk u hp'
    rw [set_same hv] at b
    exact ⟨_, ⟨xs, _, a, b, c, fun _ => Iff.rfl⟩, d⟩
  · obtain ⟨a, b, c, d⟩ := isRow.turn h1 h2 h3 h4 hg hk u hp'
    obtain ⟨p1, p2⟩ := ownsRow_put (vs := [v']) a hown (o := k) (by simp; omega)
    refine ⟨p2, _, ⟨xs.set k v', fset Fs k F', ?_, b.frame (fun Q hQ => ?_) (ChgP.put w1 g _ _) (fun i hi hj => c i hi (by rw [hj]; exact hown)), c, fun _ => Iff.rfl⟩, d.put (.inl hown) _ _⟩
    · rw [← set_eq xs k v' hkx]; exact p1
    · rcases List.mem_or_eq_of_mem_set hQ with hq | hq
      · exact hg Q hq
      · rw [hq]; exact hgp
def isAt (e : TypeId) (g : Nat) (Ps : List Th) (w : World) (F : Fp) : Prop := ∃ (xs : List Value) (Fs : Nat → Fp), hp w g = some (.cells xs.toArray e) ∧ Parts w Ps xs Fs ∧ ¬ under Ps.length Fs g ∧ ∀ b, F b ↔ b = g ∨ under Ps.length Fs b
theorem isAt.frame {e : TypeId} {g : Nat} {Ps : List Th} {w w' : World} {F G : Fp} (h : isAt e g Ps w F) (hg : ∀ P ∈ Ps, OwnT P) (hc : ChgP G w w') (hd : FDis F G) : isAt e g Ps w' F := by
  obtain ⟨xs, Fs, h1, h2, h3, h4⟩ := h
  exact ⟨xs, Fs, hc.at h1 fun hG => hd g ((h4 g).2 (.inl rfl)) hG, h2.frame hg hc fun b a c => hd b ((h4 b).2 (.inr a)) c, h3, h4⟩
theorem isAt.lt {e : TypeId} {g : Nat} {Ps : List Th} {w : World} {F : Fp} (h : isAt e g Ps w F) (hg : ∀ P ∈ Ps, OwnT P) : ∀ k, F k → k < w.heap.size := fun k hk => by
  obtain ⟨xs, Fs, h1, h2, h3, h4⟩ := h
  rcases (h4 k).1 hk with h | h
  · subst h; exact av h1
  · exact h2.lt hg k h
theorem isAt.cell {e : TypeId} {g : Nat} {Ps : List Th} {w : World} {F : Fp} (h : isAt e g Ps w F) (hg : ∀ P ∈ Ps, OwnT P) {k : Nat} {P : Th} (hP : Ps[k]? = some P) :
    ∃ (v : Value) (Fk : Fp), F g ∧ ¬ Fk g ∧ (∀ b, Fk b → F b) ∧ ldC (hp w g) k = some v ∧ P w Fk v ∧
      (∀ w1 F' P', UpdP Fk F' w w1 → P' w1 F' v → ∃ F1, isAt e g (Ps.set k P') w1 F1 ∧ UpdP F F1 w w1) ∧
      (∀ w1 F' P' v', UpdP Fk F' w w1 → OwnT P' → P' w1 F' v' → okC (hp w1 g) (k + 1) = true ∧ ∃ F1, isAt e g (Ps.set k P') (put w1 g ((getC (hp w1 g)).setIfInBounds k v') (getE (hp w1 g))) F1 ∧ UpdP F F1 w (put w1 g ((getC (hp w1 g)).setIfInBounds k v') (getE (hp w1 g)))) := by
  obtain ⟨xs, Fs, h1, h2, h3, h4⟩ := h
  have hk := (List.getElem?_eq_some_iff.1 hP).1
  have hkx : k < xs.length := by rw [← h2.len]; exact hk
  obtain ⟨v, hv⟩ : ∃ v, xs[k]? = some v := ⟨_, List.getElem?_eq_getElem hkx⟩
  have main : ∀ {w1 : World} {F' : Fp} {P' : Th} {v' : Value}, UpdP (Fs k) F' w w1 → P' w1 F' v' → hp w1 g = some (.cells xs.toArray e) ∧ Parts w1 (Ps.set k P') (xs.set k v') (fset Fs k F') ∧ ¬ under (Ps.set k P').length (fset Fs k F') g ∧ UpdP F (fun b => b = g ∨ under (Ps.set k P').length (fset Fs k F') b) w w1 := by
    intro w1 F' P' v' u hp'
    refine ⟨u.chg.at h1 fun hf => h3 ⟨k, hk, hf⟩, h2.set hg hk u hp', fun hb => ?_, u.chg.mono fun b hb => (h4 b).2 (.inr ⟨k, hk, hb⟩), fun b hb => ?_⟩
    · rw [List.length_set] at hb
      rcases under_set g hb with h | h
      · rcases u.sub g h with h5 | h5
        · exact h3 ⟨k, hk, h5⟩
        · have := av h1; omega
      · exact h3 h
    · rcases hb with hb | hb
      · exact .inl ((h4 b).2 (.inl hb))
      · rw [List.length_set] at hb
        rcases under_set b hb with h | h
        · rcases u.sub b h with h5 | h5
          · exact .inl ((h4 b).2 (.inr ⟨k, hk, h5⟩))
          · exact .inr h5
        · exact .inl ((h4 b).2 (.inr h))
  refine ⟨v, Fs k, (h4 g).2 (.inl rfl), fun hf => h3 ⟨k, hk, hf⟩, fun b hb => (h4 b).2 (.inr ⟨k, hk, hb⟩), by rw [h1, aH]; simpa using hv, h2.each k P v hP hv, fun w1 F' P' u hp' => ?_, fun w1 F' P' v' u hgp hp' => ?_⟩
  · obtain ⟨a, b, c, d⟩ := main (v' := v) u hp'
    rw [set_same hv] at b
    exact ⟨_, ⟨xs, _, a, b, c, fun _ => Iff.rfl⟩, d⟩
  · obtain ⟨a, b, c, d⟩ := main u hp'
    refine ⟨by rw [a]; simp; omega, _, ⟨xs.set k v', fset Fs k F', ?_, b.frame (fun Q hQ => ?_) (ChgP.put w1 g _ _) (fun i hi hj => c (by rw [← hj]; exact hi)), c, fun _ => Iff.rfl⟩, d.put (.inl rfl) _ _⟩
    · rw [a, bm, ay, ar (av a)]
      simp
    · rcases List.mem_or_eq_of_mem_set hQ with hq | hq
      · exact hg Q hq
      · rw [hq]; exact hgp
theorem isAt.new {e : TypeId} {Ps : List Th} {w : World} {xs : List Value} {Fs : Nat → Fp} (hp' : Parts w Ps xs Fs) (hg : ∀ P ∈ Ps, OwnT P) : isAt e w.heap.size Ps (w.alloc (.cells xs.toArray e)) (fun b => b = w.heap.size ∨ under Ps.length Fs b) := by
  refine ⟨xs, Fs, by rw [aa, if_pos rfl], hp'.frame hg (ChgP.of0 ((Chg.refl _ _).alloc _) none') (fun _ _ h => h), fun h => ?_, fun _ => Iff.rfl⟩
  have := hp'.lt hg _ h
  omega
theorem isRow.grow {e : TypeId} {z n m : Nat} {Ps Qs : List Th} {w w' : World} {F G : Fp} {x x' : Value} {ys : List Value} {Gs : Nat → Fp} (h : isRow e z n Ps w F x) (hg : ∀ P ∈ Ps, OwnT P) (hq : ∀ P ∈ Qs, OwnT P) (hy : Parts w Qs ys Gs) (hG : ∀ b, G b ↔ under Qs.length Gs b) (hd : FDis F G)
    (ho : ∀ xs, w.ownsRow 0 e z x n xs → w'.ownsRow 0 e z x' (n + m) (xs ++ ys)) (hgr : w.grownBy w' x.ownBlock) (hnb : NewB w x x') :
    ∃ F', isRow e z (n + m) (Ps ++ Qs) w' F' x' ∧ UpdP (fun b => F b ∨ G b) F' w w' ∧ ChgP F w w' := by
  obtain ⟨xs, Fs, h1, h2, h3, h4⟩ := h
  have hc : ChgP (fun b => x.ownBlock = some b) w w' := ⟨hgr.os, hgr.tape, hgr.output, hgr.size, fun k hk hn => hgr.block k hk fun e => hn e.symm⟩
  have hc' : ChgP F w w' := hc.mono fun b hb => (h4 b).2 (.inl hb)
  have a2 := h2.frame hg hc fun b hb hx => h3 b hb hx
  have b2 := hy.frame hq hc fun b hb hx => hd b ((h4 b).2 (.inl hx)) ((hG b).2 hb)
  have hdd : FDis (under Ps.length Fs) (under Qs.length Gs) := fun b hb hc => hd b ((h4 b).2 (.inr hb)) ((hG b).2 hc)
  have hnew : ∀ b, under (Ps ++ Qs).length (fun j => if j < Ps.length then Fs j else Gs (j - Ps.length)) b → x'.ownBlock ≠ some b := fun b hb hx' => by
    rw [List.length_append] at hb
    rcases (under_app b).1 hb with h | h
    · rcases hnb b hx' with h5 | h5
      · exact h3 b h h5
      · have := h2.lt hg b h; omega
    · rcases hnb b hx' with h5 | h5
      · exact hd b ((h4 b).2 (.inl h5)) ((hG b).2 h)
      · have := hy.lt hq b h; omega
  refine ⟨_, ⟨xs ++ ys, _, ho xs h1, a2.app b2 hdd, hnew, fun _ => Iff.rfl⟩, ⟨hc'.mono fun b hb => .inl hb, fun b hb => ?_⟩, hc'⟩
  rcases hb with hb | hb
  · rcases hnb b hb with h5 | h5
    · exact .inl (.inl ((h4 b).2 (.inl h5)))
    · exact .inr h5
  · rw [List.length_append] at hb
    rcases (under_app b).1 hb with h | h
    · exact .inl (.inl ((h4 b).2 (.inr h)))
    · exact .inl (.inr ((hG b).2 h))
theorem flatM_len {α β : Type} {f : α → List β} {z : Nat} (h : ∀ x, (f x).length = z) : ∀ L : List α, (L.flatMap f).length = L.length * z
  | [] => by simp
  | x :: xs => by rw [List.flatMap_cons, List.length_append, h x, flatM_len h xs, List.length_cons, Nat.add_mul]; omega
theorem aN {α β : Type} {f : α → List β} {z : Nat} (h : ∀ x, (f x).length = z) : ∀ (L : List α) (i : Nat) (x : α), L[i]? = some x → ∀ k, k < z → (L.flatMap f)[i * z + k]? = (f x)[k]?
  | [], i, x, hx, k, hk => by simp at hx
  | y :: ys, 0, x, hx, k, hk => by
    simp at hx; subst hx
    rw [List.flatMap_cons, Nat.zero_mul, Nat.zero_add, List.getElem?_append_left (by rw [h]; exact hk)]
  | y :: ys, i + 1, x, hx, k, hk => by
    rw [List.flatMap_cons, show (i + 1) * z + k = (f y).length + (i * z + k) by rw [h, Nat.add_mul]; omega, List.getElem?_append_right (by omega), Nat.add_sub_cancel_left]
    exact aN h ys i x (by simpa using hx) k hk
theorem flatM_set {α β : Type} {f : α → List β} {z : Nat} (h : ∀ x, (f x).length = z) {k : Nat} {p : β} (hk : k < z) {x x' : α} (hx : f x' = (f x).set k p) : ∀ (L : List α) (i : Nat), L[i]? = some x → (L.flatMap f).set (i * z + k) p = (L.set i x').flatMap f
  | [], i, hi => by simp at hi
  | y :: ys, 0, hi => by
    simp at hi; subst hi
    rw [List.flatMap_cons, Nat.zero_mul, Nat.zero_add, List.set_append_left _ _ (by rw [h]; exact hk), List.set_cons_zero, List.flatMap_cons, hx]
  | y :: ys, i + 1, hi => by
    rw [List.flatMap_cons, show (i + 1) * z + k = (f y).length + (i * z + k) by rw [h, Nat.add_mul]; omega, List.set_append_right _ _ (by omega), Nat.add_sub_cancel_left, flatM_set h hk hx ys i (by simpa using hi), List.set_cons_succ, List.flatMap_cons]
theorem isRow.rd {e : TypeId} {z n : Nat} {Ps : List Th} {w : World} {F : Fp} {x : Value} (h : isRow e z n Ps w F x) :
    ∃ A c xs Fs, x = .slice A n c ∧ RdV w A xs ∧ xs.length = n * z ∧ Parts w Ps xs Fs ∧ ∀ b, under Ps.length Fs b → F b := by
  obtain ⟨xs, Fs, h1, h2, h3, h4⟩ := h
  obtain ⟨A, c, e1, e2, _⟩ := ba h1
  exact ⟨A, c, xs, Fs, e1, e2, h1.1, h2, fun b hb => (h4 b).2 (.inr hb)⟩
theorem Parts.flat {w : World} {us xs : List Value} {Fs : Nat → Fp} (h : Parts w (us.map isV) xs Fs) : xs = us := by
  apply List.ext_getElem?
  intro k
  rcases Nat.lt_or_ge k us.length with hk | hk
  · have hkx : k < xs.length := by have := h.len; simp at this; omega
    have := h.each k (isV us[k]) xs[k] (by simp [hk]) (List.getElem?_eq_getElem hkx)
    rw [List.getElem?_eq_getElem hkx, List.getElem?_eq_getElem hk, this.1]
  · have := h.len
    simp at this
    rw [List.getElem?_eq_none (by omega), List.getElem?_eq_none (by omega)]
theorem Parts.ofFlat {w : World} (us : List Value) : Parts w (us.map isV) us fun _ => none' :=
  ⟨by simp, fun k P v hP hv => by
    rw [List.getElem?_map, hv] at hP
    cases hP
    exact ⟨rfl, fun _ h => h⟩, fun _ _ _ _ _ b h _ => h⟩
theorem good_flat {us : List Value} (h : ∀ u ∈ us, u.cells = #[u] ∧ u.oneCell' = true) : ∀ P ∈ us.map isV, OwnT P := fun P hP => by
  obtain ⟨u, hu, rfl⟩ := List.mem_map.1 hP
  exact good_isV (h u hu)
theorem flat_own {e : TypeId} {z n : Nat} {us : List Value} {w : World} {F : Fp} {x : Value} (h : isRow e z n (us.map isV) w F x) : w.ownsRow 0 e z x n us ∧ ∀ b, F b → x.ownBlock = some b := by
  obtain ⟨xs, Fs, h1, h2, h3, h4⟩ := h
  rw [h2.flat] at h1
  refine ⟨h1, fun b hb => ?_⟩
  rcases (h4 b).1 hb with h5 | ⟨k, hk, hb'⟩
  · exact h5
  · obtain ⟨P, hP⟩ : ∃ P, (us.map isV)[k]? = some P := ⟨_, List.getElem?_eq_getElem hk⟩
    obtain ⟨v, hv⟩ : ∃ v, xs[k]? = some v := ⟨_, List.getElem?_eq_getElem (by rw [← h2.len]; exact hk)⟩
    have := h2.each k P v hP hv
    obtain ⟨u, _, rfl⟩ := List.mem_map.1 (List.mem_of_getElem? hP)
    exact absurd hb' (this.2 b)
theorem own_flat {e : TypeId} {z n : Nat} {us : List Value} {w : World} {x : Value} {base : Nat} (h : w.ownsRow base e z x n us) : isRow e z n (us.map isV) w (fun b => x.ownBlock = some b) x :=
  ⟨us, fun _ => none', ownsRow_mono h (Nat.zero_le _), Parts.ofFlat us, fun b ⟨_, _, hb⟩ => hb.elim, fun b => ⟨fun h => .inl h, fun h => by rcases h with h | ⟨_, _, h⟩; exact h; exact h.elim⟩⟩
end Go.Proofs.YteapggpkgfiacaaGreat.Ev


namespace Go.Proofs.YteapggpkgfiacaaGreat
open Go Ev Go.RowKit

abbrev HnV := Int × Int × Int × Int × Int
abbrev NmV := Int × Int
def hnC (h : HnV) : List Value := [.int .i64 h.1, .int .i64 h.2.1, .int .i64 h.2.2.1, .int .i64 h.2.2.2.1, .int .i64 h.2.2.2.2]
def nmC (n : NmV) : List Value := [.int .i64 n.1, .int .i64 n.2]
structure RgV where
  nm : NmV
  cls : Int
  off : Int
  chunks : List Int
  words : List (List Int)
  objs : List HnV
structure HdV where
  depth : Int
  holds : List NmV
abbrev CfV := Int × Int × Int × Int × Int × Int
def cfC (c : CfV) : List Value := [.int .i64 c.1, .int .i64 c.2.1, .int .i64 c.2.2.1, .int .i64 c.2.2.2.1, .int .i64 c.2.2.2.2.1, .int .i64 c.2.2.2.2.2]
structure MdV where
  c : CfV
  loose : Bool
  slots : List NmV
  rgs : List RgV
  hands : List HdV
def u64s (l : List Int) : List Value := l.map (Value.int .u64)
def slotsT (L : List NmV) : Th := isRow 92 2 L.length ((L.flatMap nmC).map isV)
def namesT (L : List NmV) : Th := isRow 83 2 L.length ((L.flatMap nmC).map isV)
def intsT (L : List Int) : Th := isRow 3 1 L.length ((ints L).map isV)
def wordT (L : List Int) : Th := isRow 34 1 L.length ((u64s L).map isV)
def wordsT (L : List (List Int)) : Th := isRow 102 1 L.length (L.map wordT)
def objsT (L : List HnV) : Th := isRow 38 5 L.length ((L.flatMap hnC).map isV)
def iT (x : Int) : Th := isV (.int .i64 x)
def rgT (r : RgV) : List Th := [iT r.nm.1, iT r.nm.2, iT r.cls, iT r.off, intsT r.chunks, wordsT r.words, objsT r.objs]
def hdT (h : HdV) : List Th := [iT h.depth, namesT h.holds]
def rgsT (L : List RgV) : Th := isRow 86 7 L.length (L.flatMap rgT)
def handsT (L : List HdV) : Th := isRow 96 2 L.length (L.flatMap hdT)
def mdT (m : MdV) : List Th := (cfC m.c).map isV ++ [isV (.bool m.loose), slotsT m.slots, rgsT m.rgs, handsT m.hands]
def MdI (w : World) (g : Nat) (m : MdV) (F : Fp) : Prop := isAt 61 g (mdT m) w F
theorem aV (k : IntKind) (x : Int) : OwnT (isV (.int k x)) := good_isV ⟨rfl, rfl⟩
theorem good_ints {us : List Value} (h : ∀ u ∈ us, ∃ k x, u = .int k x) : ∀ P ∈ us.map isV, OwnT P := good_flat fun u hu => by
  obtain ⟨k, x, rfl⟩ := h u hu; exact ⟨rfl, rfl⟩
theorem nmC_int (L : List NmV) : ∀ u ∈ L.flatMap nmC, ∃ k x, u = .int k x := fun u hu => by
  obtain ⟨n, _, hn⟩ := List.mem_flatMap.1 hu
  simp only [nmC, List.mem_cons, List.not_mem_nil, or_false] at hn
  rcases hn with rfl | rfl <;> exact ⟨_, _, rfl⟩
theorem hnC_int (L : List HnV) : ∀ u ∈ L.flatMap hnC, ∃ k x, u = .int k x := fun u hu => by
  obtain ⟨n, _, hn⟩ := List.mem_flatMap.1 hu
  simp only [hnC, List.mem_cons, List.not_mem_nil, or_false] at hn
  rcases hn with rfl | rfl | rfl | rfl | rfl <;> exact ⟨_, _, rfl⟩
theorem ints_int (L : List Int) : ∀ u ∈ ints L, ∃ k x, u = .int k x := fun u hu => by
  obtain ⟨n, _, rfl⟩ := List.mem_map.1 hu; exact ⟨_, _, rfl⟩
theorem u64s_int (L : List Int) : ∀ u ∈ u64s L, ∃ k x, u = .int k x := fun u hu => by
  obtain ⟨n, _, rfl⟩ := List.mem_map.1 hu; exact ⟨_, _, rfl⟩
theorem good_slots (L : List NmV) : OwnT (slotsT L) := aX (good_ints (nmC_int L))
theorem good_names (L : List NmV) : OwnT (namesT L) := aX (good_ints (nmC_int L))
theorem aM (L : List Int) : OwnT (intsT L) := aX (good_ints (ints_int L))
theorem good_word (L : List Int) : OwnT (wordT L) := aX (good_ints (u64s_int L))
theorem good_words (L : List (List Int)) : OwnT (wordsT L) := aX fun P hP => by
  obtain ⟨l, _, rfl⟩ := List.mem_map.1 hP; exact good_word l
theorem good_objs (L : List HnV) : OwnT (objsT L) := aX (good_ints (hnC_int L))
theorem good_rg (r : RgV) : ∀ P ∈ rgT r, OwnT P := fun P hP => by
  simp only [rgT, List.mem_cons, List.not_mem_nil, or_false] at hP
  rcases hP with rfl | rfl | rfl | rfl | rfl | rfl | rfl
  · exact aV _ _
  · exact aV _ _
  · exact aV _ _
  · exact aV _ _
  · exact aM _
  · exact good_words _
  · exact good_objs _
theorem good_hd (h : HdV) : ∀ P ∈ hdT h, OwnT P := fun P hP => by
  simp only [hdT, List.mem_cons, List.not_mem_nil, or_false] at hP
  rcases hP with rfl | rfl
  · exact aV _ _
  · exact good_names _
theorem good_rgL (L : List RgV) : ∀ P ∈ L.flatMap rgT, OwnT P := fun P hP => by
  obtain ⟨r, _, hr⟩ := List.mem_flatMap.1 hP; exact good_rg r P hr
theorem good_hdL (L : List HdV) : ∀ P ∈ L.flatMap hdT, OwnT P := fun P hP => by
  obtain ⟨r, _, hr⟩ := List.mem_flatMap.1 hP; exact good_hd r P hr
theorem good_rgs (L : List RgV) : OwnT (rgsT L) := aX (good_rgL L)
theorem good_hands (L : List HdV) : OwnT (handsT L) := aX (good_hdL L)
theorem good_md (m : MdV) : ∀ P ∈ mdT m, OwnT P := fun P hP => by
  rcases List.mem_append.1 hP with h | h
  · refine good_ints (fun u hu => ?_) P h
    simp only [cfC, List.mem_cons, List.not_mem_nil, or_false] at hu
    rcases hu with rfl | rfl | rfl | rfl | rfl | rfl <;> exact ⟨_, _, rfl⟩
  · simp only [List.mem_cons, List.not_mem_nil, or_false] at h
    rcases h with rfl | rfl | rfl | rfl
    · exact good_isV ⟨rfl, rfl⟩
    · exact good_slots _
    · exact good_rgs _
    · exact good_hands _
theorem rgT_len (r : RgV) : (rgT r).length = 7 := rfl
theorem hdT_len (h : HdV) : (hdT h).length = 2 := rfl
theorem nmC_len (n : NmV) : (nmC n).length = 2 := rfl
theorem hnC_len (h : HnV) : (hnC h).length = 5 := rfl
theorem MdI.keep {w w' : World} {g : Nat} {m : MdV} {F : Fp} (h : MdI w g m F) (hc : Chg [] w w') : MdI w' g m F := isAt.frame h (good_md m) (ChgP.of0 hc none') fun _ _ h => h
structure MdR (w : World) (g : Nat) (m : MdV) (s r h : Value) : Prop where
  c : ∀ k, k < 6 → ldC (hp w g) (0 + k) = (cfC m.c)[k]?
  l : ldC (hp w g) (0 + 6) = some (.bool m.loose)
  sl : ldC (hp w g) (0 + 7) = some s
  rl : ldC (hp w g) (0 + 8) = some r
  hl : ldC (hp w g) (0 + 9) = some h
  sT : ∃ F, slotsT m.slots w F s
  rT : ∃ F, rgsT m.rgs w F r
  hT : ∃ F, handsT m.hands w F h
theorem MdI.rd {w : World} {g : Nat} {m : MdV} {F : Fp} (h : MdI w g m F) : ∃ s r h, MdR w g m s r h := by
  obtain ⟨sv, _, _, _, _, hs, hS, _⟩ := isAt.cell h (good_md m) (k := 7) (P := slotsT m.slots) rfl
  obtain ⟨rv, _, _, _, _, hr, hR, _⟩ := isAt.cell h (good_md m) (k := 8) (P := rgsT m.rgs) rfl
  obtain ⟨hv, _, _, _, _, hh, hH, _⟩ := isAt.cell h (good_md m) (k := 9) (P := handsT m.hands) rfl
  obtain ⟨lv, _, _, _, _, hl, hL, _⟩ := isAt.cell h (good_md m) (k := 6) (P := isV (.bool m.loose)) rfl
  refine ⟨sv, rv, hv, fun k hk => ?_, hl.trans (by rw [hL.1]), hs, hr, hh, ⟨_, hS⟩, ⟨_, hR⟩, ⟨_, hH⟩⟩
  obtain ⟨u, hu⟩ : ∃ u, (cfC m.c)[k]? = some u := ⟨_, List.getElem?_eq_getElem (by simpa [cfC] using hk)⟩
  have hP : (mdT m)[k]? = some (isV u) := by
    rw [mdT, List.getElem?_append_left (by simpa [cfC] using hk), List.getElem?_map, hu]; rfl
  obtain ⟨cv, _, _, _, _, hc, hC, _⟩ := isAt.cell h (good_md m) hP
  rw [Nat.zero_add, hc, hC.1, hu]
theorem MdR.keep {w w' : World} {g : Nat} {m : MdV} {s r h : Value} (k : MdR w g m s r h) (hc : Chg [] w w') : MdR w' g m s r h := by
  have e : ∀ i u, ldC (hp w g) i = some u → hp w' g = hp w g := fun i u hu => hc.block g (by
    rcases Nat.lt_or_ge g w.heap.size with h | h
    · exact h
    · have : hp w g = none := by simp [hp]; omega
      rw [this] at hu; cases hu) (by simp)
  have e := e _ _ k.sl
  obtain ⟨F, hF⟩ := k.sT
  obtain ⟨G, hG⟩ := k.rT
  obtain ⟨H, hH⟩ := k.hT
  exact ⟨fun i hi => by rw [e]; exact k.c i hi, by rw [e]; exact k.l, by rw [e]; exact k.sl, by rw [e]; exact k.rl, by rw [e]; exact k.hl,
    ⟨F, (good_slots _).frame hF (ChgP.of0 hc none') fun _ _ h => h⟩, ⟨G, (good_rgs _).frame hG (ChgP.of0 hc none') fun _ _ h => h⟩, ⟨H, (good_hands _).frame hH (ChgP.of0 hc none') fun _ _ h => h⟩⟩
end Go.Proofs.YteapggpkgfiacaaGreat

namespace Go.Proofs.YteapggpkgfiacaaGreat
open Go Ev Go.RowKit

theorem slots_sh {w : World} {L : List NmV} {s : Value} (h : ∃ F, slotsT L w F s) : ∃ A c, s = .slice A L.length c ∧ RdV w A (L.flatMap nmC) := by
  obtain ⟨F, h⟩ := h
  obtain ⟨h1, _⟩ := flat_own h
  obtain ⟨A, c, e, r, _⟩ := ba h1
  exact ⟨A, c, e, r⟩
theorem rgs_sh {w : World} {L : List RgV} {s : Value} (h : ∃ F, rgsT L w F s) : ∃ A c, s = .slice A L.length c := by
  obtain ⟨F, h⟩ := h
  obtain ⟨A, c, _, _, e, _⟩ := isRow.rd h
  exact ⟨A, c, e⟩
theorem hands_sh {w : World} {L : List HdV} {s : Value} (h : ∃ F, handsT L w F s) : ∃ A c, s = .slice A L.length c := by
  obtain ⟨F, h⟩ := h
  obtain ⟨A, c, _, _, e, _⟩ := isRow.rd h
  exact ⟨A, c, e⟩
theorem c_mSlot {w : World} {g : Nat} {m : MdV} {s r h : Value} (M : MdR w g m s r h) (n : Int) : CallR Tryz.prog 69 [.pointer (some ⟨g, 0, none⟩), .int .i64 n] w fun v w' => v = .bool (decide (0 ≤ n ∧ n < m.slots.length)) ∧ w' = w := by
  apply F69_ok
  obtain ⟨A, c, rfl, _⟩ := slots_sh M.sT
  by_cases h0 : 0 ≤ n
  · simp -implicitDefEqProofs only [F69, zS, h0, ah, fa_61_2, ld_57, M.sl, len_57]
    exact ⟨by simp, trivial⟩
  · simp -implicitDefEqProofs only [F69, zS, h0]
    exact ⟨by simp, trivial⟩
def findR (L : List RgV) (n : NmV) : Option Nat := L.findIdx? (fun r => decide (r.nm = n))
theorem box_nm {w : World} (n : NmV) : hp (w.alloc (.cells (nmC n).toArray 83)) w.heap.size = some (.cells (nmC n).toArray 83) := by rw [aa, if_pos rfl]
structure RgR (w : World) (b o : Nat) (r : RgV) (cv wv ov : Value) : Prop where
  c0 : ldC (hp w b) (o + 0) = some (.int .i64 r.nm.1)
  c1 : ldC (hp w b) (o + 1) = some (.int .i64 r.nm.2)
  c2 : ldC (hp w b) (o + 2) = some (.int .i64 r.cls)
  c3 : ldC (hp w b) (o + 3) = some (.int .i64 r.off)
  c4 : ldC (hp w b) (o + 4) = some cv
  c5 : ldC (hp w b) (o + 5) = some wv
  c6 : ldC (hp w b) (o + 6) = some ov
  cT : ∃ F, intsT r.chunks w F cv
  wT : ∃ F, wordsT r.words w F wv
  oT : ∃ F, objsT r.objs w F ov
theorem rg_at {w : World} {L : List RgV} {F : Fp} {x : Value} (h : rgsT L w F x) {i : Nat} {r : RgV} (hr : L[i]? = some r) : ∃ b c, x = .slice (some ⟨b, 0, none⟩) L.length c ∧ ∃ cv wv ov, RgR w b (i * 7) r cv wv ov := by
  have get : ∀ k, k < 7 → (L.flatMap rgT)[i * 7 + k]? = (rgT r)[k]? := fun k hk => aN rgT_len L i r hr k hk
  obtain ⟨b, c, v0, F0, e0, _, _, _, l0, t0, _⟩ := isRow.cell h (good_rgL L) (get 0 (by omega))
  obtain ⟨b1, c1, v1, F1, e1, _, _, _, l1, t1, _⟩ := isRow.cell h (good_rgL L) (get 1 (by omega))
  obtain ⟨b2, c2, v2, F2, e2, _, _, _, l2, t2, _⟩ := isRow.cell h (good_rgL L) (get 2 (by omega))
  obtain ⟨b3, c3, v3, F3, e3, _, _, _, l3, t3, _⟩ := isRow.cell h (good_rgL L) (get 3 (by omega))
  obtain ⟨b4, c4, v4, F4, e4, _, _, _, l4, t4, _⟩ := isRow.cell h (good_rgL L) (get 4 (by omega))
  obtain ⟨b5, c5, v5, F5, e5, _, _, _, l5, t5, _⟩ := isRow.cell h (good_rgL L) (get 5 (by omega))
  obtain ⟨b6, c6, v6, F6, e6, _, _, _, l6, t6, _⟩ := isRow.cell h (good_rgL L) (get 6 (by omega))
  subst e0
  cases e1; cases e2; cases e3; cases e4; cases e5; cases e6
  rw [t0.1] at l0; rw [t1.1] at l1; rw [t2.1] at l2; rw [t3.1] at l3
  exact ⟨b, c, rfl, v4, v5, v6, l0, l1, l2, l3, l4, l5, l6, ⟨F4, t4⟩, ⟨F5, t5⟩, ⟨F6, t6⟩⟩
theorem findR_none {L : List RgV} {n : NmV} (h : ∀ (j : Nat) (r : RgV), L[j]? = some r → r.nm ≠ n) : findR L n = none := by
  rw [findR, List.findIdx?_eq_none_iff]
  intro r hr
  obtain ⟨j, hj⟩ := List.getElem?_of_mem hr
  simpa using h j r hj
theorem findR_some {L : List RgV} {n : NmV} {i : Nat} {r : RgV} (hi : L[i]? = some r) (hr : r.nm = n) (h : ∀ (j : Nat) (r : RgV), j < i → L[j]? = some r → r.nm ≠ n) : findR L n = some i := by
  have hil := (List.getElem?_eq_some_iff.1 hi).1
  rw [findR, List.findIdx?_eq_some_iff_getElem]
  refine ⟨hil, ?_, fun j hj => ?_⟩
  · rw [List.getElem?_eq_getElem hil] at hi; cases hi; simpa using hr
  · simpa using h j _ hj (List.getElem?_eq_getElem (by omega))
theorem ldL_two {x : Option Obj} {o : Nat} {a b : Value} (h0 : ldC x (o + 0) = some a) (h1 : ldC x (o + 1) = some b) : ldL x o 2 = some [a, b] := ldL_take 2 o [a, b] rfl fun j u hj => by
  rcases j with _ | _ | j
  · simp at hj; subst hj; exact h0
  · simp at hj; subst hj; exact h1
  · simp at hj
theorem nm_beq (a b : NmV) : ((a.1 == b.1) && ((a.2 == b.2) && true)) = decide (a = b) := by
  obtain ⟨a1, a2⟩ := a; obtain ⟨b1, b2⟩ := b
  by_cases h1 : a1 = b1 <;> by_cases h2 : a2 = b2 <;> simp [h1, h2]
set_option maxHeartbeats 1000000 in
theorem c_mRegion {w : World} {g : Nat} {m : MdV} {s r h : Value} (M : MdR w g m s r h) (n : NmV) (hl : m.rgs.length ≤ 1000000) : CallR Tryz.prog 42 [.pointer (some ⟨g, 0, none⟩), .agg (nmC n).toArray] w fun v w' =>
    Chg [] w w' ∧ ((findR m.rgs n = none ∧ v = .pointer none) ∨ ∃ i rg b c, findR m.rgs n = some i ∧ m.rgs[i]? = some rg ∧ r = .slice (some ⟨b, 0, none⟩) m.rgs.length c ∧ v = .pointer (some ⟨b, i * 7, none⟩)) := by
  apply F42_ok
  have hbox := box_nm (w := w) n
  have hc0 : Chg [] w (w.alloc (.cells (nmC n).toArray 83)) := (Chg.refl _ _).alloc _
  simp -implicitDefEqProofs only [F42, ak, au]
  generalize w.alloc (.cells (nmC n).toArray 83) = w0 at *
  have M0 := M.keep hc0
  obtain ⟨A, c, hr⟩ := rgs_sh M0.rT
  generalize w.heap.size = gb at *
  have hrl := M0.rl
  rw [hr] at hrl
  simp -implicitDefEqProofs only [zS, ah, fa_61_3, ld_58, hrl, len_58]
  have main : ∀ (d i : Nat) (w1 : World), Chg [] w0 w1 → (∀ (j : Nat) (r : RgV), j < i → m.rgs[j]? = some r → r.nm ≠ n) → i + d = m.rgs.length →
      P42_0 (.pointer (some ⟨g, 0, none⟩)) (.pointer (some ⟨gb, 0, none⟩)) (.int .i64 m.rgs.length) (.int .i64 i) w1 fun v w' =>
    Chg [] w w' ∧ ((findR m.rgs n = none ∧ v = .pointer none) ∨ ∃ i rg b c, findR m.rgs n = some i ∧ m.rgs[i]? = some rg ∧ r = .slice (some ⟨b, 0, none⟩) m.rgs.length c ∧ v = .pointer (some ⟨b, i * 7, none⟩)) := by
    intro d
    induction d with
    | zero =>
      intro i w1 hc hn hi
      apply L42_0_ok
      have : ¬ (i : Int) < m.rgs.length := by omega
      simp -implicitDefEqProofs only [L42_0, zS, this]
      exact ⟨hc0.trans hc, .inl ⟨findR_none fun j r hj => hn j r (by have := (List.getElem?_eq_some_iff.1 hj).1; omega) hj, by first | rfl | trivial⟩⟩
    | succ d ih =>
      intro i w1 hc hn hi
      apply L42_0_ok
      have hlt : (i : Int) < m.rgs.length := by omega
      obtain ⟨rg, hrg⟩ : ∃ rg, m.rgs[i]? = some rg := ⟨_, List.getElem?_eq_getElem (by omega)⟩
      have M1 := M0.keep hc
      obtain ⟨F, hF⟩ := M1.rT
      obtain ⟨b, c', hx, cv, wv, ov, R⟩ := rg_at hF hrg
      have hrl1 := M1.rl
      rw [hx] at hrl1
      have hb1 := hc.at hbox (by simp)
      have ia := ia_58 (b := b) (p := 0) (n := m.rgs.length) (c := c') (j := .i64) (i := (i : Int)) (by omega) (by omega)
      rw [Int.toNat_natCast, Nat.zero_add] at ia
      have e0 : ldC (hp w1 gb) 0 = some (.int .i64 n.1) := by rw [hb1]; rfl
      have e1 : ldC (hp w1 gb) (0 + 1) = some (.int .i64 n.2) := by rw [hb1]; rfl
      have hbe : be Tryz.prog .eql 83 (.tmp 21) (.tmp 22) (.agg #[.int .i64 rg.nm.1, .int .i64 rg.nm.2]) (.agg #[.int .i64 n.1, .int .i64 n.2]) = some (.bool (decide (rg.nm = n))) := by
        rw [← nm_beq]; exact be_eql_83
      have lr := ldL_two (o := i * 7 + 0) R.c0 R.c1
      have ln := ldL_two (o := 0) e0 e1
      simp -implicitDefEqProofs only [L42_0, zS, hlt, ah, fa_61_3, ld_58, hrl1, ia, fa_86_0, ld_83, lr, ln, Option.map_some, hbe]
      by_cases hnm : rg.nm = n
      · simp -implicitDefEqProofs only [hnm, z1z, zS, ia]
        exact ⟨hc0.trans hc.drew, .inr ⟨i, rg, b, c', findR_some hrg hnm hn, hrg, hx, rfl⟩⟩
      · simp -implicitDefEqProofs only [hnm, z2z, zS, am, aq (n := (i : Int) + 1) (by omega) (by omega)]
        have := ih (i + 1) w1.drew hc.drew (fun j r hj hr => by
          rcases Nat.lt_or_ge j i with h1 | h1
          · exact hn j r h1 hr
          · have : j = i := by omega
            subst this
            rw [hrg] at hr; cases hr; exact hnm) (by omega)
        rw [Int.natCast_add i 1] at this
        exact this
  exact main m.rgs.length 0 w0 (Chg.refl _ _) (fun j r hj => by omega) (by omega)
end Go.Proofs.YteapggpkgfiacaaGreat

namespace Go.Proofs.YteapggpkgfiacaaGreat
open Go Ev Go.RowKit

theorem slot_at {w : World} {A : Option Addr} {c : Nat} {L : List NmV} (h : RdV w A (L.flatMap nmC)) {i : Nat} {p : NmV} (hp' : L[i]? = some p) :
    ∃ b o, pureRun Tryz.prog (Instr.indexAt 57 (.slice A L.length c) (.int .i64 i)) = some (.pointer (some ⟨b, o, none⟩)) ∧ ldC (hp w b) (o + 0) = some (.int .i64 p.1) ∧ ldC (hp w b) (o + 1) = some (.int .i64 p.2) := by
  have hi := (List.getElem?_eq_some_iff.1 hp').1
  obtain ⟨b, o, h1, h2, _⟩ := h.elem (P := Tryz.prog) (c := c) (n := L.length) (i := (i : Int)) (j := .i64) Tryz.underlying57 sz_92 (by omega) (by rw [flatM_len nmC_len]; exact Nat.le_refl _) (by omega) (by omega)
  rw [Int.toNat_natCast] at h2
  exact ⟨b, o, h1, (h2 0 (by omega)).trans (aN nmC_len L i p hp' 0 (by omega)), (h2 1 (by omega)).trans (aN nmC_len L i p hp' 1 (by omega))⟩
theorem c_mNameOf (h : HnV) (w : World) : CallR Tryz.prog 43 [.agg (hnC h).toArray] w fun v w' => v = .agg (nmC (h.1, h.2.1)).toArray ∧ Chg [] w w' := by
  apply F43_ok
  simp -implicitDefEqProofs only [F43, ak, au, al_83, ae]
  generalize hw : (w.alloc (.cells (hnC h).toArray 38)).alloc _ = w1
  have hc : Chg [] w w1 := by rw [← hw]; exact ((Chg.refl _ _).alloc _).alloc _
  have a1 : hp w1 w.heap.size = some (.cells (hnC h).toArray 38) := by rw [← hw, aa, ae, if_neg (by omega), aa, if_pos rfl]
  have a2 : hp w1 (w.heap.size + 1) = some (.cells #[.int .i64 0, .int .i64 0] 83) := by rw [← hw, aa, ae, if_pos rfl]
  clear hw
  have e0 : (hnC h).toArray[0 + 0]? = some (.int .i64 h.1) := rfl
  have e1 : (hnC h).toArray[0 + 1]? = some (.int .i64 h.2.1) := rfl
  simp -implicitDefEqProofs only [zS, bj, fa_38_1, ac, a1, e0, e1, bd_83_0_1]
  rw [st_83 (by rfl) (by rfl) (by rw [a2]; rfl) (by rw [a2]; rfl), a2]
  simp -implicitDefEqProofs only [ay]
  have f2 : hp (put w1 (w.heap.size + 1) #[.int .i64 h.1, .int .i64 h.2.1] 83) (w.heap.size + 1) = some (.cells #[.int .i64 h.1, .int .i64 h.2.1] 83) := ar (av a2) _ _
  rw [aJ (c := #[.int .i64 h.1, .int .i64 h.2.1]) ag_83 sz_83 f2, ab]
  exact ⟨rfl, hc.put (.inr (by omega)) _ _⟩
def isLv (m : MdV) (n : NmV) : Bool := decide (0 ≤ n.1 ∧ n.1 < m.slots.length) && decide (m.slots[n.1.toNat]? = some (1, n.2))
set_option maxHeartbeats 1000000 in
theorem c_mIsLive {w : World} {g : Nat} {m : MdV} {s r h : Value} (M : MdR w g m s r h) (n : NmV) : CallR Tryz.prog 67 [.pointer (some ⟨g, 0, none⟩), .agg (nmC n).toArray] w fun v w' => v = .bool (isLv m n) ∧ Chg [] w w' := by
  apply F67_ok
  have hbox := box_nm (w := w) n
  have hc0 : Chg [] w (w.alloc (.cells (nmC n).toArray 83)) := (Chg.refl _ _).alloc _
  simp -implicitDefEqProofs only [F67, ak, au]
  generalize w.alloc (.cells (nmC n).toArray 83) = w0 at *
  have M0 := (M.keep hc0).keep (Chg.refl _ _).drew
  have hbd : hp w0.drew w.heap.size = some (.cells (nmC n).toArray 83) := hbox
  have hcd := hc0.drew
  have e0 : (nmC n).toArray[0 + 0]? = some (.int .i64 n.1) := rfl
  have e1 : (nmC n).toArray[0 + 1]? = some (.int .i64 n.2) := rfl
  simp -implicitDefEqProofs only [zS, fa_83_0, ac, hbox, e0]
  generalize w0.drew = w1 at *
  refine (c_mSlot M0 n.1).step ?_
  obtain ⟨A, c, rfl, hR⟩ := slots_sh M0.sT
  by_cases hn : 0 ≤ n.1 ∧ n.1 < m.slots.length
  · obtain ⟨p, hp'⟩ : ∃ p, m.slots[n.1.toNat]? = some p := ⟨_, List.getElem?_eq_getElem (by omega)⟩
    obtain ⟨b, o, q1, q2, q3⟩ := slot_at (c := c) hR hp'
    have hcast : ((n.1.toNat : Nat) : Int) = n.1 := by omega
    rw [hcast] at q1
    have lr := ldL_two q2 q3
    have hbe : be Tryz.prog .eql 92 (.tmp 17) (.tmp 20) (.agg #[.int .i64 p.1, .int .i64 p.2]) (.agg #[.int .i64 1, .int .i64 n.2]) = some (.bool (decide (p = (1, n.2)))) := by
      rw [← nm_beq]; exact be_eql_92
    simp -implicitDefEqProofs only [zS, hn, and_self, z1z, ah, fa_61_2, ld_57, M0.sl, fa_83_0, fa_83_1, ac, hbd, e0, e1, q1, ld_92, lr, Option.map_some, bd_92_0_1, hbe]
    refine ⟨?_, hcd⟩
    rw [isLv, hp', decide_eq_true hn, Bool.true_and]
    simp
  · simp -implicitDefEqProofs only [zS, hn, z2z]
    exact ⟨by simp [isLv, hn], hcd⟩
def spareN (L : List NmV) : Nat := (L.filter fun p => decide (p.1 = 0)).length
theorem spareN_snoc (L : List NmV) (p : NmV) : spareN (L ++ [p]) = spareN L + if p.1 = 0 then 1 else 0 := by
  simp only [spareN, List.filter_append, List.length_append]
  by_cases h : p.1 = 0 <;> simp [h]
set_option maxHeartbeats 1000000 in
theorem c_mSpare {w : World} {g : Nat} {m : MdV} {s r h : Value} (M : MdR w g m s r h) (hl : m.slots.length ≤ 1000000) : CallR Tryz.prog 68 [.pointer (some ⟨g, 0, none⟩)] w fun v w' => v = .int .i64 (spareN m.slots) ∧ Chg [] w w' := by
  apply F68_ok
  obtain ⟨A, c, hs, hR⟩ := slots_sh M.sT
  have hsl := M.sl
  rw [hs] at hsl
  simp -implicitDefEqProofs only [F68, zS, ah, fa_61_2, ld_57, hsl, len_57]
  have main : ∀ (d i : Nat) (w1 : World), Chg [] w w1 → i + d = m.slots.length →
      P68_0 (.int .i64 (spareN (m.slots.take i))) (.slice A m.slots.length c) (.int .i64 m.slots.length) (.int .i64 i) w1 fun v w' => v = .int .i64 (spareN m.slots) ∧ Chg [] w w' := by
    intro d
    induction d with
    | zero =>
      intro i w1 hc hi
      apply L68_0_ok
      have : ¬ (i : Int) < m.slots.length := by omega
      simp -implicitDefEqProofs only [L68_0, zS, this]
      rw [List.take_of_length_le (by omega)]
      exact ⟨rfl, hc⟩
    | succ d ih =>
      intro i w1 hc hi
      apply L68_0_ok
      have hlt : (i : Int) < m.slots.length := by omega
      have hil : i < m.slots.length := by omega
      obtain ⟨b, o, q1, q2, q3⟩ := slot_at (c := c) (hR.keep hc.below) (List.getElem?_eq_getElem hil)
      have lr := ldL_two q2 q3
      have hle : spareN (m.slots.take i) ≤ i := by
        have := List.length_filter_le (fun p : NmV => decide (p.1 = 0)) (m.slots.take i)
        simp only [spareN]; simp at this ⊢; omega
      have hsn : spareN (m.slots.take (i + 1)) = spareN (m.slots.take i) + if (m.slots[i]).1 = 0 then 1 else 0 := by
        rw [List.take_add_one, List.getElem?_eq_getElem hil]
        exact spareN_snoc _ _
      generalize m.slots[i] = p at *
      simp -implicitDefEqProofs only [L68_0, zS, hlt, q1, ld_92, lr, Option.map_some, al_92]
      rw [st_92 (by rfl) (by rfl) (by rw [aa, if_pos rfl]; rfl) (by rw [aa, if_pos rfl]; rfl), aa, if_pos rfl]
      simp -implicitDefEqProofs only [ay]
      generalize hz : w1.alloc _ = wa
      have hca : Chg [] w1 wa := by rw [← hz]; exact (Chg.refl _ _).alloc _
      have hza : wa.heap.size = w1.heap.size + 1 := by rw [← hz]; simp
      have hcp : Chg [] w1 (put wa w1.heap.size [Value.int .i64 p.1, Value.int .i64 p.2].toArray 92) := hca.put (.inr (Nat.le_refl _)) _ _
      have h8 : hp (put wa w1.heap.size [Value.int .i64 p.1, Value.int .i64 p.2].toArray 92) w1.heap.size = some (.cells [Value.int .i64 p.1, Value.int .i64 p.2].toArray 92) := by rw [aR, if_pos rfl, if_pos (by omega)]
      generalize put wa w1.heap.size [Value.int .i64 p.1, Value.int .i64 p.2].toArray 92 = w2 at *
      have e0 : ([Value.int .i64 p.1, Value.int .i64 p.2].toArray)[0 + 0]? = some (Value.int .i64 p.1) := rfl
      have hc2 := hc.trans hcp
      have one : ∀ k : Nat, k = spareN (m.slots.take (i + 1)) → P68_1 (.int .i64 k) (.slice A m.slots.length c) (.int .i64 m.slots.length) (.int .i64 i) w2 fun v w' => v = .int .i64 (spareN m.slots) ∧ Chg [] w w' := by
        rintro k rfl
        apply L68_1_ok
        simp -implicitDefEqProofs only [L68_1, zS, am, aq (n := (i : Int) + 1) (by omega) (by omega)]
        have := ih (i + 1) w2 hc2 (by omega)
        rw [Int.natCast_add i 1] at this
        exact this
      by_cases hp0 : p.1 = 0
      · have e1 : (p.1 == 0) = true := by rw [hp0]; rfl
        simp -implicitDefEqProofs only [zS, fa_92_0, ac, h8, e0, e1, am, aq (n := (spareN (m.slots.take i) : Int) + 1) (by omega) (by omega)]
        have := one (spareN (m.slots.take i) + 1) (by rw [hsn, if_pos hp0])
        rw [Int.natCast_add _ 1] at this
        exact this
      · simp -implicitDefEqProofs only [zS, fa_92_0, ac, h8, e0, eqf hp0]
        exact one _ (by rw [hsn, if_neg hp0]; rfl)
  exact main m.slots.length 0 w (Chg.refl _ _) (by omega)
end Go.Proofs.YteapggpkgfiacaaGreat

namespace Go.Proofs.YteapggpkgfiacaaGreat
open Go Ev Go.RowKit

def ixOf {α : Type} [DecidableEq α] (L : List α) (x : α) : Int := match L.findIdx? (fun y => decide (y = x)) with | some i => (i : Int) | none => -1
theorem ixOf_none {α : Type} [DecidableEq α] {L : List α} {x : α} (h : ∀ (j : Nat) (y : α), L[j]? = some y → y ≠ x) : ixOf L x = -1 := by
  have : L.findIdx? (fun y => decide (y = x)) = none := by
    rw [List.findIdx?_eq_none_iff]
    intro r hr
    obtain ⟨j, hj⟩ := List.getElem?_of_mem hr
    simpa using h j r hj
  rw [ixOf, this]
theorem ixOf_some {α : Type} [DecidableEq α] {L : List α} {x y : α} {i : Nat} (hi : L[i]? = some y) (hy : y = x) (h : ∀ (j : Nat) (y : α), j < i → L[j]? = some y → y ≠ x) : ixOf L x = i := by
  have hil := (List.getElem?_eq_some_iff.1 hi).1
  have : L.findIdx? (fun y => decide (y = x)) = some i := by
    rw [List.findIdx?_eq_some_iff_getElem]
    refine ⟨hil, ?_, fun j hj => ?_⟩
    · rw [List.getElem?_eq_getElem hil] at hi; cases hi; simpa using hy
    · simpa using h j _ hj (List.getElem?_eq_getElem (by omega))
  rw [ixOf, this]
theorem ixOf_mem {α : Type} [DecidableEq α] (L : List α) (x : α) : decide (0 ≤ ixOf L x) = decide (x ∈ L) := by
  by_cases h : x ∈ L
  · rw [decide_eq_true h]
    unfold ixOf
    split
    · simp
    · rename_i he
      rw [List.findIdx?_eq_none_iff] at he
      have := he x h
      simp at this
  · rw [decide_eq_false h, ixOf_none fun j y hj e => by subst e; exact h (List.mem_of_getElem? hj)]
    simp
theorem hn_beq (a b : HnV) : ((a.1 == b.1) && ((a.2.1 == b.2.1) && ((a.2.2.1 == b.2.2.1) && ((a.2.2.2.1 == b.2.2.2.1) && ((a.2.2.2.2 == b.2.2.2.2) && true))))) = decide (a = b) := by
  obtain ⟨a1, a2, a3, a4, a5⟩ := a; obtain ⟨b1, b2, b3, b4, b5⟩ := b
  by_cases h1 : a1 = b1 <;> by_cases h2 : a2 = b2 <;> by_cases h3 : a3 = b3 <;> by_cases h4 : a4 = b4 <;> by_cases h5 : a5 = b5 <;> simp [h1, h2, h3, h4, h5]
set_option maxHeartbeats 1000000 in
theorem c_nIndex {w : World} {A : Option Addr} {c : Nat} {L : List NmV} (hR : RdV w A (L.flatMap nmC)) (hl : L.length ≤ 1000000) (x : NmV) : CallR Tryz.prog 89 [.slice A L.length c, .agg (nmC x).toArray] w fun v w' => v = .int .i64 (ixOf L x) ∧ Chg [] w w' := by
  apply F89_ok
  have hbox : hp (w.alloc (.cells (nmC x).toArray 83)) w.heap.size = some (.cells (nmC x).toArray 83) := by rw [aa, if_pos rfl]
  have hc0 : Chg [] w (w.alloc (.cells (nmC x).toArray 83)) := (Chg.refl _ _).alloc _
  simp -implicitDefEqProofs only [F89, ak, au, ab, len_94]
  generalize w.alloc (.cells (nmC x).toArray 83) = w0 at *
  generalize w.heap.size = gb at *
  have main : ∀ (d i : Nat) (w1 : World), Chg [] w w1 → hp w1 gb = some (.cells (nmC x).toArray 83) → (∀ (j : Nat) (y : NmV), j < i → L[j]? = some y → y ≠ x) → i + d = L.length →
      P89_0 (.slice A L.length c) (.pointer (some ⟨gb, 0, none⟩)) (.int .i64 L.length) (.int .i64 i) w1 fun v w' => v = .int .i64 (ixOf L x) ∧ Chg [] w w' := by
    intro d
    induction d with
    | zero =>
      intro i w1 hc hb hn hi
      apply L89_0_ok
      have : ¬ (i : Int) < L.length := by omega
      simp -implicitDefEqProofs only [L89_0, zS, this]
      rw [ixOf_none fun j y hj => hn j y (by have := (List.getElem?_eq_some_iff.1 hj).1; omega) hj]
      exact ⟨rfl, hc⟩
    | succ d ih =>
      intro i w1 hc hb hn hi
      apply L89_0_ok
      have hlt : (i : Int) < L.length := by omega
      have hil : i < L.length := by omega
      obtain ⟨y, hy⟩ : ∃ y, L[i]? = some y := ⟨_, List.getElem?_eq_getElem hil⟩
      obtain ⟨b, o, q1, _, q3, _⟩ := (hR.keep hc.drew.below).elem (P := Tryz.prog) (c := c) (n := L.length) (i := (i : Int)) (j := .i64) Tryz.underlying94 sz_83 (by omega) (by rw [flat_len nmC_len]; exact Nat.le_refl _) (by omega) (by omega)
      have hyl : L[i] = y := by rw [List.getElem?_eq_getElem hil] at hy; exact Option.some.inj hy
      rw [Int.toNat_natCast, flat_at nmC_len L i hil, hyl] at q3
      have lx := aJ (t := 83) (c := (nmC x).toArray) ag_83 (show (Tryz.prog.info? 83).map (·.size) = some (nmC x).toArray.size from sz_83) (show hp w1.drew gb = _ from hb)
      have ly : ldv Tryz.prog 83 (.pointer (some ⟨b, o, none⟩)) w1.drew = some (.agg (nmC y).toArray) := by rw [ld_83, q3]; rfl
      have hbe : be Tryz.prog .eql 83 (.tmp 11) (.tmp 15) (.agg (nmC x).toArray) (.agg (nmC y).toArray) = some (.bool (decide (x = y))) := by
        rw [← nm_beq]; exact be_eql_83
      simp -implicitDefEqProofs only [L89_0, zS, hlt, lx, q1, ly, hbe]
      by_cases hxy : x = y
      · simp -implicitDefEqProofs only [hxy, z1z, zS]
        rw [← hxy, ixOf_some hy hxy.symm hn]
        exact ⟨rfl, hc.drew⟩
      · simp -implicitDefEqProofs only [hxy, z2z, zS, am, aq (n := (i : Int) + 1) (by omega) (by omega)]
        have := ih (i + 1) w1.drew hc.drew hb (fun j z hj hz => by
          rcases Nat.lt_or_ge j i with h1 | h1
          · exact hn j z h1 hz
          · have : j = i := by omega
            subst this
            rw [hy] at hz; cases hz; exact fun e => hxy e.symm) (by omega)
        rw [Int.natCast_add i 1] at this
        exact this
  exact main L.length 0 w0 hc0 hbox (fun j r hj => by omega) (by omega)
set_option maxHeartbeats 1000000 in
theorem c_hIndex {w : World} {A : Option Addr} {c : Nat} {L : List HnV} (hR : RdV w A (L.flatMap hnC)) (hl : L.length ≤ 1000000) (x : HnV) : CallR Tryz.prog 101 [.slice A L.length c, .agg (hnC x).toArray] w fun v w' => v = .int .i64 (ixOf L x) ∧ Chg [] w w' := by
  apply F101_ok
  have hbox : hp (w.alloc (.cells (hnC x).toArray 38)) w.heap.size = some (.cells (hnC x).toArray 38) := by rw [aa, if_pos rfl]
  have hc0 : Chg [] w (w.alloc (.cells (hnC x).toArray 38)) := (Chg.refl _ _).alloc _
  simp -implicitDefEqProofs only [F101, ak, au, ab, len_44]
  generalize w.alloc (.cells (hnC x).toArray 38) = w0 at *
  generalize w.heap.size = gb at *
  have main : ∀ (d i : Nat) (w1 : World), Chg [] w w1 → hp w1 gb = some (.cells (hnC x).toArray 38) → (∀ (j : Nat) (y : HnV), j < i → L[j]? = some y → y ≠ x) → i + d = L.length →
      P101_0 (.slice A L.length c) (.pointer (some ⟨gb, 0, none⟩)) (.int .i64 L.length) (.int .i64 i) w1 fun v w' => v = .int .i64 (ixOf L x) ∧ Chg [] w w' := by
    intro d
    induction d with
    | zero =>
      intro i w1 hc hb hn hi
      apply L101_0_ok
      have : ¬ (i : Int) < L.length := by omega
      simp -implicitDefEqProofs only [L101_0, zS, this]
      rw [ixOf_none fun j y hj => hn j y (by have := (List.getElem?_eq_some_iff.1 hj).1; omega) hj]
      exact ⟨rfl, hc⟩
    | succ d ih =>
      intro i w1 hc hb hn hi
      apply L101_0_ok
      have hlt : (i : Int) < L.length := by omega
      have hil : i < L.length := by omega
      obtain ⟨y, hy⟩ : ∃ y, L[i]? = some y := ⟨_, List.getElem?_eq_getElem hil⟩
      obtain ⟨b, o, q1, _, q3, _⟩ := (hR.keep hc.drew.below).elem (P := Tryz.prog) (c := c) (n := L.length) (i := (i : Int)) (j := .i64) Tryz.underlying44 sz_38 (by omega) (by rw [flat_len hnC_len]; exact Nat.le_refl _) (by omega) (by omega)
      have hyl : L[i] = y := by rw [List.getElem?_eq_getElem hil] at hy; exact Option.some.inj hy
      rw [Int.toNat_natCast, flat_at hnC_len L i hil, hyl] at q3
      have lx := aJ (t := 38) (c := (hnC x).toArray) ag_38 (show (Tryz.prog.info? 38).map (·.size) = some (hnC x).toArray.size from sz_38) (show hp w1.drew gb = _ from hb)
      have ly : ldv Tryz.prog 38 (.pointer (some ⟨b, o, none⟩)) w1.drew = some (.agg (hnC y).toArray) := by rw [ld_38, q3]; rfl
      have hbe : be Tryz.prog .eql 38 (.tmp 11) (.tmp 15) (.agg (hnC x).toArray) (.agg (hnC y).toArray) = some (.bool (decide (x = y))) := by
        rw [← hn_beq]; exact be_eql_38
      simp -implicitDefEqProofs only [L101_0, zS, hlt, lx, q1, ly, hbe]
      by_cases hxy : x = y
      · simp -implicitDefEqProofs only [hxy, z1z, zS]
        rw [← hxy, ixOf_some hy hxy.symm hn]
        exact ⟨rfl, hc.drew⟩
      · simp -implicitDefEqProofs only [hxy, z2z, zS, am, aq (n := (i : Int) + 1) (by omega) (by omega)]
        have := ih (i + 1) w1.drew hc.drew hb (fun j z hj hz => by
          rcases Nat.lt_or_ge j i with h1 | h1
          · exact hn j z h1 hz
          · have : j = i := by omega
            subst this
            rw [hy] at hz; cases hz; exact fun e => hxy e.symm) (by omega)
        rw [Int.natCast_add i 1] at this
        exact this
  exact main L.length 0 w0 hc0 hbox (fun j r hj => by omega) (by omega)
theorem c_nContains {w : World} {A : Option Addr} {c : Nat} {L : List NmV} (hR : RdV w A (L.flatMap nmC)) (hl : L.length ≤ 1000000) (x : NmV) : CallR Tryz.prog 66 [.slice A L.length c, .agg (nmC x).toArray] w fun v w' => v = .bool (decide (x ∈ L)) ∧ Chg [] w w' := by
  apply F66_ok
  have hbox : hp (w.alloc (.cells (nmC x).toArray 83)) w.heap.size = some (.cells (nmC x).toArray 83) := by rw [aa, if_pos rfl]
  have hc0 : Chg [] w (w.alloc (.cells (nmC x).toArray 83)) := (Chg.refl _ _).alloc _
  simp -implicitDefEqProofs only [F66, ak, au]
  generalize w.alloc (.cells (nmC x).toArray 83) = w0 at *
  simp -implicitDefEqProofs only [aJ (t := 83) (c := (nmC x).toArray) ag_83 (show (Tryz.prog.info? 83).map (·.size) = some (nmC x).toArray.size from sz_83) hbox, ab]
  refine (c_nIndex (c := c) (hR.keep hc0.below) hl x).mono ?_
  rintro _ w1 ⟨rfl, c1⟩
  simp -implicitDefEqProofs only [zS, aD]
  exact ⟨by rw [ixOf_mem]; congr, hc0.trans c1⟩
theorem c_hContains {w : World} {A : Option Addr} {c : Nat} {L : List HnV} (hR : RdV w A (L.flatMap hnC)) (hl : L.length ≤ 1000000) (x : HnV) : CallR Tryz.prog 88 [.slice A L.length c, .agg (hnC x).toArray] w fun v w' => v = .bool (decide (x ∈ L)) ∧ Chg [] w w' := by
  apply F88_ok
  have hbox : hp (w.alloc (.cells (hnC x).toArray 38)) w.heap.size = some (.cells (hnC x).toArray 38) := by rw [aa, if_pos rfl]
  have hc0 : Chg [] w (w.alloc (.cells (hnC x).toArray 38)) := (Chg.refl _ _).alloc _
  simp -implicitDefEqProofs only [F88, ak, au]
  generalize w.alloc (.cells (hnC x).toArray 38) = w0 at *
  simp -implicitDefEqProofs only [aJ (t := 38) (c := (hnC x).toArray) ag_38 (show (Tryz.prog.info? 38).map (·.size) = some (hnC x).toArray.size from sz_38) hbox, ab]
  refine (c_hIndex (c := c) (hR.keep hc0.below) hl x).mono ?_
  rintro _ w1 ⟨rfl, c1⟩
  simp -implicitDefEqProofs only [zS, aD]
  exact ⟨by rw [ixOf_mem]; congr, hc0.trans c1⟩
end Go.Proofs.YteapggpkgfiacaaGreat

namespace Go.Proofs.YteapggpkgfiacaaGreat
open Go Ev Go.RowKit

theorem objs_sh {w : World} {L : List HnV} {s : Value} (h : ∃ F, objsT L w F s) : ∃ A c, s = .slice A L.length c ∧ RdV w A (L.flatMap hnC) := by
  obtain ⟨F, h⟩ := h
  obtain ⟨h1, _⟩ := flat_own h
  obtain ⟨A, c, e, r, _⟩ := ba h1
  exact ⟨A, c, e, r⟩
theorem ints_sh {w : World} {L : List Int} {s : Value} (h : ∃ F, intsT L w F s) : ∃ A c, s = .slice A L.length c ∧ RdI .i64 w A L := by
  obtain ⟨F, h⟩ := h
  obtain ⟨h1, _⟩ := flat_own h
  obtain ⟨_, A, c, e, r, _⟩ := rd_of_own h1
  exact ⟨A, c, e, r⟩
def knownV (m : MdV) (h : HnV) (of : Int) : Bool := match findR m.rgs (h.1, h.2.1) with
  | none => false
  | some i => if h.2.2.2.2 = 0 then decide (h.2.2.1 = 0) && (decide (h.2.2.2.1 = 0) && decide (of ≠ 2)) else decide (of ≠ 1) && (match m.rgs[i]? with | some r => decide (h ∈ r.objs) | none => false)
set_option maxHeartbeats 2000000 in
theorem c_mKnown {w : World} {g : Nat} {m : MdV} {s r hh : Value} (M : MdR w g m s r hh) (h : HnV) (of : Int) (hl : m.rgs.length ≤ 1000000) (ho : ∀ rg ∈ m.rgs, rg.objs.length ≤ 1000000) : CallR Tryz.prog 65 [.pointer (some ⟨g, 0, none⟩), .agg (hnC h).toArray, .int .i64 of] w fun v w' => v = .bool (knownV m h of) ∧ Chg [] w w' := by
  apply F65_ok
  have hbox : hp (w.alloc (.cells (hnC h).toArray 38)) w.heap.size = some (.cells (hnC h).toArray 38) := by rw [aa, if_pos rfl]
  have hc0 : Chg [] w (w.alloc (.cells (hnC h).toArray 38)) := (Chg.refl _ _).alloc _
  simp -implicitDefEqProofs only [F65, ak, au]
  generalize w.alloc (.cells (hnC h).toArray 38) = w0 at *
  generalize w.heap.size = gb at *
  have ldh : ∀ w', hp w' gb = some (.cells (hnC h).toArray 38) → ldv Tryz.prog 38 (.pointer (some ⟨gb, 0, none⟩)) w' = some (.agg (hnC h).toArray) := fun w' hw => aJ (t := 38) (c := (hnC h).toArray) ag_38 (show (Tryz.prog.info? 38).map (·.size) = some (hnC h).toArray.size from sz_38) hw
  simp -implicitDefEqProofs only [ldh _ hbox, ab]
  refine (c_mNameOf h w0).mono ?_
  rintro _ w1 ⟨rfl, c1⟩
  refine (c_mRegion ((M.keep hc0).keep c1) (h.1, h.2.1) hl).mono ?_
  rintro v w2 ⟨c2, hv⟩
  have c02 := hc0.trans (c1.trans c2)
  have M2 := M.keep c02
  have hb2 := (c1.trans c2).at hbox (by simp)
  rcases hv with ⟨hf, rfl⟩ | ⟨i, rg, b, c, hf, hrg, hr, rfl⟩
  · simp -implicitDefEqProofs only [zS, be_eqlp Tryz.underlying87, z7z]
    refine ⟨?_, c02⟩
    simp [knownV, hf]
  · obtain ⟨F, hF⟩ := M2.rT
    obtain ⟨b', c', hr', cv, wv, ov, R⟩ := rg_at hF hrg
    rw [hr] at hr'
    cases hr'
    have e2 : (hnC h).toArray[0 + 2]? = some (.int .i64 h.2.2.1) := rfl
    have e3 : (hnC h).toArray[0 + 3]? = some (.int .i64 h.2.2.2.1) := rfl
    have e4 : (hnC h).toArray[0 + 4]? = some (.int .i64 h.2.2.2.2) := rfl
    by_cases h4 : h.2.2.2.2 = 0
    · have k4 : (h.2.2.2.2 == 0) = true := by rw [h4]; rfl
      have kv : knownV m h of = (decide (h.2.2.1 = 0) && (decide (h.2.2.2.1 = 0) && decide (of ≠ 2))) := by rw [knownV, hf]; simp only [h4, if_true]
      by_cases h2 : h.2.2.1 = 0
      · have k2 : (h.2.2.1 == 0) = true := by rw [h2]; rfl
        by_cases h3 : h.2.2.2.1 = 0
        · have k3 : (h.2.2.2.1 == 0) = true := by rw [h3]; rfl
          simp -implicitDefEqProofs only [zS, be_eqlp Tryz.underlying87, z8z, fa_38_4, fa_38_2, fa_38_3, ac, hb2, e4, e2, e3, k4, k2, k3]
          refine ⟨?_, c02⟩
          rw [kv]; by_cases h5 : of = 2 <;> simp [h2, h3, h5]
        · simp -implicitDefEqProofs only [zS, be_eqlp Tryz.underlying87, z8z, fa_38_4, fa_38_2, fa_38_3, ac, hb2, e4, e2, e3, k4, k2, eqf h3]
          refine ⟨?_, c02⟩
          rw [kv]; simp [h3]
      · simp -implicitDefEqProofs only [zS, be_eqlp Tryz.underlying87, z8z, fa_38_4, fa_38_2, fa_38_3, ac, hb2, e4, e2, e3, k4, eqf h2]
        refine ⟨?_, c02⟩
        rw [kv]; simp [h2]
    · have kv : knownV m h of = (decide (of ≠ 1) && decide (h ∈ rg.objs)) := by rw [knownV, hf]; simp only [h4, if_false, hrg]
      by_cases h5 : of = 1
      · have k5 : (of != 1) = false := by rw [h5]; rfl
        simp -implicitDefEqProofs only [zS, be_eqlp Tryz.underlying87, z8z, fa_38_4, ac, hb2, e4, eqf h4, k5]
        refine ⟨?_, c02.drew⟩
        rw [kv]; simp [h5]
      · have k5 : (of != 1) = true := bne_iff_ne.2 h5
        obtain ⟨A, co, hov, hR⟩ := objs_sh R.oT
        have R6 := R.c6
        rw [hov] at R6
        have R6d : ldC (hp w2.drew b) (i * 7 + 6) = some (.slice A rg.objs.length co) := R6
        simp -implicitDefEqProofs only [zS, be_eqlp Tryz.underlying87, z8z, fa_38_4, ac, hb2, e4, eqf h4, k5, ah, fa_86_5, ld_44, R6d, R6, ldh w2.drew hb2]
        refine (c_hContains (c := co) (hR.keep (Chg.refl [] _).drew.below) (ho rg (List.mem_of_getElem? hrg)) h).mono ?_
        rintro _ w3 ⟨rfl, c3⟩
        refine ⟨?_, c02.trans ((Chg.refl _ _).drew.trans c3)⟩
        rw [kv]; simp [h5]
end Go.Proofs.YteapggpkgfiacaaGreat

