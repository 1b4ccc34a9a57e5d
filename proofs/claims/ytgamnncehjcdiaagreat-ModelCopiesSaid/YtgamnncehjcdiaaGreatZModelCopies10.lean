/- Parts of the proof of ModelCopies, one behind the other. Conditions: none. -/
import Derived.Test.YtgamnncehjcdiaaGreatChecked
import Derived.Eval
import Derived.Test.YtgamnncehjcdiaaGreatZModelCopies9
set_option linter.unusedSimpArgs false
set_option linter.unusedVariables false
set_option maxRecDepth 100000
namespace Go.Proofs.YtgamnncehjcdiaaGreat
open Go Ev
noncomputable def C4 : Code := (Tryz.f4.body).getD .skip
noncomputable def H4 : Hints := ⟨[], [(8, [1, 2, 7, 8, 9, 10])], [(7, (.ask 2 1 (.leaf [0, 2, 1, 3, 4, 5]) (.leaf [0, 1, 2, 3, 4, 5]))), (13, (.leaf [0, 1, 2, 3, 4, 5, 6, 7, 8, 9, 10, 11, 12, 13, 14, 15, 16, 17, 18, 19, 20, 21, 22, 23, 24, 25, 26, 27, 28, 29, 30, 31]))]⟩
noncomputable def T4_0 : List It := [.jn (nav [1, 1, 1, 1, 1, 1] C4)]
def P4_0 (x1 x2 x7 x8 x9 x10 : Value) (w : World) (Q : Value → World → Prop) : Prop := Part Tryz.prog 4 T4_0 [1, 2, 7, 8, 9, 10] [x1, x2, x7, x8, x9, x10] w Q
def F4 (a0 a1 a2 : Value) (w : World) (Q : Value → World → Prop) : Prop :=
  CallR Tryz.prog 5 [] w fun t19 w =>
  wpB (pureRun Tryz.prog (Op.unary .not t19)) fun t21 =>
  cnd t21
  (Q (.bool false) w)
  (wpB (pureRun Tryz.prog (Builtin.len_ #[22] 3 #[a1])) fun t23 =>
  wpB (bp Tryz.prog .gtr 3 t23 (.int .i64 300)) fun t24 =>
  wpB (gd t24 false (pureRun Tryz.prog (Builtin.len_ #[22] 3 #[(gv t24 false a2)]))) fun t27 =>
  wpB (gd t24 false (bp Tryz.prog .gtr 3 t27 (.int .i64 300))) fun t28 =>
  wpB (pickv t24 (some (.bool true)) (some t28)) fun t29 =>
  cnd t29
  (Q t19 w)
  (CallR Tryz.prog 7 [a0] w fun t32 w =>
  effv Tryz.prog (Instr.alloc 33 true (.tuple #[])) w fun t8 w =>
  effu Tryz.prog (Instr.storeAt 33 t8 t32) w fun w =>
  (wpB (ldv Tryz.prog 33 t8 w.drew) fun t33 =>
  wpB (ldv Tryz.prog 33 t8 w.drew) fun t35 =>
  CallR Tryz.prog 6 [t33, (.bool false)] w.drew fun t34 w =>
  CallR Tryz.prog 6 [t35, (.bool false)] w fun t36 w =>
  P4_0 a1 a2 t19 t8 t34 t36 w Q) ∧
  (wpB (ldv Tryz.prog 33 t8 w.drew) fun t33_1 =>
  CallR Tryz.prog 6 [t33_1, (.bool false)] w.drew fun t34_1 w =>
  wpB (ldv Tryz.prog 33 t8 w) fun t35_1 =>
  CallR Tryz.prog 6 [t35_1, (.bool false)] w fun t36_1 w =>
  P4_0 a1 a2 t19 t8 t34_1 t36_1 w Q)))
def L4_0 (x1 x2 x7 x8 x9 x10 : Value) (w : World) (Q : Value → World → Prop) : Prop :=
  wpB (be Tryz.prog .eql 30 (.tmp 37) (.const (.pointer none)) x9 (.pointer none)) fun t38 =>
  wpB (gd t38 false (be Tryz.prog .eql 30 (.tmp 40) (.const (.pointer none)) (gv t38 false x10) (.pointer none))) fun t41 =>
  wpB (pickv t38 (some (.bool true)) (some t41)) fun t42 =>
  cnd t42
  (Q (.bool false) w)
  (CallR Tryz.prog 16 [x9, x1] w fun t45 w =>
  CallR Tryz.prog 16 [x10, x1] w fun t48 w =>
  wpB (nilv x9) fun t50 =>
  wpB (pureRun Tryz.prog (Instr.fieldAt 46 t50 1)) fun t51 =>
  wpB (ldv Tryz.prog 42 t51 w) fun t52 =>
  CallR Tryz.prog 11 [t52] w fun t53 w =>
  wpB (be Tryz.prog .eql 42 (.tmp 54) (.const (.pointer none)) t53 (.pointer none)) fun t55 =>
  wpB (gd t55 false (nilv (gv t55 false x9))) fun t59 =>
  wpB (gd t55 false (pureRun Tryz.prog (Instr.fieldAt 46 t59 1))) fun t60 =>
  wpB (gd t55 false (ldv Tryz.prog 42 t60 w.drew)) fun t61 =>
  gE t55 false (CallR Tryz.prog 12 [(gv t55 false t53), t61] w.drew) (fun t62 w =>
  wpB (gd t55 false (pureRun Tryz.prog (Op.unary .not t62))) fun t63 =>
  wpB (pickv t55 (some (.bool true)) (some t63)) fun t64 =>
  wpB (gd t64 false (nilv (gv t64 false x9))) fun t67 =>
  wpB (gd t64 false (pureRun Tryz.prog (Instr.fieldAt 46 t67 1))) fun t68 =>
  wpB (gd t64 false (ldv Tryz.prog 42 t68 w)) fun t69 =>
  gE t64 false (CallR Tryz.prog 12 [t69, (gv t64 false t53)] w) (fun t71 w =>
  wpB (gd t64 false (pureRun Tryz.prog (Op.unary .not t71))) fun t72 =>
  wpB (pickv t64 (some (.bool true)) (some t72)) fun t73 =>
  wpB (gd t73 false (nilv (gv t73 false x9))) fun t76 =>
  wpB (gd t73 false (pureRun Tryz.prog (Instr.fieldAt 46 t76 1))) fun t77 =>
  wpB (gd t73 false (ldv Tryz.prog 42 t77 w)) fun t78 =>
  wpB (gd t73 false (nilv (gv t73 false x10))) fun t80 =>
  wpB (gd t73 false (pureRun Tryz.prog (Instr.fieldAt 46 t80 1))) fun t81 =>
  wpB (gd t73 false (ldv Tryz.prog 42 t81 w)) fun t82 =>
  gE t73 false (CallR Tryz.prog 12 [t78, t82] w) (fun t83 w =>
  wpB (gd t73 false (pureRun Tryz.prog (Op.unary .not t83))) fun t84 =>
  wpB (pickv t73 (some (.bool true)) (some t84)) fun t85 =>
  cnd t85
  (Q (.bool false) w)
  (CallR Tryz.prog 17 [t53] w fun t87 w =>
  CallR Tryz.prog 18 [t53, (.int .i64 0)] w fun t89 w =>
  CallR Tryz.prog 16 [x9, x2] w fun t92 w =>
  wpB (ldv Tryz.prog 33 x8 w) fun t94 =>
  CallR Tryz.prog 19 [t94] w fun t95 w =>
  wpB (pureRun Tryz.prog (Instr.extract t95 0)) fun t96 =>
  wpB (pureRun Tryz.prog (Instr.extract t95 1)) fun t97 =>
  wpB (ldv Tryz.prog 33 x8 w) fun t98 =>
  effv Tryz.prog (Instr.alloc 33 true (.tuple #[])) w fun t16 w =>
  effu Tryz.prog (Instr.storeAt 33 t16 t98) w fun w =>
  wpB (pureRun Tryz.prog (Instr.fieldAt 33 t16 2)) fun t99 =>
  wpB (ldv Tryz.prog 3 t99 w) fun t100 =>
  wpB (bp Tryz.prog .add 3 t100 (.int .i64 8)) fun t101 =>
  wpB (pureRun Tryz.prog (Instr.fieldAt 33 t16 2)) fun t102 =>
  effu Tryz.prog (Instr.storeAt 3 t102 t101) w fun w =>
  wpB (ldv Tryz.prog 33 t16 w) fun t104 =>
  CallR Tryz.prog 20 [t104] w fun t105 w =>
  wpB (pureRun Tryz.prog (Instr.extract t105 0)) fun t106 =>
  wpB (pureRun Tryz.prog (Instr.extract t105 1)) fun t107 =>
  gE x7 true (CallR Tryz.prog 17 [(gv x7 true t53)] w) (fun t111 w =>
  wpB (gd x7 true (be Tryz.prog .eql 3 (.tmp 111) (.tmp 112) t111 (gv x7 true t87))) fun t113 =>
  wpB (pickv x7 (some t113) (some (.bool false))) fun t114 =>
  gE t114 true (CallR Tryz.prog 18 [(gv t114 true t53), (.int .i64 0)] w) (fun t117 w =>
  wpB (gd t114 true (be Tryz.prog .eql 3 (.tmp 117) (.tmp 118) t117 (gv t114 true t89))) fun t119 =>
  wpB (pickv t114 (some t119) (some (.bool false))) fun t120 =>
  wpB (gd t120 true (nilv (gv t120 true x10))) fun t124 =>
  wpB (gd t120 true (pureRun Tryz.prog (Instr.fieldAt 46 t124 1))) fun t125 =>
  wpB (gd t120 true (ldv Tryz.prog 42 t125 w)) fun t126 =>
  gE t120 true (CallR Tryz.prog 12 [(gv t120 true t53), t126] w) (fun t127 w =>
  wpB (pickv t120 (some t127) (some (.bool false))) fun t128 =>
  wpB (gd t128 true (be Tryz.prog .neq 42 (.tmp 130) (.const (.pointer none)) (gv t128 true t96) (.pointer none))) fun t131 =>
  wpB (pickv t128 (some t131) (some (.bool false))) fun t132 =>
  wpB (gd t132 true (be Tryz.prog .eql 23 (.tmp 134) (.const (.int .i64 0)) (gv t132 true t97) (.int .i64 0))) fun t135 =>
  wpB (pickv t132 (some t135) (some (.bool false))) fun t136 =>
  wpB (gd t136 true (be Tryz.prog .neq 42 (.tmp 138) (.const (.pointer none)) (gv t136 true t106) (.pointer none))) fun t139 =>
  wpB (pickv t136 (some t139) (some (.bool false))) fun t140 =>
  wpB (gd t140 true (be Tryz.prog .eql 23 (.tmp 142) (.const (.int .i64 0)) (gv t140 true t107) (.int .i64 0))) fun t143 =>
  wpB (pickv t140 (some t143) (some (.bool false))) fun t144 =>
  gE t144 true (CallR Tryz.prog 12 [(gv t144 true t53), (gv t144 true t96)] w) (fun t148 w =>
  wpB (gd t144 true (pureRun Tryz.prog (Op.unary .not t148))) fun t149 =>
  wpB (pickv t144 (some t149) (some (.bool false))) fun t150 =>
  gE t150 true (CallR Tryz.prog 12 [(gv t150 true t106), (gv t150 true t53)] w) (fun t154 w =>
  wpB (gd t150 true (pureRun Tryz.prog (Op.unary .not t154))) fun t155 =>
  wpB (pickv t150 (some t155) (some (.bool false))) fun t156 =>
  Q t156 w) w) w) w) w) w)) w) w) w.drew)
theorem F4_ok {a0 a1 a2 : Value} {w : World} {Q : Value → World → Prop} (h : F4 a0 a1 a2 w Q) : CallR Tryz.prog 4 [a0, a1, a2] w Q :=
  ah mixed ag Tryz.func4 (c := C4) rfl H4 (Nat.le_of_ble_eq_true rfl) (by kernel_rfl) h
theorem L4_0_ok {x1 x2 x7 x8 x9 x10 : Value} {w : World} {Q : Value → World → Prop} (h : L4_0 x1 x2 x7 x8 x9 x10 w Q) : P4_0 x1 x2 x7 x8 x9 x10 w Q :=
  ar mixed ag Tryz.func4 H4 (by kernel_rfl) h

noncomputable def C5 : Code := (Tryz.f5.body).getD .skip
noncomputable def H5 : Hints := ⟨[], [], []⟩
def F5 (w : World) (Q : Value → World → Prop) : Prop :=
  wpB (pureRun Tryz.prog (Instr.build 33 #[(0, (.int .i64 1)), (1, (.int .i64 1)), (2, (.int .i64 8)), (3, (.int .i64 1)), (5, (.int .i64 1))])) fun t9 =>
  CallR Tryz.prog 20 [t9] w fun t10 w =>
  wpB (pureRun Tryz.prog (Instr.extract t10 0)) fun t11 =>
  wpB (pureRun Tryz.prog (Instr.extract t10 1)) fun t12 =>
  wpB (be Tryz.prog .eql 42 (.tmp 13) (.const (.pointer none)) t11 (.pointer none)) fun t14 =>
  wpB (gd t14 false (be Tryz.prog .neq 23 (.tmp 16) (.const (.int .i64 0)) (gv t14 false t12) (.int .i64 0))) fun t17 =>
  wpB (pickv t14 (some (.bool true)) (some t17)) fun t18 =>
  cnd t18
  (Q (.bool false) w)
  (wpB (pureRun Tryz.prog (Instr.build 39 #[(0, (.int .i64 10))])) fun t21 =>
  wpB (pureRun Tryz.prog (Instr.build 25 #[])) fun t22 =>
  CallR Tryz.prog 13 [t11, (.int .i64 0), t21, t22] w fun t23 w =>
  wpB (pureRun Tryz.prog (Instr.extract t23 0)) fun t24 =>
  wpB (pureRun Tryz.prog (Instr.extract t23 1)) fun t25 =>
  effv Tryz.prog (Instr.alloc 28 true (.tuple #[])) w fun t3 w =>
  effu Tryz.prog (Instr.storeAt 28 t3 t24) w fun w =>
  wpB (pureRun Tryz.prog (Instr.build 25 #[(1, (.int .i64 1))])) fun t26 =>
  effv Tryz.prog (Instr.alloc 25 true (.tuple #[])) w fun t5 w =>
  effu Tryz.prog (Instr.storeAt 25 t5 t26) w fun w =>
  wpB (pureRun Tryz.prog (Instr.build 39 #[(0, (.int .i64 1))])) fun t28 =>
  wpB (pureRun Tryz.prog (Instr.build 25 #[])) fun t29 =>
  wpB (ldv Tryz.prog 25 t5 w) fun t30 =>
  wpB (pureRun Tryz.prog (Instr.build 28 #[(1, t30)])) fun t31 =>
  CallR Tryz.prog 10 [t11, (.int .i64 0), t28, t29, t31] w fun t32 w =>
  wpB (pureRun Tryz.prog (Instr.build 39 #[(0, (.int .i64 10))])) fun t34 =>
  wpB (ldv Tryz.prog 25 t5 w) fun t35 =>
  wpB (pureRun Tryz.prog (Instr.build 28 #[])) fun t36 =>
  CallR Tryz.prog 10 [t11, (.int .i64 0), t34, t35, t36] w fun t37 w =>
  wpB (gd t25 true (ldv Tryz.prog 28 t3 w)) fun t40 =>
  wpB (gd t25 true (pureRun Tryz.prog (Instr.build 28 #[(0, (.int .i64 2))]))) fun t41 =>
  wpB (gd t25 true (be Tryz.prog .eql 28 (.tmp 40) (.tmp 41) t40 t41)) fun t42 =>
  wpB (pickv t25 (some t42) (some (.bool false))) fun t43 =>
  wpB (pickv t43 (some (gv t43 true t32)) (some (.bool false))) fun t46 =>
  wpB (pickv t46 (some (gv t46 true t37)) (some (.bool false))) fun t49 =>
  gE t49 true (CallR Tryz.prog 17 [(gv t49 true t11)] w) (fun t52 w =>
  wpB (gd t49 true (be Tryz.prog .eql 3 (.tmp 52) (.const (.int .i64 0)) t52 (.int .i64 0))) fun t53 =>
  wpB (pickv t49 (some t53) (some (.bool false))) fun t54 =>
  gE t54 true (CallR Tryz.prog 21 [(gv t54 true t11), (.int .i64 0)] w) (fun t57 w =>
  wpB (pickv t54 (some t57) (some (.bool false))) fun t58 =>
  gE t58 true (CallR Tryz.prog 17 [(gv t58 true t11)] w) (fun t61 w =>
  wpB (gd t58 true (be Tryz.prog .eql 3 (.tmp 61) (.const (.int .i64 1)) t61 (.int .i64 1))) fun t62 =>
  wpB (pickv t58 (some t62) (some (.bool false))) fun t63 =>
  Q t63 w) w) w) w)
theorem F5_ok {w : World} {Q : Value → World → Prop} (h : F5  w Q) : CallR Tryz.prog 5 [] w Q :=
  ah mixed ag Tryz.func5 (c := C5) rfl H5 (Nat.le_of_ble_eq_true rfl) (by kernel_rfl) h

noncomputable def C6 : Code := (Tryz.f6.body).getD .skip
noncomputable def H6 : Hints := ⟨[], [(4, [1, 2, 5, 6])], [(6, (.ask 0 4 (.leaf [0, 1, 2, 3, 4, 5, 6, 7]) (.leaf [1, 3, 2, 4, 0, 5, 6, 7])))]⟩
noncomputable def T6_0 : List It := [.jn (nav [1, 1, 1] C6)]
def P6_0 (x1 x2 x5 x6 : Value) (w : World) (Q : Value → World → Prop) : Prop := Part Tryz.prog 6 T6_0 [1, 2, 5, 6] [x1, x2, x5, x6] w Q
def F6 (a0 a1 : Value) (w : World) (Q : Value → World → Prop) : Prop :=
  effv Tryz.prog (Instr.box 33 a0) w fun t2 w =>
  wpB (ldv Tryz.prog 33 t2 w) fun t8 =>
  CallR Tryz.prog 20 [t8] w fun t9 w =>
  wpB (pureRun Tryz.prog (Instr.extract t9 0)) fun t10 =>
  wpB (pureRun Tryz.prog (Instr.extract t9 1)) fun t11 =>
  cnd a1
  (wpB (ldv Tryz.prog 33 t2 w) fun t14 =>
  CallR Tryz.prog 19 [t14] w fun t15 w =>
  wpB (pureRun Tryz.prog (Instr.extract t15 0)) fun t16 =>
  wpB (pureRun Tryz.prog (Instr.extract t15 1)) fun t17 =>
  P6_0 a1 t2 t16 t17 w Q)
  (P6_0 a1 t2 t10 t11 w Q)
def L6_0 (x1 x2 x5 x6 : Value) (w : World) (Q : Value → World → Prop) : Prop :=
  wpB (be Tryz.prog .eql 42 (.tmp 18) (.const (.pointer none)) x5 (.pointer none)) fun t19 =>
  wpB (gd t19 false (be Tryz.prog .neq 23 (.tmp 21) (.const (.int .i64 0)) (gv t19 false x6) (.int .i64 0))) fun t22 =>
  wpB (pickv t19 (some (.bool true)) (some t22)) fun t23 =>
  cnd t23
  (Q (.pointer none) w)
  ((wpB (ldv Tryz.prog 33 x2 w.drew) fun t24 =>
  wpB (ldv Tryz.prog 33 x2 w.drew) fun t26 =>
  CallR Tryz.prog 22 [t26, x1] w.drew fun t28 w =>
  wpB (pureRun Tryz.prog (Instr.build 46 #[(0, t24), (1, x5), (2, t28)])) fun t29 =>
  effv Tryz.prog (Instr.box 46 t29) w fun t30 w =>
  Q t30 w) ∧
  (wpB (ldv Tryz.prog 33 x2 w.drew) fun t26_1 =>
  CallR Tryz.prog 22 [t26_1, x1] w.drew fun t28_1 w =>
  wpB (ldv Tryz.prog 33 x2 w) fun t24_1 =>
  wpB (pureRun Tryz.prog (Instr.build 46 #[(0, t24_1), (1, x5), (2, t28_1)])) fun t29_1 =>
  effv Tryz.prog (Instr.box 46 t29_1) w fun t30_1 w =>
  Q t30_1 w))
theorem F6_ok {a0 a1 : Value} {w : World} {Q : Value → World → Prop} (h : F6 a0 a1 w Q) : CallR Tryz.prog 6 [a0, a1] w Q :=
  ah mixed ag Tryz.func6 (c := C6) rfl H6 (Nat.le_of_ble_eq_true rfl) (by kernel_rfl) h
theorem L6_0_ok {x1 x2 x5 x6 : Value} {w : World} {Q : Value → World → Prop} (h : L6_0 x1 x2 x5 x6 w Q) : P6_0 x1 x2 x5 x6 w Q :=
  ar mixed ag Tryz.func6 H6 (by kernel_rfl) h

noncomputable def C10 : Code := (Tryz.f10.body).getD .skip
noncomputable def H10 : Hints := ⟨[], [(9, [])], []⟩
noncomputable def T10_0 : List It := [.jn (nav [1, 1, 0, 1, 1, 2, 1, 1] C10), .jn (nav [1, 1, 1] C10)]
def P10_0 (w : World) (Q : Value → World → Prop) : Prop := Part Tryz.prog 10 T10_0 [] [] w Q
def F10 (a0 a1 a2 a3 a4 : Value) (w : World) (Q : Value → World → Prop) : Prop :=
  effv Tryz.prog (Instr.box 39 a2) w fun t7 w =>
  effv Tryz.prog (Instr.box 25 a3) w fun t8 w =>
  effv Tryz.prog (Instr.box 28 a4) w fun t9 w =>
  wpB (ldv Tryz.prog 39 t7 w) fun t15 =>
  CallR Tryz.prog 30 [a0, a1, t15] w fun t16 w =>
  wpB (pureRun Tryz.prog (Op.unary .not t16)) fun t17 =>
  cnd t17
  (Q (.bool false) w)
  (wpB (ldv Tryz.prog 39 t7 w) fun t21 =>
  wpB (ldv Tryz.prog 25 t8 w) fun t22 =>
  CallR Tryz.prog 13 [a0, a1, t21, t22] w fun t23 w =>
  wpB (pureRun Tryz.prog (Instr.extract t23 0)) fun t24 =>
  wpB (pureRun Tryz.prog (Instr.extract t23 1)) fun t25 =>
  effv Tryz.prog (Instr.alloc 28 true (.tuple #[])) w fun t11 w =>
  effu Tryz.prog (Instr.storeAt 28 t11 t24) w fun w =>
  cnd t25
  (wpB (ldv Tryz.prog 28 t9 w) fun t27 =>
  wpB (ldv Tryz.prog 28 t11 w) fun t28 =>
  wpB (be Tryz.prog .neq 28 (.tmp 27) (.tmp 28) t27 t28) fun t29 =>
  cnd t29
  (Q (.bool false) w)
  (wpB (pureRun Tryz.prog (Instr.fieldAt 28 t9 0)) fun t30 =>
  wpB (ldv Tryz.prog 23 t30 w) fun t31 =>
  wpB (be Tryz.prog .eql 23 (.tmp 31) (.const (.int .i64 0)) t31 (.int .i64 0)) fun t32 =>
  cnd t32
  (wpB (ldv Tryz.prog 39 t7 w) fun t35 =>
  wpB (ldv Tryz.prog 25 t8 w) fun t36 =>
  CallR Tryz.prog 31 [a0, a1, t35, t36] w fun t37 w =>
  P10_0 w Q)
  (P10_0 w Q)))
  (wpB (pureRun Tryz.prog (Instr.fieldAt 39 t7 0)) fun t38 =>
  wpB (ldv Tryz.prog 3 t38 w) fun t39 =>
  wpB (be Tryz.prog .eql 3 (.tmp 39) (.const (.int .i64 1)) t39 (.int .i64 1)) fun t40 =>
  cnd t40
  (wpB (pureRun Tryz.prog (Instr.fieldAt 39 t7 3)) fun t42 =>
  wpB (ldv Tryz.prog 3 t42 w) fun t43 =>
  wpB (ldv Tryz.prog 28 t9 w) fun t44 =>
  CallR Tryz.prog 32 [a0, t43, t44] w fun t45 w =>
  Q t45 w)
  (wpB (pureRun Tryz.prog (Instr.fieldAt 39 t7 3)) fun t47 =>
  wpB (ldv Tryz.prog 3 t47 w) fun t48 =>
  wpB (ldv Tryz.prog 25 t8 w) fun t49 =>
  wpB (ldv Tryz.prog 28 t9 w) fun t50 =>
  CallR Tryz.prog 33 [a0, t48, t49, t50] w fun t51 w =>
  Q t51 w)))
def L10_0 (w : World) (Q : Value → World → Prop) : Prop :=
  Q (.bool true) w
theorem F10_ok {a0 a1 a2 a3 a4 : Value} {w : World} {Q : Value → World → Prop} (h : F10 a0 a1 a2 a3 a4 w Q) : CallR Tryz.prog 10 [a0, a1, a2, a3, a4] w Q :=
  ah mixed ag Tryz.func10 (c := C10) rfl H10 (Nat.le_of_ble_eq_true rfl) (by kernel_rfl) h
theorem L10_0_ok {w : World} {Q : Value → World → Prop} (h : L10_0  w Q) : P10_0  w Q :=
  ar mixed ag Tryz.func10 H10 (by kernel_rfl) h

noncomputable def C11 : Code := (Tryz.f11.body).getD .skip
noncomputable def H11 : Hints := ⟨[(5, [0, 3, 26, 27]), (11, [3, 51, 52]), (16, [3, 6, 51, 52, 86, 87, 88])], [(8, [0, 3, 26, 27]), (15, [3, 6, 51, 52]), (19, [3, 6, 51, 52, 86, 87, 88])], [(7, (.ask 1 9 (.leaf [0, 1, 2, 3, 4, 5, 6, 7, 8, 9, 10, 11, 12]) (.leaf [0, 2, 3, 5, 4, 6, 7, 8, 9, 1, 10, 11, 12]))), (14, (.ask 11 7 (.ask 16 7 (.leaf [0, 1, 2, 3, 4, 5, 8, 9, 10, 13, 14, 15, 6, 11, 16, 7, 12, 17, 18, 19, 20, 21, 22, 23, 24, 25, 26]) (.ask 16 12 (.leaf [0, 1, 2, 3, 4, 5, 8, 9, 10, 13, 14, 15, 6, 11, 7, 16, 12, 17, 18, 19, 20, 21, 22, 23, 24, 25, 26]) (.leaf [0, 1, 2, 3, 4, 5, 8, 9, 10, 13, 14, 15, 6, 11, 7, 12, 16, 17, 18, 19, 20, 21, 22, 23, 24, 25, 26]))) (.ask 16 7 (.leaf [0, 1, 2, 3, 4, 5, 8, 9, 10, 13, 14, 15, 6, 16, 7, 11, 12, 17, 18, 19, 20, 21, 22, 23, 24, 25, 26]) (.ask 16 12 (.leaf [0, 1, 2, 3, 4, 5, 8, 9, 10, 13, 14, 15, 6, 7, 11, 16, 12, 17, 18, 19, 20, 21, 22, 23, 24, 25, 26]) (.leaf [0, 1, 2, 3, 4, 5, 6, 7, 8, 9, 10, 11, 12, 13, 14, 15, 16, 17, 18, 19, 20, 21, 22, 23, 24, 25, 26]))))), (18, (.ask 3 6 (.leaf [0, 1, 2, 3, 4, 5, 6, 7, 8]) (.leaf [0, 1, 2, 4, 5, 6, 3, 7, 8])))]⟩
noncomputable def T11_0 : List It := [.lp (nav [1, 1, 1, 1, 0, 1, 4, 5] C11), .blk 0, .jn (nav [1, 1, 1, 1, 1] C11)]
noncomputable def T11_1 : List It := [.jn (nav [1, 1, 1, 1, 0, 1, 4, 5, 1, 1, 1] C11), .lp (nav [1, 1, 1, 1, 0, 1, 4, 5] C11), .blk 0, .jn (nav [1, 1, 1, 1, 1] C11)]
noncomputable def T11_2 : List It := [.lp (nav [1, 1, 1, 1, 1, 1, 0, 1, 4, 5] C11), .blk 2, .jn (nav [1, 1, 1, 1, 1, 1, 1] C11)]
noncomputable def T11_3 : List It := [.jn (nav [1, 1, 1, 1, 1, 1, 0, 1, 4, 5, 1, 1, 0, 4, 1, 1, 1] C11), .blk 3, .jn (nav [1, 1, 1, 1, 1, 1, 0, 1, 4, 5, 1, 1, 1] C11), .lp (nav [1, 1, 1, 1, 1, 1, 0, 1, 4, 5] C11), .blk 2, .jn (nav [1, 1, 1, 1, 1, 1, 1] C11)]
noncomputable def T11_4 : List It := [.lp (nav [1, 1, 1, 1, 1, 1, 0, 1, 4, 5, 1, 1, 0, 4, 1, 1, 1, 1, 4, 5] C11), .blk 4, .blk 3, .jn (nav [1, 1, 1, 1, 1, 1, 0, 1, 4, 5, 1, 1, 1] C11), .lp (nav [1, 1, 1, 1, 1, 1, 0, 1, 4, 5] C11), .blk 2, .jn (nav [1, 1, 1, 1, 1, 1, 1] C11)]
noncomputable def T11_5 : List It := [.jn (nav [1, 1, 1, 1, 1, 1, 0, 1, 4, 5, 1, 1, 0, 4, 1, 1, 1, 1, 4, 5, 1, 1, 1] C11), .lp (nav [1, 1, 1, 1, 1, 1, 0, 1, 4, 5, 1, 1, 0, 4, 1, 1, 1, 1, 4, 5] C11), .blk 4, .blk 3, .jn (nav [1, 1, 1, 1, 1, 1, 0, 1, 4, 5, 1, 1, 1] C11), .lp (nav [1, 1, 1, 1, 1, 1, 0, 1, 4, 5] C11), .blk 2, .jn (nav [1, 1, 1, 1, 1, 1, 1] C11)]
def P11_0 (x0 x3 x26 x27 : Value) (w : World) (Q : Value → World → Prop) : Prop := Part Tryz.prog 11 T11_0 [0, 3, 26, 27] [x0, x3, x26, x27] w Q
def P11_1 (x0 x3 x26 x27 : Value) (w : World) (Q : Value → World → Prop) : Prop := Part Tryz.prog 11 T11_1 [0, 3, 26, 27] [x0, x3, x26, x27] w Q
def P11_2 (x3 x51 x52 : Value) (w : World) (Q : Value → World → Prop) : Prop := Part Tryz.prog 11 T11_2 [3, 51, 52] [x3, x51, x52] w Q
def P11_3 (x3 x6 x51 x52 : Value) (w : World) (Q : Value → World → Prop) : Prop := Part Tryz.prog 11 T11_3 [3, 6, 51, 52] [x3, x6, x51, x52] w Q
def P11_4 (x3 x6 x51 x52 x86 x87 x88 : Value) (w : World) (Q : Value → World → Prop) : Prop := Part Tryz.prog 11 T11_4 [3, 6, 51, 52, 86, 87, 88] [x3, x6, x51, x52, x86, x87, x88] w Q
def P11_5 (x3 x6 x51 x52 x86 x87 x88 : Value) (w : World) (Q : Value → World → Prop) : Prop := Part Tryz.prog 11 T11_5 [3, 6, 51, 52, 86, 87, 88] [x3, x6, x51, x52, x86, x87, x88] w Q
def F11 (a0 : Value) (w : World) (Q : Value → World → Prop) : Prop :=
  wpB (nilv a0) fun t10 =>
  wpB (ldv Tryz.prog 74 t10 w) fun t11 =>
  effv Tryz.prog (Instr.alloc 74 true (.tuple #[])) w fun t3 w =>
  effu Tryz.prog (Instr.storeAt 74 t3 t11) w fun w =>
  wpB (nilv a0) fun t13 =>
  wpB (pureRun Tryz.prog (Instr.fieldAt 74 t13 2)) fun t14 =>
  wpB (ldv Tryz.prog 70 t14 w) fun t15 =>
  CallR Tryz.prog 34 [t15] w fun t16 w =>
  wpB (pureRun Tryz.prog (Instr.fieldAt 74 t3 2)) fun t17 =>
  effu Tryz.prog (Instr.storeAt 70 t17 t16) w fun w =>
  wpB (nilv a0) fun t19 =>
  wpB (pureRun Tryz.prog (Instr.fieldAt 74 t19 4)) fun t20 =>
  wpB (ldv Tryz.prog 72 t20 w) fun t21 =>
  CallR Tryz.prog 35 [t21] w fun t22 w =>
  wpB (pureRun Tryz.prog (Instr.fieldAt 74 t3 4)) fun t23 =>
  effu Tryz.prog (Instr.storeAt 72 t23 t22) w fun w =>
  wpB (pureRun Tryz.prog (Instr.fieldAt 74 t3 4)) fun t24 =>
  wpB (ldv Tryz.prog 72 t24 w) fun t25 =>
  wpB (pureRun Tryz.prog (Builtin.len_ #[72] 3 #[t25])) fun t26 =>
  P11_0 a0 t3 t26 (.int .i64 0) w Q
def L11_0 (x0 x3 x26 x27 : Value) (w : World) (Q : Value → World → Prop) : Prop :=
  wpB (bp Tryz.prog .lss 3 x27 x26) fun t28 =>
  cnd t28
  ((wpB (pureRun Tryz.prog (Instr.fieldAt 74 x3 4)) fun t30 =>
  wpB (ldv Tryz.prog 72 t30 w.drew) fun t31 =>
  wpB (pureRun Tryz.prog (Instr.fieldAt 74 x3 4)) fun t33 =>
  wpB (ldv Tryz.prog 72 t33 w.drew) fun t34 =>
  wpB (pureRun Tryz.prog (Instr.indexAt 72 t34 x27)) fun t36 =>
  wpB (pureRun Tryz.prog (Instr.fieldAt 81 t36 1)) fun t37 =>
  wpB (ldv Tryz.prog 79 t37 w.drew) fun t38 =>
  CallR Tryz.prog 36 [t38] w.drew fun t39 w =>
  wpB (pureRun Tryz.prog (Instr.indexAt 72 t31 x27)) fun t40 =>
  wpB (pureRun Tryz.prog (Instr.fieldAt 81 t40 1)) fun t41 =>
  effu Tryz.prog (Instr.storeAt 79 t41 t39) w fun w =>
  P11_1 x0 x3 x26 x27 w Q) ∧
  (wpB (pureRun Tryz.prog (Instr.fieldAt 74 x3 4)) fun t30_1 =>
  wpB (pureRun Tryz.prog (Instr.fieldAt 74 x3 4)) fun t33_1 =>
  wpB (ldv Tryz.prog 72 t33_1 w.drew) fun t34_1 =>
  wpB (pureRun Tryz.prog (Instr.indexAt 72 t34_1 x27)) fun t36_1 =>
  wpB (pureRun Tryz.prog (Instr.fieldAt 81 t36_1 1)) fun t37_1 =>
  wpB (ldv Tryz.prog 79 t37_1 w.drew) fun t38_1 =>
  CallR Tryz.prog 36 [t38_1] w.drew fun t39_1 w =>
  wpB (ldv Tryz.prog 72 t30_1 w) fun t31_1 =>
  wpB (pureRun Tryz.prog (Instr.indexAt 72 t31_1 x27)) fun t40_1 =>
  wpB (pureRun Tryz.prog (Instr.fieldAt 81 t40_1 1)) fun t41_1 =>
  effu Tryz.prog (Instr.storeAt 79 t41_1 t39_1) w fun w =>
  P11_1 x0 x3 x26 x27 w Q))
  (wpB (nilv x0) fun t44 =>
  wpB (pureRun Tryz.prog (Instr.fieldAt 74 t44 3)) fun t45 =>
  wpB (ldv Tryz.prog 71 t45 w) fun t46 =>
  CallR Tryz.prog 37 [t46] w fun t47 w =>
  wpB (pureRun Tryz.prog (Instr.fieldAt 74 x3 3)) fun t48 =>
  effu Tryz.prog (Instr.storeAt 71 t48 t47) w fun w =>
  wpB (pureRun Tryz.prog (Instr.fieldAt 74 x3 3)) fun t49 =>
  wpB (ldv Tryz.prog 71 t49 w) fun t50 =>
  wpB (pureRun Tryz.prog (Builtin.len_ #[71] 3 #[t50])) fun t51 =>
  P11_2 x3 t51 (.int .i64 0) w Q)
def L11_1 (x0 x3 x26 x27 : Value) (w : World) (Q : Value → World → Prop) : Prop :=
  wpB (bp Tryz.prog .add 3 x27 (.int .i64 1)) fun t42 =>
  P11_0 x0 x3 x26 t42 w Q
def L11_2 (x3 x51 x52 : Value) (w : World) (Q : Value → World → Prop) : Prop :=
  wpB (bp Tryz.prog .lss 3 x52 x51) fun t53 =>
  cnd t53
  (wpB (pureRun Tryz.prog (Instr.fieldAt 74 x3 3)) fun t55 =>
  wpB (ldv Tryz.prog 71 t55 w) fun t56 =>
  wpB (pureRun Tryz.prog (Instr.indexAt 71 t56 x52)) fun t58 =>
  ((wpB (nilv t58) fun t63 =>
  wpB (pureRun Tryz.prog (Instr.fieldAt 88 t63 3)) fun t64 =>
  wpB (nilv t58) fun t68 =>
  wpB (pureRun Tryz.prog (Instr.fieldAt 88 t68 5)) fun t69 =>
  wpB (nilv t58) fun t73 =>
  wpB (pureRun Tryz.prog (Instr.fieldAt 88 t73 4)) fun t74 =>
  wpB (ldv Tryz.prog 22 t64 w.drew) fun t65 =>
  wpB (ldv Tryz.prog 44 t69 w.drew) fun t70 =>
  wpB (ldv Tryz.prog 86 t74 w.drew) fun t75 =>
  CallR Tryz.prog 38 [t65] w.drew fun t66 w =>
  CallR Tryz.prog 39 [t70] w fun t71 w =>
  CallR Tryz.prog 40 [t75] w fun t76 w =>
  wpB (nilv t58) fun t77 =>
  wpB (pureRun Tryz.prog (Instr.fieldAt 88 t77 3)) fun t78 =>
  effu Tryz.prog (Instr.storeAt 22 t78 t66) w fun w =>
  wpB (nilv t58) fun t79 =>
  wpB (pureRun Tryz.prog (Instr.fieldAt 88 t79 5)) fun t80 =>
  effu Tryz.prog (Instr.storeAt 44 t80 t71) w fun w =>
  wpB (nilv t58) fun t81 =>
  wpB (pureRun Tryz.prog (Instr.fieldAt 88 t81 4)) fun t82 =>
  effu Tryz.prog (Instr.storeAt 86 t82 t76) w fun w =>
  P11_3 x3 t58 x51 x52 w Q) ∧
  ((wpB (nilv t58) fun t63_1 =>
  wpB (pureRun Tryz.prog (Instr.fieldAt 88 t63_1 3)) fun t64_1 =>
  wpB (nilv t58) fun t68_1 =>
  wpB (pureRun Tryz.prog (Instr.fieldAt 88 t68_1 5)) fun t69_1 =>
  wpB (nilv t58) fun t73_1 =>
  wpB (pureRun Tryz.prog (Instr.fieldAt 88 t73_1 4)) fun t74_1 =>
  wpB (ldv Tryz.prog 22 t64_1 w.drew) fun t65_1 =>
  wpB (ldv Tryz.prog 44 t69_1 w.drew) fun t70_1 =>
  CallR Tryz.prog 38 [t65_1] w.drew fun t66_1 w =>
  wpB (ldv Tryz.prog 86 t74_1 w) fun t75_1 =>
  CallR Tryz.prog 39 [t70_1] w fun t71_1 w =>
  CallR Tryz.prog 40 [t75_1] w fun t76_1 w =>
  wpB (nilv t58) fun t77_1 =>
  wpB (pureRun Tryz.prog (Instr.fieldAt 88 t77_1 3)) fun t78_1 =>
  effu Tryz.prog (Instr.storeAt 22 t78_1 t66_1) w fun w =>
  wpB (nilv t58) fun t79_1 =>
  wpB (pureRun Tryz.prog (Instr.fieldAt 88 t79_1 5)) fun t80_1 =>
  effu Tryz.prog (Instr.storeAt 44 t80_1 t71_1) w fun w =>
  wpB (nilv t58) fun t81_1 =>
  wpB (pureRun Tryz.prog (Instr.fieldAt 88 t81_1 4)) fun t82_1 =>
  effu Tryz.prog (Instr.storeAt 86 t82_1 t76_1) w fun w =>
  P11_3 x3 t58 x51 x52 w Q) ∧
  (wpB (nilv t58) fun t63_2 =>
  wpB (pureRun Tryz.prog (Instr.fieldAt 88 t63_2 3)) fun t64_2 =>
  wpB (nilv t58) fun t68_2 =>
  wpB (pureRun Tryz.prog (Instr.fieldAt 88 t68_2 5)) fun t69_2 =>
  wpB (nilv t58) fun t73_2 =>
  wpB (pureRun Tryz.prog (Instr.fieldAt 88 t73_2 4)) fun t74_2 =>
  wpB (ldv Tryz.prog 22 t64_2 w.drew) fun t65_2 =>
  wpB (ldv Tryz.prog 44 t69_2 w.drew) fun t70_2 =>
  CallR Tryz.prog 38 [t65_2] w.drew fun t66_2 w =>
  CallR Tryz.prog 39 [t70_2] w fun t71_2 w =>
  wpB (ldv Tryz.prog 86 t74_2 w) fun t75_2 =>
  CallR Tryz.prog 40 [t75_2] w fun t76_2 w =>
  wpB (nilv t58) fun t77_2 =>
  wpB (pureRun Tryz.prog (Instr.fieldAt 88 t77_2 3)) fun t78_2 =>
  effu Tryz.prog (Instr.storeAt 22 t78_2 t66_2) w fun w =>
  wpB (nilv t58) fun t79_2 =>
  wpB (pureRun Tryz.prog (Instr.fieldAt 88 t79_2 5)) fun t80_2 =>
  effu Tryz.prog (Instr.storeAt 44 t80_2 t71_2) w fun w =>
  wpB (nilv t58) fun t81_2 =>
  wpB (pureRun Tryz.prog (Instr.fieldAt 88 t81_2 4)) fun t82_2 =>
  effu Tryz.prog (Instr.storeAt 86 t82_2 t76_2) w fun w =>
  P11_3 x3 t58 x51 x52 w Q))) ∧
  ((wpB (nilv t58) fun t63_3 =>
  wpB (pureRun Tryz.prog (Instr.fieldAt 88 t63_3 3)) fun t64_3 =>
  wpB (nilv t58) fun t68_3 =>
  wpB (pureRun Tryz.prog (Instr.fieldAt 88 t68_3 5)) fun t69_3 =>
  wpB (nilv t58) fun t73_3 =>
  wpB (pureRun Tryz.prog (Instr.fieldAt 88 t73_3 4)) fun t74_3 =>
  wpB (ldv Tryz.prog 22 t64_3 w.drew) fun t65_3 =>
  wpB (ldv Tryz.prog 86 t74_3 w.drew) fun t75_3 =>
  CallR Tryz.prog 38 [t65_3] w.drew fun t66_3 w =>
  wpB (ldv Tryz.prog 44 t69_3 w) fun t70_3 =>
  CallR Tryz.prog 39 [t70_3] w fun t71_3 w =>
  CallR Tryz.prog 40 [t75_3] w fun t76_3 w =>
  wpB (nilv t58) fun t77_3 =>
  wpB (pureRun Tryz.prog (Instr.fieldAt 88 t77_3 3)) fun t78_3 =>
  effu Tryz.prog (Instr.storeAt 22 t78_3 t66_3) w fun w =>
  wpB (nilv t58) fun t79_3 =>
  wpB (pureRun Tryz.prog (Instr.fieldAt 88 t79_3 5)) fun t80_3 =>
  effu Tryz.prog (Instr.storeAt 44 t80_3 t71_3) w fun w =>
  wpB (nilv t58) fun t81_3 =>
  wpB (pureRun Tryz.prog (Instr.fieldAt 88 t81_3 4)) fun t82_3 =>
  effu Tryz.prog (Instr.storeAt 86 t82_3 t76_3) w fun w =>
  P11_3 x3 t58 x51 x52 w Q) ∧
  ((wpB (nilv t58) fun t63_4 =>
  wpB (pureRun Tryz.prog (Instr.fieldAt 88 t63_4 3)) fun t64_4 =>
  wpB (nilv t58) fun t68_4 =>
  wpB (pureRun Tryz.prog (Instr.fieldAt 88 t68_4 5)) fun t69_4 =>
  wpB (nilv t58) fun t73_4 =>
  wpB (pureRun Tryz.prog (Instr.fieldAt 88 t73_4 4)) fun t74_4 =>
  wpB (ldv Tryz.prog 22 t64_4 w.drew) fun t65_4 =>
  CallR Tryz.prog 38 [t65_4] w.drew fun t66_4 w =>
  wpB (ldv Tryz.prog 44 t69_4 w) fun t70_4 =>
  wpB (ldv Tryz.prog 86 t74_4 w) fun t75_4 =>
  CallR Tryz.prog 39 [t70_4] w fun t71_4 w =>
  CallR Tryz.prog 40 [t75_4] w fun t76_4 w =>
  wpB (nilv t58) fun t77_4 =>
  wpB (pureRun Tryz.prog (Instr.fieldAt 88 t77_4 3)) fun t78_4 =>
  effu Tryz.prog (Instr.storeAt 22 t78_4 t66_4) w fun w =>
  wpB (nilv t58) fun t79_4 =>
  wpB (pureRun Tryz.prog (Instr.fieldAt 88 t79_4 5)) fun t80_4 =>
  effu Tryz.prog (Instr.storeAt 44 t80_4 t71_4) w fun w =>
  wpB (nilv t58) fun t81_4 =>
  wpB (pureRun Tryz.prog (Instr.fieldAt 88 t81_4 4)) fun t82_4 =>
  effu Tryz.prog (Instr.storeAt 86 t82_4 t76_4) w fun w =>
  P11_3 x3 t58 x51 x52 w Q) ∧
  (wpB (nilv t58) fun t63_5 =>
  wpB (pureRun Tryz.prog (Instr.fieldAt 88 t63_5 3)) fun t64_5 =>
  wpB (ldv Tryz.prog 22 t64_5 w.drew) fun t65_5 =>
  CallR Tryz.prog 38 [t65_5] w.drew fun t66_5 w =>
  wpB (nilv t58) fun t68_5 =>
  wpB (pureRun Tryz.prog (Instr.fieldAt 88 t68_5 5)) fun t69_5 =>
  wpB (ldv Tryz.prog 44 t69_5 w) fun t70_5 =>
  CallR Tryz.prog 39 [t70_5] w fun t71_5 w =>
  wpB (nilv t58) fun t73_5 =>
  wpB (pureRun Tryz.prog (Instr.fieldAt 88 t73_5 4)) fun t74_5 =>
  wpB (ldv Tryz.prog 86 t74_5 w) fun t75_5 =>
  CallR Tryz.prog 40 [t75_5] w fun t76_5 w =>
  wpB (nilv t58) fun t77_5 =>
  wpB (pureRun Tryz.prog (Instr.fieldAt 88 t77_5 3)) fun t78_5 =>
  effu Tryz.prog (Instr.storeAt 22 t78_5 t66_5) w fun w =>
  wpB (nilv t58) fun t79_5 =>
  wpB (pureRun Tryz.prog (Instr.fieldAt 88 t79_5 5)) fun t80_5 =>
  effu Tryz.prog (Instr.storeAt 44 t80_5 t71_5) w fun w =>
  wpB (nilv t58) fun t81_5 =>
  wpB (pureRun Tryz.prog (Instr.fieldAt 88 t81_5 4)) fun t82_5 =>
  effu Tryz.prog (Instr.storeAt 86 t82_5 t76_5) w fun w =>
  P11_3 x3 t58 x51 x52 w Q))))
  (Q x3 w)
def L11_3 (x3 x6 x51 x52 : Value) (w : World) (Q : Value → World → Prop) : Prop :=
  wpB (nilv x6) fun t84 =>
  wpB (pureRun Tryz.prog (Instr.fieldAt 88 t84 4)) fun t85 =>
  wpB (ldv Tryz.prog 86 t85 w) fun t86 =>
  wpB (pureRun Tryz.prog (Builtin.len_ #[86] 3 #[t86])) fun t87 =>
  P11_4 x3 x6 x51 x52 t86 t87 (.int .i64 0) w Q
def L11_4 (x3 x6 x51 x52 x86 x87 x88 : Value) (w : World) (Q : Value → World → Prop) : Prop :=
  wpB (bp Tryz.prog .lss 3 x88 x87) fun t89 =>
  cnd t89
  (wpB (pureRun Tryz.prog (Instr.indexAt 86 x86 x88)) fun t91 =>
  wpB (ldv Tryz.prog 93 t91 w) fun t92 =>
  (wpB (nilv x6) fun t94 =>
  wpB (pureRun Tryz.prog (Instr.fieldAt 88 t94 4)) fun t95 =>
  wpB (ldv Tryz.prog 86 t95 w.drew) fun t96 =>
  CallR Tryz.prog 41 [t92] w.drew fun t99 w =>
  wpB (pureRun Tryz.prog (Instr.indexAt 86 t96 x88)) fun t100 =>
  effu Tryz.prog (Instr.storeAt 93 t100 t99) w fun w =>
  P11_5 x3 x6 x51 x52 x86 x87 x88 w Q) ∧
  (wpB (nilv x6) fun t94_1 =>
  wpB (pureRun Tryz.prog (Instr.fieldAt 88 t94_1 4)) fun t95_1 =>
  CallR Tryz.prog 41 [t92] w.drew fun t99_1 w =>
  wpB (ldv Tryz.prog 86 t95_1 w) fun t96_1 =>
  wpB (pureRun Tryz.prog (Instr.indexAt 86 t96_1 x88)) fun t100_1 =>
  effu Tryz.prog (Instr.storeAt 93 t100_1 t99_1) w fun w =>
  P11_5 x3 x6 x51 x52 x86 x87 x88 w Q))
  (wpB (bp Tryz.prog .add 3 x52 (.int .i64 1)) fun t102 =>
  P11_2 x3 x51 t102 w Q)
def L11_5 (x3 x6 x51 x52 x86 x87 x88 : Value) (w : World) (Q : Value → World → Prop) : Prop :=
  wpB (bp Tryz.prog .add 3 x88 (.int .i64 1)) fun t101 =>
  P11_4 x3 x6 x51 x52 x86 x87 t101 w Q
theorem F11_ok {a0 : Value} {w : World} {Q : Value → World → Prop} (h : F11 a0 w Q) : CallR Tryz.prog 11 [a0] w Q :=
  ah mixed ag Tryz.func11 (c := C11) rfl H11 (Nat.le_of_ble_eq_true rfl) (by kernel_rfl) h
theorem L11_0_ok {x0 x3 x26 x27 : Value} {w : World} {Q : Value → World → Prop} (h : L11_0 x0 x3 x26 x27 w Q) : P11_0 x0 x3 x26 x27 w Q :=
  aQ mixed ag Tryz.func11 H11 (by kernel_rfl) h
theorem L11_1_ok {x0 x3 x26 x27 : Value} {w : World} {Q : Value → World → Prop} (h : L11_1 x0 x3 x26 x27 w Q) : P11_1 x0 x3 x26 x27 w Q :=
  ar mixed ag Tryz.func11 H11 (by kernel_rfl) h
theorem L11_2_ok {x3 x51 x52 : Value} {w : World} {Q : Value → World → Prop} (h : L11_2 x3 x51 x52 w Q) : P11_2 x3 x51 x52 w Q :=
  aQ mixed ag Tryz.func11 H11 (by kernel_rfl) h
theorem L11_3_ok {x3 x6 x51 x52 : Value} {w : World} {Q : Value → World → Prop} (h : L11_3 x3 x6 x51 x52 w Q) : P11_3 x3 x6 x51 x52 w Q :=
  ar mixed ag Tryz.func11 H11 (by kernel_rfl) h
theorem L11_4_ok {x3 x6 x51 x52 x86 x87 x88 : Value} {w : World} {Q : Value → World → Prop} (h : L11_4 x3 x6 x51 x52 x86 x87 x88 w Q) : P11_4 x3 x6 x51 x52 x86 x87 x88 w Q :=
  aQ mixed ag Tryz.func11 H11 (by kernel_rfl) h
theorem L11_5_ok {x3 x6 x51 x52 x86 x87 x88 : Value} {w : World} {Q : Value → World → Prop} (h : L11_5 x3 x6 x51 x52 x86 x87 x88 w Q) : P11_5 x3 x6 x51 x52 x86 x87 x88 w Q :=
  ar mixed ag Tryz.func11 H11 (by kernel_rfl) h

noncomputable def C13 : Code := (Tryz.f13.body).getD .skip
noncomputable def H13 : Hints := ⟨[], [(9, [0, 6, 7, 8, 10, 28, 29]), (12, [0, 6, 7, 8, 10, 28, 33]), (15, [8, 10, 55]), (18, [8, 10])], [(14, (.ask 8 4 (.leaf [0, 2, 7, 1, 3, 8, 4, 5, 6, 9]) (.leaf [0, 1, 2, 3, 4, 5, 6, 7, 8, 9])))]⟩
noncomputable def T13_0 : List It := [.jn (nav [1, 1, 1, 1, 0, 1, 4, 1] C13), .blk 0, .jn (nav [1, 1, 1, 1, 1] C13)]
noncomputable def T13_1 : List It := [.jn (nav [1, 1, 1, 1, 0, 1, 4, 1, 3, 1] C13), .blk 0, .jn (nav [1, 1, 1, 1, 1] C13)]
noncomputable def T13_2 : List It := [.jn (nav [1, 1, 1, 1, 1] C13)]
noncomputable def T13_3 : List It := [.jn (nav [1, 1, 1, 1, 0, 1, 4, 1, 3, 1, 3, 1, 2, 1] C13), .blk 0, .jn (nav [1, 1, 1, 1, 1] C13)]
def P13_0 (x0 x6 x7 x8 x10 x28 x29 : Value) (w : World) (Q : Value → World → Prop) : Prop := Part Tryz.prog 13 T13_0 [0, 6, 7, 8, 10, 28, 29] [x0, x6, x7, x8, x10, x28, x29] w Q
def P13_1 (x0 x6 x7 x8 x10 x28 x33 : Value) (w : World) (Q : Value → World → Prop) : Prop := Part Tryz.prog 13 T13_1 [0, 6, 7, 8, 10, 28, 33] [x0, x6, x7, x8, x10, x28, x33] w Q
def P13_2 (x8 x10 : Value) (w : World) (Q : Value → World → Prop) : Prop := Part Tryz.prog 13 T13_2 [8, 10] [x8, x10] w Q
def P13_3 (x8 x10 x55 : Value) (w : World) (Q : Value → World → Prop) : Prop := Part Tryz.prog 13 T13_3 [8, 10, 55] [x8, x10, x55] w Q
def F13 (a0 a1 a2 a3 : Value) (w : World) (Q : Value → World → Prop) : Prop :=
  effv Tryz.prog (Instr.box 39 a2) w fun t6 w =>
  effv Tryz.prog (Instr.box 25 a3) w fun t7 w =>
  effv Tryz.prog (Instr.alloc 28 true (.tuple #[])) w fun t8 w =>
  wpB (ldv Tryz.prog 39 t6 w) fun t13 =>
  CallR Tryz.prog 30 [a0, a1, t13] w fun t14 w =>
  wpB (pureRun Tryz.prog (Op.unary .not t14)) fun t15 =>
  cnd t15
  (wpB (pureRun Tryz.prog (Instr.build 28 #[])) fun t16 =>
  effu Tryz.prog (Instr.storeAt 28 t8 t16) w fun w =>
  wpB (ldv Tryz.prog 28 t8 w) fun r8 => Q (.tuple #[r8, (.bool false)]) w)
  (wpB (ldv Tryz.prog 39 t6 w) fun t19 =>
  wpB (ldv Tryz.prog 25 t7 w) fun t20 =>
  CallR Tryz.prog 47 [a0, a1, t19, t20] w fun t21 w =>
  wpB (pureRun Tryz.prog (Instr.build 28 #[(0, t21)])) fun t22 =>
  effv Tryz.prog (Instr.alloc 28 true (.tuple #[])) w fun t10 w =>
  effu Tryz.prog (Instr.storeAt 28 t10 t22) w fun w =>
  wpB (pureRun Tryz.prog (Instr.fieldAt 28 t10 0)) fun t23 =>
  wpB (ldv Tryz.prog 23 t23 w) fun t24 =>
  wpB (be Tryz.prog .neq 23 (.tmp 24) (.const (.int .i64 0)) t24 (.int .i64 0)) fun t25 =>
  cnd t25
  (wpB (ldv Tryz.prog 28 t10 w) fun t26 =>
  effu Tryz.prog (Instr.storeAt 28 t8 t26) w fun w =>
  wpB (ldv Tryz.prog 28 t8 w) fun r8_1 => Q (.tuple #[r8_1, (.bool true)]) w)
  (wpB (pureRun Tryz.prog (Instr.fieldAt 39 t6 0)) fun t27 =>
  wpB (ldv Tryz.prog 3 t27 w) fun t28 =>
  wpB (be Tryz.prog .eql 3 (.tmp 28) (.const (.int .i64 1)) t28 (.int .i64 1)) fun t30 =>
  cnd t30
  (P13_0 a0 t6 t7 t8 t10 t28 t30 w Q)
  (wpB (be Tryz.prog .eql 3 (.tmp 28) (.const (.int .i64 2)) t28 (.int .i64 2)) fun t31 =>
  P13_0 a0 t6 t7 t8 t10 t28 t31 w Q)))
def L13_0 (x0 x6 x7 x8 x10 x28 x29 : Value) (w : World) (Q : Value → World → Prop) : Prop :=
  cnd x29
  (wpB (pureRun Tryz.prog (Instr.build 28 #[])) fun t32 =>
  effu Tryz.prog (Instr.storeAt 28 x8 t32) w fun w =>
  wpB (ldv Tryz.prog 28 x8 w) fun r8 => Q (.tuple #[r8, (.bool false)]) w)
  (wpB (be Tryz.prog .eql 3 (.tmp 28) (.const (.int .i64 6)) x28 (.int .i64 6)) fun t34 =>
  cnd t34
  (P13_1 x0 x6 x7 x8 x10 x28 t34 w Q)
  (wpB (be Tryz.prog .eql 3 (.tmp 28) (.const (.int .i64 8)) x28 (.int .i64 8)) fun t35 =>
  P13_1 x0 x6 x7 x8 x10 x28 t35 w Q))
def L13_1 (x0 x6 x7 x8 x10 x28 x33 : Value) (w : World) (Q : Value → World → Prop) : Prop :=
  cnd x33
  (wpB (ldv Tryz.prog 25 x7 w) fun t37 =>
  wpB (pureRun Tryz.prog (Instr.fieldAt 39 x6 3)) fun t38 =>
  wpB (ldv Tryz.prog 3 t38 w) fun t39 =>
  CallR Tryz.prog 48 [x0, t37, t39] w fun t40 w =>
  wpB (nilv t40) fun t41 =>
  wpB (ldv Tryz.prog 26 t41 w) fun t42 =>
  wpB (pureRun Tryz.prog (Instr.fieldAt 28 x10 3)) fun t43 =>
  effu Tryz.prog (Instr.storeAt 26 t43 t42) w fun w =>
  P13_2 x8 x10 w Q)
  (wpB (be Tryz.prog .eql 3 (.tmp 28) (.const (.int .i64 9)) x28 (.int .i64 9)) fun t45 =>
  cnd t45
  ((wpB (pureRun Tryz.prog (Instr.fieldAt 39 x6 3)) fun t48 =>
  wpB (pureRun Tryz.prog (Instr.fieldAt 39 x6 4)) fun t53 =>
  wpB (ldv Tryz.prog 25 x7 w.drew) fun t47 =>
  wpB (ldv Tryz.prog 3 t48 w.drew) fun t49 =>
  wpB (ldv Tryz.prog 26 t53 w.drew) fun t54 =>
  CallR Tryz.prog 48 [x0, t47, t49] w.drew fun t50 w =>
  wpB (nilv t50) fun t51 =>
  wpB (ldv Tryz.prog 26 t51 w) fun t52 =>
  wpB (be Tryz.prog .eql 26 (.tmp 52) (.tmp 54) t52 t54) fun t55 =>
  P13_3 x8 x10 t55 w Q) ∧
  (wpB (ldv Tryz.prog 25 x7 w.drew) fun t47_1 =>
  wpB (pureRun Tryz.prog (Instr.fieldAt 39 x6 3)) fun t48_1 =>
  wpB (ldv Tryz.prog 3 t48_1 w.drew) fun t49_1 =>
  CallR Tryz.prog 48 [x0, t47_1, t49_1] w.drew fun t50_1 w =>
  wpB (nilv t50_1) fun t51_1 =>
  wpB (ldv Tryz.prog 26 t51_1 w) fun t52_1 =>
  wpB (pureRun Tryz.prog (Instr.fieldAt 39 x6 4)) fun t53_1 =>
  wpB (ldv Tryz.prog 26 t53_1 w) fun t54_1 =>
  wpB (be Tryz.prog .eql 26 (.tmp 52) (.tmp 54) t52_1 t54_1) fun t55_1 =>
  P13_3 x8 x10 t55_1 w Q))
  (wpB (be Tryz.prog .eql 3 (.tmp 28) (.const (.int .i64 12)) x28 (.int .i64 12)) fun t58 =>
  cnd t58
  (wpB (ldv Tryz.prog 25 x7 w) fun t60 =>
  CallR Tryz.prog 49 [t60] w fun t61 w =>
  CallR Tryz.prog 44 [x0, t61] w fun t62 w =>
  wpB (nilv t62) fun t63 =>
  wpB (pureRun Tryz.prog (Instr.fieldAt 88 t63 2)) fun t64 =>
  wpB (ldv Tryz.prog 3 t64 w) fun t65 =>
  wpB (pureRun Tryz.prog (Instr.fieldAt 28 x10 2)) fun t66 =>
  effu Tryz.prog (Instr.storeAt 3 t66 t65) w fun w =>
  P13_2 x8 x10 w Q)
  (P13_2 x8 x10 w Q)))
def L13_2 (x8 x10 : Value) (w : World) (Q : Value → World → Prop) : Prop :=
  wpB (ldv Tryz.prog 28 x10 w) fun t67 =>
  effu Tryz.prog (Instr.storeAt 28 x8 t67) w fun w =>
  wpB (ldv Tryz.prog 28 x8 w) fun r8 => Q (.tuple #[r8, (.bool true)]) w
def L13_3 (x8 x10 x55 : Value) (w : World) (Q : Value → World → Prop) : Prop :=
  cnd x55
  (wpB (pureRun Tryz.prog (Instr.fieldAt 28 x10 2)) fun t56 =>
  effu Tryz.prog (Instr.storeAt 3 t56 (.int .i64 1)) w fun w =>
  P13_2 x8 x10 w Q)
  (P13_2 x8 x10 w Q)
theorem F13_ok {a0 a1 a2 a3 : Value} {w : World} {Q : Value → World → Prop} (h : F13 a0 a1 a2 a3 w Q) : CallR Tryz.prog 13 [a0, a1, a2, a3] w Q :=
  ah mixed ag Tryz.func13 (c := C13) rfl H13 (Nat.le_of_ble_eq_true rfl) (by kernel_rfl) h
theorem L13_0_ok {x0 x6 x7 x8 x10 x28 x29 : Value} {w : World} {Q : Value → World → Prop} (h : L13_0 x0 x6 x7 x8 x10 x28 x29 w Q) : P13_0 x0 x6 x7 x8 x10 x28 x29 w Q :=
  ar mixed ag Tryz.func13 H13 (by kernel_rfl) h
theorem L13_1_ok {x0 x6 x7 x8 x10 x28 x33 : Value} {w : World} {Q : Value → World → Prop} (h : L13_1 x0 x6 x7 x8 x10 x28 x33 w Q) : P13_1 x0 x6 x7 x8 x10 x28 x33 w Q :=
  ar mixed ag Tryz.func13 H13 (by kernel_rfl) h
theorem L13_2_ok {x8 x10 : Value} {w : World} {Q : Value → World → Prop} (h : L13_2 x8 x10 w Q) : P13_2 x8 x10 w Q :=
  ar mixed ag Tryz.func13 H13 (by kernel_rfl) h
theorem L13_3_ok {x8 x10 x55 : Value} {w : World} {Q : Value → World → Prop} (h : L13_3 x8 x10 x55 w Q) : P13_3 x8 x10 x55 w Q :=
  ar mixed ag Tryz.func13 H13 (by kernel_rfl) h

noncomputable def C16 : Code := (Tryz.f16.body).getD .skip
noncomputable def H16 : Hints := ⟨[(2, [0, 1, 4, 5])], [(8, [0, 1, 4, 5, 6, 7, 8, 9])], [(6, (.leaf [0, 1, 2, 3, 4, 5, 6, 7, 8, 9, 10, 11, 12, 13, 14])), (7, (.leaf [0, 1, 2, 3, 4, 5, 6, 7, 8, 9, 10, 11])), (8, (.leaf [0, 1, 2, 3, 4, 5, 6, 7, 8]))]⟩
noncomputable def T16_0 : List It := [.lp (nav [1, 1, 4, 5] C16), .blk 0]
noncomputable def T16_1 : List It := [.jn (nav [1, 1, 4, 5, 1, 0, 4, 1, 1, 1] C16), .blk 1, .jn (nav [1, 1, 4, 5, 1, 1] C16), .lp (nav [1, 1, 4, 5] C16), .blk 0]
def P16_0 (x0 x1 x4 x5 : Value) (w : World) (Q : Value → World → Prop) : Prop := Part Tryz.prog 16 T16_0 [0, 1, 4, 5] [x0, x1, x4, x5] w Q
def P16_1 (x0 x1 x4 x5 x6 x7 x8 x9 : Value) (w : World) (Q : Value → World → Prop) : Prop := Part Tryz.prog 16 T16_1 [0, 1, 4, 5, 6, 7, 8, 9] [x0, x1, x4, x5, x6, x7, x8, x9] w Q
def F16 (a0 a1 : Value) (w : World) (Q : Value → World → Prop) : Prop :=
  wpB (pureRun Tryz.prog (Instr.build 37 #[(0, a1)])) fun t11 =>
  effv Tryz.prog (Instr.box 37 t11) w fun t12 w =>
  P16_0 a0 a1 t12 (.int .i64 0) w Q
def L16_0 (x0 x1 x4 x5 : Value) (w : World) (Q : Value → World → Prop) : Prop :=
  wpB (bp Tryz.prog .lss 3 x5 (.int .i64 40)) fun t14 =>
  wpB (gd t14 true (nilv (gv t14 true x4))) fun t17 =>
  wpB (gd t14 true (pureRun Tryz.prog (Instr.fieldAt 37 t17 1))) fun t18 =>
  wpB (gd t14 true (ldv Tryz.prog 3 t18 w)) fun t19 =>
  wpB (gd t14 true (pureRun Tryz.prog (Builtin.len_ #[22] 3 #[(gv t14 true x1)]))) fun t21 =>
  wpB (gd t14 true (bp Tryz.prog .lss 3 t19 t21)) fun t22 =>
  wpB (pickv t14 (some t22) (some (.bool false))) fun t23 =>
  cnd t23
  (CallR Tryz.prog 8 [x0, x4] w fun t29 w =>
  wpB (pureRun Tryz.prog (Instr.extract t29 0)) fun t30 =>
  wpB (pureRun Tryz.prog (Instr.extract t29 1)) fun t31 =>
  wpB (pureRun Tryz.prog (Instr.extract t29 2)) fun t32 =>
  effv Tryz.prog (Instr.alloc 39 true (.tuple #[])) w fun t7 w =>
  effv Tryz.prog (Instr.alloc 25 true (.tuple #[])) w fun t8 w =>
  effu Tryz.prog (Instr.storeAt 39 t7 t31) w fun w =>
  effu Tryz.prog (Instr.storeAt 25 t8 t32) w fun w =>
  wpB (ldv Tryz.prog 39 t7 w) fun t36 =>
  wpB (ldv Tryz.prog 25 t8 w) fun t37 =>
  CallR Tryz.prog 14 [x0, x4, t30, t36, t37] w fun t38 w =>
  effv Tryz.prog (Instr.alloc 28 true (.tuple #[])) w fun t9 w =>
  effu Tryz.prog (Instr.storeAt 28 t9 t38) w fun w =>
  wpB (nilv x0) fun t40 =>
  wpB (pureRun Tryz.prog (Instr.fieldAt 46 t40 2)) fun t41 =>
  wpB (ldv Tryz.prog 43 t41 w.drew) fun t42 =>
  wpB (ldv Tryz.prog 39 t7 w.drew) fun t44 =>
  wpB (ldv Tryz.prog 25 t8 w.drew) fun t45 =>
  wpB (ldv Tryz.prog 28 t9 w.drew) fun t46 =>
  CallR Tryz.prog 15 [t42, t30, t44, t45, t46] w.drew fun t47 w =>
  wpB (gd t47 true (pureRun Tryz.prog (Instr.fieldAt 28 t9 1))) fun t49 =>
  wpB (gd t47 true (pureRun Tryz.prog (Instr.fieldAt 25 t49 1))) fun t50 =>
  wpB (gd t47 true (ldv Tryz.prog 3 t50 w)) fun t51 =>
  wpB (gd t47 true (bp Tryz.prog .gtr 3 t51 (.int .i64 0))) fun t52 =>
  wpB (pickv t47 (some t52) (some (.bool false))) fun t53 =>
  cnd t53
  (wpB (nilv x0) fun t56 =>
  wpB (pureRun Tryz.prog (Instr.fieldAt 46 t56 3)) fun t57 =>
  wpB (ldv Tryz.prog 44 t57 w.drew) fun t58 =>
  wpB (pureRun Tryz.prog (Instr.fieldAt 28 t9 1)) fun t59 =>
  wpB (ldv Tryz.prog 25 t59 w.drew) fun t60 =>
  effv Tryz.prog (Instr.buildSlice 44 1 #[(0, t60)]) w.drew fun t61 w =>
  effv Tryz.prog (Builtin.append_ #[44, 44] 44 #[t58, t61]) w fun t62 w =>
  wpB (nilv x0) fun t63 =>
  wpB (pureRun Tryz.prog (Instr.fieldAt 46 t63 3)) fun t64 =>
  effu Tryz.prog (Instr.storeAt 44 t64 t62) w fun w =>
  P16_1 x0 x1 x4 x5 t30 t7 t8 t9 w Q)
  (P16_1 x0 x1 x4 x5 t30 t7 t8 t9 w Q))
  (Q (.tuple #[]) w)
def L16_1 (x0 x1 x4 x5 x6 x7 x8 x9 : Value) (w : World) (Q : Value → World → Prop) : Prop :=
  wpB (nilv x0) fun t66 =>
  wpB (pureRun Tryz.prog (Instr.fieldAt 46 t66 1)) fun t67 =>
  wpB (ldv Tryz.prog 42 t67 w.drew) fun t68 =>
  wpB (ldv Tryz.prog 39 x7 w.drew) fun t70 =>
  wpB (ldv Tryz.prog 25 x8 w.drew) fun t71 =>
  wpB (ldv Tryz.prog 28 x9 w.drew) fun t72 =>
  CallR Tryz.prog 10 [t68, x6, t70, t71, t72] w.drew fun t73 w =>
  wpB (bp Tryz.prog .add 3 x5 (.int .i64 1)) fun t25 =>
  P16_0 x0 x1 x4 t25 w Q
theorem F16_ok {a0 a1 : Value} {w : World} {Q : Value → World → Prop} (h : F16 a0 a1 w Q) : CallR Tryz.prog 16 [a0, a1] w Q :=
  ah mixed ag Tryz.func16 (c := C16) rfl H16 (Nat.le_of_ble_eq_true rfl) (by kernel_rfl) h
theorem L16_0_ok {x0 x1 x4 x5 : Value} {w : World} {Q : Value → World → Prop} (h : L16_0 x0 x1 x4 x5 w Q) : P16_0 x0 x1 x4 x5 w Q :=
  aQ mixed ag Tryz.func16 H16 (by kernel_rfl) h
theorem L16_1_ok {x0 x1 x4 x5 x6 x7 x8 x9 : Value} {w : World} {Q : Value → World → Prop} (h : L16_1 x0 x1 x4 x5 x6 x7 x8 x9 w Q) : P16_1 x0 x1 x4 x5 x6 x7 x8 x9 w Q :=
  ar mixed ag Tryz.func16 H16 (by kernel_rfl) h

noncomputable def C17 : Code := (Tryz.f17.body).getD .skip
noncomputable def H17 : Hints := ⟨[(3, [3, 9, 10, 11])], [(7, [3, 9, 10, 11])], []⟩
noncomputable def T17_0 : List It := [.lp (nav [1, 1, 0, 1, 4, 5] C17), .blk 0, .jn (nav [1, 1, 1] C17)]
noncomputable def T17_1 : List It := [.jn (nav [1, 1, 0, 1, 4, 5, 1, 1, 1] C17), .lp (nav [1, 1, 0, 1, 4, 5] C17), .blk 0, .jn (nav [1, 1, 1] C17)]
def P17_0 (x3 x9 x10 x11 : Value) (w : World) (Q : Value → World → Prop) : Prop := Part Tryz.prog 17 T17_0 [3, 9, 10, 11] [x3, x9, x10, x11] w Q
def P17_1 (x3 x9 x10 x11 : Value) (w : World) (Q : Value → World → Prop) : Prop := Part Tryz.prog 17 T17_1 [3, 9, 10, 11] [x3, x9, x10, x11] w Q
def F17 (a0 : Value) (w : World) (Q : Value → World → Prop) : Prop :=
  wpB (nilv a0) fun t7 =>
  wpB (pureRun Tryz.prog (Instr.fieldAt 74 t7 2)) fun t8 =>
  wpB (ldv Tryz.prog 70 t8 w) fun t9 =>
  wpB (pureRun Tryz.prog (Builtin.len_ #[70] 3 #[t9])) fun t10 =>
  P17_0 (.int .i64 0) t9 t10 (.int .i64 0) w Q
def L17_0 (x3 x9 x10 x11 : Value) (w : World) (Q : Value → World → Prop) : Prop :=
  wpB (bp Tryz.prog .lss 3 x11 x10) fun t12 =>
  cnd t12
  (wpB (pureRun Tryz.prog (Instr.indexAt 70 x9 x11)) fun t13 =>
  wpB (ldv Tryz.prog 77 t13 w) fun t14 =>
  effv Tryz.prog (Instr.alloc 77 true (.tuple #[])) w fun t5 w =>
  effu Tryz.prog (Instr.storeAt 77 t5 t14) w fun w =>
  wpB (pureRun Tryz.prog (Instr.fieldAt 77 t5 0)) fun t15 =>
  wpB (ldv Tryz.prog 3 t15 w) fun t16 =>
  wpB (be Tryz.prog .eql 3 (.tmp 16) (.const (.int .i64 0)) t16 (.int .i64 0)) fun t17 =>
  cnd t17
  (wpB (bp Tryz.prog .add 3 x3 (.int .i64 1)) fun t19 =>
  P17_1 t19 x9 x10 x11 w Q)
  (P17_1 x3 x9 x10 x11 w Q))
  (Q x3 w)
def L17_1 (x3 x9 x10 x11 : Value) (w : World) (Q : Value → World → Prop) : Prop :=
  wpB (bp Tryz.prog .add 3 x11 (.int .i64 1)) fun t20 =>
  P17_0 x3 x9 x10 t20 w Q
theorem F17_ok {a0 : Value} {w : World} {Q : Value → World → Prop} (h : F17 a0 w Q) : CallR Tryz.prog 17 [a0] w Q :=
  ah mixed ag Tryz.func17 (c := C17) rfl H17 (Nat.le_of_ble_eq_true rfl) (by kernel_rfl) h
theorem L17_0_ok {x3 x9 x10 x11 : Value} {w : World} {Q : Value → World → Prop} (h : L17_0 x3 x9 x10 x11 w Q) : P17_0 x3 x9 x10 x11 w Q :=
  aQ mixed ag Tryz.func17 H17 (by kernel_rfl) h
theorem L17_1_ok {x3 x9 x10 x11 : Value} {w : World} {Q : Value → World → Prop} (h : L17_1 x3 x9 x10 x11 w Q) : P17_1 x3 x9 x10 x11 w Q :=
  ar mixed ag Tryz.func17 H17 (by kernel_rfl) h

noncomputable def C18 : Code := (Tryz.f18.body).getD .skip
noncomputable def H18 : Hints := ⟨[], [], []⟩
def F18 (a0 a1 : Value) (w : World) (Q : Value → World → Prop) : Prop :=
  wpB (bp Tryz.prog .lss 3 a1 (.int .i64 0)) fun t6 =>
  wpB (gd t6 false (nilv (gv t6 false a0))) fun t10 =>
  wpB (gd t6 false (pureRun Tryz.prog (Instr.fieldAt 74 t10 4))) fun t11 =>
  wpB (gd t6 false (ldv Tryz.prog 72 t11 w)) fun t12 =>
  wpB (gd t6 false (pureRun Tryz.prog (Builtin.len_ #[72] 3 #[t12]))) fun t13 =>
  wpB (gd t6 false (bp Tryz.prog .geq 3 (gv t6 false a1) t13)) fun t14 =>
  wpB (pickv t6 (some (.bool true)) (some t14)) fun t15 =>
  cnd t15
  (Q (.int .i64 0) w)
  (wpB (nilv a0) fun t17 =>
  wpB (pureRun Tryz.prog (Instr.fieldAt 74 t17 4)) fun t18 =>
  wpB (ldv Tryz.prog 72 t18 w) fun t19 =>
  wpB (pureRun Tryz.prog (Instr.indexAt 72 t19 a1)) fun t21 =>
  wpB (pureRun Tryz.prog (Instr.fieldAt 81 t21 0)) fun t22 =>
  wpB (ldv Tryz.prog 3 t22 w) fun t23 =>
  Q t23 w)
theorem F18_ok {a0 a1 : Value} {w : World} {Q : Value → World → Prop} (h : F18 a0 a1 w Q) : CallR Tryz.prog 18 [a0, a1] w Q :=
  ah mixed ag Tryz.func18 (c := C18) rfl H18 (Nat.le_of_ble_eq_true rfl) (by kernel_rfl) h

noncomputable def C19 : Code := (Tryz.f19.body).getD .skip
noncomputable def H19 : Hints := ⟨[], [(4, [4, 5])], []⟩
noncomputable def T19_0 : List It := [.jn (nav [1, 1, 1] C19)]
def P19_0 (x4 x5 : Value) (w : World) (Q : Value → World → Prop) : Prop := Part Tryz.prog 19 T19_0 [4, 5] [x4, x5] w Q
def F19 (a0 : Value) (w : World) (Q : Value → World → Prop) : Prop :=
  effv Tryz.prog (Instr.box 33 a0) w fun t1 w =>
  wpB (ldv Tryz.prog 33 t1 w) fun t7 =>
  CallR Tryz.prog 20 [t7] w fun t8 w =>
  wpB (pureRun Tryz.prog (Instr.extract t8 0)) fun t9 =>
  wpB (pureRun Tryz.prog (Instr.extract t8 1)) fun t10 =>
  wpB (be Tryz.prog .eql 23 (.tmp 11) (.const (.int .i64 0)) t10 (.int .i64 0)) fun t12 =>
  cnd t12
  (wpB (nilv t9) fun t14 =>
  wpB (pureRun Tryz.prog (Instr.fieldAt 74 t14 1)) fun t15 =>
  effu Tryz.prog (Instr.storeAt 4 t15 (.bool true)) w fun w =>
  P19_0 t9 t10 w Q)
  (P19_0 t9 t10 w Q)
def L19_0 (x4 x5 : Value) (w : World) (Q : Value → World → Prop) : Prop :=
  Q (.tuple #[x4, x5]) w
theorem F19_ok {a0 : Value} {w : World} {Q : Value → World → Prop} (h : F19 a0 w Q) : CallR Tryz.prog 19 [a0] w Q :=
  ah mixed ag Tryz.func19 (c := C19) rfl H19 (Nat.le_of_ble_eq_true rfl) (by kernel_rfl) h
theorem L19_0_ok {x4 x5 : Value} {w : World} {Q : Value → World → Prop} (h : L19_0 x4 x5 w Q) : P19_0 x4 x5 w Q :=
  ar mixed ag Tryz.func19 H19 (by kernel_rfl) h

noncomputable def C20 : Code := (Tryz.f20.body).getD .skip
noncomputable def H20 : Hints := ⟨[], [], [(3, (.ask 3 6 (.leaf [1, 4, 0, 2, 5, 3, 6, 7, 8, 9, 10]) (.leaf [1, 4, 0, 2, 5, 6, 3, 7, 8, 9, 10])))]⟩
def F20 (a0 : Value) (w : World) (Q : Value → World → Prop) : Prop :=
  effv Tryz.prog (Instr.box 33 a0) w fun t1 w =>
  wpB (ldv Tryz.prog 33 t1 w) fun t4 =>
  CallR Tryz.prog 56 [t4] w fun t5 w =>
  wpB (pureRun Tryz.prog (Op.unary .not t5)) fun t6 =>
  cnd t6
  (Q (.tuple #[(.pointer none), (.int .i64 1)]) w)
  ((wpB (pureRun Tryz.prog (Instr.fieldAt 33 t1 3)) fun t8 =>
  wpB (pureRun Tryz.prog (Instr.fieldAt 33 t1 0)) fun t11 =>
  wpB (ldv Tryz.prog 33 t1 w.drew) fun t7 =>
  wpB (ldv Tryz.prog 3 t8 w.drew) fun t9 =>
  wpB (ldv Tryz.prog 3 t11 w.drew) fun t12 =>
  effv Tryz.prog (Instr.makeSlice 70 t9 t9) w.drew fun t10 w =>
  effv Tryz.prog (Instr.makeSlice 72 t12 t12) w fun t13 w =>
  wpB (pureRun Tryz.prog (Instr.build 74 #[(0, t7), (2, t10), (4, t13)])) fun t14 =>
  effv Tryz.prog (Instr.box 74 t14) w fun t15 w =>
  Q (.tuple #[t15, (.int .i64 0)]) w) ∧
  (wpB (pureRun Tryz.prog (Instr.fieldAt 33 t1 3)) fun t8_1 =>
  wpB (pureRun Tryz.prog (Instr.fieldAt 33 t1 0)) fun t11_1 =>
  wpB (ldv Tryz.prog 33 t1 w.drew) fun t7_1 =>
  wpB (ldv Tryz.prog 3 t8_1 w.drew) fun t9_1 =>
  wpB (ldv Tryz.prog 3 t11_1 w.drew) fun t12_1 =>
  effv Tryz.prog (Instr.makeSlice 72 t12_1 t12_1) w.drew fun t13_1 w =>
  effv Tryz.prog (Instr.makeSlice 70 t9_1 t9_1) w fun t10_1 w =>
  wpB (pureRun Tryz.prog (Instr.build 74 #[(0, t7_1), (2, t10_1), (4, t13_1)])) fun t14_1 =>
  effv Tryz.prog (Instr.box 74 t14_1) w fun t15_1 w =>
  Q (.tuple #[t15_1, (.int .i64 0)]) w))
theorem F20_ok {a0 : Value} {w : World} {Q : Value → World → Prop} (h : F20 a0 w Q) : CallR Tryz.prog 20 [a0] w Q :=
  ah mixed ag Tryz.func20 (c := C20) rfl H20 (Nat.le_of_ble_eq_true rfl) (by kernel_rfl) h

noncomputable def C21 : Code := (Tryz.f21.body).getD .skip
noncomputable def H21 : Hints := ⟨[], [], []⟩
def F21 (a0 a1 : Value) (w : World) (Q : Value → World → Prop) : Prop :=
  CallR Tryz.prog 57 [a0, a1] w fun t7 w =>
  wpB (pureRun Tryz.prog (Op.unary .not t7)) fun t8 =>
  wpB (gd t8 false (nilv (gv t8 false a0))) fun t11 =>
  wpB (gd t8 false (pureRun Tryz.prog (Instr.fieldAt 74 t11 2))) fun t12 =>
  wpB (gd t8 false (ldv Tryz.prog 70 t12 w)) fun t13 =>
  wpB (gd t8 false (pureRun Tryz.prog (Instr.indexAt 70 t13 (gv t8 false a1)))) fun t15 =>
  wpB (gd t8 false (pureRun Tryz.prog (Instr.fieldAt 77 t15 0))) fun t16 =>
  wpB (gd t8 false (ldv Tryz.prog 3 t16 w)) fun t17 =>
  wpB (gd t8 false (be Tryz.prog .neq 3 (.tmp 17) (.const (.int .i64 2)) t17 (.int .i64 2))) fun t18 =>
  wpB (pickv t8 (some (.bool true)) (some t18)) fun t19 =>
  cnd t19
  (Q (.bool false) w)
  (wpB (nilv a0) fun t21 =>
  wpB (pureRun Tryz.prog (Instr.fieldAt 74 t21 2)) fun t22 =>
  wpB (ldv Tryz.prog 70 t22 w) fun t23 =>
  wpB (pureRun Tryz.prog (Instr.indexAt 70 t23 a1)) fun t25 =>
  wpB (pureRun Tryz.prog (Instr.fieldAt 77 t25 0)) fun t26 =>
  effu Tryz.prog (Instr.storeAt 3 t26 (.int .i64 0)) w fun w =>
  Q (.bool true) w)
theorem F21_ok {a0 a1 : Value} {w : World} {Q : Value → World → Prop} (h : F21 a0 a1 w Q) : CallR Tryz.prog 21 [a0, a1] w Q :=
  ah mixed ag Tryz.func21 (c := C21) rfl H21 (Nat.le_of_ble_eq_true rfl) (by kernel_rfl) h

noncomputable def C30 : Code := (Tryz.f30.body).getD .skip
noncomputable def H30 : Hints := ⟨[], [], []⟩
def F30 (a0 a1 a2 : Value) (w : World) (Q : Value → World → Prop) : Prop :=
  effv Tryz.prog (Instr.box 39 a2) w fun t5 w =>
  wpB (bp Tryz.prog .geq 3 a1 (.int .i64 0)) fun t8 =>
  wpB (gd t8 true (nilv (gv t8 true a0))) fun t12 =>
  wpB (gd t8 true (pureRun Tryz.prog (Instr.fieldAt 74 t12 4))) fun t13 =>
  wpB (gd t8 true (ldv Tryz.prog 72 t13 w)) fun t14 =>
  wpB (gd t8 true (pureRun Tryz.prog (Builtin.len_ #[72] 3 #[t14]))) fun t15 =>
  wpB (gd t8 true (bp Tryz.prog .lss 3 (gv t8 true a1) t15)) fun t16 =>
  wpB (pickv t8 (some t16) (some (.bool false))) fun t17 =>
  wpB (gd t17 true (ldv Tryz.prog 39 t5 w)) fun t19 =>
  gE t17 true (CallR Tryz.prog 60 [t19] w) (fun t20 w =>
  wpB (pickv t17 (some t20) (some (.bool false))) fun t21 =>
  Q t21 w) w
theorem F30_ok {a0 a1 a2 : Value} {w : World} {Q : Value → World → Prop} (h : F30 a0 a1 a2 w Q) : CallR Tryz.prog 30 [a0, a1, a2] w Q :=
  ah mixed ag Tryz.func30 (c := C30) rfl H30 (Nat.le_of_ble_eq_true rfl) (by kernel_rfl) h

noncomputable def C31 : Code := (Tryz.f31.body).getD .skip
noncomputable def H31 : Hints := ⟨[], [(2, [0, 6, 7, 8, 9])], [(1, (.ask 3 7 (.ask 8 7 (.leaf [0, 1, 2, 4, 3, 5, 6, 8, 7, 9, 10]) (.leaf [0, 1, 2, 3, 4, 5, 6, 7, 8, 9, 10])) (.ask 8 7 (.leaf [0, 1, 2, 4, 6, 8, 7, 3, 5, 9, 10]) (.leaf [0, 1, 2, 4, 6, 7, 3, 5, 8, 9, 10])))), (10, (.leaf [0, 1, 2, 3, 4, 5, 6])), (11, (.leaf [0, 1, 2, 3, 4, 5, 6, 7, 8, 9, 10])), (13, (.ask 6 4 (.leaf [0, 2, 5, 1, 3, 6, 4, 7, 8]) (.leaf [0, 1, 2, 3, 4, 5, 6, 7, 8]))), (15, (.ask 8 4 (.leaf [0, 2, 7, 1, 3, 8, 4, 5, 6, 9, 10, 11]) (.leaf [0, 1, 2, 3, 4, 5, 6, 7, 8, 9, 10, 11]))), (18, (.leaf [0, 1, 2, 3, 4, 5])), (21, (.leaf [0, 1, 2, 3, 4, 5, 6, 7, 8])), (23, (.leaf [0, 1, 2, 3, 4, 5, 6, 7, 8]))]⟩
noncomputable def T31_0 : List It := [.jn (nav [1, 1] C31)]
def P31_0 (x0 x6 x7 x8 x9 : Value) (w : World) (Q : Value → World → Prop) : Prop := Part Tryz.prog 31 T31_0 [0, 6, 7, 8, 9] [x0, x6, x7, x8, x9] w Q
def F31 (a0 a1 a2 a3 : Value) (w : World) (Q : Value → World → Prop) : Prop :=
  effv Tryz.prog (Instr.box 39 a2) w fun t6 w =>
  effv Tryz.prog (Instr.box 25 a3) w fun t7 w =>
  ((wpB (nilv a0) fun t12 =>
  wpB (pureRun Tryz.prog (Instr.fieldAt 74 t12 4)) fun t13 =>
  wpB (ldv Tryz.prog 72 t13 w.drew) fun t14 =>
  wpB (pureRun Tryz.prog (Instr.indexAt 72 t14 a1)) fun t16 =>
  wpB (ldv Tryz.prog 25 t7 w.drew) fun t17 =>
  effv Tryz.prog (Instr.alloc 84 true (.tuple #[])) w.drew fun t9 w =>
  CallR Tryz.prog 49 [t17] w fun t18 w =>
  effu Tryz.prog (Instr.storeAt 84 t9 t18) w fun w =>
  P31_0 a0 t6 t7 t16 t9 w Q) ∧
  (wpB (nilv a0) fun t12_1 =>
  wpB (pureRun Tryz.prog (Instr.fieldAt 74 t12_1 4)) fun t13_1 =>
  wpB (ldv Tryz.prog 72 t13_1 w.drew) fun t14_1 =>
  wpB (pureRun Tryz.prog (Instr.indexAt 72 t14_1 a1)) fun t16_1 =>
  wpB (ldv Tryz.prog 25 t7 w.drew) fun t17_1 =>
  CallR Tryz.prog 49 [t17_1] w.drew fun t18_1 w =>
  effv Tryz.prog (Instr.alloc 84 true (.tuple #[])) w fun t9_1 w =>
  effu Tryz.prog (Instr.storeAt 84 t9_1 t18_1) w fun w =>
  P31_0 a0 t6 t7 t16_1 t9_1 w Q)) ∧
  ((wpB (nilv a0) fun t12_2 =>
  wpB (pureRun Tryz.prog (Instr.fieldAt 74 t12_2 4)) fun t13_2 =>
  wpB (ldv Tryz.prog 25 t7 w.drew) fun t17_2 =>
  effv Tryz.prog (Instr.alloc 84 true (.tuple #[])) w.drew fun t9_2 w =>
  CallR Tryz.prog 49 [t17_2] w fun t18_2 w =>
  wpB (ldv Tryz.prog 72 t13_2 w) fun t14_2 =>
  wpB (pureRun Tryz.prog (Instr.indexAt 72 t14_2 a1)) fun t16_2 =>
  effu Tryz.prog (Instr.storeAt 84 t9_2 t18_2) w fun w =>
  P31_0 a0 t6 t7 t16_2 t9_2 w Q) ∧
  (wpB (nilv a0) fun t12_3 =>
  wpB (pureRun Tryz.prog (Instr.fieldAt 74 t12_3 4)) fun t13_3 =>
  wpB (ldv Tryz.prog 25 t7 w.drew) fun t17_3 =>
  CallR Tryz.prog 49 [t17_3] w.drew fun t18_3 w =>
  wpB (ldv Tryz.prog 72 t13_3 w) fun t14_3 =>
  wpB (pureRun Tryz.prog (Instr.indexAt 72 t14_3 a1)) fun t16_3 =>
  effv Tryz.prog (Instr.alloc 84 true (.tuple #[])) w fun t9_3 w =>
  effu Tryz.prog (Instr.storeAt 84 t9_3 t18_3) w fun w =>
  P31_0 a0 t6 t7 t16_3 t9_3 w Q))
def L31_0 (x0 x6 x7 x8 x9 : Value) (w : World) (Q : Value → World → Prop) : Prop :=
  wpB (pureRun Tryz.prog (Instr.fieldAt 39 x6 0)) fun t19 =>
  wpB (ldv Tryz.prog 3 t19 w) fun t20 =>
  wpB (be Tryz.prog .eql 3 (.tmp 20) (.const (.int .i64 3)) t20 (.int .i64 3)) fun t22 =>
  cnd t22
  (wpB (nilv x8) fun t24 =>
  wpB (pureRun Tryz.prog (Instr.fieldAt 81 t24 0)) fun t25 =>
  wpB (ldv Tryz.prog 3 t25 w) fun t26 =>
  wpB (bp Tryz.prog .add 3 t26 (.int .i64 1)) fun t27 =>
  wpB (nilv x8) fun t28 =>
  wpB (pureRun Tryz.prog (Instr.fieldAt 81 t28 0)) fun t29 =>
  effu Tryz.prog (Instr.storeAt 3 t29 t27) w fun w =>
  Q (.tuple #[]) w)
  (wpB (be Tryz.prog .eql 3 (.tmp 20) (.const (.int .i64 4)) t20 (.int .i64 4)) fun t31 =>
  cnd t31
  (wpB (nilv x8) fun t33 =>
  wpB (pureRun Tryz.prog (Instr.fieldAt 81 t33 0)) fun t34 =>
  wpB (ldv Tryz.prog 3 t34 w) fun t35 =>
  wpB (bp Tryz.prog .sub 3 t35 (.int .i64 1)) fun t36 =>
  wpB (nilv x8) fun t37 =>
  wpB (pureRun Tryz.prog (Instr.fieldAt 81 t37 0)) fun t38 =>
  effu Tryz.prog (Instr.storeAt 3 t38 t36) w fun w =>
  wpB (nilv x8) fun t40 =>
  wpB (pureRun Tryz.prog (Instr.fieldAt 81 t40 0)) fun t41 =>
  wpB (ldv Tryz.prog 3 t41 w) fun t42 =>
  wpB (be Tryz.prog .eql 3 (.tmp 42) (.const (.int .i64 0)) t42 (.int .i64 0)) fun t43 =>
  cnd t43
  (wpB (nilv x8) fun t45 =>
  wpB (pureRun Tryz.prog (Instr.fieldAt 81 t45 1)) fun t46 =>
  effu Tryz.prog (Instr.storeAt 79 t46 (.slice none 0 0)) w fun w =>
  Q (.tuple #[]) w)
  (Q (.tuple #[]) w))
  (wpB (be Tryz.prog .eql 3 (.tmp 20) (.const (.int .i64 5)) t20 (.int .i64 5)) fun t48 =>
  cnd t48
  (wpB (nilv x8) fun t50 =>
  wpB (pureRun Tryz.prog (Instr.fieldAt 81 t50 1)) fun t51 =>
  wpB (ldv Tryz.prog 79 t51 w.drew) fun t52 =>
  wpB (ldv Tryz.prog 84 x9 w.drew) fun t53 =>
  CallR Tryz.prog 61 [t52, t53] w.drew fun t54 w =>
  wpB (pureRun Tryz.prog (Op.unary .not t54)) fun t55 =>
  cnd t55
  (wpB (nilv x8) fun t58 =>
  wpB (pureRun Tryz.prog (Instr.fieldAt 81 t58 1)) fun t59 =>
  wpB (ldv Tryz.prog 79 t59 w.drew) fun t60 =>
  wpB (ldv Tryz.prog 84 x9 w.drew) fun t61 =>
  effv Tryz.prog (Instr.buildSlice 79 1 #[(0, t61)]) w.drew fun t62 w =>
  effv Tryz.prog (Builtin.append_ #[79, 79] 79 #[t60, t62]) w fun t63 w =>
  wpB (nilv x8) fun t64 =>
  wpB (pureRun Tryz.prog (Instr.fieldAt 81 t64 1)) fun t65 =>
  effu Tryz.prog (Instr.storeAt 79 t65 t63) w fun w =>
  Q (.tuple #[]) w)
  (Q (.tuple #[]) w))
  (wpB (be Tryz.prog .eql 3 (.tmp 20) (.const (.int .i64 7)) t20 (.int .i64 7)) fun t67 =>
  cnd t67
  ((wpB (pureRun Tryz.prog (Instr.fieldAt 39 x6 3)) fun t70 =>
  wpB (pureRun Tryz.prog (Instr.fieldAt 39 x6 4)) fun t73 =>
  wpB (ldv Tryz.prog 25 x7 w.drew) fun t69 =>
  wpB (ldv Tryz.prog 3 t70 w.drew) fun t71 =>
  wpB (ldv Tryz.prog 26 t73 w.drew) fun t74 =>
  CallR Tryz.prog 48 [x0, t69, t71] w.drew fun t72 w =>
  wpB (nilv t72) fun t75 =>
  effu Tryz.prog (Instr.storeAt 26 t75 t74) w fun w =>
  Q (.tuple #[]) w) ∧
  (wpB (ldv Tryz.prog 25 x7 w.drew) fun t69_1 =>
  wpB (pureRun Tryz.prog (Instr.fieldAt 39 x6 3)) fun t70_1 =>
  wpB (ldv Tryz.prog 3 t70_1 w.drew) fun t71_1 =>
  CallR Tryz.prog 48 [x0, t69_1, t71_1] w.drew fun t72_1 w =>
  wpB (pureRun Tryz.prog (Instr.fieldAt 39 x6 4)) fun t73_1 =>
  wpB (ldv Tryz.prog 26 t73_1 w) fun t74_1 =>
  wpB (nilv t72_1) fun t75_1 =>
  effu Tryz.prog (Instr.storeAt 26 t75_1 t74_1) w fun w =>
  Q (.tuple #[]) w))
  (wpB (be Tryz.prog .eql 3 (.tmp 20) (.const (.int .i64 8)) t20 (.int .i64 8)) fun t77 =>
  cnd t77
  ((wpB (pureRun Tryz.prog (Instr.fieldAt 39 x6 3)) fun t80 =>
  wpB (pureRun Tryz.prog (Instr.fieldAt 39 x6 4)) fun t85 =>
  wpB (ldv Tryz.prog 25 x7 w.drew) fun t79 =>
  wpB (ldv Tryz.prog 3 t80 w.drew) fun t81 =>
  wpB (ldv Tryz.prog 26 t85 w.drew) fun t86 =>
  CallR Tryz.prog 48 [x0, t79, t81] w.drew fun t82 w =>
  wpB (nilv t82) fun t83 =>
  wpB (ldv Tryz.prog 26 t83 w) fun t84 =>
  wpB (bp Tryz.prog .add 26 t84 t86) fun t87 =>
  wpB (nilv t82) fun t88 =>
  effu Tryz.prog (Instr.storeAt 26 t88 t87) w fun w =>
  Q (.tuple #[]) w) ∧
  (wpB (ldv Tryz.prog 25 x7 w.drew) fun t79_1 =>
  wpB (pureRun Tryz.prog (Instr.fieldAt 39 x6 3)) fun t80_1 =>
  wpB (ldv Tryz.prog 3 t80_1 w.drew) fun t81_1 =>
  CallR Tryz.prog 48 [x0, t79_1, t81_1] w.drew fun t82_1 w =>
  wpB (nilv t82_1) fun t83_1 =>
  wpB (ldv Tryz.prog 26 t83_1 w) fun t84_1 =>
  wpB (pureRun Tryz.prog (Instr.fieldAt 39 x6 4)) fun t85_1 =>
  wpB (ldv Tryz.prog 26 t85_1 w) fun t86_1 =>
  wpB (bp Tryz.prog .add 26 t84_1 t86_1) fun t87_1 =>
  wpB (nilv t82_1) fun t88_1 =>
  effu Tryz.prog (Instr.storeAt 26 t88_1 t87_1) w fun w =>
  Q (.tuple #[]) w))
  (wpB (be Tryz.prog .eql 3 (.tmp 20) (.const (.int .i64 9)) t20 (.int .i64 9)) fun t90 =>
  cnd t90
  (wpB (ldv Tryz.prog 25 x7 w) fun t92 =>
  wpB (pureRun Tryz.prog (Instr.fieldAt 39 x6 3)) fun t93 =>
  wpB (ldv Tryz.prog 3 t93 w) fun t94 =>
  CallR Tryz.prog 48 [x0, t92, t94] w fun t95 w =>
  wpB (nilv t95) fun t97 =>
  wpB (ldv Tryz.prog 26 t97 w.drew) fun t98 =>
  wpB (pureRun Tryz.prog (Instr.fieldAt 39 x6 4)) fun t99 =>
  wpB (ldv Tryz.prog 26 t99 w.drew) fun t100 =>
  wpB (be Tryz.prog .eql 26 (.tmp 98) (.tmp 100) t98 t100) fun t101 =>
  cnd t101
  (wpB (pureRun Tryz.prog (Instr.fieldAt 39 x6 5)) fun t103 =>
  wpB (ldv Tryz.prog 26 t103 w.drew) fun t104 =>
  wpB (nilv t95) fun t105 =>
  effu Tryz.prog (Instr.storeAt 26 t105 t104) w.drew fun w =>
  Q (.tuple #[]) w)
  (Q (.tuple #[]) w.drew))
  (wpB (be Tryz.prog .eql 3 (.tmp 20) (.const (.int .i64 10)) t20 (.int .i64 10)) fun t107 =>
  cnd t107
  (wpB (nilv x0) fun t109 =>
  wpB (pureRun Tryz.prog (Instr.fieldAt 74 t109 2)) fun t110 =>
  wpB (ldv Tryz.prog 70 t110 w.drew) fun t111 =>
  wpB (pureRun Tryz.prog (Instr.fieldAt 25 x7 0)) fun t112 =>
  wpB (ldv Tryz.prog 3 t112 w.drew) fun t113 =>
  wpB (pureRun Tryz.prog (Instr.indexAt 70 t111 t113)) fun t114 =>
  wpB (pureRun Tryz.prog (Instr.fieldAt 77 t114 0)) fun t115 =>
  effu Tryz.prog (Instr.storeAt 3 t115 (.int .i64 2)) w.drew fun w =>
  wpB (nilv x0) fun t117 =>
  wpB (pureRun Tryz.prog (Instr.fieldAt 74 t117 1)) fun t118 =>
  wpB (ldv Tryz.prog 4 t118 w) fun t119 =>
  cnd t119
  (wpB (nilv x0) fun t121 =>
  wpB (pureRun Tryz.prog (Instr.fieldAt 74 t121 2)) fun t122 =>
  wpB (ldv Tryz.prog 70 t122 w.drew) fun t123 =>
  wpB (pureRun Tryz.prog (Instr.fieldAt 25 x7 0)) fun t124 =>
  wpB (ldv Tryz.prog 3 t124 w.drew) fun t125 =>
  wpB (pureRun Tryz.prog (Instr.indexAt 70 t123 t125)) fun t126 =>
  wpB (pureRun Tryz.prog (Instr.fieldAt 77 t126 0)) fun t127 =>
  effu Tryz.prog (Instr.storeAt 3 t127 (.int .i64 0)) w.drew fun w =>
  Q (.tuple #[]) w)
  (Q (.tuple #[]) w))
  (Q (.tuple #[]) w)))))))
theorem F31_ok {a0 a1 a2 a3 : Value} {w : World} {Q : Value → World → Prop} (h : F31 a0 a1 a2 a3 w Q) : CallR Tryz.prog 31 [a0, a1, a2, a3] w Q :=
  ah mixed ag Tryz.func31 (c := C31) rfl H31 (Nat.le_of_ble_eq_true rfl) (by kernel_rfl) h
theorem L31_0_ok {x0 x6 x7 x8 x9 : Value} {w : World} {Q : Value → World → Prop} (h : L31_0 x0 x6 x7 x8 x9 w Q) : P31_0 x0 x6 x7 x8 x9 w Q :=
  ar mixed ag Tryz.func31 H31 (by kernel_rfl) h

noncomputable def C32 : Code := (Tryz.f32.body).getD .skip
noncomputable def H32 : Hints := ⟨[], [(9, [0, 1, 5, 7]), (13, [])], [(3, (.leaf [0, 1, 2, 3, 4, 5, 6, 7, 8, 9, 10, 11, 12, 13, 14, 15, 16, 17, 18])), (6, (.leaf [0, 1, 2, 3, 4, 5, 6, 7, 8, 9, 10])), (11, (.leaf [0, 1, 2, 3, 4, 5, 6, 7, 8, 9, 10])), (12, (.ask 4 7 (.leaf [0, 1, 2, 3, 4, 5, 6, 7, 8, 9, 10, 11, 12, 13, 14]) (.leaf [0, 1, 2, 3, 5, 8, 6, 7, 9, 4, 10, 11, 12, 13, 14])))]⟩
noncomputable def T32_0 : List It := [.jn (nav [1, 1, 1, 1, 1] C32)]
noncomputable def T32_1 : List It := [.jn (nav [1, 1, 1, 1, 1, 1, 1, 1] C32)]
def P32_0 (x0 x1 x5 x7 : Value) (w : World) (Q : Value → World → Prop) : Prop := Part Tryz.prog 32 T32_0 [0, 1, 5, 7] [x0, x1, x5, x7] w Q
def P32_1 (w : World) (Q : Value → World → Prop) : Prop := Part Tryz.prog 32 T32_1 [] [] w Q
def F32 (a0 a1 a2 : Value) (w : World) (Q : Value → World → Prop) : Prop :=
  effv Tryz.prog (Instr.box 28 a2) w fun t5 w =>
  wpB (ldv Tryz.prog 28 t5 w) fun t9 =>
  wpB (pureRun Tryz.prog (Instr.build 28 #[(0, (.int .i64 7))])) fun t10 =>
  wpB (be Tryz.prog .eql 28 (.tmp 9) (.tmp 10) t9 t10) fun t11 =>
  cnd t11
  (wpB (nilv a0) fun t13 =>
  wpB (pureRun Tryz.prog (Instr.fieldAt 74 t13 1)) fun t14 =>
  wpB (ldv Tryz.prog 4 t14 w) fun t15 =>
  gE t15 false (CallR Tryz.prog 17 [(gv t15 false a0)] w) (fun t18 w =>
  wpB (gd t15 false (be Tryz.prog .eql 3 (.tmp 18) (.const (.int .i64 0)) t18 (.int .i64 0))) fun t19 =>
  wpB (pickv t15 (some (.bool true)) (some t19)) fun t20 =>
  Q t20 w) w)
  (wpB (pureRun Tryz.prog (Instr.fieldAt 28 t5 1)) fun t22 =>
  wpB (pureRun Tryz.prog (Instr.fieldAt 25 t22 0)) fun t23 =>
  wpB (ldv Tryz.prog 3 t23 w.drew) fun t24 =>
  CallR Tryz.prog 57 [a0, t24] w.drew fun t25 w =>
  wpB (pureRun Tryz.prog (Op.unary .not t25)) fun t26 =>
  wpB (gd t26 false (nilv (gv t26 false a0))) fun t29 =>
  wpB (gd t26 false (pureRun Tryz.prog (Instr.fieldAt 74 t29 2))) fun t30 =>
  wpB (gd t26 false (ldv Tryz.prog 70 t30 w)) fun t31 =>
  wpB (gd t26 false (pureRun Tryz.prog (Instr.fieldAt 28 t5 1))) fun t32 =>
  wpB (gd t26 false (pureRun Tryz.prog (Instr.fieldAt 25 t32 0))) fun t33 =>
  wpB (gd t26 false (ldv Tryz.prog 3 t33 w)) fun t34 =>
  wpB (gd t26 false (pureRun Tryz.prog (Instr.indexAt 70 t31 t34))) fun t35 =>
  wpB (gd t26 false (pureRun Tryz.prog (Instr.fieldAt 77 t35 0))) fun t36 =>
  wpB (gd t26 false (ldv Tryz.prog 3 t36 w)) fun t37 =>
  wpB (gd t26 false (be Tryz.prog .neq 3 (.tmp 37) (.const (.int .i64 0)) t37 (.int .i64 0))) fun t38 =>
  wpB (pickv t26 (some (.bool true)) (some t38)) fun t39 =>
  cnd t39
  (Q (.bool false) w)
  (wpB (nilv a0) fun t41 =>
  wpB (pureRun Tryz.prog (Instr.fieldAt 74 t41 2)) fun t42 =>
  wpB (ldv Tryz.prog 70 t42 w.drew) fun t43 =>
  wpB (pureRun Tryz.prog (Instr.fieldAt 28 t5 1)) fun t44 =>
  wpB (pureRun Tryz.prog (Instr.fieldAt 25 t44 0)) fun t45 =>
  wpB (ldv Tryz.prog 3 t45 w.drew) fun t46 =>
  wpB (pureRun Tryz.prog (Instr.indexAt 70 t43 t46)) fun t47 =>
  wpB (pureRun Tryz.prog (Instr.fieldAt 77 t47 1)) fun t48 =>
  wpB (ldv Tryz.prog 3 t48 w.drew) fun t49 =>
  wpB (bp Tryz.prog .lss 3 t49 (.int .i64 4294967295)) fun t51 =>
  cnd t51
  (wpB (bp Tryz.prog .add 3 t49 (.int .i64 1)) fun t53 =>
  P32_0 a0 a1 t5 t53 w.drew Q)
  (P32_0 a0 a1 t5 (.int .i64 0) w.drew Q)))
def L32_0 (x0 x1 x5 x7 : Value) (w : World) (Q : Value → World → Prop) : Prop :=
  wpB (ldv Tryz.prog 28 x5 w) fun t54 =>
  wpB (pureRun Tryz.prog (Instr.fieldAt 28 x5 1)) fun t55 =>
  wpB (pureRun Tryz.prog (Instr.fieldAt 25 t55 0)) fun t56 =>
  wpB (ldv Tryz.prog 3 t56 w) fun t57 =>
  wpB (pureRun Tryz.prog (Instr.build 25 #[(0, t57), (1, x7)])) fun t59 =>
  wpB (pureRun Tryz.prog (Instr.build 28 #[(1, t59)])) fun t60 =>
  wpB (be Tryz.prog .neq 28 (.tmp 54) (.tmp 60) t54 t60) fun t61 =>
  cnd t61
  (Q (.bool false) w)
  (wpB (nilv x0) fun t63 =>
  wpB (pureRun Tryz.prog (Instr.fieldAt 74 t63 2)) fun t64 =>
  wpB (ldv Tryz.prog 70 t64 w.drew) fun t65 =>
  wpB (pureRun Tryz.prog (Instr.fieldAt 28 x5 1)) fun t66 =>
  wpB (pureRun Tryz.prog (Instr.fieldAt 25 t66 0)) fun t67 =>
  wpB (ldv Tryz.prog 3 t67 w.drew) fun t68 =>
  wpB (pureRun Tryz.prog (Instr.build 77 #[(0, (.int .i64 1)), (1, x7)])) fun t70 =>
  wpB (pureRun Tryz.prog (Instr.indexAt 70 t65 t68)) fun t71 =>
  effu Tryz.prog (Instr.storeAt 77 t71 t70) w.drew fun w =>
  (wpB (nilv x0) fun t74 =>
  wpB (pureRun Tryz.prog (Instr.fieldAt 74 t74 3)) fun t75 =>
  wpB (ldv Tryz.prog 71 t75 w.drew) fun t76 =>
  wpB (pureRun Tryz.prog (Instr.fieldAt 28 x5 1)) fun t77 =>
  wpB (ldv Tryz.prog 25 t77 w.drew) fun t78 =>
  CallR Tryz.prog 49 [t78] w.drew fun t79 w =>
  wpB (pureRun Tryz.prog (Instr.build 88 #[(0, t79), (1, x1)])) fun t81 =>
  effv Tryz.prog (Instr.buildSlice 71 1 #[(0, t81)]) w fun t82 w =>
  effv Tryz.prog (Builtin.append_ #[71, 71] 71 #[t76, t82]) w fun t83 w =>
  wpB (nilv x0) fun t84 =>
  wpB (pureRun Tryz.prog (Instr.fieldAt 74 t84 3)) fun t85 =>
  effu Tryz.prog (Instr.storeAt 71 t85 t83) w fun w =>
  P32_1 w Q) ∧
  (wpB (nilv x0) fun t74_1 =>
  wpB (pureRun Tryz.prog (Instr.fieldAt 74 t74_1 3)) fun t75_1 =>
  wpB (pureRun Tryz.prog (Instr.fieldAt 28 x5 1)) fun t77_1 =>
  wpB (ldv Tryz.prog 25 t77_1 w.drew) fun t78_1 =>
  CallR Tryz.prog 49 [t78_1] w.drew fun t79_1 w =>
  wpB (pureRun Tryz.prog (Instr.build 88 #[(0, t79_1), (1, x1)])) fun t81_1 =>
  wpB (ldv Tryz.prog 71 t75_1 w) fun t76_1 =>
  effv Tryz.prog (Instr.buildSlice 71 1 #[(0, t81_1)]) w fun t82_1 w =>
  effv Tryz.prog (Builtin.append_ #[71, 71] 71 #[t76_1, t82_1]) w fun t83_1 w =>
  wpB (nilv x0) fun t84_1 =>
  wpB (pureRun Tryz.prog (Instr.fieldAt 74 t84_1 3)) fun t85_1 =>
  effu Tryz.prog (Instr.storeAt 71 t85_1 t83_1) w fun w =>
  P32_1 w Q))
def L32_1 (w : World) (Q : Value → World → Prop) : Prop :=
  Q (.bool true) w
theorem F32_ok {a0 a1 a2 : Value} {w : World} {Q : Value → World → Prop} (h : F32 a0 a1 a2 w Q) : CallR Tryz.prog 32 [a0, a1, a2] w Q :=
  ah mixed ag Tryz.func32 (c := C32) rfl H32 (Nat.le_of_ble_eq_true rfl) (by kernel_rfl) h
theorem L32_0_ok {x0 x1 x5 x7 : Value} {w : World} {Q : Value → World → Prop} (h : L32_0 x0 x1 x5 x7 w Q) : P32_0 x0 x1 x5 x7 w Q :=
  ar mixed ag Tryz.func32 H32 (by kernel_rfl) h
theorem L32_1_ok {w : World} {Q : Value → World → Prop} (h : L32_1  w Q) : P32_1  w Q :=
  ar mixed ag Tryz.func32 H32 (by kernel_rfl) h

noncomputable def C33 : Code := (Tryz.f33.body).getD .skip
noncomputable def H33 : Hints := ⟨[], [(11, [0, 7, 9, 10, 11, 12]), (18, [9, 11])], [(6, (.ask 5 1 (.leaf [0, 2, 3, 4, 5, 1, 6, 7, 8, 9]) (.ask 5 7 (.leaf [0, 1, 2, 3, 4, 5, 6, 7, 8, 9]) (.leaf [0, 2, 3, 4, 1, 6, 7, 5, 8, 9])))), (9, (.leaf [0, 1, 2, 3, 4, 5, 6, 7, 8, 9, 10, 11, 12, 13, 14, 15, 16, 17, 18, 19])), (15, (.leaf [0, 1, 2, 3, 4, 5, 6, 7, 8, 9, 10, 11])), (16, (.leaf [0, 1, 2, 3, 4, 5, 6, 7, 8, 9, 10, 11, 12, 13, 14, 15])), (18, (.leaf [0, 1, 2, 3, 4, 5, 6, 7, 8, 9, 10]))]⟩
noncomputable def T33_0 : List It := [.jn (nav [1, 1, 1, 1, 1, 1] C33)]
noncomputable def T33_1 : List It := [.jn (nav [1, 1, 1, 1, 1, 1, 1, 1] C33)]
def P33_0 (x0 x7 x9 x10 x11 x12 : Value) (w : World) (Q : Value → World → Prop) : Prop := Part Tryz.prog 33 T33_0 [0, 7, 9, 10, 11, 12] [x0, x7, x9, x10, x11, x12] w Q
def P33_1 (x9 x11 : Value) (w : World) (Q : Value → World → Prop) : Prop := Part Tryz.prog 33 T33_1 [9, 11] [x9, x11] w Q
def F33 (a0 a1 a2 a3 : Value) (w : World) (Q : Value → World → Prop) : Prop :=
  effv Tryz.prog (Instr.box 25 a2) w fun t6 w =>
  effv Tryz.prog (Instr.box 28 a3) w fun t7 w =>
  wpB (ldv Tryz.prog 25 t6 w) fun t14 =>
  CallR Tryz.prog 49 [t14] w fun t15 w =>
  CallR Tryz.prog 44 [a0, t15] w fun t16 w =>
  wpB (nilv t16) fun t18 =>
  wpB (pureRun Tryz.prog (Instr.fieldAt 88 t18 1)) fun t19 =>
  wpB (ldv Tryz.prog 3 t19 w) fun t20 =>
  CallR Tryz.prog 62 [t20, a1] w fun t22 w =>
  wpB (pureRun Tryz.prog (Instr.fieldAt 25 t6 0)) fun t23 =>
  wpB (ldv Tryz.prog 3 t23 w) fun t24 =>
  wpB (pureRun Tryz.prog (Instr.fieldAt 25 t6 1)) fun t25 =>
  wpB (ldv Tryz.prog 3 t25 w) fun t26 =>
  wpB (pureRun Tryz.prog (Instr.fieldAt 28 t7 1)) fun t27 =>
  wpB (pureRun Tryz.prog (Instr.fieldAt 25 t27 2)) fun t28 =>
  wpB (ldv Tryz.prog 3 t28 w) fun t29 =>
  wpB (pureRun Tryz.prog (Instr.build 25 #[(0, t24), (1, t26), (2, t29), (4, a1)])) fun t31 =>
  effv Tryz.prog (Instr.alloc 25 true (.tuple #[])) w fun t11 w =>
  effu Tryz.prog (Instr.storeAt 25 t11 t31) w fun w =>
  wpB (nilv a0) fun t34 =>
  wpB (pureRun Tryz.prog (Instr.fieldAt 74 t34 0)) fun t35 =>
  wpB (pureRun Tryz.prog (Instr.fieldAt 33 t35 2)) fun t36 =>
  wpB (ldv Tryz.prog 3 t36 w) fun t37 =>
  CallR Tryz.prog 63 [t16, t37, t22] w fun t39 w =>
  cnd t39
  ((wpB (nilv t16) fun t45 =>
  wpB (pureRun Tryz.prog (Instr.fieldAt 88 t45 2)) fun t46 =>
  wpB (ldv Tryz.prog 3 t46 w.drew) fun t47 =>
  CallR Tryz.prog 64 [t16] w.drew fun t43 w =>
  wpB (pureRun Tryz.prog (Instr.fieldAt 25 t11 2)) fun t48 =>
  effu Tryz.prog (Instr.storeAt 3 t48 t43) w fun w =>
  wpB (pureRun Tryz.prog (Instr.fieldAt 25 t11 3)) fun t49 =>
  effu Tryz.prog (Instr.storeAt 3 t49 t47) w fun w =>
  P33_0 a0 t7 t16 t22 t11 t39 w Q) ∧
  ((CallR Tryz.prog 64 [t16] w.drew fun t43_1 w =>
  wpB (nilv t16) fun t45_1 =>
  wpB (pureRun Tryz.prog (Instr.fieldAt 88 t45_1 2)) fun t46_1 =>
  wpB (ldv Tryz.prog 3 t46_1 w) fun t47_1 =>
  wpB (pureRun Tryz.prog (Instr.fieldAt 25 t11 2)) fun t48_1 =>
  effu Tryz.prog (Instr.storeAt 3 t48_1 t43_1) w fun w =>
  wpB (pureRun Tryz.prog (Instr.fieldAt 25 t11 3)) fun t49_1 =>
  effu Tryz.prog (Instr.storeAt 3 t49_1 t47_1) w fun w =>
  P33_0 a0 t7 t16 t22 t11 t39 w Q) ∧
  (wpB (nilv t16) fun t45_2 =>
  wpB (pureRun Tryz.prog (Instr.fieldAt 88 t45_2 2)) fun t46_2 =>
  CallR Tryz.prog 64 [t16] w.drew fun t43_2 w =>
  wpB (pureRun Tryz.prog (Instr.fieldAt 25 t11 2)) fun t48_2 =>
  effu Tryz.prog (Instr.storeAt 3 t48_2 t43_2) w fun w =>
  wpB (ldv Tryz.prog 3 t46_2 w) fun t47_2 =>
  wpB (pureRun Tryz.prog (Instr.fieldAt 25 t11 3)) fun t49_2 =>
  effu Tryz.prog (Instr.storeAt 3 t49_2 t47_2) w fun w =>
  P33_0 a0 t7 t16 t22 t11 t39 w Q)))
  (wpB (ldv Tryz.prog 28 t7 w) fun t51 =>
  wpB (pureRun Tryz.prog (Instr.build 28 #[(0, (.int .i64 6))])) fun t52 =>
  wpB (be Tryz.prog .eql 28 (.tmp 51) (.tmp 52) t51 t52) fun t53 =>
  cnd t53
  (Q (.bool true) w)
  (wpB (pureRun Tryz.prog (Instr.fieldAt 25 t11 2)) fun t55 =>
  wpB (ldv Tryz.prog 3 t55 w.drew) fun t56 =>
  wpB (bp Tryz.prog .lss 3 t56 (.int .i64 0)) fun t57 =>
  wpB (gd t57 false (pureRun Tryz.prog (Instr.fieldAt 25 t11 2))) fun t59 =>
  wpB (gd t57 false (ldv Tryz.prog 3 t59 w.drew)) fun t60 =>
  wpB (gd t57 false (nilv (gv t57 false a0))) fun t62 =>
  wpB (gd t57 false (pureRun Tryz.prog (Instr.fieldAt 74 t62 0))) fun t63 =>
  wpB (gd t57 false (pureRun Tryz.prog (Instr.fieldAt 33 t63 1))) fun t64 =>
  wpB (gd t57 false (ldv Tryz.prog 3 t64 w.drew)) fun t65 =>
  wpB (gd t57 false (bp Tryz.prog .geq 3 t60 t65)) fun t66 =>
  wpB (pickv t57 (some (.bool true)) (some t66)) fun t67 =>
  wpB (gd t67 false (pureRun Tryz.prog (Instr.fieldAt 25 t11 2))) fun t70 =>
  wpB (gd t67 false (ldv Tryz.prog 3 t70 w.drew)) fun t71 =>
  gE t67 false (CallR Tryz.prog 65 [(gv t67 false a0), t71] w.drew) (fun t72 w =>
  wpB (pickv t67 (some (.bool true)) (some t72)) fun t73 =>
  cnd t73
  (Q (.bool false) w)
  (P33_0 a0 t7 t16 t22 t11 t39 w Q)) w.drew))
def L33_0 (x0 x7 x9 x10 x11 x12 : Value) (w : World) (Q : Value → World → Prop) : Prop :=
  wpB (ldv Tryz.prog 28 x7 w) fun t74 =>
  wpB (ldv Tryz.prog 25 x11 w) fun t75 =>
  wpB (pureRun Tryz.prog (Instr.build 28 #[(1, t75)])) fun t76 =>
  wpB (be Tryz.prog .neq 28 (.tmp 74) (.tmp 76) t74 t76) fun t77 =>
  cnd t77
  (Q (.bool false) w)
  (cnd x12
  (wpB (nilv x9) fun t80 =>
  wpB (pureRun Tryz.prog (Instr.fieldAt 88 t80 2)) fun t81 =>
  wpB (ldv Tryz.prog 3 t81 w) fun t82 =>
  wpB (bp Tryz.prog .add 3 t82 x10) fun t84 =>
  wpB (nilv x9) fun t85 =>
  wpB (pureRun Tryz.prog (Instr.fieldAt 88 t85 2)) fun t86 =>
  effu Tryz.prog (Instr.storeAt 3 t86 t84) w fun w =>
  P33_1 x9 x11 w Q)
  (wpB (nilv x9) fun t89 =>
  wpB (pureRun Tryz.prog (Instr.fieldAt 88 t89 3)) fun t90 =>
  wpB (ldv Tryz.prog 22 t90 w.drew) fun t91 =>
  wpB (pureRun Tryz.prog (Instr.fieldAt 25 x11 2)) fun t92 =>
  wpB (ldv Tryz.prog 3 t92 w.drew) fun t93 =>
  effv Tryz.prog (Instr.buildSlice 22 1 #[(0, t93)]) w.drew fun t94 w =>
  effv Tryz.prog (Builtin.append_ #[22, 22] 22 #[t91, t94]) w fun t95 w =>
  wpB (nilv x9) fun t96 =>
  wpB (pureRun Tryz.prog (Instr.fieldAt 88 t96 3)) fun t97 =>
  effu Tryz.prog (Instr.storeAt 22 t97 t95) w fun w =>
  wpB (nilv x9) fun t100 =>
  wpB (pureRun Tryz.prog (Instr.fieldAt 88 t100 4)) fun t101 =>
  wpB (ldv Tryz.prog 86 t101 w.drew) fun t102 =>
  wpB (nilv x0) fun t104 =>
  wpB (pureRun Tryz.prog (Instr.fieldAt 74 t104 0)) fun t105 =>
  wpB (pureRun Tryz.prog (Instr.fieldAt 33 t105 2)) fun t106 =>
  wpB (ldv Tryz.prog 3 t106 w.drew) fun t107 =>
  effv Tryz.prog (Instr.makeSlice 93 t107 t107) w.drew fun t108 w =>
  effv Tryz.prog (Instr.buildSlice 86 1 #[(0, t108)]) w fun t109 w =>
  effv Tryz.prog (Builtin.append_ #[86, 86] 86 #[t102, t109]) w fun t110 w =>
  wpB (nilv x9) fun t111 =>
  wpB (pureRun Tryz.prog (Instr.fieldAt 88 t111 4)) fun t112 =>
  effu Tryz.prog (Instr.storeAt 86 t112 t110) w fun w =>
  wpB (nilv x0) fun t115 =>
  wpB (pureRun Tryz.prog (Instr.fieldAt 74 t115 0)) fun t116 =>
  wpB (pureRun Tryz.prog (Instr.fieldAt 33 t116 2)) fun t117 =>
  wpB (ldv Tryz.prog 3 t117 w) fun t118 =>
  CallR Tryz.prog 66 [t118, x10] w fun t120 w =>
  wpB (nilv x9) fun t121 =>
  wpB (pureRun Tryz.prog (Instr.fieldAt 88 t121 2)) fun t122 =>
  effu Tryz.prog (Instr.storeAt 3 t122 t120) w fun w =>
  P33_1 x9 x11 w Q))
def L33_1 (x9 x11 : Value) (w : World) (Q : Value → World → Prop) : Prop :=
  wpB (nilv x9) fun t125 =>
  wpB (pureRun Tryz.prog (Instr.fieldAt 88 t125 5)) fun t126 =>
  wpB (ldv Tryz.prog 44 t126 w.drew) fun t127 =>
  wpB (ldv Tryz.prog 25 x11 w.drew) fun t128 =>
  effv Tryz.prog (Instr.buildSlice 44 1 #[(0, t128)]) w.drew fun t129 w =>
  effv Tryz.prog (Builtin.append_ #[44, 44] 44 #[t127, t129]) w fun t130 w =>
  wpB (nilv x9) fun t131 =>
  wpB (pureRun Tryz.prog (Instr.fieldAt 88 t131 5)) fun t132 =>
  effu Tryz.prog (Instr.storeAt 44 t132 t130) w fun w =>
  Q (.bool true) w
theorem F33_ok {a0 a1 a2 a3 : Value} {w : World} {Q : Value → World → Prop} (h : F33 a0 a1 a2 a3 w Q) : CallR Tryz.prog 33 [a0, a1, a2, a3] w Q :=
  ah mixed ag Tryz.func33 (c := C33) rfl H33 (Nat.le_of_ble_eq_true rfl) (by kernel_rfl) h
theorem L33_0_ok {x0 x7 x9 x10 x11 x12 : Value} {w : World} {Q : Value → World → Prop} (h : L33_0 x0 x7 x9 x10 x11 x12 w Q) : P33_0 x0 x7 x9 x10 x11 x12 w Q :=
  ar mixed ag Tryz.func33 H33 (by kernel_rfl) h
theorem L33_1_ok {x9 x11 : Value} {w : World} {Q : Value → World → Prop} (h : L33_1 x9 x11 w Q) : P33_1 x9 x11 w Q :=
  ar mixed ag Tryz.func33 H33 (by kernel_rfl) h

noncomputable def C34 : Code := (Tryz.f34.body).getD .skip
noncomputable def H34 : Hints := ⟨[], [], []⟩
def F34 (a0 : Value) (w : World) (Q : Value → World → Prop) : Prop :=
  wpB (be Tryz.prog .eql 70 (.tmp 3) (.const (.slice none 0 0)) a0 (.slice none 0 0)) fun t4 =>
  cnd t4
  (Q (.slice none 0 0) w)
  (effv Tryz.prog (Instr.buildSlice 70 0 #[]) w fun t5 w =>
  effv Tryz.prog (Builtin.append_ #[70, 70] 70 #[t5, a0]) w fun t7 w =>
  Q t7 w)
theorem F34_ok {a0 : Value} {w : World} {Q : Value → World → Prop} (h : F34 a0 w Q) : CallR Tryz.prog 34 [a0] w Q :=
  ah mixed ag Tryz.func34 (c := C34) rfl H34 (Nat.le_of_ble_eq_true rfl) (by kernel_rfl) h

noncomputable def C35 : Code := (Tryz.f35.body).getD .skip
noncomputable def H35 : Hints := ⟨[], [], []⟩
def F35 (a0 : Value) (w : World) (Q : Value → World → Prop) : Prop :=
  wpB (be Tryz.prog .eql 72 (.tmp 3) (.const (.slice none 0 0)) a0 (.slice none 0 0)) fun t4 =>
  cnd t4
  (Q (.slice none 0 0) w)
  (effv Tryz.prog (Instr.buildSlice 72 0 #[]) w fun t5 w =>
  effv Tryz.prog (Builtin.append_ #[72, 72] 72 #[t5, a0]) w fun t7 w =>
  Q t7 w)
theorem F35_ok {a0 : Value} {w : World} {Q : Value → World → Prop} (h : F35 a0 w Q) : CallR Tryz.prog 35 [a0] w Q :=
  ah mixed ag Tryz.func35 (c := C35) rfl H35 (Nat.le_of_ble_eq_true rfl) (by kernel_rfl) h

noncomputable def C36 : Code := (Tryz.f36.body).getD .skip
noncomputable def H36 : Hints := ⟨[], [], []⟩
def F36 (a0 : Value) (w : World) (Q : Value → World → Prop) : Prop :=
  wpB (be Tryz.prog .eql 79 (.tmp 3) (.const (.slice none 0 0)) a0 (.slice none 0 0)) fun t4 =>
  cnd t4
  (Q (.slice none 0 0) w)
  (effv Tryz.prog (Instr.buildSlice 79 0 #[]) w fun t5 w =>
  effv Tryz.prog (Builtin.append_ #[79, 79] 79 #[t5, a0]) w fun t7 w =>
  Q t7 w)
theorem F36_ok {a0 : Value} {w : World} {Q : Value → World → Prop} (h : F36 a0 w Q) : CallR Tryz.prog 36 [a0] w Q :=
  ah mixed ag Tryz.func36 (c := C36) rfl H36 (Nat.le_of_ble_eq_true rfl) (by kernel_rfl) h

noncomputable def C37 : Code := (Tryz.f37.body).getD .skip
noncomputable def H37 : Hints := ⟨[], [], []⟩
def F37 (a0 : Value) (w : World) (Q : Value → World → Prop) : Prop :=
  wpB (be Tryz.prog .eql 71 (.tmp 3) (.const (.slice none 0 0)) a0 (.slice none 0 0)) fun t4 =>
  cnd t4
  (Q (.slice none 0 0) w)
  (effv Tryz.prog (Instr.buildSlice 71 0 #[]) w fun t5 w =>
  effv Tryz.prog (Builtin.append_ #[71, 71] 71 #[t5, a0]) w fun t7 w =>
  Q t7 w)
theorem F37_ok {a0 : Value} {w : World} {Q : Value → World → Prop} (h : F37 a0 w Q) : CallR Tryz.prog 37 [a0] w Q :=
  ah mixed ag Tryz.func37 (c := C37) rfl H37 (Nat.le_of_ble_eq_true rfl) (by kernel_rfl) h

noncomputable def C38 : Code := (Tryz.f38.body).getD .skip
noncomputable def H38 : Hints := ⟨[], [], []⟩
def F38 (a0 : Value) (w : World) (Q : Value → World → Prop) : Prop :=
  wpB (be Tryz.prog .eql 22 (.tmp 3) (.const (.slice none 0 0)) a0 (.slice none 0 0)) fun t4 =>
  cnd t4
  (Q (.slice none 0 0) w)
  (effv Tryz.prog (Instr.buildSlice 22 0 #[]) w fun t5 w =>
  effv Tryz.prog (Builtin.append_ #[22, 22] 22 #[t5, a0]) w fun t7 w =>
  Q t7 w)
theorem F38_ok {a0 : Value} {w : World} {Q : Value → World → Prop} (h : F38 a0 w Q) : CallR Tryz.prog 38 [a0] w Q :=
  ah mixed ag Tryz.func38 (c := C38) rfl H38 (Nat.le_of_ble_eq_true rfl) (by kernel_rfl) h

noncomputable def C39 : Code := (Tryz.f39.body).getD .skip
noncomputable def H39 : Hints := ⟨[], [], []⟩
def F39 (a0 : Value) (w : World) (Q : Value → World → Prop) : Prop :=
  wpB (be Tryz.prog .eql 44 (.tmp 3) (.const (.slice none 0 0)) a0 (.slice none 0 0)) fun t4 =>
  cnd t4
  (Q (.slice none 0 0) w)
  (effv Tryz.prog (Instr.buildSlice 44 0 #[]) w fun t5 w =>
  effv Tryz.prog (Builtin.append_ #[44, 44] 44 #[t5, a0]) w fun t7 w =>
  Q t7 w)
theorem F39_ok {a0 : Value} {w : World} {Q : Value → World → Prop} (h : F39 a0 w Q) : CallR Tryz.prog 39 [a0] w Q :=
  ah mixed ag Tryz.func39 (c := C39) rfl H39 (Nat.le_of_ble_eq_true rfl) (by kernel_rfl) h

noncomputable def C40 : Code := (Tryz.f40.body).getD .skip
noncomputable def H40 : Hints := ⟨[], [], []⟩
def F40 (a0 : Value) (w : World) (Q : Value → World → Prop) : Prop :=
  wpB (be Tryz.prog .eql 86 (.tmp 3) (.const (.slice none 0 0)) a0 (.slice none 0 0)) fun t4 =>
  cnd t4
  (Q (.slice none 0 0) w)
  (effv Tryz.prog (Instr.buildSlice 86 0 #[]) w fun t5 w =>
  effv Tryz.prog (Builtin.append_ #[86, 86] 86 #[t5, a0]) w fun t7 w =>
  Q t7 w)
theorem F40_ok {a0 : Value} {w : World} {Q : Value → World → Prop} (h : F40 a0 w Q) : CallR Tryz.prog 40 [a0] w Q :=
  ah mixed ag Tryz.func40 (c := C40) rfl H40 (Nat.le_of_ble_eq_true rfl) (by kernel_rfl) h

noncomputable def C41 : Code := (Tryz.f41.body).getD .skip
noncomputable def H41 : Hints := ⟨[], [], []⟩
def F41 (a0 : Value) (w : World) (Q : Value → World → Prop) : Prop :=
  wpB (be Tryz.prog .eql 93 (.tmp 3) (.const (.slice none 0 0)) a0 (.slice none 0 0)) fun t4 =>
  cnd t4
  (Q (.slice none 0 0) w)
  (effv Tryz.prog (Instr.buildSlice 93 0 #[]) w fun t5 w =>
  effv Tryz.prog (Builtin.append_ #[93, 93] 93 #[t5, a0]) w fun t7 w =>
  Q t7 w)
theorem F41_ok {a0 : Value} {w : World} {Q : Value → World → Prop} (h : F41 a0 w Q) : CallR Tryz.prog 41 [a0] w Q :=
  ah mixed ag Tryz.func41 (c := C41) rfl H41 (Nat.le_of_ble_eq_true rfl) (by kernel_rfl) h

noncomputable def C44 : Code := (Tryz.f44.body).getD .skip
noncomputable def H44 : Hints := ⟨[(2, [0, 3, 10, 11])], [], [(4, (.leaf [0, 1, 2, 3, 4, 5, 6, 7, 8, 9]))]⟩
noncomputable def T44_0 : List It := [.lp (nav [1, 0, 1, 4, 5] C44), .blk 0, .jn (nav [1, 1] C44)]
def P44_0 (x0 x3 x10 x11 : Value) (w : World) (Q : Value → World → Prop) : Prop := Part Tryz.prog 44 T44_0 [0, 3, 10, 11] [x0, x3, x10, x11] w Q
def F44 (a0 a1 : Value) (w : World) (Q : Value → World → Prop) : Prop :=
  effv Tryz.prog (Instr.box 84 a1) w fun t3 w =>
  wpB (nilv a0) fun t7 =>
  wpB (pureRun Tryz.prog (Instr.fieldAt 74 t7 3)) fun t8 =>
  wpB (ldv Tryz.prog 71 t8 w) fun t9 =>
  wpB (pureRun Tryz.prog (Builtin.len_ #[71] 3 #[t9])) fun t10 =>
  P44_0 a0 t3 t10 (.int .i64 0) w Q
def L44_0 (x0 x3 x10 x11 : Value) (w : World) (Q : Value → World → Prop) : Prop :=
  wpB (bp Tryz.prog .lss 3 x11 x10) fun t12 =>
  cnd t12
  (wpB (nilv x0) fun t15 =>
  wpB (pureRun Tryz.prog (Instr.fieldAt 74 t15 3)) fun t16 =>
  wpB (ldv Tryz.prog 71 t16 w.drew) fun t17 =>
  wpB (pureRun Tryz.prog (Instr.indexAt 71 t17 x11)) fun t19 =>
  wpB (pureRun Tryz.prog (Instr.fieldAt 88 t19 0)) fun t20 =>
  wpB (ldv Tryz.prog 84 t20 w.drew) fun t21 =>
  wpB (ldv Tryz.prog 84 x3 w.drew) fun t22 =>
  wpB (be Tryz.prog .eql 84 (.tmp 21) (.tmp 22) t21 t22) fun t23 =>
  cnd t23
  (wpB (nilv x0) fun t25 =>
  wpB (pureRun Tryz.prog (Instr.fieldAt 74 t25 3)) fun t26 =>
  wpB (ldv Tryz.prog 71 t26 w.drew) fun t27 =>
  wpB (pureRun Tryz.prog (Instr.indexAt 71 t27 x11)) fun t29 =>
  Q t29 w.drew)
  (wpB (bp Tryz.prog .add 3 x11 (.int .i64 1)) fun t30 =>
  P44_0 x0 x3 x10 t30 w.drew Q))
  (Q (.pointer none) w)
theorem F44_ok {a0 a1 : Value} {w : World} {Q : Value → World → Prop} (h : F44 a0 a1 w Q) : CallR Tryz.prog 44 [a0, a1] w Q :=
  ah mixed ag Tryz.func44 (c := C44) rfl H44 (Nat.le_of_ble_eq_true rfl) (by kernel_rfl) h
theorem L44_0_ok {x0 x3 x10 x11 : Value} {w : World} {Q : Value → World → Prop} (h : L44_0 x0 x3 x10 x11 w Q) : P44_0 x0 x3 x10 x11 w Q :=
  aQ mixed ag Tryz.func44 H44 (by kernel_rfl) h

noncomputable def C46 : Code := (Tryz.f46.body).getD .skip
noncomputable def H46 : Hints := ⟨[], [], [(1, (.leaf [0, 1, 2, 3, 4, 5, 6, 7, 8, 9, 10, 11, 12, 13, 14, 15, 16, 17, 18]))]⟩
def F46 (a0 a1 : Value) (w : World) (Q : Value → World → Prop) : Prop :=
  effv Tryz.prog (Instr.box 84 a1) w fun t3 w =>
  wpB (pureRun Tryz.prog (Instr.fieldAt 84 t3 0)) fun t6 =>
  wpB (ldv Tryz.prog 3 t6 w.drew) fun t7 =>
  CallR Tryz.prog 57 [a0, t7] w.drew fun t8 w =>
  wpB (gd t8 true (nilv (gv t8 true a0))) fun t11 =>
  wpB (gd t8 true (pureRun Tryz.prog (Instr.fieldAt 74 t11 2))) fun t12 =>
  wpB (gd t8 true (ldv Tryz.prog 70 t12 w)) fun t13 =>
  wpB (gd t8 true (pureRun Tryz.prog (Instr.fieldAt 84 t3 0))) fun t14 =>
  wpB (gd t8 true (ldv Tryz.prog 3 t14 w)) fun t15 =>
  wpB (gd t8 true (pureRun Tryz.prog (Instr.indexAt 70 t13 t15))) fun t16 =>
  wpB (gd t8 true (ldv Tryz.prog 77 t16 w)) fun t17 =>
  wpB (gd t8 true (pureRun Tryz.prog (Instr.fieldAt 84 t3 1))) fun t18 =>
  wpB (gd t8 true (ldv Tryz.prog 3 t18 w)) fun t19 =>
  wpB (gd t8 true (pureRun Tryz.prog (Instr.build 77 #[(0, (.int .i64 1)), (1, t19)]))) fun t20 =>
  wpB (gd t8 true (be Tryz.prog .eql 77 (.tmp 17) (.tmp 20) t17 t20)) fun t21 =>
  wpB (pickv t8 (some t21) (some (.bool false))) fun t22 =>
  Q t22 w
theorem F46_ok {a0 a1 : Value} {w : World} {Q : Value → World → Prop} (h : F46 a0 a1 w Q) : CallR Tryz.prog 46 [a0, a1] w Q :=
  ah mixed ag Tryz.func46 (c := C46) rfl H46 (Nat.le_of_ble_eq_true rfl) (by kernel_rfl) h

noncomputable def C47 : Code := (Tryz.f47.body).getD .skip
noncomputable def H47 : Hints := ⟨[], [(5, [0, 6, 7, 10, 11]), (9, [0, 6, 7, 10, 12, 13]), (31, [6, 7, 12, 13, 45, 94]), (37, [13, 108]), (38, [])], [(4, (.ask 3 7 (.ask 8 7 (.leaf [0, 1, 2, 4, 3, 5, 6, 8, 7, 9, 10]) (.leaf [0, 1, 2, 3, 4, 5, 6, 7, 8, 9, 10])) (.ask 8 7 (.leaf [0, 1, 2, 4, 6, 8, 7, 3, 5, 9, 10]) (.leaf [0, 1, 2, 4, 6, 7, 3, 5, 8, 9, 10])))), (5, (.leaf [0, 1, 2, 3, 4, 5, 6])), (11, (.leaf [0, 1, 2, 3, 4, 5, 6, 7, 8, 9, 10, 11, 12]))]⟩
noncomputable def T47_0 : List It := [.jn (nav [1, 1, 1] C47)]
noncomputable def T47_1 : List It := [.jn (nav [1, 1, 1, 1, 1, 1] C47)]
noncomputable def T47_2 : List It := [.jn (nav [1, 1, 1, 1, 1, 1, 1] C47)]
noncomputable def T47_3 : List It := [.jn (nav [1, 1, 1, 1, 1, 1, 0, 1, 4, 1, 3, 1, 3, 1, 3, 1, 3, 1] C47), .blk 0, .jn (nav [1, 1, 1, 1, 1, 1, 1] C47)]
noncomputable def T47_4 : List It := [.jn (nav [1, 1, 1, 1, 1, 1, 0, 1, 4, 1, 3, 1, 3, 1, 3, 1, 3, 1, 3, 1] C47), .blk 0, .jn (nav [1, 1, 1, 1, 1, 1, 1] C47)]
def P47_0 (x0 x6 x7 x10 x11 : Value) (w : World) (Q : Value → World → Prop) : Prop := Part Tryz.prog 47 T47_0 [0, 6, 7, 10, 11] [x0, x6, x7, x10, x11] w Q
def P47_1 (x0 x6 x7 x10 x12 x13 : Value) (w : World) (Q : Value → World → Prop) : Prop := Part Tryz.prog 47 T47_1 [0, 6, 7, 10, 12, 13] [x0, x6, x7, x10, x12, x13] w Q
def P47_2 (w : World) (Q : Value → World → Prop) : Prop := Part Tryz.prog 47 T47_2 [] [] w Q
def P47_3 (x6 x7 x12 x13 x45 x94 : Value) (w : World) (Q : Value → World → Prop) : Prop := Part Tryz.prog 47 T47_3 [6, 7, 12, 13, 45, 94] [x6, x7, x12, x13, x45, x94] w Q
def P47_4 (x13 x108 : Value) (w : World) (Q : Value → World → Prop) : Prop := Part Tryz.prog 47 T47_4 [13, 108] [x13, x108] w Q
def F47 (a0 a1 a2 a3 : Value) (w : World) (Q : Value → World → Prop) : Prop :=
  effv Tryz.prog (Instr.box 39 a2) w fun t6 w =>
  effv Tryz.prog (Instr.box 25 a3) w fun t7 w =>
  wpB (pureRun Tryz.prog (Instr.fieldAt 39 t6 0)) fun t14 =>
  wpB (ldv Tryz.prog 3 t14 w) fun t15 =>
  CallR Tryz.prog 75 [t15] w fun t16 w =>
  wpB (be Tryz.prog .neq 3 (.tmp 17) (.const (.int .i64 0)) t16 (.int .i64 0)) fun t18 =>
  wpB (gd t18 true (ldv Tryz.prog 25 t7 w)) fun t21 =>
  gE t18 true (CallR Tryz.prog 76 [(gv t18 true a0), t21, (gv t18 true t16)] w) (fun t23 w =>
  wpB (gd t18 true (pureRun Tryz.prog (Op.unary .not t23))) fun t24 =>
  wpB (pickv t18 (some t24) (some (.bool false))) fun t25 =>
  cnd t25
  (Q (.int .i64 2) w)
  (((wpB (nilv a0) fun t27 =>
  wpB (pureRun Tryz.prog (Instr.fieldAt 74 t27 4)) fun t28 =>
  wpB (ldv Tryz.prog 72 t28 w.drew) fun t29 =>
  wpB (pureRun Tryz.prog (Instr.indexAt 72 t29 a1)) fun t31 =>
  wpB (ldv Tryz.prog 25 t7 w.drew) fun t32 =>
  effv Tryz.prog (Instr.alloc 84 true (.tuple #[])) w.drew fun t11 w =>
  CallR Tryz.prog 49 [t32] w fun t33 w =>
  effu Tryz.prog (Instr.storeAt 84 t11 t33) w fun w =>
  P47_0 a0 t6 t7 t31 t11 w Q) ∧
  (wpB (nilv a0) fun t27_1 =>
  wpB (pureRun Tryz.prog (Instr.fieldAt 74 t27_1 4)) fun t28_1 =>
  wpB (ldv Tryz.prog 72 t28_1 w.drew) fun t29_1 =>
  wpB (pureRun Tryz.prog (Instr.indexAt 72 t29_1 a1)) fun t31_1 =>
  wpB (ldv Tryz.prog 25 t7 w.drew) fun t32_1 =>
  CallR Tryz.prog 49 [t32_1] w.drew fun t33_1 w =>
  effv Tryz.prog (Instr.alloc 84 true (.tuple #[])) w fun t11_1 w =>
  effu Tryz.prog (Instr.storeAt 84 t11_1 t33_1) w fun w =>
  P47_0 a0 t6 t7 t31_1 t11_1 w Q)) ∧
  ((wpB (nilv a0) fun t27_2 =>
  wpB (pureRun Tryz.prog (Instr.fieldAt 74 t27_2 4)) fun t28_2 =>
  wpB (ldv Tryz.prog 25 t7 w.drew) fun t32_2 =>
  effv Tryz.prog (Instr.alloc 84 true (.tuple #[])) w.drew fun t11_2 w =>
  CallR Tryz.prog 49 [t32_2] w fun t33_2 w =>
  wpB (ldv Tryz.prog 72 t28_2 w) fun t29_2 =>
  wpB (pureRun Tryz.prog (Instr.indexAt 72 t29_2 a1)) fun t31_2 =>
  effu Tryz.prog (Instr.storeAt 84 t11_2 t33_2) w fun w =>
  P47_0 a0 t6 t7 t31_2 t11_2 w Q) ∧
  (wpB (nilv a0) fun t27_3 =>
  wpB (pureRun Tryz.prog (Instr.fieldAt 74 t27_3 4)) fun t28_3 =>
  wpB (ldv Tryz.prog 25 t7 w.drew) fun t32_3 =>
  CallR Tryz.prog 49 [t32_3] w.drew fun t33_3 w =>
  wpB (ldv Tryz.prog 72 t28_3 w) fun t29_3 =>
  wpB (pureRun Tryz.prog (Instr.indexAt 72 t29_3 a1)) fun t31_3 =>
  effv Tryz.prog (Instr.alloc 84 true (.tuple #[])) w fun t11_3 w =>
  effu Tryz.prog (Instr.storeAt 84 t11_3 t33_3) w fun w =>
  P47_0 a0 t6 t7 t31_3 t11_3 w Q)))) w
def L47_0 (x0 x6 x7 x10 x11 : Value) (w : World) (Q : Value → World → Prop) : Prop :=
  wpB (nilv x10) fun t35 =>
  wpB (pureRun Tryz.prog (Instr.fieldAt 81 t35 1)) fun t36 =>
  wpB (ldv Tryz.prog 79 t36 w.drew) fun t37 =>
  wpB (ldv Tryz.prog 84 x11 w.drew) fun t38 =>
  CallR Tryz.prog 61 [t37, t38] w.drew fun t39 w =>
  wpB (ldv Tryz.prog 84 x11 w) fun t41 =>
  CallR Tryz.prog 46 [x0, t41] w fun t42 w =>
  wpB (pureRun Tryz.prog (Op.unary .not t42)) fun t43 =>
  cnd t43
  (P47_1 x0 x6 x7 x10 t39 (.int .i64 3) w Q)
  (P47_1 x0 x6 x7 x10 t39 (.int .i64 0) w Q)
def L47_1 (x0 x6 x7 x10 x12 x13 : Value) (w : World) (Q : Value → World → Prop) : Prop :=
  wpB (pureRun Tryz.prog (Instr.fieldAt 39 x6 0)) fun t44 =>
  wpB (ldv Tryz.prog 3 t44 w) fun t45 =>
  wpB (be Tryz.prog .eql 3 (.tmp 45) (.const (.int .i64 2)) t45 (.int .i64 2)) fun t47 =>
  cnd t47
  (wpB (pureRun Tryz.prog (Instr.fieldAt 39 x6 3)) fun t48 =>
  wpB (ldv Tryz.prog 3 t48 w.drew) fun t49 =>
  wpB (bp Tryz.prog .lss 3 t49 (.int .i64 1)) fun t50 =>
  wpB (gd t50 false (pureRun Tryz.prog (Instr.fieldAt 39 x6 3))) fun t52 =>
  wpB (gd t50 false (ldv Tryz.prog 3 t52 w.drew)) fun t53 =>
  wpB (gd t50 false (nilv (gv t50 false x0))) fun t55 =>
  wpB (gd t50 false (pureRun Tryz.prog (Instr.fieldAt 74 t55 0))) fun t56 =>
  wpB (gd t50 false (pureRun Tryz.prog (Instr.fieldAt 33 t56 2))) fun t57 =>
  wpB (gd t50 false (ldv Tryz.prog 3 t57 w.drew)) fun t58 =>
  wpB (gd t50 false (bp Tryz.prog .gtr 3 t53 t58)) fun t59 =>
  wpB (pickv t50 (some (.bool true)) (some t59)) fun t60 =>
  cnd t60
  (Q (.int .i64 5) w.drew)
  (Q x13 w.drew))
  (wpB (be Tryz.prog .eql 3 (.tmp 45) (.const (.int .i64 3)) t45 (.int .i64 3)) fun t63 =>
  cnd t63
  (wpB (nilv x10) fun t65 =>
  wpB (pureRun Tryz.prog (Instr.fieldAt 81 t65 0)) fun t66 =>
  wpB (ldv Tryz.prog 3 t66 w) fun t67 =>
  wpB (be Tryz.prog .eql 3 (.tmp 67) (.const (.int .i64 15)) t67 (.int .i64 15)) fun t68 =>
  cnd t68
  (Q (.int .i64 8) w)
  (P47_2 w Q))
  (wpB (be Tryz.prog .eql 3 (.tmp 45) (.const (.int .i64 4)) t45 (.int .i64 4)) fun t70 =>
  cnd t70
  (wpB (nilv x10) fun t72 =>
  wpB (pureRun Tryz.prog (Instr.fieldAt 81 t72 0)) fun t73 =>
  wpB (ldv Tryz.prog 3 t73 w) fun t74 =>
  wpB (be Tryz.prog .eql 3 (.tmp 74) (.const (.int .i64 0)) t74 (.int .i64 0)) fun t75 =>
  cnd t75
  (Q (.int .i64 4) w)
  (P47_2 w Q))
  (wpB (be Tryz.prog .eql 3 (.tmp 45) (.const (.int .i64 5)) t45 (.int .i64 5)) fun t77 =>
  cnd t77
  (wpB (nilv x10) fun t81 =>
  wpB (pureRun Tryz.prog (Instr.fieldAt 81 t81 0)) fun t82 =>
  wpB (ldv Tryz.prog 3 t82 w) fun t83 =>
  wpB (be Tryz.prog .eql 3 (.tmp 83) (.const (.int .i64 0)) t83 (.int .i64 0)) fun t84 =>
  cnd t84
  (Q (.int .i64 4) w)
  (cnd x12
  (P47_2 w Q)
  (wpB (nilv x10) fun t89 =>
  wpB (pureRun Tryz.prog (Instr.fieldAt 81 t89 1)) fun t90 =>
  wpB (ldv Tryz.prog 79 t90 w) fun t91 =>
  wpB (pureRun Tryz.prog (Builtin.len_ #[79] 3 #[t91])) fun t92 =>
  wpB (be Tryz.prog .eql 3 (.tmp 92) (.const (.int .i64 8)) t92 (.int .i64 8)) fun t93 =>
  cnd t93
  (Q (.int .i64 8) w)
  (Q x13 w))))
  (wpB (be Tryz.prog .eql 3 (.tmp 45) (.const (.int .i64 6)) t45 (.int .i64 6)) fun t95 =>
  cnd t95
  (P47_3 x6 x7 x12 x13 t45 t95 w Q)
  (wpB (be Tryz.prog .eql 3 (.tmp 45) (.const (.int .i64 7)) t45 (.int .i64 7)) fun t96 =>
  cnd t96
  (P47_3 x6 x7 x12 x13 t45 t96 w Q)
  (wpB (be Tryz.prog .eql 3 (.tmp 45) (.const (.int .i64 8)) t45 (.int .i64 8)) fun t97 =>
  cnd t97
  (P47_3 x6 x7 x12 x13 t45 t97 w Q)
  (wpB (be Tryz.prog .eql 3 (.tmp 45) (.const (.int .i64 9)) t45 (.int .i64 9)) fun t98 =>
  P47_3 x6 x7 x12 x13 t45 t98 w Q)))))))
def L47_2 (w : World) (Q : Value → World → Prop) : Prop :=
  Q (.int .i64 0) w
def L47_3 (x6 x7 x12 x13 x45 x94 : Value) (w : World) (Q : Value → World → Prop) : Prop :=
  cnd x94
  (wpB (pureRun Tryz.prog (Op.unary .not x12)) fun t101 =>
  cnd t101
  (Q (.int .i64 4) w)
  (wpB (pureRun Tryz.prog (Instr.fieldAt 39 x6 3)) fun t103 =>
  wpB (ldv Tryz.prog 3 t103 w) fun t104 =>
  wpB (pureRun Tryz.prog (Instr.fieldAt 25 x7 4)) fun t105 =>
  wpB (ldv Tryz.prog 3 t105 w) fun t106 =>
  wpB (bp Tryz.prog .geq 3 t104 t106) fun t107 =>
  cnd t107
  (Q (.int .i64 5) w)
  (P47_2 w Q)))
  (wpB (be Tryz.prog .eql 3 (.tmp 45) (.const (.int .i64 10)) x45 (.int .i64 10)) fun t109 =>
  cnd t109
  (P47_4 x13 t109 w Q)
  (wpB (be Tryz.prog .eql 3 (.tmp 45) (.const (.int .i64 12)) x45 (.int .i64 12)) fun t110 =>
  P47_4 x13 t110 w Q))
def L47_4 (x13 x108 : Value) (w : World) (Q : Value → World → Prop) : Prop :=
  cnd x108
  (Q x13 w)
  (P47_2 w Q)
theorem F47_ok {a0 a1 a2 a3 : Value} {w : World} {Q : Value → World → Prop} (h : F47 a0 a1 a2 a3 w Q) : CallR Tryz.prog 47 [a0, a1, a2, a3] w Q :=
  ah mixed ag Tryz.func47 (c := C47) rfl H47 (Nat.le_of_ble_eq_true rfl) (by kernel_rfl) h
theorem L47_0_ok {x0 x6 x7 x10 x11 : Value} {w : World} {Q : Value → World → Prop} (h : L47_0 x0 x6 x7 x10 x11 w Q) : P47_0 x0 x6 x7 x10 x11 w Q :=
  ar mixed ag Tryz.func47 H47 (by kernel_rfl) h
theorem L47_1_ok {x0 x6 x7 x10 x12 x13 : Value} {w : World} {Q : Value → World → Prop} (h : L47_1 x0 x6 x7 x10 x12 x13 w Q) : P47_1 x0 x6 x7 x10 x12 x13 w Q :=
  ar mixed ag Tryz.func47 H47 (by kernel_rfl) h
theorem L47_2_ok {w : World} {Q : Value → World → Prop} (h : L47_2  w Q) : P47_2  w Q :=
  ar mixed ag Tryz.func47 H47 (by kernel_rfl) h
theorem L47_3_ok {x6 x7 x12 x13 x45 x94 : Value} {w : World} {Q : Value → World → Prop} (h : L47_3 x6 x7 x12 x13 x45 x94 w Q) : P47_3 x6 x7 x12 x13 x45 x94 w Q :=
  ar mixed ag Tryz.func47 H47 (by kernel_rfl) h
theorem L47_4_ok {x13 x108 : Value} {w : World} {Q : Value → World → Prop} (h : L47_4 x13 x108 w Q) : P47_4 x13 x108 w Q :=
  ar mixed ag Tryz.func47 H47 (by kernel_rfl) h

noncomputable def C48 : Code := (Tryz.f48.body).getD .skip
noncomputable def H48 : Hints := ⟨[], [], [(2, (.ask 3 10 (.ask 14 10 (.leaf [0, 1, 2, 4, 5, 6, 8, 13, 15, 3, 7, 9, 14, 16, 10, 11, 12, 17, 18]) (.leaf [0, 1, 2, 3, 4, 5, 6, 7, 8, 9, 10, 11, 12, 13, 14, 15, 16, 17, 18])) (.ask 14 10 (.leaf [0, 1, 2, 4, 5, 6, 8, 13, 15, 7, 9, 14, 16, 10, 3, 11, 12, 17, 18]) (.leaf [0, 1, 2, 4, 5, 6, 8, 13, 15, 7, 9, 10, 3, 11, 12, 14, 16, 17, 18]))))]⟩
def F48 (a0 a1 a2 : Value) (w : World) (Q : Value → World → Prop) : Prop :=
  effv Tryz.prog (Instr.box 25 a1) w fun t4 w =>
  wpB (ldv Tryz.prog 25 t4 w) fun t9 =>
  CallR Tryz.prog 49 [t9] w fun t10 w =>
  CallR Tryz.prog 44 [a0, t10] w fun t11 w =>
  ((wpB (nilv t11) fun t13 =>
  wpB (pureRun Tryz.prog (Instr.fieldAt 88 t13 4)) fun t14 =>
  wpB (nilv t11) fun t17 =>
  wpB (pureRun Tryz.prog (Instr.fieldAt 88 t17 3)) fun t18 =>
  wpB (pureRun Tryz.prog (Instr.fieldAt 25 t4 2)) fun t20 =>
  wpB (pureRun Tryz.prog (Instr.fieldAt 25 t4 3)) fun t25 =>
  wpB (ldv Tryz.prog 86 t14 w.drew) fun t15 =>
  wpB (ldv Tryz.prog 22 t18 w.drew) fun t19 =>
  wpB (ldv Tryz.prog 3 t20 w.drew) fun t21 =>
  wpB (ldv Tryz.prog 3 t25 w.drew) fun t26 =>
  wpB (bp Tryz.prog .add 3 t26 a2) fun t28 =>
  CallR Tryz.prog 77 [t19, t21] w.drew fun t22 w =>
  wpB (pureRun Tryz.prog (Instr.indexAt 86 t15 t22)) fun t23 =>
  wpB (ldv Tryz.prog 93 t23 w) fun t24 =>
  wpB (pureRun Tryz.prog (Instr.indexAt 93 t24 t28)) fun t29 =>
  Q t29 w) ∧
  (wpB (nilv t11) fun t13_1 =>
  wpB (pureRun Tryz.prog (Instr.fieldAt 88 t13_1 4)) fun t14_1 =>
  wpB (ldv Tryz.prog 86 t14_1 w.drew) fun t15_1 =>
  wpB (nilv t11) fun t17_1 =>
  wpB (pureRun Tryz.prog (Instr.fieldAt 88 t17_1 3)) fun t18_1 =>
  wpB (ldv Tryz.prog 22 t18_1 w.drew) fun t19_1 =>
  wpB (pureRun Tryz.prog (Instr.fieldAt 25 t4 2)) fun t20_1 =>
  wpB (ldv Tryz.prog 3 t20_1 w.drew) fun t21_1 =>
  CallR Tryz.prog 77 [t19_1, t21_1] w.drew fun t22_1 w =>
  wpB (pureRun Tryz.prog (Instr.indexAt 86 t15_1 t22_1)) fun t23_1 =>
  wpB (ldv Tryz.prog 93 t23_1 w) fun t24_1 =>
  wpB (pureRun Tryz.prog (Instr.fieldAt 25 t4 3)) fun t25_1 =>
  wpB (ldv Tryz.prog 3 t25_1 w) fun t26_1 =>
  wpB (bp Tryz.prog .add 3 t26_1 a2) fun t28_1 =>
  wpB (pureRun Tryz.prog (Instr.indexAt 93 t24_1 t28_1)) fun t29_1 =>
  Q t29_1 w)) ∧
  ((wpB (nilv t11) fun t13_2 =>
  wpB (pureRun Tryz.prog (Instr.fieldAt 88 t13_2 4)) fun t14_2 =>
  wpB (nilv t11) fun t17_2 =>
  wpB (pureRun Tryz.prog (Instr.fieldAt 88 t17_2 3)) fun t18_2 =>
  wpB (pureRun Tryz.prog (Instr.fieldAt 25 t4 2)) fun t20_2 =>
  wpB (pureRun Tryz.prog (Instr.fieldAt 25 t4 3)) fun t25_2 =>
  wpB (ldv Tryz.prog 22 t18_2 w.drew) fun t19_2 =>
  wpB (ldv Tryz.prog 3 t20_2 w.drew) fun t21_2 =>
  wpB (ldv Tryz.prog 3 t25_2 w.drew) fun t26_2 =>
  wpB (bp Tryz.prog .add 3 t26_2 a2) fun t28_2 =>
  CallR Tryz.prog 77 [t19_2, t21_2] w.drew fun t22_2 w =>
  wpB (ldv Tryz.prog 86 t14_2 w) fun t15_2 =>
  wpB (pureRun Tryz.prog (Instr.indexAt 86 t15_2 t22_2)) fun t23_2 =>
  wpB (ldv Tryz.prog 93 t23_2 w) fun t24_2 =>
  wpB (pureRun Tryz.prog (Instr.indexAt 93 t24_2 t28_2)) fun t29_2 =>
  Q t29_2 w) ∧
  (wpB (nilv t11) fun t13_3 =>
  wpB (pureRun Tryz.prog (Instr.fieldAt 88 t13_3 4)) fun t14_3 =>
  wpB (nilv t11) fun t17_3 =>
  wpB (pureRun Tryz.prog (Instr.fieldAt 88 t17_3 3)) fun t18_3 =>
  wpB (pureRun Tryz.prog (Instr.fieldAt 25 t4 2)) fun t20_3 =>
  wpB (pureRun Tryz.prog (Instr.fieldAt 25 t4 3)) fun t25_3 =>
  wpB (ldv Tryz.prog 22 t18_3 w.drew) fun t19_3 =>
  wpB (ldv Tryz.prog 3 t20_3 w.drew) fun t21_3 =>
  CallR Tryz.prog 77 [t19_3, t21_3] w.drew fun t22_3 w =>
  wpB (ldv Tryz.prog 86 t14_3 w) fun t15_3 =>
  wpB (pureRun Tryz.prog (Instr.indexAt 86 t15_3 t22_3)) fun t23_3 =>
  wpB (ldv Tryz.prog 93 t23_3 w) fun t24_3 =>
  wpB (ldv Tryz.prog 3 t25_3 w) fun t26_3 =>
  wpB (bp Tryz.prog .add 3 t26_3 a2) fun t28_3 =>
  wpB (pureRun Tryz.prog (Instr.indexAt 93 t24_3 t28_3)) fun t29_3 =>
  Q t29_3 w))
theorem F48_ok {a0 a1 a2 : Value} {w : World} {Q : Value → World → Prop} (h : F48 a0 a1 a2 w Q) : CallR Tryz.prog 48 [a0, a1, a2] w Q :=
  ah mixed ag Tryz.func48 (c := C48) rfl H48 (Nat.le_of_ble_eq_true rfl) (by kernel_rfl) h

noncomputable def C49 : Code := (Tryz.f49.body).getD .skip
noncomputable def H49 : Hints := ⟨[], [], []⟩
def F49 (a0 : Value) (w : World) (Q : Value → World → Prop) : Prop :=
  effv Tryz.prog (Instr.box 25 a0) w fun t1 w =>
  effv Tryz.prog (Instr.alloc 84 true (.tuple #[])) w fun t2 w =>
  wpB (pureRun Tryz.prog (Instr.fieldAt 25 t1 0)) fun t3 =>
  wpB (ldv Tryz.prog 3 t3 w) fun t4 =>
  wpB (pureRun Tryz.prog (Instr.fieldAt 25 t1 1)) fun t5 =>
  wpB (ldv Tryz.prog 3 t5 w) fun t6 =>
  wpB (pureRun Tryz.prog (Instr.build 84 #[(0, t4), (1, t6)])) fun t7 =>
  effu Tryz.prog (Instr.storeAt 84 t2 t7) w fun w =>
  wpB (ldv Tryz.prog 84 t2 w) fun r2 => Q r2 w
theorem F49_ok {a0 : Value} {w : World} {Q : Value → World → Prop} (h : F49 a0 w Q) : CallR Tryz.prog 49 [a0] w Q :=
  ah mixed ag Tryz.func49 (c := C49) rfl H49 (Nat.le_of_ble_eq_true rfl) (by kernel_rfl) h

noncomputable def C56 : Code := (Tryz.f56.body).getD .skip
noncomputable def H56 : Hints := ⟨[], [], []⟩
def F56 (a0 : Value) (w : World) (Q : Value → World → Prop) : Prop :=
  effv Tryz.prog (Instr.box 33 a0) w fun t1 w =>
  wpB (pureRun Tryz.prog (Instr.fieldAt 33 t1 0)) fun t3 =>
  wpB (ldv Tryz.prog 3 t3 w) fun t4 =>
  CallR Tryz.prog 89 [t4, (.int .i64 1), (.int .i64 64)] w fun t5 w =>
  wpB (gd t5 true (pureRun Tryz.prog (Instr.fieldAt 33 t1 1))) fun t7 =>
  wpB (gd t5 true (ldv Tryz.prog 3 t7 w)) fun t8 =>
  gE t5 true (CallR Tryz.prog 89 [t8, (.int .i64 1), (.int .i64 4096)] w) (fun t9 w =>
  wpB (pickv t5 (some t9) (some (.bool false))) fun t10 =>
  wpB (gd t10 true (pureRun Tryz.prog (Instr.fieldAt 33 t1 2))) fun t12 =>
  wpB (gd t10 true (ldv Tryz.prog 3 t12 w)) fun t13 =>
  gE t10 true (CallR Tryz.prog 89 [t13, (.int .i64 8), (.int .i64 1024)] w) (fun t14 w =>
  wpB (pickv t10 (some t14) (some (.bool false))) fun t15 =>
  wpB (gd t15 true (pureRun Tryz.prog (Instr.fieldAt 33 t1 2))) fun t17 =>
  wpB (gd t15 true (ldv Tryz.prog 3 t17 w)) fun t18 =>
  wpB (gd t15 true (bp Tryz.prog .rem 3 t18 (.int .i64 8))) fun t19 =>
  wpB (gd t15 true (be Tryz.prog .eql 3 (.tmp 19) (.const (.int .i64 0)) t19 (.int .i64 0))) fun t20 =>
  wpB (pickv t15 (some t20) (some (.bool false))) fun t21 =>
  wpB (gd t21 true (pureRun Tryz.prog (Instr.fieldAt 33 t1 3))) fun t23 =>
  wpB (gd t21 true (ldv Tryz.prog 3 t23 w)) fun t24 =>
  gE t21 true (CallR Tryz.prog 89 [t24, (.int .i64 1), (.int .i64 4096)] w) (fun t25 w =>
  wpB (pickv t21 (some t25) (some (.bool false))) fun t26 =>
  wpB (gd t26 true (pureRun Tryz.prog (Instr.fieldAt 33 t1 4))) fun t28 =>
  wpB (gd t26 true (ldv Tryz.prog 3 t28 w)) fun t29 =>
  gE t26 true (CallR Tryz.prog 89 [t29, (.int .i64 0), (.int .i64 64)] w) (fun t30 w =>
  wpB (pickv t26 (some t30) (some (.bool false))) fun t31 =>
  wpB (gd t31 true (pureRun Tryz.prog (Instr.fieldAt 33 t1 5))) fun t33 =>
  wpB (gd t31 true (ldv Tryz.prog 3 t33 w)) fun t34 =>
  gE t31 true (CallR Tryz.prog 89 [t34, (.int .i64 1), (.int .i64 8)] w) (fun t35 w =>
  wpB (pickv t31 (some t35) (some (.bool false))) fun t36 =>
  Q t36 w) w) w) w) w) w
theorem F56_ok {a0 : Value} {w : World} {Q : Value → World → Prop} (h : F56 a0 w Q) : CallR Tryz.prog 56 [a0] w Q :=
  ah mixed ag Tryz.func56 (c := C56) rfl H56 (Nat.le_of_ble_eq_true rfl) (by kernel_rfl) h

noncomputable def C57 : Code := (Tryz.f57.body).getD .skip
noncomputable def H57 : Hints := ⟨[], [], []⟩
def F57 (a0 a1 : Value) (w : World) (Q : Value → World → Prop) : Prop :=
  wpB (bp Tryz.prog .geq 3 a1 (.int .i64 0)) fun t6 =>
  wpB (gd t6 true (nilv (gv t6 true a0))) fun t10 =>
  wpB (gd t6 true (pureRun Tryz.prog (Instr.fieldAt 74 t10 2))) fun t11 =>
  wpB (gd t6 true (ldv Tryz.prog 70 t11 w)) fun t12 =>
  wpB (gd t6 true (pureRun Tryz.prog (Builtin.len_ #[70] 3 #[t12]))) fun t13 =>
  wpB (gd t6 true (bp Tryz.prog .lss 3 (gv t6 true a1) t13)) fun t14 =>
  wpB (pickv t6 (some t14) (some (.bool false))) fun t15 =>
  Q t15 w
theorem F57_ok {a0 a1 : Value} {w : World} {Q : Value → World → Prop} (h : F57 a0 a1 w Q) : CallR Tryz.prog 57 [a0, a1] w Q :=
  ah mixed ag Tryz.func57 (c := C57) rfl H57 (Nat.le_of_ble_eq_true rfl) (by kernel_rfl) h

noncomputable def C61 : Code := (Tryz.f61.body).getD .skip
noncomputable def H61 : Hints := ⟨[], [], []⟩
def F61 (a0 a1 : Value) (w : World) (Q : Value → World → Prop) : Prop :=
  effv Tryz.prog (Instr.box 84 a1) w fun t3 w =>
  wpB (ldv Tryz.prog 84 t3 w) fun t6 =>
  CallR Tryz.prog 92 [a0, t6] w fun t7 w =>
  wpB (bp Tryz.prog .geq 3 t7 (.int .i64 0)) fun t8 =>
  Q t8 w
theorem F61_ok {a0 a1 : Value} {w : World} {Q : Value → World → Prop} (h : F61 a0 a1 w Q) : CallR Tryz.prog 61 [a0, a1] w Q :=
  ah mixed ag Tryz.func61 (c := C61) rfl H61 (Nat.le_of_ble_eq_true rfl) (by kernel_rfl) h

noncomputable def C62 : Code := (Tryz.f62.body).getD .skip
noncomputable def H62 : Hints := ⟨[], [], []⟩
def F62 (a0 a1 : Value) (w : World) (Q : Value → World → Prop) : Prop :=
  wpB (bp Tryz.prog .lss 3 a1 (.int .i64 1)) fun t7 =>
  wpB (gd t7 false (bp Tryz.prog .gtr 3 (gv t7 false a1) (.int .i64 1024))) fun t10 =>
  wpB (pickv t7 (some (.bool true)) (some t10)) fun t11 =>
  cnd t11
  (Q (.int .i64 0) w)
  (wpB (pureRun Tryz.prog (Builtin.max_ #[3, 3] 3 #[a0, (.int .i64 0)])) fun t13 =>
  wpB (pureRun Tryz.prog (Builtin.min_ #[3, 3] 3 #[t13, (.int .i64 3)])) fun t14 =>
  wpB (bp Tryz.prog .shl 3 (.int .i64 1) t14) fun t15 =>
  wpB (bp Tryz.prog .add 3 a1 t15) fun t18 =>
  wpB (bp Tryz.prog .sub 3 t18 (.int .i64 1)) fun t19 =>
  wpB (bp Tryz.prog .quo 3 t19 t15) fun t21 =>
  wpB (bp Tryz.prog .mul 3 t21 t15) fun t23 =>
  Q t23 w)
theorem F62_ok {a0 a1 : Value} {w : World} {Q : Value → World → Prop} (h : F62 a0 a1 w Q) : CallR Tryz.prog 62 [a0, a1] w Q :=
  ah mixed ag Tryz.func62 (c := C62) rfl H62 (Nat.le_of_ble_eq_true rfl) (by kernel_rfl) h

noncomputable def C63 : Code := (Tryz.f63.body).getD .skip
noncomputable def H63 : Hints := ⟨[], [], []⟩
def F63 (a0 a1 a2 : Value) (w : World) (Q : Value → World → Prop) : Prop :=
  wpB (nilv a0) fun t8 =>
  wpB (pureRun Tryz.prog (Instr.fieldAt 88 t8 3)) fun t9 =>
  wpB (ldv Tryz.prog 22 t9 w) fun t10 =>
  wpB (pureRun Tryz.prog (Builtin.len_ #[22] 3 #[t10])) fun t11 =>
  wpB (bp Tryz.prog .gtr 3 t11 (.int .i64 0)) fun t12 =>
  wpB (gd t12 true (nilv (gv t12 true a0))) fun t16 =>
  wpB (gd t12 true (pureRun Tryz.prog (Instr.fieldAt 88 t16 2))) fun t17 =>
  wpB (gd t12 true (ldv Tryz.prog 3 t17 w)) fun t18 =>
  gE t12 true (CallR Tryz.prog 93 [(gv t12 true a1), t18, (gv t12 true a2)] w) (fun t20 w =>
  wpB (pickv t12 (some t20) (some (.bool false))) fun t21 =>
  Q t21 w) w
theorem F63_ok {a0 a1 a2 : Value} {w : World} {Q : Value → World → Prop} (h : F63 a0 a1 a2 w Q) : CallR Tryz.prog 63 [a0, a1, a2] w Q :=
  ah mixed ag Tryz.func63 (c := C63) rfl H63 (Nat.le_of_ble_eq_true rfl) (by kernel_rfl) h

noncomputable def C64 : Code := (Tryz.f64.body).getD .skip
noncomputable def H64 : Hints := ⟨[], [], [(3, (.leaf [0, 1, 2, 3, 4, 5, 6, 7, 8, 9, 10, 11, 12]))]⟩
def F64 (a0 : Value) (w : World) (Q : Value → World → Prop) : Prop :=
  wpB (nilv a0) fun t4 =>
  wpB (pureRun Tryz.prog (Instr.fieldAt 88 t4 3)) fun t5 =>
  wpB (ldv Tryz.prog 22 t5 w) fun t6 =>
  wpB (pureRun Tryz.prog (Builtin.len_ #[22] 3 #[t6])) fun t7 =>
  wpB (be Tryz.prog .eql 3 (.tmp 7) (.const (.int .i64 0)) t7 (.int .i64 0)) fun t8 =>
  cnd t8
  (Q (.int .i64 (-1)) w)
  (wpB (nilv a0) fun t10 =>
  wpB (pureRun Tryz.prog (Instr.fieldAt 88 t10 3)) fun t11 =>
  wpB (ldv Tryz.prog 22 t11 w.drew) fun t12 =>
  wpB (nilv a0) fun t14 =>
  wpB (pureRun Tryz.prog (Instr.fieldAt 88 t14 3)) fun t15 =>
  wpB (ldv Tryz.prog 22 t15 w.drew) fun t16 =>
  wpB (pureRun Tryz.prog (Builtin.len_ #[22] 3 #[t16])) fun t17 =>
  wpB (bp Tryz.prog .sub 3 t17 (.int .i64 1)) fun t18 =>
  wpB (pureRun Tryz.prog (Instr.indexAt 22 t12 t18)) fun t19 =>
  wpB (ldv Tryz.prog 3 t19 w.drew) fun t20 =>
  Q t20 w.drew)
theorem F64_ok {a0 : Value} {w : World} {Q : Value → World → Prop} (h : F64 a0 w Q) : CallR Tryz.prog 64 [a0] w Q :=
  ah mixed ag Tryz.func64 (c := C64) rfl H64 (Nat.le_of_ble_eq_true rfl) (by kernel_rfl) h

noncomputable def C65 : Code := (Tryz.f65.body).getD .skip
noncomputable def H65 : Hints := ⟨[(2, [0, 1, 10, 11, 12])], [], []⟩
noncomputable def T65_0 : List It := [.lp (nav [1, 0, 1, 4, 5] C65), .blk 0, .jn (nav [1, 1] C65)]
def P65_0 (x0 x1 x10 x11 x12 : Value) (w : World) (Q : Value → World → Prop) : Prop := Part Tryz.prog 65 T65_0 [0, 1, 10, 11, 12] [x0, x1, x10, x11, x12] w Q
def F65 (a0 a1 : Value) (w : World) (Q : Value → World → Prop) : Prop :=
  wpB (nilv a0) fun t8 =>
  wpB (pureRun Tryz.prog (Instr.fieldAt 74 t8 3)) fun t9 =>
  wpB (ldv Tryz.prog 71 t9 w) fun t10 =>
  wpB (pureRun Tryz.prog (Builtin.len_ #[71] 3 #[t10])) fun t11 =>
  P65_0 a0 a1 t10 t11 (.int .i64 0) w Q
def L65_0 (x0 x1 x10 x11 x12 : Value) (w : World) (Q : Value → World → Prop) : Prop :=
  wpB (bp Tryz.prog .lss 3 x12 x11) fun t13 =>
  cnd t13
  (wpB (pureRun Tryz.prog (Instr.indexAt 71 x10 x12)) fun t14 =>
  wpB (ldv Tryz.prog 88 t14 w) fun t15 =>
  effv Tryz.prog (Instr.alloc 88 true (.tuple #[])) w fun t6 w =>
  effu Tryz.prog (Instr.storeAt 88 t6 t15) w fun w =>
  wpB (pureRun Tryz.prog (Instr.fieldAt 88 t6 0)) fun t17 =>
  wpB (ldv Tryz.prog 84 t17 w) fun t18 =>
  CallR Tryz.prog 46 [x0, t18] w fun t19 w =>
  wpB (gd t19 true (pureRun Tryz.prog (Instr.fieldAt 88 t6 3))) fun t21 =>
  wpB (gd t19 true (ldv Tryz.prog 22 t21 w)) fun t22 =>
  gE t19 true (CallR Tryz.prog 94 [t22, (gv t19 true x1)] w) (fun t24 w =>
  wpB (pickv t19 (some t24) (some (.bool false))) fun t25 =>
  cnd t25
  (Q (.bool true) w)
  (wpB (bp Tryz.prog .add 3 x12 (.int .i64 1)) fun t26 =>
  P65_0 x0 x1 x10 x11 t26 w Q)) w)
  (Q (.bool false) w)
theorem F65_ok {a0 a1 : Value} {w : World} {Q : Value → World → Prop} (h : F65 a0 a1 w Q) : CallR Tryz.prog 65 [a0, a1] w Q :=
  ah mixed ag Tryz.func65 (c := C65) rfl H65 (Nat.le_of_ble_eq_true rfl) (by kernel_rfl) h
theorem L65_0_ok {x0 x1 x10 x11 x12 : Value} {w : World} {Q : Value → World → Prop} (h : L65_0 x0 x1 x10 x11 x12 w Q) : P65_0 x0 x1 x10 x11 x12 w Q :=
  aQ mixed ag Tryz.func65 H65 (by kernel_rfl) h

noncomputable def C66 : Code := (Tryz.f66.body).getD .skip
noncomputable def H66 : Hints := ⟨[], [], []⟩
def F66 (a0 a1 : Value) (w : World) (Q : Value → World → Prop) : Prop :=
  CallR Tryz.prog 95 [a0, a1] w fun t8 w =>
  wpB (pureRun Tryz.prog (Op.unary .not t8)) fun t9 =>
  cnd t9
  (Q (.int .i64 0) w)
  (CallR Tryz.prog 96 [a0, a1] w fun t13 w =>
  cnd t13
  (Q a0 w)
  (Q a1 w))
theorem F66_ok {a0 a1 : Value} {w : World} {Q : Value → World → Prop} (h : F66 a0 a1 w Q) : CallR Tryz.prog 66 [a0, a1] w Q :=
  ah mixed ag Tryz.func66 (c := C66) rfl H66 (Nat.le_of_ble_eq_true rfl) (by kernel_rfl) h

noncomputable def C76 : Code := (Tryz.f76.body).getD .skip
noncomputable def H76 : Hints := ⟨[], [], [(6, (.leaf [0, 1, 2, 3, 4, 5, 6, 7, 8, 9, 10]))]⟩
def F76 (a0 a1 a2 : Value) (w : World) (Q : Value → World → Prop) : Prop :=
  effv Tryz.prog (Instr.box 25 a1) w fun t4 w =>
  wpB (ldv Tryz.prog 25 t4 w) fun t9 =>
  CallR Tryz.prog 49 [t9] w fun t10 w =>
  CallR Tryz.prog 44 [a0, t10] w fun t11 w =>
  wpB (be Tryz.prog .eql 89 (.tmp 12) (.const (.pointer none)) t11 (.pointer none)) fun t13 =>
  cnd t13
  (Q (.bool false) w)
  (wpB (pureRun Tryz.prog (Instr.fieldAt 25 t4 4)) fun t14 =>
  wpB (ldv Tryz.prog 3 t14 w) fun t15 =>
  wpB (be Tryz.prog .eql 3 (.tmp 15) (.const (.int .i64 0)) t15 (.int .i64 0)) fun t16 =>
  cnd t16
  (wpB (pureRun Tryz.prog (Instr.fieldAt 25 t4 2)) fun t17 =>
  wpB (ldv Tryz.prog 3 t17 w) fun t18 =>
  wpB (be Tryz.prog .eql 3 (.tmp 18) (.const (.int .i64 0)) t18 (.int .i64 0)) fun t19 =>
  wpB (gd t19 true (pureRun Tryz.prog (Instr.fieldAt 25 t4 3))) fun t21 =>
  wpB (gd t19 true (ldv Tryz.prog 3 t21 w)) fun t22 =>
  wpB (gd t19 true (be Tryz.prog .eql 3 (.tmp 22) (.const (.int .i64 0)) t22 (.int .i64 0))) fun t23 =>
  wpB (pickv t19 (some t23) (some (.bool false))) fun t24 =>
  wpB (gd t24 true (be Tryz.prog .neq 3 (.tmp 26) (.const (.int .i64 2)) (gv t24 true a2) (.int .i64 2))) fun t27 =>
  wpB (pickv t24 (some t27) (some (.bool false))) fun t28 =>
  Q t28 w)
  (wpB (be Tryz.prog .neq 3 (.tmp 29) (.const (.int .i64 1)) a2 (.int .i64 1)) fun t30 =>
  wpB (gd t30 true (nilv (gv t30 true t11))) fun t33 =>
  wpB (gd t30 true (pureRun Tryz.prog (Instr.fieldAt 88 t33 5))) fun t34 =>
  wpB (gd t30 true (ldv Tryz.prog 44 t34 w.drew)) fun t35 =>
  wpB (gd t30 true (ldv Tryz.prog 25 t4 w.drew)) fun t36 =>
  gE t30 true (CallR Tryz.prog 103 [t35, t36] w.drew) (fun t37 w =>
  wpB (pickv t30 (some t37) (some (.bool false))) fun t38 =>
  Q t38 w) w.drew))
theorem F76_ok {a0 a1 a2 : Value} {w : World} {Q : Value → World → Prop} (h : F76 a0 a1 a2 w Q) : CallR Tryz.prog 76 [a0, a1, a2] w Q :=
  ah mixed ag Tryz.func76 (c := C76) rfl H76 (Nat.le_of_ble_eq_true rfl) (by kernel_rfl) h

noncomputable def C77 : Code := (Tryz.f77.body).getD .skip
noncomputable def H77 : Hints := ⟨[(2, [0, 1, 7, 8])], [], []⟩
noncomputable def T77_0 : List It := [.lp (nav [1, 0, 1, 4, 5] C77), .blk 0, .jn (nav [1, 1] C77)]
def P77_0 (x0 x1 x7 x8 : Value) (w : World) (Q : Value → World → Prop) : Prop := Part Tryz.prog 77 T77_0 [0, 1, 7, 8] [x0, x1, x7, x8] w Q
def F77 (a0 a1 : Value) (w : World) (Q : Value → World → Prop) : Prop :=
  wpB (pureRun Tryz.prog (Builtin.len_ #[22] 3 #[a0])) fun t7 =>
  P77_0 a0 a1 t7 (.int .i64 0) w Q
def L77_0 (x0 x1 x7 x8 : Value) (w : World) (Q : Value → World → Prop) : Prop :=
  wpB (bp Tryz.prog .lss 3 x8 x7) fun t9 =>
  cnd t9
  (wpB (pureRun Tryz.prog (Instr.indexAt 22 x0 x8)) fun t14 =>
  wpB (ldv Tryz.prog 3 t14 w) fun t15 =>
  wpB (be Tryz.prog .eql 3 (.tmp 11) (.tmp 15) x1 t15) fun t16 =>
  cnd t16
  (Q x8 w)
  (wpB (bp Tryz.prog .add 3 x8 (.int .i64 1)) fun t18 =>
  P77_0 x0 x1 x7 t18 w Q))
  (Q (.int .i64 (-1)) w)
theorem F77_ok {a0 a1 : Value} {w : World} {Q : Value → World → Prop} (h : F77 a0 a1 w Q) : CallR Tryz.prog 77 [a0, a1] w Q :=
  ah mixed ag Tryz.func77 (c := C77) rfl H77 (Nat.le_of_ble_eq_true rfl) (by kernel_rfl) h
theorem L77_0_ok {x0 x1 x7 x8 : Value} {w : World} {Q : Value → World → Prop} (h : L77_0 x0 x1 x7 x8 w Q) : P77_0 x0 x1 x7 x8 w Q :=
  aQ mixed ag Tryz.func77 H77 (by kernel_rfl) h

noncomputable def C89 : Code := (Tryz.f89.body).getD .skip
noncomputable def H89 : Hints := ⟨[], [], []⟩
def F89 (a0 a1 a2 : Value) (w : World) (Q : Value → World → Prop) : Prop :=
  wpB (bp Tryz.prog .geq 3 a0 a1) fun t9 =>
  wpB (gd t9 true (bp Tryz.prog .leq 3 (gv t9 true a0) (gv t9 true a2))) fun t13 =>
  wpB (pickv t9 (some t13) (some (.bool false))) fun t14 =>
  Q t14 w
theorem F89_ok {a0 a1 a2 : Value} {w : World} {Q : Value → World → Prop} (h : F89 a0 a1 a2 w Q) : CallR Tryz.prog 89 [a0, a1, a2] w Q :=
  ah mixed ag Tryz.func89 (c := C89) rfl H89 (Nat.le_of_ble_eq_true rfl) (by kernel_rfl) h

noncomputable def C92 : Code := (Tryz.f92.body).getD .skip
noncomputable def H92 : Hints := ⟨[(2, [0, 3, 7, 8])], [], [(4, (.leaf [0, 1, 2, 3, 4, 5]))]⟩
noncomputable def T92_0 : List It := [.lp (nav [1, 0, 1, 4, 5] C92), .blk 0, .jn (nav [1, 1] C92)]
def P92_0 (x0 x3 x7 x8 : Value) (w : World) (Q : Value → World → Prop) : Prop := Part Tryz.prog 92 T92_0 [0, 3, 7, 8] [x0, x3, x7, x8] w Q
def F92 (a0 a1 : Value) (w : World) (Q : Value → World → Prop) : Prop :=
  effv Tryz.prog (Instr.box 84 a1) w fun t3 w =>
  wpB (pureRun Tryz.prog (Builtin.len_ #[79] 3 #[a0])) fun t7 =>
  P92_0 a0 t3 t7 (.int .i64 0) w Q
def L92_0 (x0 x3 x7 x8 : Value) (w : World) (Q : Value → World → Prop) : Prop :=
  wpB (bp Tryz.prog .lss 3 x8 x7) fun t9 =>
  cnd t9
  (wpB (ldv Tryz.prog 84 x3 w.drew) fun t11 =>
  wpB (pureRun Tryz.prog (Instr.indexAt 79 x0 x8)) fun t14 =>
  wpB (ldv Tryz.prog 84 t14 w.drew) fun t15 =>
  wpB (be Tryz.prog .eql 84 (.tmp 11) (.tmp 15) t11 t15) fun t16 =>
  cnd t16
  (Q x8 w.drew)
  (wpB (bp Tryz.prog .add 3 x8 (.int .i64 1)) fun t18 =>
  P92_0 x0 x3 x7 t18 w.drew Q))
  (Q (.int .i64 (-1)) w)
theorem F92_ok {a0 a1 : Value} {w : World} {Q : Value → World → Prop} (h : F92 a0 a1 w Q) : CallR Tryz.prog 92 [a0, a1] w Q :=
  ah mixed ag Tryz.func92 (c := C92) rfl H92 (Nat.le_of_ble_eq_true rfl) (by kernel_rfl) h
theorem L92_0_ok {x0 x3 x7 x8 : Value} {w : World} {Q : Value → World → Prop} (h : L92_0 x0 x3 x7 x8 w Q) : P92_0 x0 x3 x7 x8 w Q :=
  aQ mixed ag Tryz.func92 H92 (by kernel_rfl) h

noncomputable def C93 : Code := (Tryz.f93.body).getD .skip
noncomputable def H93 : Hints := ⟨[], [], []⟩
def F93 (a0 a1 a2 : Value) (w : World) (Q : Value → World → Prop) : Prop :=
  CallR Tryz.prog 95 [a0, a2] w fun t9 w =>
  gE t9 true (CallR Tryz.prog 96 [(gv t9 true a0), (gv t9 true a2)] w) (fun t13 w =>
  wpB (gd t9 true (pureRun Tryz.prog (Op.unary .not t13))) fun t14 =>
  wpB (pickv t9 (some t14) (some (.bool false))) fun t15 =>
  wpB (gd t15 true (bp Tryz.prog .geq 3 (gv t15 true a1) (.int .i64 0))) fun t18 =>
  wpB (pickv t15 (some t18) (some (.bool false))) fun t19 =>
  wpB (gd t19 true (bp Tryz.prog .sub 3 (gv t19 true a0) (gv t19 true a2))) fun t24 =>
  wpB (gd t19 true (bp Tryz.prog .leq 3 (gv t19 true a1) t24)) fun t25 =>
  wpB (pickv t19 (some t25) (some (.bool false))) fun t26 =>
  Q t26 w) w
theorem F93_ok {a0 a1 a2 : Value} {w : World} {Q : Value → World → Prop} (h : F93 a0 a1 a2 w Q) : CallR Tryz.prog 93 [a0, a1, a2] w Q :=
  ah mixed ag Tryz.func93 (c := C93) rfl H93 (Nat.le_of_ble_eq_true rfl) (by kernel_rfl) h

noncomputable def C94 : Code := (Tryz.f94.body).getD .skip
noncomputable def H94 : Hints := ⟨[], [], []⟩
def F94 (a0 a1 : Value) (w : World) (Q : Value → World → Prop) : Prop :=
  CallR Tryz.prog 77 [a0, a1] w fun t7 w =>
  wpB (bp Tryz.prog .geq 3 t7 (.int .i64 0)) fun t8 =>
  Q t8 w
theorem F94_ok {a0 a1 : Value} {w : World} {Q : Value → World → Prop} (h : F94 a0 a1 w Q) : CallR Tryz.prog 94 [a0, a1] w Q :=
  ah mixed ag Tryz.func94 (c := C94) rfl H94 (Nat.le_of_ble_eq_true rfl) (by kernel_rfl) h

noncomputable def C95 : Code := (Tryz.f95.body).getD .skip
noncomputable def H95 : Hints := ⟨[], [], []⟩
def F95 (a0 a1 : Value) (w : World) (Q : Value → World → Prop) : Prop :=
  wpB (bp Tryz.prog .geq 3 a0 (.int .i64 1)) fun t6 =>
  wpB (gd t6 true (bp Tryz.prog .leq 3 (gv t6 true a0) (.int .i64 1024))) fun t9 =>
  wpB (pickv t6 (some t9) (some (.bool false))) fun t10 =>
  wpB (gd t10 true (bp Tryz.prog .geq 3 (gv t10 true a1) (.int .i64 1))) fun t13 =>
  wpB (pickv t10 (some t13) (some (.bool false))) fun t14 =>
  wpB (gd t14 true (bp Tryz.prog .leq 3 (gv t14 true a1) (gv t14 true a0))) fun t18 =>
  wpB (pickv t14 (some t18) (some (.bool false))) fun t19 =>
  Q t19 w
theorem F95_ok {a0 a1 : Value} {w : World} {Q : Value → World → Prop} (h : F95 a0 a1 w Q) : CallR Tryz.prog 95 [a0, a1] w Q :=
  ah mixed ag Tryz.func95 (c := C95) rfl H95 (Nat.le_of_ble_eq_true rfl) (by kernel_rfl) h

noncomputable def C96 : Code := (Tryz.f96.body).getD .skip
noncomputable def H96 : Hints := ⟨[], [], []⟩
def F96 (a0 a1 : Value) (w : World) (Q : Value → World → Prop) : Prop :=
  CallR Tryz.prog 95 [a0, a1] w fun t7 w =>
  wpB (gd t7 true (bp Tryz.prog .mul 3 (.int .i64 2) (gv t7 true a1))) fun t10 =>
  wpB (gd t7 true (bp Tryz.prog .gtr 3 t10 (gv t7 true a0))) fun t12 =>
  wpB (pickv t7 (some t12) (some (.bool false))) fun t13 =>
  Q t13 w
theorem F96_ok {a0 a1 : Value} {w : World} {Q : Value → World → Prop} (h : F96 a0 a1 w Q) : CallR Tryz.prog 96 [a0, a1] w Q :=
  ah mixed ag Tryz.func96 (c := C96) rfl H96 (Nat.le_of_ble_eq_true rfl) (by kernel_rfl) h

noncomputable def C103 : Code := (Tryz.f103.body).getD .skip
noncomputable def H103 : Hints := ⟨[], [], []⟩
def F103 (a0 a1 : Value) (w : World) (Q : Value → World → Prop) : Prop :=
  effv Tryz.prog (Instr.box 25 a1) w fun t3 w =>
  wpB (ldv Tryz.prog 25 t3 w) fun t6 =>
  CallR Tryz.prog 111 [a0, t6] w fun t7 w =>
  wpB (bp Tryz.prog .geq 3 t7 (.int .i64 0)) fun t8 =>
  Q t8 w
theorem F103_ok {a0 a1 : Value} {w : World} {Q : Value → World → Prop} (h : F103 a0 a1 w Q) : CallR Tryz.prog 103 [a0, a1] w Q :=
  ah mixed ag Tryz.func103 (c := C103) rfl H103 (Nat.le_of_ble_eq_true rfl) (by kernel_rfl) h

noncomputable def C111 : Code := (Tryz.f111.body).getD .skip
noncomputable def H111 : Hints := ⟨[(2, [0, 3, 7, 8])], [], [(4, (.leaf [0, 1, 2, 3, 4, 5]))]⟩
noncomputable def T111_0 : List It := [.lp (nav [1, 0, 1, 4, 5] C111), .blk 0, .jn (nav [1, 1] C111)]
def P111_0 (x0 x3 x7 x8 : Value) (w : World) (Q : Value → World → Prop) : Prop := Part Tryz.prog 111 T111_0 [0, 3, 7, 8] [x0, x3, x7, x8] w Q
def F111 (a0 a1 : Value) (w : World) (Q : Value → World → Prop) : Prop :=
  effv Tryz.prog (Instr.box 25 a1) w fun t3 w =>
  wpB (pureRun Tryz.prog (Builtin.len_ #[44] 3 #[a0])) fun t7 =>
  P111_0 a0 t3 t7 (.int .i64 0) w Q
def L111_0 (x0 x3 x7 x8 : Value) (w : World) (Q : Value → World → Prop) : Prop :=
  wpB (bp Tryz.prog .lss 3 x8 x7) fun t9 =>
  cnd t9
  (wpB (ldv Tryz.prog 25 x3 w.drew) fun t11 =>
  wpB (pureRun Tryz.prog (Instr.indexAt 44 x0 x8)) fun t14 =>
  wpB (ldv Tryz.prog 25 t14 w.drew) fun t15 =>
  wpB (be Tryz.prog .eql 25 (.tmp 11) (.tmp 15) t11 t15) fun t16 =>
  cnd t16
  (Q x8 w.drew)
  (wpB (bp Tryz.prog .add 3 x8 (.int .i64 1)) fun t18 =>
  P111_0 x0 x3 x7 t18 w.drew Q))
  (Q (.int .i64 (-1)) w)
theorem F111_ok {a0 a1 : Value} {w : World} {Q : Value → World → Prop} (h : F111 a0 a1 w Q) : CallR Tryz.prog 111 [a0, a1] w Q :=
  ah mixed ag Tryz.func111 (c := C111) rfl H111 (Nat.le_of_ble_eq_true rfl) (by kernel_rfl) h
theorem L111_0_ok {x0 x3 x7 x8 : Value} {w : World} {Q : Value → World → Prop} (h : L111_0 x0 x3 x7 x8 w Q) : P111_0 x0 x3 x7 x8 w Q :=
  aQ mixed ag Tryz.func111 H111 (by kernel_rfl) h
end Go.Proofs.YtgamnncehjcdiaaGreat

namespace Go.Proofs.YtgamnncehjcdiaaGreat
open Go Ev Go.RowKit

abbrev HnV := Int × Int × Int × Int × Int
abbrev NmV := Int × Int
def hnC (h : HnV) : List Value := [.int .i64 h.1, .int .i64 h.2.1, .int .i64 h.2.2.1, .int .i64 h.2.2.2.1, .int .i64 h.2.2.2.2]
def nmC (n : NmV) : List Value := [.int .i64 n.1, .int .i64 n.2]
structure RgV where
  nm : NmV
  cls : Int
  off : Int
  chunks : List Int
  words : List (List Int)
  objs : List HnV
structure HdV where
  depth : Int
  holds : List NmV
abbrev CfV := Int × Int × Int × Int × Int × Int
def cfC (c : CfV) : List Value := [.int .i64 c.1, .int .i64 c.2.1, .int .i64 c.2.2.1, .int .i64 c.2.2.2.1, .int .i64 c.2.2.2.2.1, .int .i64 c.2.2.2.2.2]
structure MdV where
  c : CfV
  loose : Bool
  slots : List NmV
  rgs : List RgV
  hands : List HdV
def u64s (l : List Int) : List Value := l.map (Value.int .u64)
def slotsT (L : List NmV) : Th := isRow 77 2 L.length ((L.flatMap nmC).map isV)
def namesT (L : List NmV) : Th := isRow 84 2 L.length ((L.flatMap nmC).map isV)
def intsT (L : List Int) : Th := isRow 3 1 L.length ((ints L).map isV)
def wordT (L : List Int) : Th := isRow 26 1 L.length ((u64s L).map isV)
def wordsT (L : List (List Int)) : Th := isRow 93 1 L.length (L.map wordT)
def objsT (L : List HnV) : Th := isRow 25 5 L.length ((L.flatMap hnC).map isV)
def iT (x : Int) : Th := isV (.int .i64 x)
def rgT (r : RgV) : List Th := [iT r.nm.1, iT r.nm.2, iT r.cls, iT r.off, intsT r.chunks, wordsT r.words, objsT r.objs]
def hdT (h : HdV) : List Th := [iT h.depth, namesT h.holds]
def rgsT (L : List RgV) : Th := isRow 88 7 L.length (L.flatMap rgT)
def handsT (L : List HdV) : Th := isRow 81 2 L.length (L.flatMap hdT)
def mdT (m : MdV) : List Th := (cfC m.c).map isV ++ [isV (.bool m.loose), slotsT m.slots, rgsT m.rgs, handsT m.hands]
def MdI (w : World) (g : Nat) (m : MdV) (F : Fp) : Prop := isAt 74 g (mdT m) w F
theorem bj (k : IntKind) (x : Int) : OwnT (isV (.int k x)) := good_isV ⟨rfl, rfl⟩
theorem good_ints {us : List Value} (h : ∀ u ∈ us, ∃ k x, u = .int k x) : ∀ P ∈ us.map isV, OwnT P := good_flat fun u hu => by
  obtain ⟨k, x, rfl⟩ := h u hu; exact ⟨rfl, rfl⟩
theorem nmC_int (L : List NmV) : ∀ u ∈ L.flatMap nmC, ∃ k x, u = .int k x := fun u hu => by
  obtain ⟨n, _, hn⟩ := List.mem_flatMap.1 hu
  simp only [nmC, List.mem_cons, List.not_mem_nil, or_false] at hn
  rcases hn with rfl | rfl <;> exact ⟨_, _, rfl⟩
theorem hnC_int (L : List HnV) : ∀ u ∈ L.flatMap hnC, ∃ k x, u = .int k x := fun u hu => by
  obtain ⟨n, _, hn⟩ := List.mem_flatMap.1 hu
  simp only [hnC, List.mem_cons, List.not_mem_nil, or_false] at hn
  rcases hn with rfl | rfl | rfl | rfl | rfl <;> exact ⟨_, _, rfl⟩
theorem ints_int (L : List Int) : ∀ u ∈ ints L, ∃ k x, u = .int k x := fun u hu => by
  obtain ⟨n, _, rfl⟩ := List.mem_map.1 hu; exact ⟨_, _, rfl⟩
theorem u64s_int (L : List Int) : ∀ u ∈ u64s L, ∃ k x, u = .int k x := fun u hu => by
  obtain ⟨n, _, rfl⟩ := List.mem_map.1 hu; exact ⟨_, _, rfl⟩
theorem good_slots (L : List NmV) : OwnT (slotsT L) := bk (good_ints (nmC_int L))
theorem good_names (L : List NmV) : OwnT (namesT L) := bk (good_ints (nmC_int L))
theorem good_intsT (L : List Int) : OwnT (intsT L) := bk (good_ints (ints_int L))
theorem good_word (L : List Int) : OwnT (wordT L) := bk (good_ints (u64s_int L))
theorem good_words (L : List (List Int)) : OwnT (wordsT L) := bk fun P hP => by
  obtain ⟨l, _, rfl⟩ := List.mem_map.1 hP; exact good_word l
theorem aS (L : List HnV) : OwnT (objsT L) := bk (good_ints (hnC_int L))
theorem good_rg (r : RgV) : ∀ P ∈ rgT r, OwnT P := fun P hP => by
  simp only [rgT, List.mem_cons, List.not_mem_nil, or_false] at hP
  rcases hP with rfl | rfl | rfl | rfl | rfl | rfl | rfl
  · exact bj _ _
  · exact bj _ _
  · exact bj _ _
  · exact bj _ _
  · exact good_intsT _
  · exact good_words _
  · exact aS _
theorem good_hd (h : HdV) : ∀ P ∈ hdT h, OwnT P := fun P hP => by
  simp only [hdT, List.mem_cons, List.not_mem_nil, or_false] at hP
  rcases hP with rfl | rfl
  · exact bj _ _
  · exact good_names _
theorem good_rgL (L : List RgV) : ∀ P ∈ L.flatMap rgT, OwnT P := fun P hP => by
  obtain ⟨r, _, hr⟩ := List.mem_flatMap.1 hP; exact good_rg r P hr
theorem good_hdL (L : List HdV) : ∀ P ∈ L.flatMap hdT, OwnT P := fun P hP => by
  obtain ⟨r, _, hr⟩ := List.mem_flatMap.1 hP; exact good_hd r P hr
theorem good_rgs (L : List RgV) : OwnT (rgsT L) := bk (good_rgL L)
theorem good_hands (L : List HdV) : OwnT (handsT L) := bk (good_hdL L)
theorem aT (m : MdV) : ∀ P ∈ mdT m, OwnT P := fun P hP => by
  rcases List.mem_append.1 hP with h | h
  · refine good_ints (fun u hu => ?_) P h
    simp only [cfC, List.mem_cons, List.not_mem_nil, or_false] at hu
    rcases hu with rfl | rfl | rfl | rfl | rfl | rfl <;> exact ⟨_, _, rfl⟩
  · simp only [List.mem_cons, List.not_mem_nil, or_false] at h
    rcases h with rfl | rfl | rfl | rfl
    · exact good_isV ⟨rfl, rfl⟩
    · exact good_slots _
    · exact good_rgs _
    · exact good_hands _
theorem rgT_len (r : RgV) : (rgT r).length = 7 := rfl
theorem hdT_len (h : HdV) : (hdT h).length = 2 := rfl
theorem nmC_len (n : NmV) : (nmC n).length = 2 := rfl
theorem hnC_len (h : HnV) : (hnC h).length = 5 := rfl
theorem MdI.keep {w w' : World} {g : Nat} {m : MdV} {F : Fp} (h : MdI w g m F) (hc : Chg [] w w') : MdI w' g m F := isAt.frame h (aT m) (ChgP.of0 hc none') fun _ _ h => h
structure MdR (w : World) (g : Nat) (m : MdV) (s r h : Value) : Prop where
  c : ∀ k, k < 6 → ldC (hp w g) (0 + k) = (cfC m.c)[k]?
  l : ldC (hp w g) (0 + 6) = some (.bool m.loose)
  sl : ldC (hp w g) (0 + 7) = some s
  rl : ldC (hp w g) (0 + 8) = some r
  hl : ldC (hp w g) (0 + 9) = some h
  sT : ∃ F, slotsT m.slots w F s
  rT : ∃ F, rgsT m.rgs w F r
  hT : ∃ F, handsT m.hands w F h
theorem MdI.rd {w : World} {g : Nat} {m : MdV} {F : Fp} (h : MdI w g m F) : ∃ s r h, MdR w g m s r h := by
  obtain ⟨sv, _, _, _, _, hs, hS, _⟩ := isAt.cell h (aT m) (k := 7) (P := slotsT m.slots) rfl
  obtain ⟨rv, _, _, _, _, hr, hR, _⟩ := isAt.cell h (aT m) (k := 8) (P := rgsT m.rgs) rfl
  obtain ⟨hv, _, _, _, _, hh, hH, _⟩ := isAt.cell h (aT m) (k := 9) (P := handsT m.hands) rfl
  obtain ⟨lv, _, _, _, _, hl, hL, _⟩ := isAt.cell h (aT m) (k := 6) (P := isV (.bool m.loose)) rfl
  refine ⟨sv, rv, hv, fun k hk => ?_, hl.trans (by rw [hL.1]), hs, hr, hh, ⟨_, hS⟩, ⟨_, hR⟩, ⟨_, hH⟩⟩
  obtain ⟨u, hu⟩ : ∃ u, (cfC m.c)[k]? = some u := ⟨_, List.getElem?_eq_getElem (by simpa [cfC] using hk)⟩
  have hP : (mdT m)[k]? = some (isV u) := by
    rw [mdT, List.getElem?_append_left (by simpa [cfC] using hk), List.getElem?_map, hu]; rfl
  obtain ⟨cv, _, _, _, _, hc, hC, _⟩ := isAt.cell h (aT m) hP
  rw [Nat.zero_add, hc, hC.1, hu]
theorem MdR.keep {w w' : World} {g : Nat} {m : MdV} {s r h : Value} (k : MdR w g m s r h) (hc : Chg [] w w') : MdR w' g m s r h := by
  have e : ∀ i u, ldC (hp w g) i = some u → hp w' g = hp w g := fun i u hu => hc.block g (by
    rcases Nat.lt_or_ge g w.heap.size with h | h
    · exact h
    · have : hp w g = none := by simp [hp]; omega
      rw [this] at hu; cases hu) (by simp)
  have e := e _ _ k.sl
  obtain ⟨F, hF⟩ := k.sT
  obtain ⟨G, hG⟩ := k.rT
  obtain ⟨H, hH⟩ := k.hT
  exact ⟨fun i hi => by rw [e]; exact k.c i hi, by rw [e]; exact k.l, by rw [e]; exact k.sl, by rw [e]; exact k.rl, by rw [e]; exact k.hl,
    ⟨F, (good_slots _).frame hF (ChgP.of0 hc none') fun _ _ h => h⟩, ⟨G, (good_rgs _).frame hG (ChgP.of0 hc none') fun _ _ h => h⟩, ⟨H, (good_hands _).frame hH (ChgP.of0 hc none') fun _ _ h => h⟩⟩
end Go.Proofs.YtgamnncehjcdiaaGreat

namespace Go.Proofs.YtgamnncehjcdiaaGreat
open Go Ev Go.RowKit

theorem slots_sh {w : World} {L : List NmV} {s : Value} (h : ∃ F, slotsT L w F s) : ∃ A c, s = .slice A L.length c ∧ RdV w A (L.flatMap nmC) := by
  obtain ⟨F, h⟩ := h
  obtain ⟨h1, _⟩ := flat_own h
  obtain ⟨A, c, e, r, _⟩ := rdV_of_own h1
  exact ⟨A, c, e, r⟩
theorem rgs_sh {w : World} {L : List RgV} {s : Value} (h : ∃ F, rgsT L w F s) : ∃ A c, s = .slice A L.length c := by
  obtain ⟨F, h⟩ := h
  obtain ⟨A, c, _, _, e, _⟩ := isRow.rd h
  exact ⟨A, c, e⟩
theorem hands_sh {w : World} {L : List HdV} {s : Value} (h : ∃ F, handsT L w F s) : ∃ A c, s = .slice A L.length c := by
  obtain ⟨F, h⟩ := h
  obtain ⟨A, c, _, _, e, _⟩ := isRow.rd h
  exact ⟨A, c, e⟩
theorem c_mSlot {w : World} {g : Nat} {m : MdV} {s r h : Value} (M : MdR w g m s r h) (n : Int) : CallR Tryz.prog 57 [.pointer (some ⟨g, 0, none⟩), .int .i64 n] w fun v w' => v = .bool (decide (0 ≤ n ∧ n < m.slots.length)) ∧ w' = w := by
  apply F57_ok
  obtain ⟨A, c, rfl, _⟩ := slots_sh M.sT
  by_cases h0 : 0 ≤ n
  · simp -implicitDefEqProofs only [F57, zS, h0, ay, fa_74_2, ld_70, M.sl, len_70]
    exact ⟨by simp, trivial⟩
  · simp -implicitDefEqProofs only [F57, zS, h0]
    exact ⟨by simp, trivial⟩
def findR (L : List RgV) (n : NmV) : Option Nat := L.findIdx? (fun r => decide (r.nm = n))
theorem box_nm {w : World} (n : NmV) : hp (w.alloc (.cells (nmC n).toArray 84)) w.heap.size = some (.cells (nmC n).toArray 84) := by rw [ac, if_pos rfl]
structure RgR (w : World) (b o : Nat) (r : RgV) (cv wv ov : Value) : Prop where
  c0 : ldC (hp w b) (o + 0) = some (.int .i64 r.nm.1)
  c1 : ldC (hp w b) (o + 1) = some (.int .i64 r.nm.2)
  c2 : ldC (hp w b) (o + 2) = some (.int .i64 r.cls)
  c3 : ldC (hp w b) (o + 3) = some (.int .i64 r.off)
  c4 : ldC (hp w b) (o + 4) = some cv
  c5 : ldC (hp w b) (o + 5) = some wv
  c6 : ldC (hp w b) (o + 6) = some ov
  cT : ∃ F, intsT r.chunks w F cv
  wT : ∃ F, wordsT r.words w F wv
  oT : ∃ F, objsT r.objs w F ov
theorem rg_at {w : World} {L : List RgV} {F : Fp} {x : Value} (h : rgsT L w F x) {i : Nat} {r : RgV} (hr : L[i]? = some r) : ∃ b c, x = .slice (some ⟨b, 0, none⟩) L.length c ∧ ∃ cv wv ov, RgR w b (i * 7) r cv wv ov := by
  have get : ∀ k, k < 7 → (L.flatMap rgT)[i * 7 + k]? = (rgT r)[k]? := fun k hk => aR rgT_len L i r hr k hk
  obtain ⟨b, c, v0, F0, e0, _, _, _, l0, t0, _⟩ := isRow.cell h (good_rgL L) (get 0 (by omega))
  obtain ⟨b1, c1, v1, F1, e1, _, _, _, l1, t1, _⟩ := isRow.cell h (good_rgL L) (get 1 (by omega))
  obtain ⟨b2, c2, v2, F2, e2, _, _, _, l2, t2, _⟩ := isRow.cell h (good_rgL L) (get 2 (by omega))
  obtain ⟨b3, c3, v3, F3, e3, _, _, _, l3, t3, _⟩ := isRow.cell h (good_rgL L) (get 3 (by omega))
  obtain ⟨b4, c4, v4, F4, e4, _, _, _, l4, t4, _⟩ := isRow.cell h (good_rgL L) (get 4 (by omega))
  obtain ⟨b5, c5, v5, F5, e5, _, _, _, l5, t5, _⟩ := isRow.cell h (good_rgL L) (get 5 (by omega))
  obtain ⟨b6, c6, v6, F6, e6, _, _, _, l6, t6, _⟩ := isRow.cell h (good_rgL L) (get 6 (by omega))
  subst e0
  cases e1; cases e2; cases e3; cases e4; cases e5; cases e6
  rw [t0.1] at l0; rw [t1.1] at l1; rw [t2.1] at l2; rw [t3.1] at l3
  exact ⟨b, c, rfl, v4, v5, v6, l0, l1, l2, l3, l4, l5, l6, ⟨F4, t4⟩, ⟨F5, t5⟩, ⟨F6, t6⟩⟩
theorem findR_none {L : List RgV} {n : NmV} (h : ∀ (j : Nat) (r : RgV), L[j]? = some r → r.nm ≠ n) : findR L n = none := by
  rw [findR, List.findIdx?_eq_none_iff]
  intro r hr
  obtain ⟨j, hj⟩ := List.getElem?_of_mem hr
  simpa using h j r hj
theorem findR_some {L : List RgV} {n : NmV} {i : Nat} {r : RgV} (hi : L[i]? = some r) (hr : r.nm = n) (h : ∀ (j : Nat) (r : RgV), j < i → L[j]? = some r → r.nm ≠ n) : findR L n = some i := by
  have hil := (List.getElem?_eq_some_iff.1 hi).1
  rw [findR, List.findIdx?_eq_some_iff_getElem]
  refine ⟨hil, ?_, fun j hj => ?_⟩
  · rw [List.getElem?_eq_getElem hil] at hi; cases hi; simpa using hr
  · simpa using h j _ hj (List.getElem?_eq_getElem (by omega))
theorem ldL_two {x : Option Obj} {o : Nat} {a b : Value} (h0 : ldC x (o + 0) = some a) (h1 : ldC x (o + 1) = some b) : ldL x o 2 = some [a, b] := ldL_take 2 o [a, b] rfl fun j u hj => by
  rcases j with _ | _ | j
  · simp at hj; subst hj; exact h0
  · simp at hj; subst hj; exact h1
  · simp at hj
theorem nm_beq (a b : NmV) : ((a.1 == b.1) && ((a.2 == b.2) && true)) = decide (a = b) := by
  obtain ⟨a1, a2⟩ := a; obtain ⟨b1, b2⟩ := b
  by_cases h1 : a1 = b1 <;> by_cases h2 : a2 = b2 <;> simp [h1, h2]
set_option maxHeartbeats 1000000 in
theorem c_mRegion {w : World} {g : Nat} {m : MdV} {s r h : Value} (M : MdR w g m s r h) (n : NmV) (hl : m.rgs.length ≤ 1000000) : CallR Tryz.prog 44 [.pointer (some ⟨g, 0, none⟩), .agg (nmC n).toArray] w fun v w' =>
    Chg [] w w' ∧ ((findR m.rgs n = none ∧ v = .pointer none) ∨ ∃ i rg b c, findR m.rgs n = some i ∧ m.rgs[i]? = some rg ∧ r = .slice (some ⟨b, 0, none⟩) m.rgs.length c ∧ v = .pointer (some ⟨b, i * 7, none⟩)) := by
  apply F44_ok
  have hbox := box_nm (w := w) n
  have hc0 : Chg [] w (w.alloc (.cells (nmC n).toArray 84)) := (Chg.refl _ _).alloc _
  simp -implicitDefEqProofs only [F44, aE, aB]
  generalize w.alloc (.cells (nmC n).toArray 84) = w0 at *
  have M0 := M.keep hc0
  obtain ⟨A, c, hr⟩ := rgs_sh M0.rT
  generalize w.heap.size = gb at *
  have hrl := M0.rl
  rw [hr] at hrl
  simp -implicitDefEqProofs only [zS, ay, fa_74_3, ld_71, hrl, len_71]
  have main : ∀ (d i : Nat) (w1 : World), Chg [] w0 w1 → (∀ (j : Nat) (r : RgV), j < i → m.rgs[j]? = some r → r.nm ≠ n) → i + d = m.rgs.length →
      P44_0 (.pointer (some ⟨g, 0, none⟩)) (.pointer (some ⟨gb, 0, none⟩)) (.int .i64 m.rgs.length) (.int .i64 i) w1 fun v w' =>
    Chg [] w w' ∧ ((findR m.rgs n = none ∧ v = .pointer none) ∨ ∃ i rg b c, findR m.rgs n = some i ∧ m.rgs[i]? = some rg ∧ r = .slice (some ⟨b, 0, none⟩) m.rgs.length c ∧ v = .pointer (some ⟨b, i * 7, none⟩)) := by
    intro d
    induction d with
    | zero =>
      intro i w1 hc hn hi
      apply L44_0_ok
      have : ¬ (i : Int) < m.rgs.length := by omega
      simp -implicitDefEqProofs only [L44_0, zS, this]
      exact ⟨hc0.trans hc, .inl ⟨findR_none fun j r hj => hn j r (by have := (List.getElem?_eq_some_iff.1 hj).1; omega) hj, by first | rfl | trivial⟩⟩
    | succ d ih =>
      intro i w1 hc hn hi
      apply L44_0_ok
      have hlt : (i : Int) < m.rgs.length := by omega
      obtain ⟨rg, hrg⟩ : ∃ rg, m.rgs[i]? = some rg := ⟨_, List.getElem?_eq_getElem (by omega)⟩
      have M1 := M0.keep hc
      obtain ⟨F, hF⟩ := M1.rT
      obtain ⟨b, c', hx, cv, wv, ov, R⟩ := rg_at hF hrg
      have hrl1 := M1.rl
      rw [hx] at hrl1
      have hb1 := hc.at hbox (by simp)
      have ia := ia_71 (b := b) (p := 0) (n := m.rgs.length) (c := c') (j := .i64) (i := (i : Int)) (by omega) (by omega)
      rw [Int.toNat_natCast, Nat.zero_add] at ia
      have e0 : ldC (hp w1 gb) 0 = some (.int .i64 n.1) := by rw [hb1]; rfl
      have e1 : ldC (hp w1 gb) (0 + 1) = some (.int .i64 n.2) := by rw [hb1]; rfl
      have hbe : be Tryz.prog .eql 84 (.tmp 21) (.tmp 22) (.agg #[.int .i64 rg.nm.1, .int .i64 rg.nm.2]) (.agg #[.int .i64 n.1, .int .i64 n.2]) = some (.bool (decide (rg.nm = n))) := by
        rw [← nm_beq]; exact be_eql_84
      have lr := ldL_two (o := i * 7 + 0) R.c0 R.c1
      have ln := ldL_two (o := 0) e0 e1
      simp -implicitDefEqProofs only [L44_0, zS, hlt, ay, fa_74_3, ld_71, hrl1, ia, fa_88_0, ld_84, lr, ln, Option.map_some, hbe]
      by_cases hnm : rg.nm = n
      · simp -implicitDefEqProofs only [hnm, z1z, zS, ia]
        exact ⟨hc0.trans hc.drew, .inr ⟨i, rg, b, c', findR_some hrg hnm hn, hrg, hx, rfl⟩⟩
      · simp -implicitDefEqProofs only [hnm, z2z, zS, aA, az (n := (i : Int) + 1) (by omega) (by omega)]
        have := ih (i + 1) w1.drew hc.drew (fun j r hj hr => by
          rcases Nat.lt_or_ge j i with h1 | h1
          · exact hn j r h1 hr
          · have : j = i := by omega
            subst this
            rw [hrg] at hr; cases hr; exact hnm) (by omega)
        rw [Int.natCast_add i 1] at this
        exact this
  exact main m.rgs.length 0 w0 (Chg.refl _ _) (fun j r hj => by omega) (by omega)
end Go.Proofs.YtgamnncehjcdiaaGreat

namespace Go.Proofs.YtgamnncehjcdiaaGreat
open Go Ev Go.RowKit

theorem slot_at {w : World} {A : Option Addr} {c : Nat} {L : List NmV} (h : RdV w A (L.flatMap nmC)) {i : Nat} {p : NmV} (hp' : L[i]? = some p) :
    ∃ b o, pureRun Tryz.prog (Instr.indexAt 70 (.slice A L.length c) (.int .i64 i)) = some (.pointer (some ⟨b, o, none⟩)) ∧ ldC (hp w b) (o + 0) = some (.int .i64 p.1) ∧ ldC (hp w b) (o + 1) = some (.int .i64 p.2) := by
  have hi := (List.getElem?_eq_some_iff.1 hp').1
  obtain ⟨b, o, h1, h2, _⟩ := h.elem (P := Tryz.prog) (c := c) (n := L.length) (i := (i : Int)) (j := .i64) Tryz.underlying70 sz_77 (by omega) (by rw [flatM_len nmC_len]; exact Nat.le_refl _) (by omega) (by omega)
  rw [Int.toNat_natCast] at h2
  exact ⟨b, o, h1, (h2 0 (by omega)).trans (aR nmC_len L i p hp' 0 (by omega)), (h2 1 (by omega)).trans (aR nmC_len L i p hp' 1 (by omega))⟩
theorem c_mNameOf (h : HnV) (w : World) : CallR Tryz.prog 49 [.agg (hnC h).toArray] w fun v w' => v = .agg (nmC (h.1, h.2.1)).toArray ∧ Chg [] w w' := by
  apply F49_ok
  simp -implicitDefEqProofs only [F49, aE, aB, al_84, ae]
  generalize hw : (w.alloc (.cells (hnC h).toArray 25)).alloc _ = w1
  have hc : Chg [] w w1 := by rw [← hw]; exact ((Chg.refl _ _).alloc _).alloc _
  have a1 : hp w1 w.heap.size = some (.cells (hnC h).toArray 25) := by rw [← hw, ac, ae, if_neg (by omega), ac, if_pos rfl]
  have a2 : hp w1 (w.heap.size + 1) = some (.cells #[.int .i64 0, .int .i64 0] 84) := by rw [← hw, ac, ae, if_pos rfl]
  clear hw
  have e0 : (hnC h).toArray[0 + 0]? = some (.int .i64 h.1) := rfl
  have e1 : (hnC h).toArray[0 + 1]? = some (.int .i64 h.2.1) := rfl
  simp -implicitDefEqProofs only [zS, ba, fa_25_1, af, a1, e0, e1, bd_84_0_1]
  rw [st_84 (by rfl) (by rfl) (by rw [a2]; rfl) (by rw [a2]; rfl), a2]
  simp -implicitDefEqProofs only [aD]
  have f2 : hp (put w1 (w.heap.size + 1) #[.int .i64 h.1, .int .i64 h.2.1] 84) (w.heap.size + 1) = some (.cells #[.int .i64 h.1, .int .i64 h.2.1] 84) := ap (av a2) _ _
  rw [aG (c := #[.int .i64 h.1, .int .i64 h.2.1]) ag_84 sz_84 f2, ad]
  exact ⟨rfl, hc.put (.inr (by omega)) _ _⟩
def isLv (m : MdV) (n : NmV) : Bool := decide (0 ≤ n.1 ∧ n.1 < m.slots.length) && decide (m.slots[n.1.toNat]? = some (1, n.2))
set_option maxHeartbeats 1000000 in
theorem c_mIsLive {w : World} {g : Nat} {m : MdV} {s r h : Value} (M : MdR w g m s r h) (n : NmV) : CallR Tryz.prog 46 [.pointer (some ⟨g, 0, none⟩), .agg (nmC n).toArray] w fun v w' => v = .bool (isLv m n) ∧ Chg [] w w' := by
  apply F46_ok
  have hbox := box_nm (w := w) n
  have hc0 : Chg [] w (w.alloc (.cells (nmC n).toArray 84)) := (Chg.refl _ _).alloc _
  simp -implicitDefEqProofs only [F46, aE, aB]
  generalize w.alloc (.cells (nmC n).toArray 84) = w0 at *
  have M0 := (M.keep hc0).keep (Chg.refl _ _).drew
  have hbd : hp w0.drew w.heap.size = some (.cells (nmC n).toArray 84) := hbox
  have hcd := hc0.drew
  have e0 : (nmC n).toArray[0 + 0]? = some (.int .i64 n.1) := rfl
  have e1 : (nmC n).toArray[0 + 1]? = some (.int .i64 n.2) := rfl
  simp -implicitDefEqProofs only [zS, fa_84_0, af, hbox, e0]
  generalize w0.drew = w1 at *
  refine (c_mSlot M0 n.1).step ?_
  obtain ⟨A, c, rfl, hR⟩ := slots_sh M0.sT
  by_cases hn : 0 ≤ n.1 ∧ n.1 < m.slots.length
  · obtain ⟨p, hp'⟩ : ∃ p, m.slots[n.1.toNat]? = some p := ⟨_, List.getElem?_eq_getElem (by omega)⟩
    obtain ⟨b, o, q1, q2, q3⟩ := slot_at (c := c) hR hp'
    have hcast : ((n.1.toNat : Nat) : Int) = n.1 := by omega
    rw [hcast] at q1
    have lr := ldL_two q2 q3
    have hbe : be Tryz.prog .eql 77 (.tmp 17) (.tmp 20) (.agg #[.int .i64 p.1, .int .i64 p.2]) (.agg #[.int .i64 1, .int .i64 n.2]) = some (.bool (decide (p = (1, n.2)))) := by
      rw [← nm_beq]; exact be_eql_77
    simp -implicitDefEqProofs only [zS, hn, and_self, z1z, ay, fa_74_2, ld_70, M0.sl, fa_84_0, fa_84_1, af, hbd, e0, e1, q1, ld_77, lr, Option.map_some, bd_77_0_1, hbe]
    refine ⟨?_, hcd⟩
    rw [isLv, hp', decide_eq_true hn, Bool.true_and]
    simp
  · simp -implicitDefEqProofs only [zS, hn, z2z]
    exact ⟨by simp [isLv, hn], hcd⟩
def liveV (m : MdV) (n : Int) : Int × Bool := if 0 ≤ n ∧ n < m.slots.length then (match m.slots[n.toNat]? with | some p => if p.1 = 1 then (p.2, true) else (0, false) | none => (0, false)) else (0, false)
def spareN (L : List NmV) : Nat := (L.filter fun p => decide (p.1 = 0)).length
theorem spareN_snoc (L : List NmV) (p : NmV) : spareN (L ++ [p]) = spareN L + if p.1 = 0 then 1 else 0 := by
  simp only [spareN, List.filter_append, List.length_append]
  by_cases h : p.1 = 0 <;> simp [h]
set_option maxHeartbeats 1000000 in
theorem c_mSpare {w : World} {g : Nat} {m : MdV} {s r h : Value} (M : MdR w g m s r h) (hl : m.slots.length ≤ 1000000) : CallR Tryz.prog 17 [.pointer (some ⟨g, 0, none⟩)] w fun v w' => v = .int .i64 (spareN m.slots) ∧ Chg [] w w' := by
  apply F17_ok
  obtain ⟨A, c, hs, hR⟩ := slots_sh M.sT
  have hsl := M.sl
  rw [hs] at hsl
  simp -implicitDefEqProofs only [F17, zS, ay, fa_74_2, ld_70, hsl, len_70]
  have main : ∀ (d i : Nat) (w1 : World), Chg [] w w1 → i + d = m.slots.length →
      P17_0 (.int .i64 (spareN (m.slots.take i))) (.slice A m.slots.length c) (.int .i64 m.slots.length) (.int .i64 i) w1 fun v w' => v = .int .i64 (spareN m.slots) ∧ Chg [] w w' := by
    intro d
    induction d with
    | zero =>
      intro i w1 hc hi
      apply L17_0_ok
      have : ¬ (i : Int) < m.slots.length := by omega
      simp -implicitDefEqProofs only [L17_0, zS, this]
      rw [List.take_of_length_le (by omega)]
      exact ⟨rfl, hc⟩
    | succ d ih =>
      intro i w1 hc hi
      apply L17_0_ok
      have hlt : (i : Int) < m.slots.length := by omega
      have hil : i < m.slots.length := by omega
      obtain ⟨b, o, q1, q2, q3⟩ := slot_at (c := c) (hR.keep hc.below) (List.getElem?_eq_getElem hil)
      have lr := ldL_two q2 q3
      have hle : spareN (m.slots.take i) ≤ i := by
        have := List.length_filter_le (fun p : NmV => decide (p.1 = 0)) (m.slots.take i)
        simp only [spareN]; simp at this ⊢; omega
      have hsn : spareN (m.slots.take (i + 1)) = spareN (m.slots.take i) + if (m.slots[i]).1 = 0 then 1 else 0 := by
        rw [List.take_add_one, List.getElem?_eq_getElem hil]
        exact spareN_snoc _ _
      generalize m.slots[i] = p at *
      simp -implicitDefEqProofs only [L17_0, zS, hlt, q1, ld_77, lr, Option.map_some, al_77]
      rw [st_77 (by rfl) (by rfl) (by rw [ac, if_pos rfl]; rfl) (by rw [ac, if_pos rfl]; rfl), ac, if_pos rfl]
      simp -implicitDefEqProofs only [aD]
      generalize hz : w1.alloc _ = wa
      have hca : Chg [] w1 wa := by rw [← hz]; exact (Chg.refl _ _).alloc _
      have hza : wa.heap.size = w1.heap.size + 1 := by rw [← hz]; simp
      have hcp : Chg [] w1 (put wa w1.heap.size [Value.int .i64 p.1, Value.int .i64 p.2].toArray 77) := hca.put (.inr (Nat.le_refl _)) _ _
      have h8 : hp (put wa w1.heap.size [Value.int .i64 p.1, Value.int .i64 p.2].toArray 77) w1.heap.size = some (.cells [Value.int .i64 p.1, Value.int .i64 p.2].toArray 77) := by rw [put_heap, if_pos rfl, if_pos (by omega)]
      generalize put wa w1.heap.size [Value.int .i64 p.1, Value.int .i64 p.2].toArray 77 = w2 at *
      have e0 : ([Value.int .i64 p.1, Value.int .i64 p.2].toArray)[0 + 0]? = some (Value.int .i64 p.1) := rfl
      have hc2 := hc.trans hcp
      have one : ∀ k : Nat, k = spareN (m.slots.take (i + 1)) → P17_1 (.int .i64 k) (.slice A m.slots.length c) (.int .i64 m.slots.length) (.int .i64 i) w2 fun v w' => v = .int .i64 (spareN m.slots) ∧ Chg [] w w' := by
        rintro k rfl
        apply L17_1_ok
        simp -implicitDefEqProofs only [L17_1, zS, aA, az (n := (i : Int) + 1) (by omega) (by omega)]
        have := ih (i + 1) w2 hc2 (by omega)
        rw [Int.natCast_add i 1] at this
        exact this
      by_cases hp0 : p.1 = 0
      · have e1 : (p.1 == 0) = true := by rw [hp0]; rfl
        simp -implicitDefEqProofs only [zS, fa_77_0, af, h8, e0, e1, aA, az (n := (spareN (m.slots.take i) : Int) + 1) (by omega) (by omega)]
        have := one (spareN (m.slots.take i) + 1) (by rw [hsn, if_pos hp0])
        rw [Int.natCast_add _ 1] at this
        exact this
      · simp -implicitDefEqProofs only [zS, fa_77_0, af, h8, e0, eqf hp0]
        exact one _ (by rw [hsn, if_neg hp0]; rfl)
  exact main m.slots.length 0 w (Chg.refl _ _) (by omega)
end Go.Proofs.YtgamnncehjcdiaaGreat

namespace Go.Proofs.YtgamnncehjcdiaaGreat
open Go Ev Go.RowKit

def ixOf {α : Type} [DecidableEq α] (L : List α) (x : α) : Int := match L.findIdx? (fun y => decide (y = x)) with | some i => (i : Int) | none => -1
theorem ixOf_none {α : Type} [DecidableEq α] {L : List α} {x : α} (h : ∀ (j : Nat) (y : α), L[j]? = some y → y ≠ x) : ixOf L x = -1 := by
  have : L.findIdx? (fun y => decide (y = x)) = none := by
    rw [List.findIdx?_eq_none_iff]
    intro r hr
    obtain ⟨j, hj⟩ := List.getElem?_of_mem hr
    simpa using h j r hj
  rw [ixOf, this]
theorem ixOf_some {α : Type} [DecidableEq α] {L : List α} {x y : α} {i : Nat} (hi : L[i]? = some y) (hy : y = x) (h : ∀ (j : Nat) (y : α), j < i → L[j]? = some y → y ≠ x) : ixOf L x = i := by
  have hil := (List.getElem?_eq_some_iff.1 hi).1
  have : L.findIdx? (fun y => decide (y = x)) = some i := by
    rw [List.findIdx?_eq_some_iff_getElem]
    refine ⟨hil, ?_, fun j hj => ?_⟩
    · rw [List.getElem?_eq_getElem hil] at hi; cases hi; simpa using hy
    · simpa using h j _ hj (List.getElem?_eq_getElem (by omega))
  rw [ixOf, this]
theorem ixOf_mem {α : Type} [DecidableEq α] (L : List α) (x : α) : decide (0 ≤ ixOf L x) = decide (x ∈ L) := by
  by_cases h : x ∈ L
  · rw [decide_eq_true h]
    unfold ixOf
    split
    · simp
    · rename_i he
      rw [List.findIdx?_eq_none_iff] at he
      have := he x h
      simp at this
  · rw [decide_eq_false h, ixOf_none fun j y hj e => by subst e; exact h (List.mem_of_getElem? hj)]
    simp
theorem hn_beq (a b : HnV) : ((a.1 == b.1) && ((a.2.1 == b.2.1) && ((a.2.2.1 == b.2.2.1) && ((a.2.2.2.1 == b.2.2.2.1) && ((a.2.2.2.2 == b.2.2.2.2) && true))))) = decide (a = b) := by
  obtain ⟨a1, a2, a3, a4, a5⟩ := a; obtain ⟨b1, b2, b3, b4, b5⟩ := b
  by_cases h1 : a1 = b1 <;> by_cases h2 : a2 = b2 <;> by_cases h3 : a3 = b3 <;> by_cases h4 : a4 = b4 <;> by_cases h5 : a5 = b5 <;> simp [h1, h2, h3, h4, h5]
set_option maxHeartbeats 1000000 in
theorem c_nIndex {w : World} {A : Option Addr} {c : Nat} {L : List NmV} (hR : RdV w A (L.flatMap nmC)) (hl : L.length ≤ 1000000) (x : NmV) : CallR Tryz.prog 92 [.slice A L.length c, .agg (nmC x).toArray] w fun v w' => v = .int .i64 (ixOf L x) ∧ Chg [] w w' := by
  apply F92_ok
  have hbox : hp (w.alloc (.cells (nmC x).toArray 84)) w.heap.size = some (.cells (nmC x).toArray 84) := by rw [ac, if_pos rfl]
  have hc0 : Chg [] w (w.alloc (.cells (nmC x).toArray 84)) := (Chg.refl _ _).alloc _
  simp -implicitDefEqProofs only [F92, aE, aB, ad, len_79]
  generalize w.alloc (.cells (nmC x).toArray 84) = w0 at *
  generalize w.heap.size = gb at *
  have main : ∀ (d i : Nat) (w1 : World), Chg [] w w1 → hp w1 gb = some (.cells (nmC x).toArray 84) → (∀ (j : Nat) (y : NmV), j < i → L[j]? = some y → y ≠ x) → i + d = L.length →
      P92_0 (.slice A L.length c) (.pointer (some ⟨gb, 0, none⟩)) (.int .i64 L.length) (.int .i64 i) w1 fun v w' => v = .int .i64 (ixOf L x) ∧ Chg [] w w' := by
    intro d
    induction d with
    | zero =>
      intro i w1 hc hb hn hi
      apply L92_0_ok
      have : ¬ (i : Int) < L.length := by omega
      simp -implicitDefEqProofs only [L92_0, zS, this]
      rw [ixOf_none fun j y hj => hn j y (by have := (List.getElem?_eq_some_iff.1 hj).1; omega) hj]
      exact ⟨rfl, hc⟩
    | succ d ih =>
      intro i w1 hc hb hn hi
      apply L92_0_ok
      have hlt : (i : Int) < L.length := by omega
      have hil : i < L.length := by omega
      obtain ⟨y, hy⟩ : ∃ y, L[i]? = some y := ⟨_, List.getElem?_eq_getElem hil⟩
      obtain ⟨b, o, q1, _, q3, _⟩ := (hR.keep hc.drew.below).elem (P := Tryz.prog) (c := c) (n := L.length) (i := (i : Int)) (j := .i64) Tryz.underlying79 sz_84 (by omega) (by rw [bf nmC_len]; exact Nat.le_refl _) (by omega) (by omega)
      have hyl : L[i] = y := by rw [List.getElem?_eq_getElem hil] at hy; exact Option.some.inj hy
      rw [Int.toNat_natCast, flat_at nmC_len L i hil, hyl] at q3
      have lx := aG (t := 84) (c := (nmC x).toArray) ag_84 (show (Tryz.prog.info? 84).map (·.size) = some (nmC x).toArray.size from sz_84) (show hp w1.drew gb = _ from hb)
      have ly : ldv Tryz.prog 84 (.pointer (some ⟨b, o, none⟩)) w1.drew = some (.agg (nmC y).toArray) := by rw [ld_84, q3]; rfl
      have hbe : be Tryz.prog .eql 84 (.tmp 11) (.tmp 15) (.agg (nmC x).toArray) (.agg (nmC y).toArray) = some (.bool (decide (x = y))) := by
        rw [← nm_beq]; exact be_eql_84
      simp -implicitDefEqProofs only [L92_0, zS, hlt, lx, q1, ly, hbe]
      by_cases hxy : x = y
      · simp -implicitDefEqProofs only [hxy, z1z, zS]
        rw [← hxy, ixOf_some hy hxy.symm hn]
        exact ⟨rfl, hc.drew⟩
      · simp -implicitDefEqProofs only [hxy, z2z, zS, aA, az (n := (i : Int) + 1) (by omega) (by omega)]
        have := ih (i + 1) w1.drew hc.drew hb (fun j z hj hz => by
          rcases Nat.lt_or_ge j i with h1 | h1
          · exact hn j z h1 hz
          · have : j = i := by omega
            subst this
            rw [hy] at hz; cases hz; exact fun e => hxy e.symm) (by omega)
        rw [Int.natCast_add i 1] at this
        exact this
  exact main L.length 0 w0 hc0 hbox (fun j r hj => by omega) (by omega)
set_option maxHeartbeats 1000000 in
theorem c_hIndex {w : World} {A : Option Addr} {c : Nat} {L : List HnV} (hR : RdV w A (L.flatMap hnC)) (hl : L.length ≤ 1000000) (x : HnV) : CallR Tryz.prog 111 [.slice A L.length c, .agg (hnC x).toArray] w fun v w' => v = .int .i64 (ixOf L x) ∧ Chg [] w w' := by
  apply F111_ok
  have hbox : hp (w.alloc (.cells (hnC x).toArray 25)) w.heap.size = some (.cells (hnC x).toArray 25) := by rw [ac, if_pos rfl]
  have hc0 : Chg [] w (w.alloc (.cells (hnC x).toArray 25)) := (Chg.refl _ _).alloc _
  simp -implicitDefEqProofs only [F111, aE, aB, ad, len_44]
  generalize w.alloc (.cells (hnC x).toArray 25) = w0 at *
  generalize w.heap.size = gb at *
  have main : ∀ (d i : Nat) (w1 : World), Chg [] w w1 → hp w1 gb = some (.cells (hnC x).toArray 25) → (∀ (j : Nat) (y : HnV), j < i → L[j]? = some y → y ≠ x) → i + d = L.length →
      P111_0 (.slice A L.length c) (.pointer (some ⟨gb, 0, none⟩)) (.int .i64 L.length) (.int .i64 i) w1 fun v w' => v = .int .i64 (ixOf L x) ∧ Chg [] w w' := by
    intro d
    induction d with
    | zero =>
      intro i w1 hc hb hn hi
      apply L111_0_ok
      have : ¬ (i : Int) < L.length := by omega
      simp -implicitDefEqProofs only [L111_0, zS, this]
      rw [ixOf_none fun j y hj => hn j y (by have := (List.getElem?_eq_some_iff.1 hj).1; omega) hj]
      exact ⟨rfl, hc⟩
    | succ d ih =>
      intro i w1 hc hb hn hi
      apply L111_0_ok
      have hlt : (i : Int) < L.length := by omega
      have hil : i < L.length := by omega
      obtain ⟨y, hy⟩ : ∃ y, L[i]? = some y := ⟨_, List.getElem?_eq_getElem hil⟩
      obtain ⟨b, o, q1, _, q3, _⟩ := (hR.keep hc.drew.below).elem (P := Tryz.prog) (c := c) (n := L.length) (i := (i : Int)) (j := .i64) Tryz.underlying44 sz_25 (by omega) (by rw [bf hnC_len]; exact Nat.le_refl _) (by omega) (by omega)
      have hyl : L[i] = y := by rw [List.getElem?_eq_getElem hil] at hy; exact Option.some.inj hy
      rw [Int.toNat_natCast, flat_at hnC_len L i hil, hyl] at q3
      have lx := aG (t := 25) (c := (hnC x).toArray) ag_25 (show (Tryz.prog.info? 25).map (·.size) = some (hnC x).toArray.size from sz_25) (show hp w1.drew gb = _ from hb)
      have ly : ldv Tryz.prog 25 (.pointer (some ⟨b, o, none⟩)) w1.drew = some (.agg (hnC y).toArray) := by rw [ld_25, q3]; rfl
      have hbe : be Tryz.prog .eql 25 (.tmp 11) (.tmp 15) (.agg (hnC x).toArray) (.agg (hnC y).toArray) = some (.bool (decide (x = y))) := by
        rw [← hn_beq]; exact be_eql_25
      simp -implicitDefEqProofs only [L111_0, zS, hlt, lx, q1, ly, hbe]
      by_cases hxy : x = y
      · simp -implicitDefEqProofs only [hxy, z1z, zS]
        rw [← hxy, ixOf_some hy hxy.symm hn]
        exact ⟨rfl, hc.drew⟩
      · simp -implicitDefEqProofs only [hxy, z2z, zS, aA, az (n := (i : Int) + 1) (by omega) (by omega)]
        have := ih (i + 1) w1.drew hc.drew hb (fun j z hj hz => by
          rcases Nat.lt_or_ge j i with h1 | h1
          · exact hn j z h1 hz
          · have : j = i := by omega
            subst this
            rw [hy] at hz; cases hz; exact fun e => hxy e.symm) (by omega)
        rw [Int.natCast_add i 1] at this
        exact this
  exact main L.length 0 w0 hc0 hbox (fun j r hj => by omega) (by omega)
theorem c_nContains {w : World} {A : Option Addr} {c : Nat} {L : List NmV} (hR : RdV w A (L.flatMap nmC)) (hl : L.length ≤ 1000000) (x : NmV) : CallR Tryz.prog 61 [.slice A L.length c, .agg (nmC x).toArray] w fun v w' => v = .bool (decide (x ∈ L)) ∧ Chg [] w w' := by
  apply F61_ok
  have hbox : hp (w.alloc (.cells (nmC x).toArray 84)) w.heap.size = some (.cells (nmC x).toArray 84) := by rw [ac, if_pos rfl]
  have hc0 : Chg [] w (w.alloc (.cells (nmC x).toArray 84)) := (Chg.refl _ _).alloc _
  simp -implicitDefEqProofs only [F61, aE, aB]
  generalize w.alloc (.cells (nmC x).toArray 84) = w0 at *
  simp -implicitDefEqProofs only [aG (t := 84) (c := (nmC x).toArray) ag_84 (show (Tryz.prog.info? 84).map (·.size) = some (nmC x).toArray.size from sz_84) hbox, ad]
  refine (c_nIndex (c := c) (hR.keep hc0.below) hl x).mono ?_
  rintro _ w1 ⟨rfl, c1⟩
  simp -implicitDefEqProofs only [zS, aH]
  exact ⟨by rw [ixOf_mem]; congr, hc0.trans c1⟩
theorem c_hContains {w : World} {A : Option Addr} {c : Nat} {L : List HnV} (hR : RdV w A (L.flatMap hnC)) (hl : L.length ≤ 1000000) (x : HnV) : CallR Tryz.prog 103 [.slice A L.length c, .agg (hnC x).toArray] w fun v w' => v = .bool (decide (x ∈ L)) ∧ Chg [] w w' := by
  apply F103_ok
  have hbox : hp (w.alloc (.cells (hnC x).toArray 25)) w.heap.size = some (.cells (hnC x).toArray 25) := by rw [ac, if_pos rfl]
  have hc0 : Chg [] w (w.alloc (.cells (hnC x).toArray 25)) := (Chg.refl _ _).alloc _
  simp -implicitDefEqProofs only [F103, aE, aB]
  generalize w.alloc (.cells (hnC x).toArray 25) = w0 at *
  simp -implicitDefEqProofs only [aG (t := 25) (c := (hnC x).toArray) ag_25 (show (Tryz.prog.info? 25).map (·.size) = some (hnC x).toArray.size from sz_25) hbox, ad]
  refine (c_hIndex (c := c) (hR.keep hc0.below) hl x).mono ?_
  rintro _ w1 ⟨rfl, c1⟩
  simp -implicitDefEqProofs only [zS, aH]
  exact ⟨by rw [ixOf_mem]; congr, hc0.trans c1⟩
end Go.Proofs.YtgamnncehjcdiaaGreat

namespace Go.Proofs.YtgamnncehjcdiaaGreat
open Go Ev Go.RowKit

theorem objs_sh {w : World} {L : List HnV} {s : Value} (h : ∃ F, objsT L w F s) : ∃ A c, s = .slice A L.length c ∧ RdV w A (L.flatMap hnC) := by
  obtain ⟨F, h⟩ := h
  obtain ⟨h1, _⟩ := flat_own h
  obtain ⟨A, c, e, r, _⟩ := rdV_of_own h1
  exact ⟨A, c, e, r⟩
theorem ints_sh {w : World} {L : List Int} {s : Value} (h : ∃ F, intsT L w F s) : ∃ A c, s = .slice A L.length c ∧ RdI .i64 w A L := by
  obtain ⟨F, h⟩ := h
  obtain ⟨h1, _⟩ := flat_own h
  obtain ⟨_, A, c, e, r, _⟩ := rd_of_own h1
  exact ⟨A, c, e, r⟩
def knownV (m : MdV) (h : HnV) (of : Int) : Bool := match findR m.rgs (h.1, h.2.1) with
  | none => false
  | some i => if h.2.2.2.2 = 0 then decide (h.2.2.1 = 0) && (decide (h.2.2.2.1 = 0) && decide (of ≠ 2)) else decide (of ≠ 1) && (match m.rgs[i]? with | some r => decide (h ∈ r.objs) | none => false)
set_option maxHeartbeats 2000000 in
theorem c_mKnown {w : World} {g : Nat} {m : MdV} {s r hh : Value} (M : MdR w g m s r hh) (h : HnV) (of : Int) (hl : m.rgs.length ≤ 1000000) (ho : ∀ rg ∈ m.rgs, rg.objs.length ≤ 1000000) : CallR Tryz.prog 76 [.pointer (some ⟨g, 0, none⟩), .agg (hnC h).toArray, .int .i64 of] w fun v w' => v = .bool (knownV m h of) ∧ Chg [] w w' := by
  apply F76_ok
  have hbox : hp (w.alloc (.cells (hnC h).toArray 25)) w.heap.size = some (.cells (hnC h).toArray 25) := by rw [ac, if_pos rfl]
  have hc0 : Chg [] w (w.alloc (.cells (hnC h).toArray 25)) := (Chg.refl _ _).alloc _
  simp -implicitDefEqProofs only [F76, aE, aB]
  generalize w.alloc (.cells (hnC h).toArray 25) = w0 at *
  generalize w.heap.size = gb at *
  have ldh : ∀ w', hp w' gb = some (.cells (hnC h).toArray 25) → ldv Tryz.prog 25 (.pointer (some ⟨gb, 0, none⟩)) w' = some (.agg (hnC h).toArray) := fun w' hw => aG (t := 25) (c := (hnC h).toArray) ag_25 (show (Tryz.prog.info? 25).map (·.size) = some (hnC h).toArray.size from sz_25) hw
  simp -implicitDefEqProofs only [ldh _ hbox, ad]
  refine (c_mNameOf h w0).mono ?_
  rintro _ w1 ⟨rfl, c1⟩
  refine (c_mRegion ((M.keep hc0).keep c1) (h.1, h.2.1) hl).mono ?_
  rintro v w2 ⟨c2, hv⟩
  have c02 := hc0.trans (c1.trans c2)
  have M2 := M.keep c02
  have hb2 := (c1.trans c2).at hbox (by simp)
  rcases hv with ⟨hf, rfl⟩ | ⟨i, rg, b, c, hf, hrg, hr, rfl⟩
  · simp -implicitDefEqProofs only [zS, be_eqlp Tryz.underlying89, z7z]
    refine ⟨?_, c02⟩
    simp [knownV, hf]
  · obtain ⟨F, hF⟩ := M2.rT
    obtain ⟨b', c', hr', cv, wv, ov, R⟩ := rg_at hF hrg
    rw [hr] at hr'
    cases hr'
    have e2 : (hnC h).toArray[0 + 2]? = some (.int .i64 h.2.2.1) := rfl
    have e3 : (hnC h).toArray[0 + 3]? = some (.int .i64 h.2.2.2.1) := rfl
    have e4 : (hnC h).toArray[0 + 4]? = some (.int .i64 h.2.2.2.2) := rfl
    by_cases h4 : h.2.2.2.2 = 0
    · have k4 : (h.2.2.2.2 == 0) = true := by rw [h4]; rfl
      have kv : knownV m h of = (decide (h.2.2.1 = 0) && (decide (h.2.2.2.1 = 0) && decide (of ≠ 2))) := by rw [knownV, hf]; simp only [h4, if_true]
      by_cases h2 : h.2.2.1 = 0
      · have k2 : (h.2.2.1 == 0) = true := by rw [h2]; rfl
        by_cases h3 : h.2.2.2.1 = 0
        · have k3 : (h.2.2.2.1 == 0) = true := by rw [h3]; rfl
          simp -implicitDefEqProofs only [zS, be_eqlp Tryz.underlying89, z8z, fa_25_4, bm, fa_25_3, af, hb2, e4, e2, e3, k4, k2, k3]
          refine ⟨?_, c02⟩
          rw [kv]; by_cases h5 : of = 2 <;> simp [h2, h3, h5]
        · simp -implicitDefEqProofs only [zS, be_eqlp Tryz.underlying89, z8z, fa_25_4, bm, fa_25_3, af, hb2, e4, e2, e3, k4, k2, eqf h3]
          refine ⟨?_, c02⟩
          rw [kv]; simp [h3]
      · simp -implicitDefEqProofs only [zS, be_eqlp Tryz.underlying89, z8z, fa_25_4, bm, fa_25_3, af, hb2, e4, e2, e3, k4, eqf h2]
        refine ⟨?_, c02⟩
        rw [kv]; simp [h2]
    · have kv : knownV m h of = (decide (of ≠ 1) && decide (h ∈ rg.objs)) := by rw [knownV, hf]; simp only [h4, if_false, hrg]
      by_cases h5 : of = 1
      · have k5 : (of != 1) = false := by rw [h5]; rfl
        simp -implicitDefEqProofs only [zS, be_eqlp Tryz.underlying89, z8z, fa_25_4, af, hb2, e4, eqf h4, k5]
        refine ⟨?_, c02.drew⟩
        rw [kv]; simp [h5]
      · have k5 : (of != 1) = true := bne_iff_ne.2 h5
        obtain ⟨A, co, hov, hR⟩ := objs_sh R.oT
        have R6 := R.c6
        rw [hov] at R6
        have R6d : ldC (hp w2.drew b) (i * 7 + 6) = some (.slice A rg.objs.length co) := R6
        simp -implicitDefEqProofs only [zS, be_eqlp Tryz.underlying89, z8z, fa_25_4, af, hb2, e4, eqf h4, k5, ay, fa_88_5, ld_44, R6d, R6, ldh w2.drew hb2]
        refine (c_hContains (c := co) (hR.keep (Chg.refl [] _).drew.below) (ho rg (List.mem_of_getElem? hrg)) h).mono ?_
        rintro _ w3 ⟨rfl, c3⟩
        refine ⟨?_, c02.trans ((Chg.refl _ _).drew.trans c3)⟩
        rw [kv]; simp [h5]
end Go.Proofs.YtgamnncehjcdiaaGreat

namespace Go.Proofs.YtgamnncehjcdiaaGreat
open Go Ev Go.RowKit

def rightV (w n : Int) : Bool := decide (1 ≤ w ∧ w ≤ 1024 ∧ 1 ≤ n ∧ n ≤ w)
theorem c_sRight (a n : Int) (w : World) : CallR Tryz.prog 95 [.int .i64 a, .int .i64 n] w fun v w' => v = .bool (rightV a n) ∧ w' = w := by
  apply F95_ok
  by_cases h1 : 1 ≤ a
  · by_cases h2 : a ≤ 1024
    · by_cases h3 : 1 ≤ n
      · simp -implicitDefEqProofs only [F95, zS, aH, bp_leq, h1, h2, h3]
        exact ⟨by simp [rightV, h1, h2, h3], trivial⟩
      · simp -implicitDefEqProofs only [F95, zS, aH, bp_leq, h1, h2, h3]
        exact ⟨by simp [rightV, h3], trivial⟩
    · simp -implicitDefEqProofs only [F95, zS, aH, bp_leq, h1, h2]
      exact ⟨by simp [rightV, h2], trivial⟩
  · simp -implicitDefEqProofs only [F95, zS, aH, bp_leq, h1]
    exact ⟨by simp [rightV, h1], trivial⟩
def aloneV (w n : Int) : Bool := rightV w n && decide (w < 2 * n)
theorem right_iff {a n : Int} (h : rightV a n = true) : 1 ≤ a ∧ a ≤ 1024 ∧ 1 ≤ n ∧ n ≤ a := of_decide_eq_true h
theorem c_sAlone (a n : Int) (w : World) : CallR Tryz.prog 96 [.int .i64 a, .int .i64 n] w fun v w' => v = .bool (aloneV a n) ∧ w' = w := by
  apply F96_ok
  simp -implicitDefEqProofs only [F96]
  refine (c_sRight a n w).step ?_
  cases hr : rightV a n with
  | true =>
    have := right_iff hr
    simp -implicitDefEqProofs only [zS, bp_mul, az (n := 2 * n) (by omega) (by omega)]
    exact ⟨by simp [aloneV, hr], trivial⟩
  | false =>
    simp -implicitDefEqProofs only [zS]
    exact ⟨by simp [aloneV, hr], trivial⟩
def fitsV (w off n : Int) : Bool := rightV w n && (!aloneV w n && (decide (0 ≤ off) && decide (off ≤ w - n)))
theorem c_sFits (a off n : Int) (w : World) : CallR Tryz.prog 93 [.int .i64 a, .int .i64 off, .int .i64 n] w fun v w' => v = .bool (fitsV a off n) ∧ w' = w := by
  apply F93_ok
  simp -implicitDefEqProofs only [F93]
  refine (c_sRight a n w).step ?_
  cases hr : rightV a n with
  | true =>
    have := right_iff hr
    simp -implicitDefEqProofs only [zS]
    refine (c_sAlone a n w).step ?_
    cases ha : aloneV a n with
    | true =>
      simp -implicitDefEqProofs only [zS]
      exact ⟨by simp [fitsV, ha], trivial⟩
    | false =>
      by_cases h0 : 0 ≤ off
      · simp -implicitDefEqProofs only [zS, aH, bp_leq, bp_sub, h0, az (n := a - n) (by omega) (by omega)]
        exact ⟨by simp [fitsV, hr, ha, h0], trivial⟩
      · simp -implicitDefEqProofs only [zS, aH, h0]
        exact ⟨by simp [fitsV, h0], trivial⟩
  | false =>
    simp -implicitDefEqProofs only [zS]
    exact ⟨by simp [fitsV, hr], trivial⟩
def afterV (w n : Int) : Int := if rightV w n then (if aloneV w n then w else n) else 0
theorem c_sAfter (a n : Int) (w : World) : CallR Tryz.prog 66 [.int .i64 a, .int .i64 n] w fun v w' => v = .int .i64 (afterV a n) ∧ w' = w := by
  apply F66_ok
  simp -implicitDefEqProofs only [F66]
  refine (c_sRight a n w).step ?_
  cases hr : rightV a n with
  | true =>
    simp -implicitDefEqProofs only [zS]
    refine (c_sAlone a n w).step ?_
    cases ha : aloneV a n with
    | true =>
      simp -implicitDefEqProofs only [zS]
      exact ⟨by simp [afterV, hr, ha], trivial⟩
    | false =>
      simp -implicitDefEqProofs only [zS]
      exact ⟨by simp [afterV, hr, ha], trivial⟩
  | false =>
    simp -implicitDefEqProofs only [zS]
    exact ⟨by simp [afterV, hr], trivial⟩
def roundS (s n : Int) : Int := (n + s - 1) / s * s
def stepOf (cls : Int) : Int := if cls ≤ 0 then 1 else if cls = 1 then 2 else if cls = 2 then 4 else 8
def roundV (cls n : Int) : Int := if n < 1 ∨ 1024 < n then 0 else roundS (stepOf cls) n
theorem quo_nn {a b : Int} (h : 0 ≤ a) : a.tdiv b = a / b := Int.tdiv_eq_ediv_of_nonneg h
theorem shl_lit {P : Program} {t : TypeId} (k : Nat) (hk : k ≤ 3) : bp P .shl t (.int .i64 1) (.int .i64 k) = some (.int .i64 (2 ^ k)) := by
  rw [bp_shl (by omega)]
  have : k = 0 ∨ k = 1 ∨ k = 2 ∨ k = 3 := by omega
  rcases this with rfl | rfl | rfl | rfl <;> rfl
set_option maxHeartbeats 1000000 in
theorem c_sRound (cls n : Int) (w : World) : CallR Tryz.prog 62 [.int .i64 cls, .int .i64 n] w fun v w' => v = .int .i64 (roundV cls n) ∧ w' = w := by
  apply F62_ok
  by_cases h1 : n < 1
  · simp -implicitDefEqProofs only [F62, zS, h1]
    exact ⟨by rw [roundV, if_pos (.inl h1)], trivial⟩
  by_cases h2 : 1024 < n
  · simp -implicitDefEqProofs only [F62, zS, h1, h2]
    exact ⟨by rw [roundV, if_pos (.inr h2)], trivial⟩
  have hk : ∃ k : Nat, k ≤ 3 ∧ stepOf cls = 2 ^ k ∧ (if (3 : Int) < (if (0 : Int) > cls then 0 else cls) then (3 : Int) else (if (0 : Int) > cls then 0 else cls)) = (k : Int) := by
    by_cases c0 : cls ≤ 0
    · refine ⟨0, by omega, by rw [stepOf, if_pos c0]; rfl, ?_⟩
      have : (if (0 : Int) > cls then 0 else cls) = 0 := by split <;> omega
      rw [this]; rfl
    · have e : (if (0 : Int) > cls then 0 else cls) = cls := by rw [if_neg (by omega)]
      rw [e, stepOf, if_neg c0]
      by_cases c1 : cls = 1
      · exact ⟨1, by omega, by rw [if_pos c1]; rfl, by rw [if_neg (by omega), c1]; rfl⟩
      · rw [if_neg c1]
        by_cases c2 : cls = 2
        · exact ⟨2, by omega, by rw [if_pos c2]; rfl, by rw [if_neg (by omega), c2]; rfl⟩
        · refine ⟨3, by omega, by rw [if_neg c2]; rfl, ?_⟩
          split <;> omega
  obtain ⟨k, k3, hs, hk⟩ := hk
  have hs1 : (1 : Int) ≤ 2 ^ k ∧ (2 : Int) ^ k ≤ 8 := by
    have : k = 0 ∨ k = 1 ∨ k = 2 ∨ k = 3 := by omega
    rcases this with rfl | rfl | rfl | rfl <;> decide
  have hv : roundV cls n = roundS (2 ^ k) n := by rw [roundV, if_neg (by omega), hs]
  have hb : 0 ≤ roundS (2 ^ k) n ∧ roundS (2 ^ k) n ≤ 2000 := by
    have h3 := Int.ediv_mul_le (n + 2 ^ k - 1) (b := 2 ^ k) (by omega)
    have h4 := Int.ediv_nonneg (a := n + 2 ^ k - 1) (b := 2 ^ k) (by omega) (by omega)
    have h5 := Int.mul_nonneg h4 (show (0 : Int) ≤ 2 ^ k by omega)
    exact ⟨h5, by simp only [roundS]; omega⟩
  have hq : 0 ≤ (n + 2 ^ k - 1) / 2 ^ k ∧ (n + 2 ^ k - 1) / 2 ^ k ≤ 2000 := by
    have h4 := Int.ediv_nonneg (a := n + 2 ^ k - 1) (b := 2 ^ k) (by omega) (by omega)
    have h5 := Int.ediv_le_self (a := n + 2 ^ k - 1) (2 ^ k) (by omega)
    omega
  have hsl := shl_lit (P := Tryz.prog) (t := 3) k k3
  generalize (2 : Int) ^ k = st at *
  have e1 := @roundS st n
  simp -implicitDefEqProofs only [F62, zS, h1, h2, pr_max, pr_min, hk, hsl, aA, bp_sub, az (n := n + st) (by omega) (by omega), az (n := n + st - 1) (by omega) (by omega), bp_quo (show st ≠ 0 by omega), quo_nn (show 0 ≤ n + st - 1 by omega), az (n := (n + st - 1) / st) (by omega) (by omega), bp_mul]
  have : (n + st - 1) / st * st = roundS st n := rfl
  rw [this, az (by omega) (by omega), hv]
  exact ⟨rfl, trivial⟩
end Go.Proofs.YtgamnncehjcdiaaGreat

namespace Go.Proofs.YtgamnncehjcdiaaGreat
open Go Ev Go.RowKit

theorem RgR.keep {w w' : World} {b o : Nat} {r : RgV} {cv wv ov : Value} (k : RgR w b o r cv wv ov) (hc : Chg [] w w') : RgR w' b o r cv wv ov := by
  have e : hp w' b = hp w b := hc.block b (by
    rcases Nat.lt_or_ge b w.heap.size with h | h
    · exact h
    · have : hp w b = none := by simp [hp]; omega
      have hu := k.c0
      rw [this] at hu; cases hu) (by simp)
  obtain ⟨F, hF⟩ := k.cT
  obtain ⟨G, hG⟩ := k.wT
  obtain ⟨H, hH⟩ := k.oT
  exact ⟨by rw [e]; exact k.c0, by rw [e]; exact k.c1, by rw [e]; exact k.c2, by rw [e]; exact k.c3, by rw [e]; exact k.c4, by rw [e]; exact k.c5, by rw [e]; exact k.c6,
    ⟨F, (good_intsT _).frame hF (ChgP.of0 hc none') fun _ _ h => h⟩, ⟨G, (good_words _).frame hG (ChgP.of0 hc none') fun _ _ h => h⟩, ⟨H, (aS _).frame hH (ChgP.of0 hc none') fun _ _ h => h⟩⟩
def newV (l : List Int) : Int := if l.length = 0 then -1 else l.getD (l.length - 1) 0
theorem c_mNewest {w : World} {b o : Nat} {r : RgV} {cv wv ov : Value} (R : RgR w b o r cv wv ov) (hl : r.chunks.length ≤ 1000000) : CallR Tryz.prog 64 [.pointer (some ⟨b, o, none⟩)] w fun v w' => v = .int .i64 (newV r.chunks) ∧ Chg [] w w' := by
  apply F64_ok
  obtain ⟨A, c, hcv, hR⟩ := ints_sh R.cT
  have R4 := R.c4
  rw [hcv] at R4
  have R4d : ldC (hp w.drew b) (o + 4) = some (.slice A r.chunks.length c) := R4
  by_cases h0 : r.chunks.length = 0
  · have e : ((r.chunks.length : Int) == 0) = true := by rw [h0]; rfl
    simp -implicitDefEqProofs only [F64, zS, ay, fa_88_3, aY, R4, len_22, e]
    exact ⟨by rw [newV, if_pos h0], Chg.refl _ _⟩
  · have e : ((r.chunks.length : Int) == 0) = false := beq_eq_false_iff_ne.2 (by omega)
    have hn : (r.chunks.length : Int) - 1 = ((r.chunks.length - 1 : Nat) : Int) := by omega
    obtain ⟨q, q1, q2⟩ := (hR.drew).at (P := Tryz.prog) (c := c) (j := .i64) Tryz.underlying22 Tryz.underlying3 sz_3 (i := ((r.chunks.length - 1 : Nat) : Int)) (by omega) (by omega)
    rw [Int.toNat_natCast] at q2
    simp -implicitDefEqProofs only [F64, zS, ay, fa_88_3, aY, R4, R4d, len_22, e, bp_sub, hn, az (n := ((r.chunks.length - 1 : Nat) : Int)) (by omega) (by omega), q1, af, q2]
    exact ⟨by rw [newV, if_neg h0], (Chg.refl _ _).drew⟩
def rfitsV (r : RgV) (words need : Int) : Bool := decide (0 < r.chunks.length) && fitsV words r.off need
theorem c_mFits {w : World} {b o : Nat} {r : RgV} {cv wv ov : Value} (R : RgR w b o r cv wv ov) (words need : Int) : CallR Tryz.prog 63 [.pointer (some ⟨b, o, none⟩), .int .i64 words, .int .i64 need] w fun v w' => v = .bool (rfitsV r words need) ∧ w' = w := by
  apply F63_ok
  obtain ⟨A, c, hcv, hR⟩ := ints_sh R.cT
  have R4 := R.c4
  rw [hcv] at R4
  by_cases h0 : (0 : Int) < r.chunks.length
  · simp -implicitDefEqProofs only [F63, zS, ay, fa_88_3, fa_88_2, aY, af, R4, R.c3, len_22, h0]
    refine (c_sFits words r.off need w).step ?_
    have h1 : 0 < r.chunks.length := by omega
    simp -implicitDefEqProofs only [zS, rfitsV, h1, z1z, Bool.true_and]
    exact ⟨trivial, trivial⟩
  · have h1 : ¬ 0 < r.chunks.length := by omega
    simp -implicitDefEqProofs only [F63, zS, ay, fa_88_3, aY, R4, len_22, h0]
    exact ⟨by rw [rfitsV, decide_eq_false h1]; rfl, trivial⟩
structure HdR (w : World) (b o : Nat) (d : HdV) (nv : Value) : Prop where
  c0 : ldC (hp w b) (o + 0) = some (.int .i64 d.depth)
  c1 : ldC (hp w b) (o + 1) = some nv
  nT : ∃ F, namesT d.holds w F nv
theorem hd_at {w : World} {L : List HdV} {F : Fp} {x : Value} (h : handsT L w F x) {i : Nat} {d : HdV} (hr : L[i]? = some d) : ∃ b c, x = .slice (some ⟨b, 0, none⟩) L.length c ∧ ∃ nv, HdR w b (i * 2) d nv := by
  have get : ∀ k, k < 2 → (L.flatMap hdT)[i * 2 + k]? = (hdT d)[k]? := fun k hk => aR hdT_len L i d hr k hk
  obtain ⟨b, c, v0, F0, e0, _, _, _, l0, t0, _⟩ := isRow.cell h (good_hdL L) (get 0 (by omega))
  obtain ⟨b1, c1, v1, F1, e1, _, _, _, l1, t1, _⟩ := isRow.cell h (good_hdL L) (get 1 (by omega))
  subst e0
  cases e1
  rw [t0.1] at l0
  exact ⟨b, c, rfl, v1, l0, l1, ⟨F1, t1⟩⟩
theorem names_sh {w : World} {L : List NmV} {s : Value} (h : ∃ F, namesT L w F s) : ∃ A c, s = .slice A L.length c ∧ RdV w A (L.flatMap nmC) := by
  obtain ⟨F, h⟩ := h
  obtain ⟨h1, _⟩ := flat_own h
  obtain ⟨A, c, e, r, _⟩ := rdV_of_own h1
  exact ⟨A, c, e, r⟩
end Go.Proofs.YtgamnncehjcdiaaGreat

namespace Go.Proofs.YtgamnncehjcdiaaGreat
open Go Ev Go.RowKit

def depthV (m : MdV) (n : Int) : Int := if 0 ≤ n ∧ n < m.hands.length then (match m.hands[n.toNat]? with | some d => d.depth | none => 0) else 0
set_option maxHeartbeats 1000000 in
theorem c_mDepth {w : World} {g : Nat} {m : MdV} {s r h : Value} (M : MdR w g m s r h) (n : Int) : CallR Tryz.prog 18 [.pointer (some ⟨g, 0, none⟩), .int .i64 n] w fun v w' => v = .int .i64 (depthV m n) ∧ w' = w := by
  apply F18_ok
  obtain ⟨A, c, hh⟩ := hands_sh M.hT
  have hl := M.hl
  rw [hh] at hl
  by_cases h0 : n < 0
  · simp -implicitDefEqProofs only [F18, zS, h0]
    exact ⟨by rw [depthV, if_neg (by omega)], trivial⟩
  by_cases h1 : (m.hands.length : Int) ≤ n
  · simp -implicitDefEqProofs only [F18, zS, h0, ay, fa_74_4, ld_72, hl, len_72, aH, h1]
    exact ⟨by rw [depthV, if_neg (by omega)], trivial⟩
  obtain ⟨d, hd⟩ : ∃ d, m.hands[n.toNat]? = some d := ⟨_, List.getElem?_eq_getElem (by omega)⟩
  obtain ⟨F, hF⟩ := M.hT
  obtain ⟨b, c', hx, nv, D⟩ := hd_at hF hd
  rw [hh] at hx
  cases hx
  have ia := ia_72 (b := b) (p := 0) (n := m.hands.length) (c := c) (j := .i64) (i := n) (by omega) (by omega)
  rw [Nat.zero_add] at ia
  simp -implicitDefEqProofs only [F18, zS, h0, ay, fa_74_4, ld_72, hl, len_72, aH, h1, ia, fa_81_0, af, D.c0]
  exact ⟨by rw [depthV, if_pos (by omega), hd], trivial⟩
def mayV (m : MdV) (n : Int) (o : OpV) : Bool := decide (0 ≤ n) && (decide (n < m.hands.length) && mayO o)
set_option maxHeartbeats 1000000 in
theorem c_mMay {w : World} {g : Nat} {m : MdV} {s r h : Value} (M : MdR w g m s r h) (n : Int) (o : OpV) : CallR Tryz.prog 30 [.pointer (some ⟨g, 0, none⟩), .int .i64 n, .agg (opC o).toArray] w fun v w' => v = .bool (mayV m n o) ∧ Chg [] w w' := by
  apply F30_ok
  have hbox : hp (w.alloc (.cells (opC o).toArray 39)) w.heap.size = some (.cells (opC o).toArray 39) := by rw [ac, if_pos rfl]
  have hc0 : Chg [] w (w.alloc (.cells (opC o).toArray 39)) := (Chg.refl _ _).alloc _
  simp -implicitDefEqProofs only [F30, aE, aB]
  generalize w.alloc (.cells (opC o).toArray 39) = w0 at *
  have M0 := M.keep hc0
  obtain ⟨A, c, hh⟩ := hands_sh M0.hT
  have hl := M0.hl
  rw [hh] at hl
  by_cases h0 : 0 ≤ n
  · by_cases h1 : n < (m.hands.length : Int)
    · have lo := aG (t := 39) (c := (opC o).toArray) ag_39 (show (Tryz.prog.info? 39).map (·.size) = some (opC o).toArray.size from sz_39) hbox
      simp -implicitDefEqProofs only [zS, aH, h0, ay, fa_74_4, ld_72, hl, len_72, h1, lo]
      refine (c_opMay o w0).mono ?_
      rintro _ w1 ⟨rfl, c1⟩
      simp -implicitDefEqProofs only [zS, mayV, h0, h1, z1z, Bool.true_and]
      exact ⟨trivial, hc0.trans c1⟩
    · simp -implicitDefEqProofs only [zS, aH, h0, ay, fa_74_4, ld_72, hl, len_72, h1]
      exact ⟨by rw [mayV, decide_eq_false h1]; simp, hc0⟩
  · simp -implicitDefEqProofs only [zS, aH, h0]
    exact ⟨by rw [mayV, decide_eq_false h0]; simp, hc0⟩
end Go.Proofs.YtgamnncehjcdiaaGreat

namespace Go.Proofs.YtgamnncehjcdiaaGreat
open Go Ev Go.RowKit

def codeV (words : Int) (d : HdV) (holds : Bool) (stale : Int) (o : OpV) (len : Int) : Int :=
  if o.1 = 2 then (if o.2.2.2.1 < 1 ∨ words < o.2.2.2.1 then 5 else stale)
  else if o.1 = 3 then (if d.depth = 15 then 8 else 0)
  else if o.1 = 4 then (if d.depth = 0 then 4 else 0)
  else if o.1 = 5 then (if d.depth = 0 then 4 else if holds then 0 else if d.holds.length = 8 then 8 else stale)
  else if 6 ≤ o.1 ∧ o.1 ≤ 9 then (if holds = false then 4 else if len ≤ o.2.2.2.1 then 5 else 0)
  else if o.1 = 10 ∨ o.1 = 12 then stale else 0
section
variable {W w : World} {g g6 g7 b k : Nat} {m : MdV} {s r hh nv : Value} {o : OpV} {h : HnV} {d : HdV} {holds : Bool} {stale : Int}
theorem l_ref2 (hc : Chg [] W w) : P47_2 w fun v w' => v = .int .i64 0 ∧ Chg [] W w' := by
  apply L47_2_ok
  exact ⟨rfl, hc⟩
set_option maxHeartbeats 1000000 in
theorem l_ref3 (hc : Chg [] W w) (h6 : hp w g6 = some (.cells (opC o).toArray 39)) (h7 : hp w g7 = some (.cells (hnC h).toArray 25)) (words : Int) (hk : o.1 ≠ 2 ∧ o.1 ≠ 3 ∧ o.1 ≠ 4 ∧ o.1 ≠ 5) {t : Bool} (ht : t = decide (6 ≤ o.1 ∧ o.1 ≤ 9)) :
    P47_3 (.pointer (some ⟨g6, 0, none⟩)) (.pointer (some ⟨g7, 0, none⟩)) (.bool holds) (.int .i64 stale) (.int .i64 o.1) (.bool t) w fun v w' => v = .int .i64 (codeV words d holds stale o h.2.2.2.2) ∧ Chg [] W w' := by
  apply L47_3_ok
  have e4 : (hnC h).toArray[0 + 4]? = some (.int .i64 h.2.2.2.2) := rfl
  have cv : codeV words d holds stale o h.2.2.2.2 = if 6 ≤ o.1 ∧ o.1 ≤ 9 then (if holds = false then 4 else if h.2.2.2.2 ≤ o.2.2.2.1 then 5 else 0) else if o.1 = 10 ∨ o.1 = 12 then stale else 0 := by
    rw [codeV, if_neg hk.1, if_neg hk.2.1, if_neg hk.2.2.1, if_neg hk.2.2.2]
  rw [cv]
  by_cases k69 : 6 ≤ o.1 ∧ o.1 ≤ 9
  · have ht' : t = true := by rw [ht]; exact decide_eq_true k69
    subst ht'
    rw [if_pos k69]
    cases holds with
    | false =>
      simp -implicitDefEqProofs only [L47_3, zS]
      exact ⟨by simp, hc⟩
    | true =>
      by_cases hn : h.2.2.2.2 ≤ o.2.2.2.1
      · simp -implicitDefEqProofs only [L47_3, zS, aN, fa_25_4, af, h6, h7, op_3, e4, aH, hn]
        exact ⟨by simp, hc⟩
      · simp -implicitDefEqProofs only [L47_3, zS, aN, fa_25_4, af, h6, h7, op_3, e4, aH, hn]
        simpa using l_ref2 hc
  · have ht' : t = false := by rw [ht]; exact decide_eq_false k69
    subst ht'
    rw [if_neg k69]
    have four : ∀ c : Bool, P47_4 (.int .i64 stale) (.bool c) w fun v w' => v = .int .i64 (if c = true then stale else 0) ∧ Chg [] W w' := by
      intro c
      apply L47_4_ok
      cases c with
      | true => simp -implicitDefEqProofs only [L47_4, zS]; exact ⟨by simp, hc⟩
      | false => simp -implicitDefEqProofs only [L47_4, zS]; simpa using l_ref2 hc
    by_cases k10 : o.1 = 10
    · have f := four true
      simp -implicitDefEqProofs only [L47_3, zS, k10, Int.reduceBEq]
      simpa [k10] using f
    · by_cases k12 : o.1 = 12
      · have f := four true
        simp -implicitDefEqProofs only [L47_3, zS, k12, Int.reduceBEq]
        simpa [k12] using f
      · have f := four false
        simp -implicitDefEqProofs only [L47_3, zS, eqf k10, eqf k12]
        simpa [k10, k12] using f
set_option maxHeartbeats 2000000 in
theorem l_ref1 (hc : Chg [] W w) (M : MdR w g m s r hh) (D : HdR w b k d nv) (h6 : hp w g6 = some (.cells (opC o).toArray 39)) (h7 : hp w g7 = some (.cells (hnC h).toArray 25)) :
    P47_1 (.pointer (some ⟨g, 0, none⟩)) (.pointer (some ⟨g6, 0, none⟩)) (.pointer (some ⟨g7, 0, none⟩)) (.pointer (some ⟨b, k, none⟩)) (.bool holds) (.int .i64 stale) w fun v w' => v = .int .i64 (codeV m.c.2.2.1 d holds stale o h.2.2.2.2) ∧ Chg [] W w' := by
  apply L47_1_ok
  have hw : ldC (hp w g) (0 + 0 + 2) = some (.int .i64 m.c.2.2.1) := M.c 2 (by omega)
  by_cases k2 : o.1 = 2
  · have cv : codeV m.c.2.2.1 d holds stale o h.2.2.2.2 = if o.2.2.2.1 < 1 ∨ m.c.2.2.1 < o.2.2.2.1 then 5 else stale := by rw [codeV, if_pos k2]
    rw [cv]
    have q2 : (o.1 == 2) = true := by rw [k2]; rfl
    by_cases n1 : o.2.2.2.1 < 1
    · simp -implicitDefEqProofs only [L47_1, zS, aj, aN, af, h6, aC, op_3, q2, n1]
      exact ⟨by simp, hc.drew⟩
    · by_cases n2 : m.c.2.2.1 < o.2.2.2.1
      · simp -implicitDefEqProofs only [L47_1, zS, aj, aN, af, h6, aC, op_3, q2, n1, ay, fa_74_0, fa_33_2, hw, n2]
        exact ⟨by simp, hc.drew⟩
      · simp -implicitDefEqProofs only [L47_1, zS, aj, aN, af, h6, aC, op_3, q2, n1, ay, fa_74_0, fa_33_2, hw, n2]
        exact ⟨by simp, hc.drew⟩
  by_cases k3 : o.1 = 3
  · have cv : codeV m.c.2.2.1 d holds stale o h.2.2.2.2 = if d.depth = 15 then 8 else 0 := by rw [codeV, if_neg k2, if_pos k3]
    rw [cv]
    have q3 : (o.1 == 3) = true := by rw [k3]; rfl
    by_cases n1 : d.depth = 15
    · have e : (d.depth == 15) = true := by rw [n1]; rfl
      simp -implicitDefEqProofs only [L47_1, zS, aj, af, h6, aC, eqf k2, q3, ay, fa_81_0, D.c0, e]
      exact ⟨by simp [n1], hc⟩
    · simp -implicitDefEqProofs only [L47_1, zS, aj, af, h6, aC, eqf k2, q3, ay, fa_81_0, D.c0, eqf n1]
      simpa [n1] using l_ref2 hc
  by_cases k4 : o.1 = 4
  · have cv : codeV m.c.2.2.1 d holds stale o h.2.2.2.2 = if d.depth = 0 then 4 else 0 := by rw [codeV, if_neg k2, if_neg k3, if_pos k4]
    rw [cv]
    have q4 : (o.1 == 4) = true := by rw [k4]; rfl
    by_cases n1 : d.depth = 0
    · have e : (d.depth == 0) = true := by rw [n1]; rfl
      simp -implicitDefEqProofs only [L47_1, zS, aj, af, h6, aC, eqf k2, eqf k3, q4, ay, fa_81_0, D.c0, e]
      exact ⟨by simp [n1], hc⟩
    · simp -implicitDefEqProofs only [L47_1, zS, aj, af, h6, aC, eqf k2, eqf k3, q4, ay, fa_81_0, D.c0, eqf n1]
      simpa [n1] using l_ref2 hc
  by_cases k5 : o.1 = 5
  · have cv : codeV m.c.2.2.1 d holds stale o h.2.2.2.2 = if d.depth = 0 then 4 else if holds then 0 else if d.holds.length = 8 then 8 else stale := by rw [codeV, if_neg k2, if_neg k3, if_neg k4, if_pos k5]
    rw [cv]
    have q5 : (o.1 == 5) = true := by rw [k5]; rfl
    by_cases n1 : d.depth = 0
    · have e : (d.depth == 0) = true := by rw [n1]; rfl
      simp -implicitDefEqProofs only [L47_1, zS, aj, af, h6, aC, eqf k2, eqf k3, eqf k4, q5, ay, fa_81_0, D.c0, e]
      exact ⟨by simp [n1], hc⟩
    · cases holds with
      | true =>
        simp -implicitDefEqProofs only [L47_1, zS, aj, af, h6, aC, eqf k2, eqf k3, eqf k4, q5, ay, fa_81_0, D.c0, eqf n1]
        simpa [n1] using l_ref2 hc
      | false =>
        obtain ⟨A, c, hnv, _⟩ := names_sh D.nT
        have D1 := D.c1
        rw [hnv] at D1
        by_cases n8 : d.holds.length = 8
        · have e : ((d.holds.length : Int) == 8) = true := by rw [n8]; rfl
          simp -implicitDefEqProofs only [L47_1, zS, aj, af, h6, aC, eqf k2, eqf k3, eqf k4, q5, ay, fa_81_0, fa_81_1, ld_79, D.c0, D1, eqf n1, len_79, e]
          exact ⟨by simp [n1, n8], hc⟩
        · have e : ((d.holds.length : Int) == 8) = false := beq_eq_false_iff_ne.2 (by omega)
          simp -implicitDefEqProofs only [L47_1, zS, aj, af, h6, aC, eqf k2, eqf k3, eqf k4, q5, ay, fa_81_0, fa_81_1, ld_79, D.c0, D1, eqf n1, len_79, e]
          exact ⟨by simp [n1, n8], hc⟩
  have fin : ∀ t : Bool, t = decide (6 ≤ o.1 ∧ o.1 ≤ 9) → P47_3 (.pointer (some ⟨g6, 0, none⟩)) (.pointer (some ⟨g7, 0, none⟩)) (.bool holds) (.int .i64 stale) (.int .i64 o.1) (.bool t) w fun v w' => v = .int .i64 (codeV m.c.2.2.1 d holds stale o h.2.2.2.2) ∧ Chg [] W w' := fun t ht => l_ref3 hc h6 h7 _ ⟨k2, k3, k4, k5⟩ ht
  by_cases k6 : o.1 = 6
  · have q : (o.1 == 6) = true := by rw [k6]; rfl
    have f := fin true (by rw [k6]; rfl)
    simp -implicitDefEqProofs only [L47_1, zS, aj, af, h6, aC, eqf k2, eqf k3, eqf k4, eqf k5, q]
    exact f
  by_cases k7 : o.1 = 7
  · have q : (o.1 == 7) = true := by rw [k7]; rfl
    have f := fin true (by rw [k7]; rfl)
    simp -implicitDefEqProofs only [L47_1, zS, aj, af, h6, aC, eqf k2, eqf k3, eqf k4, eqf k5, eqf k6, q]
    exact f
  by_cases k8 : o.1 = 8
  · have q : (o.1 == 8) = true := by rw [k8]; rfl
    have f := fin true (by rw [k8]; rfl)
    simp -implicitDefEqProofs only [L47_1, zS, aj, af, h6, aC, eqf k2, eqf k3, eqf k4, eqf k5, eqf k6, eqf k7, q]
    exact f
  have f := fin (o.1 == 9) (by
    by_cases k9 : o.1 = 9
    · rw [k9]; rfl
    · rw [eqf k9]; exact (decide_eq_false (by omega)).symm)
  simp -implicitDefEqProofs only [L47_1, zS, aj, af, h6, aC, eqf k2, eqf k3, eqf k4, eqf k5, eqf k6, eqf k7, eqf k8]
  exact f
end
end Go.Proofs.YtgamnncehjcdiaaGreat

namespace Go.Proofs.YtgamnncehjcdiaaGreat
open Go Ev Go.RowKit

theorem HdR.keep {w w' : World} {b o : Nat} {d : HdV} {nv : Value} (k : HdR w b o d nv) (hc : Chg [] w w') : HdR w' b o d nv := by
  have e : hp w' b = hp w b := hc.block b (by
    rcases Nat.lt_or_ge b w.heap.size with h | h
    · exact h
    · have : hp w b = none := by simp [hp]; omega
      have hu := k.c0
      rw [this] at hu; cases hu) (by simp)
  obtain ⟨F, hF⟩ := k.nT
  exact ⟨by rw [e]; exact k.c0, by rw [e]; exact k.c1, ⟨F, (good_names _).frame hF (ChgP.of0 hc none') fun _ _ h => h⟩⟩
def holdsV (d : HdV) (h : HnV) : Bool := decide ((h.1, h.2.1) ∈ d.holds)
def staleV (m : MdV) (h : HnV) : Int := if isLv m (h.1, h.2.1) then 0 else 3
set_option maxHeartbeats 1000000 in
theorem l_ref0 {W w : World} {g g6 g7 g11 b k : Nat} {m : MdV} {s r hh nv : Value} {o : OpV} {h : HnV} {d : HdV} (hc : Chg [] W w) (M : MdR w g m s r hh) (D : HdR w b k d nv) (h6 : hp w g6 = some (.cells (opC o).toArray 39)) (h7 : hp w g7 = some (.cells (hnC h).toArray 25)) (h11 : hp w g11 = some (.cells (nmC (h.1, h.2.1)).toArray 84)) (hl : d.holds.length ≤ 1000000) :
    P47_0 (.pointer (some ⟨g, 0, none⟩)) (.pointer (some ⟨g6, 0, none⟩)) (.pointer (some ⟨g7, 0, none⟩)) (.pointer (some ⟨b, k, none⟩)) (.pointer (some ⟨g11, 0, none⟩)) w fun v w' => v = .int .i64 (codeV m.c.2.2.1 d (holdsV d h) (staleV m h) o h.2.2.2.2) ∧ Chg [] W w' := by
  apply L47_0_ok
  obtain ⟨A, c, hnv, hR⟩ := names_sh D.nT
  have D1 := D.c1
  rw [hnv] at D1
  have ld11 : ∀ w', hp w' g11 = some (.cells (nmC (h.1, h.2.1)).toArray 84) → ldv Tryz.prog 84 (.pointer (some ⟨g11, 0, none⟩)) w' = some (.agg (nmC (h.1, h.2.1)).toArray) := fun w' hw => aG (t := 84) (c := (nmC (h.1, h.2.1)).toArray) ag_84 (show (Tryz.prog.info? 84).map (·.size) = some (nmC (h.1, h.2.1)).toArray.size from sz_84) hw
  have cd : Chg [] w w.drew := (Chg.refl _ _).drew
  simp -implicitDefEqProofs only [L47_0, zS, ay, fa_81_1, ld_79, D1, ld11 w.drew h11]
  refine (c_nContains (c := c) (hR.keep cd.below) hl (h.1, h.2.1)).mono ?_
  rintro _ w1 ⟨rfl, c1⟩
  have c01 := cd.trans c1
  have h111 := c01.at h11 (by simp)
  simp -implicitDefEqProofs only [ld11 w1 h111, ad]
  refine (c_mIsLive (M.keep c01) (h.1, h.2.1)).mono ?_
  rintro _ w2 ⟨rfl, c2⟩
  have c02 := c01.trans c2
  have fin := fun stale => l_ref1 (W := W) (holds := holdsV d h) (stale := stale) (hc.trans c02) (M.keep c02) (D.keep c02) (c02.at h6 (by simp)) (c02.at h7 (by simp))
  cases hs : isLv m (h.1, h.2.1) with
  | true =>
    have f := fin 0
    have e : staleV m h = 0 := by rw [staleV, hs]; rfl
    simp -implicitDefEqProofs only [zS]
    rw [e]; exact f
  | false =>
    have f := fin 3
    have e : staleV m h = 3 := by rw [staleV, hs]; rfl
    simp -implicitDefEqProofs only [zS]
    rw [e]; exact f
def refusesV (m : MdV) (d : HdV) (o : OpV) (h : HnV) : Int := if ofK o.1 ≠ 0 ∧ knownV m h (ofK o.1) = false then 2 else codeV m.c.2.2.1 d (holdsV d h) (staleV m h) o h.2.2.2.2
structure Small (m : MdV) : Prop where
  r : m.rgs.length ≤ 1000000
  o : ∀ rg ∈ m.rgs, rg.objs.length ≤ 1000000
  h : ∀ d ∈ m.hands, d.holds.length ≤ 1000000
set_option maxHeartbeats 1000000 in
theorem c_mRefuses {w : World} {g : Nat} {m : MdV} {s r hh : Value} (M : MdR w g m s r hh) (sm : Small m) {n : Int} (n0 : 0 ≤ n) {d : HdV} (hd : m.hands[n.toNat]? = some d) (o : OpV) (h : HnV) :
    CallR Tryz.prog 47 [.pointer (some ⟨g, 0, none⟩), .int .i64 n, .agg (opC o).toArray, .agg (hnC h).toArray] w fun v w' => v = .int .i64 (refusesV m d o h) ∧ Chg [] w w' := by
  apply F47_ok
  simp -implicitDefEqProofs only [F47, aE, aB, ae]
  generalize hw : (w.alloc (.cells (opC o).toArray 39)).alloc _ = w0
  have hc0 : Chg [] w w0 := by rw [← hw]; exact ((Chg.refl _ _).alloc _).alloc _
  have a1 : hp w0 w.heap.size = some (.cells (opC o).toArray 39) := by rw [← hw, ac, ae, if_neg (by omega), ac, if_pos rfl]
  have a2 : hp w0 (w.heap.size + 1) = some (.cells (hnC h).toArray 25) := by rw [← hw, ac, ae, if_pos rfl]
  clear hw
  generalize w.heap.size = g6 at *
  simp -implicitDefEqProofs only [zS, aj, af, a1, aC]
  refine (c_opOf o.1 w0).mono ?_
  rintro _ w1 ⟨rfl, k1⟩
  have ldh : ∀ w', hp w' (g6 + 1) = some (.cells (hnC h).toArray 25) → ldv Tryz.prog 25 (.pointer (some ⟨g6 + 1, 0, none⟩)) w' = some (.agg (hnC h).toArray) := fun w' hw => aG (t := 25) (c := (hnC h).toArray) ag_25 (show (Tryz.prog.info? 25).map (·.size) = some (hnC h).toArray.size from sz_25) hw
  have b1 := k1.at a1 (by simp)
  have b2 := k1.at a2 (by simp)
  have c01 := hc0.trans k1
  have M1 := M.keep c01
  have hdm : d ∈ m.hands := List.mem_of_getElem? hd
  have hhl := (List.getElem?_eq_some_iff.1 hd).1
  have tail : ¬ (ofK o.1 ≠ 0 ∧ knownV m h (ofK o.1) = false) → ∀ w', Chg [] w1 w' → ∀ t11 : Nat, hp w' t11 = some (.cells (nmC (h.1, h.2.1)).toArray 84) → ∀ b nv, HdR w' b (n.toNat * 2) d nv →
      P47_0 (.pointer (some ⟨g, 0, none⟩)) (.pointer (some ⟨g6, 0, none⟩)) (.pointer (some ⟨g6 + 1, 0, none⟩)) (.pointer (some ⟨b, n.toNat * 2, none⟩)) (.pointer (some ⟨t11, 0, none⟩)) w' fun v w' => v = .int .i64 (refusesV m d o h) ∧ Chg [] w w' := by
    intro hno w' hc t11 ht b nv D
    rw [refusesV, if_neg hno]
    exact l_ref0 (c01.trans hc) (M1.keep hc) D (hc.at b1 (by simp)) (hc.at b2 (by simp)) ht (sm.h d hdm)
  obtain ⟨F0, hF0⟩ := M1.hT
  obtain ⟨b, c, hx, _⟩ := hd_at hF0 hd
  have tailS : ¬ (ofK o.1 ≠ 0 ∧ knownV m h (ofK o.1) = false) → ∀ w3, Chg [] w1 w3 → ∀ t11 : Nat, w1.heap.size ≤ t11 → hp w3 t11 = some (.cells #[.int .i64 0, .int .i64 0] 84) →
      effu Tryz.prog (Instr.storeAt 84 (.pointer (some ⟨t11, 0, none⟩)) (.agg (nmC (h.1, h.2.1)).toArray)) w3 fun w' =>
      P47_0 (.pointer (some ⟨g, 0, none⟩)) (.pointer (some ⟨g6, 0, none⟩)) (.pointer (some ⟨g6 + 1, 0, none⟩)) (.pointer (some ⟨b, n.toNat * 2, none⟩)) (.pointer (some ⟨t11, 0, none⟩)) w' fun v w' => v = .int .i64 (refusesV m d o h) ∧ Chg [] w w' := by
    intro hno w3 hc t11 hge ht
    rw [st_84 (by rfl) (by rfl) (by rw [ht]; rfl) (by rw [ht]; rfl), ht]
    simp -implicitDefEqProofs only [aD]
    have hc' : Chg [] w1 (put w3 t11 (nmC (h.1, h.2.1)).toArray 84) := hc.put (.inr hge) _ _
    obtain ⟨F1, hF1⟩ := (M1.keep hc').hT
    obtain ⟨b', c', hx', nv, D⟩ := hd_at hF1 hd
    rw [hx] at hx'
    cases hx'
    exact tail hno _ hc' t11 (ap (av ht) _ _) _ nv D
  have ia := ia_72 (b := b) (p := 0) (n := m.hands.length) (c := c) (j := .i64) (i := n) (by omega) (by omega)
  rw [Nat.zero_add] at ia
  have hlh : ∀ w', Chg [] w1 w' → ldC (hp w' g) (0 + 9) = some (.slice (some ⟨b, 0, none⟩) m.hands.length c) := fun w' hc => by
    have := (M1.keep hc).hl
    rw [hx] at this
    exact this
  have nm : ∀ (w' : World) {K : Value → World → Prop}, (∀ w'', Chg [] w' w'' → K (.agg (nmC (h.1, h.2.1)).toArray) w'') → CallR Tryz.prog 49 [.agg (hnC h).toArray] w' K := fun w' K hk => (c_mNameOf h w').mono fun v w'' hv => by obtain ⟨rfl, hc⟩ := hv; exact hk w'' hc
  have vA : ∀ w2, Chg [] w1 w2 → Chg [] w1 w2.drew := fun w2 h => h.drew
  by_cases kz : ofK o.1 = 0
  · have hno : ¬ (ofK o.1 ≠ 0 ∧ knownV m h (ofK o.1) = false) := fun h => h.1 kz
    have e0 : ((0 : Int) != 0) = false := rfl
    have cd : Chg [] w1 w1.drew := (Chg.refl _ _).drew
    rw [kz]
    simp -implicitDefEqProofs only [zS, e0, ay, fa_74_4, ld_72, hlh _ cd, hlh _ (Chg.refl _ _), ia, ldh w1.drew b2, ldh w1 b2, al_84]
    repeat' (with_reducible apply And.intro)
    all_goals first
      | (refine nm _ ?_
         intro w3 c3
         have c13 : Chg [] w1 w3 := (cd.alloc _).trans c3
         try simp -implicitDefEqProofs only [zS, ay, fa_74_4, ld_72, hlh _ c13, ia, al_84]
         exact tailS hno w3 c13 _ (Nat.le_refl _) (c3.at (by rw [ac, if_pos rfl]) (by simp)))
      | (refine nm _ ?_
         intro w3 c3
         have c13 : Chg [] w1 w3 := cd.trans c3
         try simp -implicitDefEqProofs only [zS, ay, fa_74_4, ld_72, hlh _ c13, ia, al_84]
         exact tailS hno _ (c13.alloc _) _ c13.size (by rw [ac, if_pos rfl]))
  · have e0 : (ofK o.1 != 0) = true := bne_iff_ne.2 kz
    simp -implicitDefEqProofs only [zS, e0, ldh w1 b2]
    refine (c_mKnown M1 h (ofK o.1) sm.r sm.o).mono ?_
    rintro _ w2 ⟨rfl, k2⟩
    cases hk : knownV m h (ofK o.1) with
    | false =>
      simp -implicitDefEqProofs only [zS]
      exact ⟨by rw [refusesV, if_pos ⟨kz, hk⟩], c01.trans k2⟩
    | true =>
      have hno : ¬ (ofK o.1 ≠ 0 ∧ knownV m h (ofK o.1) = false) := fun h => by rw [hk] at h; cases h.2
      have cd : Chg [] w1 w2.drew := k2.drew
      have b22 := k2.at b2 (by simp)
      simp -implicitDefEqProofs only [zS, ay, fa_74_4, ld_72, hlh _ cd, hlh _ k2, ia, ldh w2.drew b22, ldh w2 b22, al_84]
      repeat' (with_reducible apply And.intro)
      all_goals first
        | (refine nm _ ?_
           intro w3 c3
           have c13 : Chg [] w1 w3 := (cd.alloc _).trans c3
           try simp -implicitDefEqProofs only [zS, ay, fa_74_4, ld_72, hlh _ c13, ia, al_84]
           exact tailS hno w3 c13 _ k2.size (c3.at (by rw [ac, if_pos rfl]) (by simp)))
        | (refine nm _ ?_
           intro w3 c3
           have c13 : Chg [] w1 w3 := cd.trans c3
           try simp -implicitDefEqProofs only [zS, ay, fa_74_4, ld_72, hlh _ c13, ia, al_84]
           exact tailS hno _ (c13.alloc _) _ c13.size (by rw [ac, if_pos rfl]))
end Go.Proofs.YtgamnncehjcdiaaGreat

namespace Go.Proofs.YtgamnncehjcdiaaGreat
open Go Ev Go.RowKit

set_option maxHeartbeats 400000 in
theorem c_iIndex {w : World} {A : Option Addr} {c : Nat} {L : List Int} (hR : RdI .i64 w A L) (hl : L.length ≤ 1000000) (x : Int) : CallR Tryz.prog 77 [.slice A L.length c, .int .i64 x] w fun v w' => v = .int .i64 (ixOf L x) ∧ w' = w := by
  apply F77_ok
  simp -implicitDefEqProofs only [F77, zS, len_22]
  have main : ∀ (d i : Nat), (∀ (j : Nat) (y : Int), j < i → L[j]? = some y → y ≠ x) → i + d = L.length →
      P77_0 (.slice A L.length c) (.int .i64 x) (.int .i64 L.length) (.int .i64 i) w fun v w' => v = .int .i64 (ixOf L x) ∧ w' = w := by
    intro d
    induction d with
    | zero =>
      intro i hn hi
      apply L77_0_ok
      have : ¬ (i : Int) < L.length := by omega
      simp -implicitDefEqProofs only [L77_0, zS, this]
      rw [ixOf_none fun j y hj => hn j y (by have := (List.getElem?_eq_some_iff.1 hj).1; omega) hj]
      exact ⟨rfl, trivial⟩
    | succ d ih =>
      intro i hn hi
      apply L77_0_ok
      have hlt : (i : Int) < L.length := by omega
      have hil : i < L.length := by omega
      obtain ⟨q, q1, q2⟩ := hR.at (P := Tryz.prog) (c := c) (j := .i64) Tryz.underlying22 Tryz.underlying3 sz_3 (i := (i : Int)) (by omega) (by omega)
      obtain ⟨y, hy⟩ : ∃ y, L[i]? = some y := ⟨_, List.getElem?_eq_getElem hil⟩
      have hg : L.getD i 0 = y := by rw [List.getD_eq_getElem?_getD, hy]; rfl
      rw [Int.toNat_natCast, hg] at q2
      by_cases hxy : x = y
      · have e : (x == y) = true := by rw [hxy]; simp
        simp -implicitDefEqProofs only [L77_0, zS, hlt, q1, af, q2, e]
        rw [ixOf_some hy hxy.symm hn]
        exact ⟨rfl, trivial⟩
      · simp -implicitDefEqProofs only [L77_0, zS, hlt, q1, af, q2, eqf hxy, aA, az (n := (i : Int) + 1) (by omega) (by omega)]
        have := ih (i + 1) (fun j z hj hz => by
          rcases Nat.lt_or_ge j i with h1 | h1
          · exact hn j z h1 hz
          · have : j = i := by omega
            subst this
            rw [hy] at hz; cases hz; exact fun e => hxy e.symm) (by omega)
        rw [Int.natCast_add i 1] at this
        exact this
  exact main L.length 0 (fun j r hj => by omega) (by omega)
end Go.Proofs.YtgamnncehjcdiaaGreat

namespace Go.Proofs.YtgamnncehjcdiaaGreat
open Go Ev Go.RowKit

theorem UpdP.none {F : Fp} (h : ∀ k, ¬ F k) (w : World) : UpdP F none' w w := ⟨ChgP.refl _ _, fun k hk => hk.elim⟩
theorem MdI.slotSet {w : World} {g : Nat} {m : MdV} {F : Fp} (h : MdI w g m F) {i : Nat} {p p' : NmV} (hp' : m.slots[i]? = some p) {k : Nat} (hk : k < 2) {x : Int} (he : nmC p' = (nmC p).set k (.int .i64 x)) :
    ∃ b c, ldC (hp w g) (0 + 7) = some (.slice (some ⟨b, 0, none⟩) m.slots.length c) ∧ okC (hp w b) (i * 2 + k + 1) = true ∧
      ∃ F', MdI (put w b ((getC (hp w b)).setIfInBounds (i * 2 + k) (.int .i64 x)) (getE (hp w b))) g { m with slots := m.slots.set i p' } F' ∧ UpdP F F' w (put w b ((getC (hp w b)).setIfInBounds (i * 2 + k) (.int .i64 x)) (getE (hp w b))) := by
  obtain ⟨v, Fk, hg, hng, hsub, hld, hS, hr, _⟩ := isAt.cell h (aT m) (k := 7) (P := slotsT m.slots) rfl
  obtain ⟨u, hu⟩ : ∃ u, (nmC p)[k]? = some u := ⟨_, List.getElem?_eq_getElem (by simpa [nmC] using hk)⟩
  have hP : ((m.slots.flatMap nmC).map isV)[i * 2 + k]? = some (isV u) := by
    rw [List.getElem?_map, aR nmC_len m.slots i p hp' k hk, hu]; rfl
  obtain ⟨b, c, v0, Fk0, hx, _, _, _, _, hv0, _, hw⟩ := isRow.cell hS (good_ints (nmC_int m.slots)) hP
  obtain ⟨ok, F1, hrow, hupd⟩ := hw w none' (isV (.int .i64 x)) (.int .i64 x) (UpdP.none hv0.2 w) (bj _ _) ⟨rfl, fun _ h => h⟩
  have hset : ((m.slots.flatMap nmC).map isV).set (i * 2 + k) (isV (.int .i64 x)) = ((m.slots.set i p').flatMap nmC).map isV := by
    rw [← List.map_set, flatM_set nmC_len hk he m.slots i hp']
  rw [hset] at hrow
  have hrow' : slotsT (m.slots.set i p') (put w b ((getC (hp w b)).setIfInBounds (i * 2 + k) (.int .i64 x)) (getE (hp w b))) F1 v := by
    rw [slotsT, List.length_set]; exact hrow
  obtain ⟨F', h1, h2⟩ := hr _ F1 (slotsT (m.slots.set i p')) hupd hrow'
  exact ⟨b, c, by rw [← hx]; exact hld, ok, F', h1, h2⟩
end Go.Proofs.YtgamnncehjcdiaaGreat

namespace Go.Proofs.YtgamnncehjcdiaaGreat
open Go Ev Go.RowKit

def backV (m : MdV) (n : Int) : Bool × MdV := if 0 ≤ n ∧ n < m.slots.length then (match m.slots[n.toNat]? with | some p => if p.1 = 2 then (true, { m with slots := m.slots.set n.toNat (0, p.2) }) else (false, m) | none => (false, m)) else (false, m)
set_option maxHeartbeats 1000000 in
theorem c_mBack {w : World} {g : Nat} {m : MdV} {F : Fp} (I : MdI w g m F) (n : Int) : CallR Tryz.prog 21 [.pointer (some ⟨g, 0, none⟩), .int .i64 n] w fun v w' => v = .bool (backV m n).1 ∧ ∃ F', MdI w' g (backV m n).2 F' ∧ UpdP F F' w w' := by
  apply F21_ok
  obtain ⟨s, r, h, M⟩ := I.rd
  simp -implicitDefEqProofs only [F21]
  refine (c_mSlot M n).step ?_
  obtain ⟨A, c, rfl, hR⟩ := slots_sh M.sT
  by_cases hn : 0 ≤ n ∧ n < m.slots.length
  · obtain ⟨p, hp'⟩ : ∃ p, m.slots[n.toNat]? = some p := ⟨_, List.getElem?_eq_getElem (by omega)⟩
    obtain ⟨b, c', hl, ok, F', h1, h2⟩ := I.slotSet hp' (p' := (0, p.2)) (k := 0) (x := 0) (by omega) rfl
    have hs := M.sl
    rw [hl] at hs
    cases hs
    have ia := ia_70 (b := b) (p := 0) (n := m.slots.length) (c := c) (j := .i64) (i := n) (by omega) (by omega)
    rw [Nat.zero_add] at ia
    obtain ⟨b', o', q1, q2, q3⟩ := slot_at (c := c) hR hp'
    have hcast : ((n.toNat : Nat) : Int) = n := by omega
    rw [hcast, ia] at q1
    cases q1
    have hb : backV m n = if p.1 = 2 then (true, { m with slots := m.slots.set n.toNat (0, p.2) }) else (false, m) := by rw [backV, if_pos hn, hp']
    by_cases p2 : p.1 = 2
    · have e : (p.1 != 2) = false := by rw [p2]; rfl
      simp -implicitDefEqProofs only [zS, hn, and_self, z1z, ay, fa_74_2, ld_70, M.sl, ia, fa_77_0, af, q2, e]
      rw [st_3 (o := n.toNat * 2 + 0) rfl rfl ok, hb, if_pos p2]
      exact ⟨rfl, F', h1, h2⟩
    · have e : (p.1 != 2) = true := bne_iff_ne.2 p2
      simp -implicitDefEqProofs only [zS, hn, and_self, z1z, ay, fa_74_2, ld_70, M.sl, ia, fa_77_0, af, q2, e]
      rw [hb, if_neg p2]
      exact ⟨rfl, F, I, UpdP.refl _ _⟩
  · simp -implicitDefEqProofs only [zS, hn, z2z]
    rw [backV, if_neg hn]
    exact ⟨rfl, F, I, UpdP.refl _ _⟩
end Go.Proofs.YtgamnncehjcdiaaGreat

namespace Go.Proofs.YtgamnncehjcdiaaGreat
open Go Ev Go.RowKit

theorem flatM_setP {α β : Type} {f : α → List β} {z : Nat} (h : ∀ x, (f x).length = z) {k : Nat} {p : β} (hk : k < z) {x x' : α} (hx : f x' = (f x).set k p) {L : List α} {i : Nat} (hi : L[i]? = some x) : (L.flatMap f).set (i * z + k) p = (L.set i x').flatMap f := flatM_set h hk hx L i hi
theorem MdI.rgCell {w : World} {g : Nat} {m : MdV} {F : Fp} (h : MdI w g m F) {i : Nat} {r : RgV} (hr : m.rgs[i]? = some r) {k : Nat} (hk : k < 7) {P : Th} (hP : (rgT r)[k]? = some P) :
    ∃ b c v Fk, ldC (hp w g) (0 + 8) = some (.slice (some ⟨b, 0, none⟩) m.rgs.length c) ∧ ¬ Fk b ∧ (∀ x, Fk x → F x) ∧ F b ∧ b ≠ g ∧ ldC (hp w b) (i * 7 + k) = some v ∧ P w Fk v ∧
      (∀ w1 F' P' r', UpdP Fk F' w w1 → P' w1 F' v → rgT r' = (rgT r).set k P' → ∃ F1, MdI w1 g { m with rgs := m.rgs.set i r' } F1 ∧ UpdP F F1 w w1) ∧
      (∀ w1 F' P' v' r', UpdP Fk F' w w1 → OwnT P' → P' w1 F' v' → rgT r' = (rgT r).set k P' → okC (hp w1 b) (i * 7 + k + 1) = true ∧ ∃ F1, MdI (put w1 b ((getC (hp w1 b)).setIfInBounds (i * 7 + k) v') (getE (hp w1 b))) g { m with rgs := m.rgs.set i r' } F1 ∧ UpdP F F1 w (put w1 b ((getC (hp w1 b)).setIfInBounds (i * 7 + k) v') (getE (hp w1 b)))) := by
  obtain ⟨rv, Fr, hg, hng, hsub, hld, hR, hres, _⟩ := isAt.cell h (aT m) (k := 8) (P := rgsT m.rgs) rfl
  have hP' : (m.rgs.flatMap rgT)[i * 7 + k]? = some P := (aR rgT_len m.rgs i r hr k hk).trans hP
  obtain ⟨b, c, v, Fk, hx, hFb, hnb, hsub2, hld2, hv, h3, h4⟩ := isRow.cell hR (good_rgL m.rgs) hP'
  refine ⟨b, c, v, Fk, by rw [← hx]; exact hld, hnb, fun x hx => hsub x (hsub2 x hx), hsub b hFb, fun e => hng (by rw [← e]; exact hFb), hld2, hv, fun w1 F' P' r' u hp hr' => ?_, fun w1 F' P' v' r' u hg' hpp hr' => ?_⟩
  · obtain ⟨F1, hrow, hupd⟩ := h3 w1 F' P' u hp
    rw [flatM_setP rgT_len hk hr' hr] at hrow
    have hrow' : rgsT (m.rgs.set i r') w1 F1 rv := by rw [rgsT, List.length_set]; exact hrow
    obtain ⟨F2, e1, e2⟩ := hres w1 F1 (rgsT (m.rgs.set i r')) hupd hrow'
    exact ⟨F2, e1, e2⟩
  · obtain ⟨ok, F1, hrow, hupd⟩ := h4 w1 F' P' v' u hg' hpp
    rw [flatM_setP rgT_len hk hr' hr] at hrow
    have hrow' : rgsT (m.rgs.set i r') (put w1 b ((getC (hp w1 b)).setIfInBounds (i * 7 + k) v') (getE (hp w1 b))) F1 rv := by rw [rgsT, List.length_set]; exact hrow
    obtain ⟨F2, e1, e2⟩ := hres _ F1 (rgsT (m.rgs.set i r')) hupd hrow'
    exact ⟨ok, F2, e1, e2⟩
theorem MdI.hdCell {w : World} {g : Nat} {m : MdV} {F : Fp} (h : MdI w g m F) {i : Nat} {d : HdV} (hd : m.hands[i]? = some d) {k : Nat} (hk : k < 2) {P : Th} (hP : (hdT d)[k]? = some P) :
    ∃ b c v Fk, ldC (hp w g) (0 + 9) = some (.slice (some ⟨b, 0, none⟩) m.hands.length c) ∧ ¬ Fk b ∧ (∀ x, Fk x → F x) ∧ F b ∧ b ≠ g ∧ ldC (hp w b) (i * 2 + k) = some v ∧ P w Fk v ∧
      (∀ w1 F' P' v' d', UpdP Fk F' w w1 → OwnT P' → P' w1 F' v' → hdT d' = (hdT d).set k P' → okC (hp w1 b) (i * 2 + k + 1) = true ∧ ∃ F1, MdI (put w1 b ((getC (hp w1 b)).setIfInBounds (i * 2 + k) v') (getE (hp w1 b))) g { m with hands := m.hands.set i d' } F1 ∧ UpdP F F1 w (put w1 b ((getC (hp w1 b)).setIfInBounds (i * 2 + k) v') (getE (hp w1 b)))) := by
  obtain ⟨rv, Fr, hg, hng, hsub, hld, hR, hres, _⟩ := isAt.cell h (aT m) (k := 9) (P := handsT m.hands) rfl
  have hP' : (m.hands.flatMap hdT)[i * 2 + k]? = some P := (aR hdT_len m.hands i d hd k hk).trans hP
  obtain ⟨b, c, v, Fk, hx, hFb, hnb, hsub2, hld2, hv, h3, h4⟩ := isRow.cell hR (good_hdL m.hands) hP'
  refine ⟨b, c, v, Fk, by rw [← hx]; exact hld, hnb, fun x hx => hsub x (hsub2 x hx), hsub b hFb, fun e => hng (by rw [← e]; exact hFb), hld2, hv, fun w1 F' P' v' d' u hg' hpp hr' => ?_⟩
  obtain ⟨ok, F1, hrow, hupd⟩ := h4 w1 F' P' v' u hg' hpp
  rw [flatM_setP hdT_len hk hr' hd] at hrow
  have hrow' : handsT (m.hands.set i d') (put w1 b ((getC (hp w1 b)).setIfInBounds (i * 2 + k) v') (getE (hp w1 b))) F1 rv := by rw [handsT, List.length_set]; exact hrow
  obtain ⟨F2, e1, e2⟩ := hres _ F1 (handsT (m.hands.set i d')) hupd hrow'
  exact ⟨ok, F2, e1, e2⟩
end Go.Proofs.YtgamnncehjcdiaaGreat

namespace Go.Proofs.YtgamnncehjcdiaaGreat
open Go Ev Go.RowKit

abbrev RsV := Int × HnV × Int × Int
def rsC (r : RsV) : List Value := [.int .i64 r.1, .int .i64 r.2.1.1, .int .i64 r.2.1.2.1, .int .i64 r.2.1.2.2.1, .int .i64 r.2.1.2.2.2.1, .int .i64 r.2.1.2.2.2.2, .int .i64 r.2.2.1, .int .u64 r.2.2.2]
def noH : HnV := (0, 0, 0, 0, 0)
def noR : RsV := (0, noH, 0, 0)
def codeR (c : Int) : RsV := (c, noH, 0, 0)
def nmOf (h : HnV) : NmV := (h.1, h.2.1)
def rgOf (m : MdV) (n : NmV) : Option RgV := (findR m.rgs n).bind (m.rgs[·]?)
def chunkW (r : RgV) (ch : Int) : List Int := r.words.getD (ixOf r.chunks ch).toNat []
def wordV (m : MdV) (h : HnV) (n : Int) : Int := match rgOf m (nmOf h) with
  | some r => (chunkW r h.2.2.1).getD (h.2.2.2.1 + n).toNat 0
  | none => 0
def setW (r : RgV) (h : HnV) (n x : Int) : RgV := { r with words := r.words.set (ixOf r.chunks h.2.2.1).toNat ((chunkW r h.2.2.1).set (h.2.2.2.1 + n).toNat x) }
def setWordV (m : MdV) (h : HnV) (n x : Int) : MdV := match findR m.rgs (nmOf h) with
  | some i => (match m.rgs[i]? with | some r => { m with rgs := m.rgs.set i (setW r h n x) } | none => m)
  | none => m
def mustB (m : MdV) (o : OpV) (h : HnV) : RsV :=
  if o.1 = 6 ∨ o.1 = 8 then (0, noH, 0, wordV m h o.2.2.2.1)
  else if o.1 = 9 then (0, noH, if wordV m h o.2.2.2.1 = o.2.2.2.2.1 then 1 else 0, 0)
  else if o.1 = 12 then (0, noH, (match rgOf m (nmOf h) with | some r => r.off | none => 0), 0)
  else noR
def mustV (m : MdV) (w : Int) (o : OpV) (h : HnV) : RsV × Bool :=
  if mayV m w o = false then (noR, false)
  else match m.hands[w.toNat]? with
  | none => (noR, false)
  | some d =>
    if refusesV m d o h ≠ 0 then (codeR (refusesV m d o h), true)
    else if o.1 = 1 ∨ o.1 = 2 then (noR, false)
    else (mustB m o h, true)
def setHd (m : MdV) (w : Int) (d : HdV) : MdV := { m with hands := m.hands.set w.toNat d }
def doesV (m : MdV) (w : Int) (o : OpV) (h : HnV) : MdV := match m.hands[w.toNat]? with
  | none => m
  | some d =>
    if o.1 = 3 then setHd m w { d with depth := d.depth + 1 }
    else if o.1 = 4 then setHd m w (if d.depth - 1 = 0 then { depth := 0, holds := [] } else { d with depth := d.depth - 1 })
    else if o.1 = 5 then (if holdsV d h then m else setHd m w { d with holds := d.holds ++ [nmOf h] })
    else if o.1 = 7 then setWordV m h o.2.2.2.1 o.2.2.2.2.1
    else if o.1 = 8 then setWordV m h o.2.2.2.1 (IntKind.u64.wrap (wordV m h o.2.2.2.1 + o.2.2.2.2.1))
    else if o.1 = 9 then (if wordV m h o.2.2.2.1 = o.2.2.2.2.1 then setWordV m h o.2.2.2.1 o.2.2.2.2.2 else m)
    else if o.1 = 10 then (match m.slots[h.1.toNat]? with | some p => { m with slots := m.slots.set h.1.toNat (if m.loose then 0 else 2, p.2) } | none => m)
    else m
def laterV (g : Int) : Int := if g < 4294967295 then g + 1 else 0
def createsV (m : MdV) (cls : Int) (r : RsV) : Bool × MdV :=
  if r = codeR 7 then (m.loose || decide (spareN m.slots = 0), m)
  else if 0 ≤ r.2.1.1 ∧ r.2.1.1 < m.slots.length then (match m.slots[r.2.1.1.toNat]? with
    | some p => if p.1 ≠ 0 then (false, m) else if r = (0, (r.2.1.1, laterV p.2, 0, 0, 0), 0, 0) then
        (true, { m with slots := m.slots.set r.2.1.1.toNat (1, laterV p.2), rgs := m.rgs ++ [⟨(r.2.1.1, laterV p.2), cls, 0, [], [], []⟩] }) else (false, m)
    | none => (false, m))
  else (false, m)
def takenV (m : MdV) (ch : Int) : Bool := m.rgs.any fun r => isLv m r.nm && decide (ch ∈ r.chunks)
def growV (words need : Int) (r : RgV) (want : HnV) : RgV :=
  if rfitsV r words need then { r with off := r.off + need, objs := r.objs ++ [want] }
  else { r with chunks := r.chunks ++ [want.2.2.1], words := r.words ++ [List.replicate words.toNat 0], off := afterV words need, objs := r.objs ++ [want] }
def wantV (words need n : Int) (r : RgV) (h : HnV) (ch : Int) : HnV := if rfitsV r words need then (h.1, h.2.1, newV r.chunks, r.off, n) else (h.1, h.2.1, ch, 0, n)
def givesV (m : MdV) (n : Int) (h : HnV) (r : RsV) : Bool × MdV := match findR m.rgs (nmOf h) with
  | none => (false, m)
  | some i => match m.rgs[i]? with
    | none => (false, m)
    | some x =>
      let need := roundV x.cls n
      let fits := rfitsV x m.c.2.2.1 need
      let want := wantV m.c.2.2.1 need n x h r.2.1.2.2.1
      if fits = false ∧ r = codeR 6 then (true, m)
      else if fits = false ∧ (r.2.1.2.2.1 < 0 ∨ m.c.2.1 ≤ r.2.1.2.2.1 ∨ takenV m r.2.1.2.2.1 = true) then (false, m)
      else if r = (0, want, 0, 0) then (true, { m with rgs := m.rgs.set i (growV m.c.2.2.1 need x want) })
      else (false, m)
def doV (m : MdV) (w : Int) (o : OpV) (h : HnV) (r : RsV) : Bool × MdV :=
  if mayV m w o = false then (false, m)
  else if (mustV m w o h).2 = true then
    (if r = (mustV m w o h).1 then (true, if r.1 = 0 then doesV m w o h else m) else (false, m))
  else if o.1 = 1 then createsV m o.2.2.2.1 r
  else givesV m o.2.2.2.1 h r
structure WfR (words : Int) (k : Nat) (r : RgV) : Prop where
  cl : r.chunks.length ≤ k
  wl : r.words.length = r.chunks.length
  ww : ∀ L ∈ r.words, (L.length : Int) = words
  ol : r.objs.length ≤ k
  ob : ∀ h ∈ r.objs, h.2.2.1 ∈ r.chunks ∧ 0 ≤ h.2.2.2.1 ∧ 1 ≤ h.2.2.2.2 ∧ h.2.2.2.1 + h.2.2.2.2 ≤ words
  of0 : 0 ≤ r.off
  ofw : r.off ≤ words
structure Wf (m : MdV) (k : Nat) : Prop where
  w1 : 1 ≤ m.c.2.2.1
  w2 : m.c.2.2.1 ≤ 1024
  sl : m.slots.length ≤ 1000000
  sg : ∀ p ∈ m.slots, 0 ≤ p.2 ∧ p.2 ≤ 4294967295
  hd : ∀ d ∈ m.hands, 0 ≤ d.depth ∧ d.depth ≤ 15 ∧ d.holds.length ≤ 8
  rl : m.rgs.length ≤ k
  rg : ∀ r ∈ m.rgs, WfR m.c.2.2.1 k r
theorem Wf.small {m : MdV} {k : Nat} (h : Wf m k) (hk : k ≤ 1000000) : Small m :=
  ⟨Nat.le_trans h.rl hk, fun r hr => Nat.le_trans (h.rg r hr).ol hk, fun d hd => by have := (h.hd d hd).2.2; omega⟩
theorem WfR.mono {words : Int} {k l : Nat} {r : RgV} (h : WfR words k r) (hl : k ≤ l) : WfR words l r := ⟨Nat.le_trans h.cl hl, h.wl, h.ww, Nat.le_trans h.ol hl, h.ob, h.of0, h.ofw⟩
theorem Wf.mono {m : MdV} {k l : Nat} (h : Wf m k) (hl : k ≤ l) : Wf m l := ⟨h.w1, h.w2, h.sl, h.sg, h.hd, Nat.le_trans h.rl hl, fun r hr => (h.rg r hr).mono hl⟩
theorem findR_at {L : List RgV} {n : NmV} {i : Nat} (h : findR L n = some i) : ∃ r, L[i]? = some r ∧ r.nm = n := by
  rw [findR, List.findIdx?_eq_some_iff_getElem] at h
  obtain ⟨hi, hp, _⟩ := h
  exact ⟨L[i], List.getElem?_eq_getElem hi, by simpa using hp⟩
theorem ixOf_at {α : Type} [DecidableEq α] {L : List α} {x : α} (h : x ∈ L) : ∃ i : Nat, ixOf L x = i ∧ L[i]? = some x := by
  have h1 := ixOf_mem L x
  rw [decide_eq_true h, decide_eq_true_eq] at h1
  unfold ixOf at h1 ⊢
  split at h1
  · rename_i i hi
    rw [List.findIdx?_eq_some_iff_getElem] at hi
    obtain ⟨hl, hp, _⟩ := hi
    exact ⟨i, rfl, by rw [List.getElem?_eq_getElem hl]; simpa using hp⟩
  · omega
theorem WfR.setW {words : Int} {k : Nat} {r : RgV} (h : WfR words k r) (a : HnV) (n x : Int) : WfR words k (setW r a n x) := by
  refine ⟨h.cl, by simp [Go.Proofs.YtgamnncehjcdiaaGreat.setW, h.wl], fun L hL => ?_, h.ol, h.ob, h.of0, h.ofw⟩
  rcases List.mem_or_eq_of_mem_set hL with h1 | h1
  · exact h.ww L h1
  · rw [h1, List.length_set]
    by_cases hi : (ixOf r.chunks a.2.2.1).toNat < r.words.length
    · apply h.ww; rw [chunkW, List.getD_eq_getElem?_getD, List.getElem?_eq_getElem hi]; exact List.getElem_mem hi
    · rw [Go.Proofs.YtgamnncehjcdiaaGreat.setW, List.set_eq_of_length_le (by omega)] at hL
      have e : chunkW r a.2.2.1 = [] := by rw [chunkW, List.getD_eq_getElem?_getD, List.getElem?_eq_none (by omega)]; rfl
      rw [e] at h1
      simp at h1
      have := h.ww L hL
      rw [h1] at this
      rw [e]; exact this
theorem mem_set {α : Type} {p : α → Prop} {L : List α} {i : Nat} {x : α} (h : ∀ y ∈ L, p y) (hx : p x) : ∀ y ∈ L.set i x, p y := fun y hy => by
  rcases List.mem_or_eq_of_mem_set hy with h1 | h1
  · exact h y h1
  · rw [h1]; exact hx
theorem Wf.setRg {m : MdV} {k : Nat} (h : Wf m k) {i : Nat} {r : RgV} (hr : WfR m.c.2.2.1 k r) : Wf { m with rgs := m.rgs.set i r } k :=
  ⟨h.w1, h.w2, h.sl, h.sg, h.hd, by simpa using h.rl, mem_set h.rg hr⟩
theorem Wf.setHd {m : MdV} {k : Nat} (h : Wf m k) {w : Int} {d : HdV} (hd : 0 ≤ d.depth ∧ d.depth ≤ 15 ∧ d.holds.length ≤ 8) : Wf (setHd m w d) k :=
  ⟨h.w1, h.w2, h.sl, h.sg, mem_set h.hd hd, h.rl, h.rg⟩
theorem Wf.setSl {m : MdV} {k : Nat} (h : Wf m k) {i : Nat} {p : NmV} (hp : 0 ≤ p.2 ∧ p.2 ≤ 4294967295) : Wf { m with slots := m.slots.set i p } k :=
  ⟨h.w1, h.w2, by simpa using h.sl, mem_set h.sg hp, h.hd, h.rl, h.rg⟩
theorem Wf.setWord {m : MdV} {k : Nat} (h : Wf m k) (a : HnV) (n x : Int) : Wf (setWordV m a n x) k := by
  unfold setWordV
  split
  · split
    · rename_i r hr
      exact h.setRg ((h.rg r (List.mem_of_getElem? hr)).setW a n x)
    · exact h
  · exact h
theorem later_ok {g : Int} (h : 0 ≤ g) : 0 ≤ laterV g ∧ laterV g ≤ 4294967295 := by unfold laterV; split <;> omega
theorem Wf.back {m : MdV} {k : Nat} (h : Wf m k) (n : Int) : Wf (backV m n).2 k := by
  unfold backV
  split
  · split
    · rename_i p hp
      split
      · exact h.setSl (h.sg p (List.mem_of_getElem? hp))
      · exact h
    · exact h
  · exact h
theorem right_need {words need : Int} (h : rightV words need = true) : 1 ≤ need ∧ need ≤ words := by have := right_iff h; omega
theorem fits_need {r : RgV} {words need : Int} (h : rfitsV r words need = true) : 0 < r.chunks.length ∧ 1 ≤ need ∧ 0 ≤ r.off ∧ r.off + need ≤ words := by
  simp only [rfitsV, fitsV, Bool.and_eq_true, Bool.not_eq_true', decide_eq_true_eq] at h
  have := right_need h.2.1
  omega
theorem after_ok {words need : Int} (hw : 0 ≤ words) : 0 ≤ afterV words need ∧ afterV words need ≤ words := by
  unfold afterV
  split
  · rename_i h
    have := right_need h
    split <;> omega
  · omega
theorem newV_mem {l : List Int} (h : 0 < l.length) : newV l ∈ l := by
  rw [newV, if_neg (by omega), List.getD_eq_getElem?_getD, List.getElem?_eq_getElem (by omega)]
  exact List.getElem_mem _
theorem round_ge {cls n : Int} (h1 : 1 ≤ n) (h2 : n ≤ 1024) : n ≤ roundV cls n ∧ roundV cls n ≤ 1031 := by
  rw [roundV, if_neg (by omega)]
  have : stepOf cls = 1 ∨ stepOf cls = 2 ∨ stepOf cls = 4 ∨ stepOf cls = 8 := by unfold stepOf; repeat' split; all_goals omega
  unfold roundS
  rcases this with h | h | h | h <;> rw [h] <;> omega
theorem WfR.grow {words : Int} {k : Nat} {r : RgV} (h : WfR words k r) (hw : 0 ≤ words) {n need : Int} (hn : 1 ≤ n) (hnw : n ≤ words) (hnn : n ≤ need) (a : HnV) (ch : Int) : WfR words (k + 1) (growV words need r (wantV words need n r a ch)) := by
  unfold growV wantV
  cases hf : rfitsV r words need with
  | true =>
    obtain ⟨f1, f2, f3, f4⟩ := fits_need hf
    simp only [if_true]
    refine ⟨by have := h.cl; simp only; omega, h.wl, h.ww, by have := h.ol; simp; omega, fun x hx => ?_, by show 0 ≤ r.off + need; omega, f4⟩
    rcases List.mem_append.1 hx with h1 | h1
    · exact h.ob x h1
    · rw [List.mem_singleton.1 h1]
      exact ⟨newV_mem f1, f3, hn, by show r.off + n ≤ words; omega⟩
  | false =>
    simp only [Bool.false_eq_true, if_false]
    refine ⟨by have := h.cl; simp; omega, by simp [h.wl], fun L hL => ?_, by have := h.ol; simp; omega, fun x hx => ?_, (after_ok hw).1, (after_ok hw).2⟩
    · rcases List.mem_append.1 hL with h1 | h1
      · exact h.ww L h1
      · rw [List.mem_singleton.1 h1, List.length_replicate]; omega
    · rcases List.mem_append.1 hx with h1 | h1
      · have := h.ob x h1
        exact ⟨List.mem_append_left _ this.1, this.2⟩
      · rw [List.mem_singleton.1 h1]
        exact ⟨List.mem_append_right _ (by simp), by show (0 : Int) ≤ 0; omega, hn, by show 0 + n ≤ words; omega⟩
theorem may_n {m : MdV} {w : Int} {o : OpV} (h : mayV m w o = true) : 0 ≤ w ∧ w < m.hands.length ∧ 0 ≤ o.2.2.2.1 := by
  simp only [mayV, mayO, Bool.and_eq_true, decide_eq_true_eq] at h
  exact ⟨h.1, h.2.1, h.2.2.2.2.2.1.1⟩
theorem refuses_n {m : MdV} {d : HdV} {o : OpV} {h : HnV} (hr : refusesV m d o h = 0) (ho : o.1 = 2) : 1 ≤ o.2.2.2.1 ∧ o.2.2.2.1 ≤ m.c.2.2.1 ∧ isLv m (nmOf h) = true ∧ knownV m h 1 = true := by
  unfold refusesV at hr
  split at hr
  · omega
  · rename_i hk
    have e : ofK o.1 = 1 := by rw [ho]; rfl
    rw [e] at hk
    rw [codeV, if_pos ho] at hr
    split at hr
    · omega
    · refine ⟨by omega, by omega, ?_, ?_⟩
      · unfold staleV at hr
        split at hr
        · assumption
        · omega
      · cases hkk : knownV m h 1 with
        | true => rfl
        | false => exact absurd ⟨by omega, hkk⟩ hk
end Go.Proofs.YtgamnncehjcdiaaGreat

namespace Go.Proofs.YtgamnncehjcdiaaGreat
open Go Ev Go.RowKit

theorem refuses_code {m : MdV} {d : HdV} {o : OpV} {h : HnV} (hr : refusesV m d o h = 0) : (ofK o.1 = 0 ∨ knownV m h (ofK o.1) = true) ∧ codeV m.c.2.2.1 d (holdsV d h) (staleV m h) o h.2.2.2.2 = 0 := by
  unfold refusesV at hr
  split at hr
  · omega
  · rename_i hk
    refine ⟨?_, hr⟩
    by_cases h0 : ofK o.1 = 0
    · exact .inl h0
    · right
      cases hkk : knownV m h (ofK o.1) with
      | true => rfl
      | false => exact absurd ⟨h0, hkk⟩ hk
theorem Wf.does {m : MdV} {k : Nat} (h : Wf m k) {w : Int} {o : OpV} {a : HnV} {d : HdV} (hd : m.hands[w.toNat]? = some d) (hr : refusesV m d o a = 0) : Wf (doesV m w o a) k := by
  have hc := (refuses_code hr).2
  have hD := h.hd d (List.mem_of_getElem? hd)
  unfold doesV
  rw [hd]
  simp only
  split
  · rename_i k3
    rw [codeV, if_neg (by omega), if_pos k3] at hc
    refine h.setHd ⟨by simp only; omega, ?_, hD.2.2⟩
    split at hc
    · omega
    · simp only; omega
  split
  · rename_i k3 k4
    rw [codeV, if_neg (by omega), if_neg (by omega), if_pos k4] at hc
    refine h.setHd ?_
    split
    · exact ⟨Int.le_refl _, by decide, Nat.zero_le _⟩
    · refine ⟨?_, by simp only; omega, hD.2.2⟩
      split at hc
      · omega
      · simp only; omega
  split
  · rename_i k3 k4 k5
    rw [codeV, if_neg (by omega), if_neg (by omega), if_neg (by omega), if_pos k5] at hc
    split
    · exact h
    · rename_i hh
      refine h.setHd ⟨hD.1, hD.2.1, ?_⟩
      split at hc
      · omega
      · split at hc
        · omega
        · simp; omega
  split
  · exact h.setWord _ _ _
  split
  · exact h.setWord _ _ _
  split
  · split
    · exact h.setWord _ _ _
    · exact h
  split
  · split
    · rename_i p hp
      exact h.setSl (h.sg p (List.mem_of_getElem? hp))
    · exact h
  · exact h
theorem Wf.creates {m : MdV} {k : Nat} (h : Wf m k) (cls : Int) (r : RsV) : Wf (createsV m cls r).2 (k + 1) := by
  have h1 := h.mono (Nat.le_succ k)
  unfold createsV
  split
  · exact h1
  split
  · split
    · rename_i p hp
      split
      · exact h1
      split
      · have hp' := h.sg p (List.mem_of_getElem? hp)
        refine ⟨h.w1, h.w2, by simpa using h.sl, mem_set h.sg (later_ok hp'.1), h.hd, by have := h.rl; simp; omega, fun x hx => ?_⟩
        rcases List.mem_append.1 hx with hx | hx
        · exact h1.rg x hx
        · rw [List.mem_singleton.1 hx]
          have := h.w1
          exact ⟨Nat.zero_le _, rfl, fun L hL => by simp at hL, Nat.zero_le _, fun a ha => by simp at ha, Int.le_refl _, by show (0 : Int) ≤ m.c.2.2.1; omega⟩
      · exact h1
    · exact h1
  · exact h1
theorem Wf.gives {m : MdV} {k : Nat} (h : Wf m k) {n : Int} (h1 : 1 ≤ n) (h2 : n ≤ m.c.2.2.1) (a : HnV) (r : RsV) : Wf (givesV m n a r).2 (k + 1) := by
  have hk := h.mono (Nat.le_succ k)
  have w1 := h.w1
  have w2 := h.w2
  unfold givesV
  split
  · exact hk
  · split
    · exact hk
    · rename_i i _ x hx
      have hW := h.rg x (List.mem_of_getElem? hx)
      simp only
      split
      · exact hk
      split
      · exact hk
      split
      · refine ⟨h.w1, h.w2, h.sl, h.sg, h.hd, by have := h.rl; simp; omega, mem_set hk.rg ?_⟩
        exact hW.grow (by omega) h1 h2 (round_ge h1 (by omega)).1 a _
      · exact hk
theorem may_k {m : MdV} {w : Int} {o : OpV} (h : mayV m w o = true) : 1 ≤ o.1 ∧ o.1 ≤ 12 := by
  simp only [mayV, mayO, Bool.and_eq_true, decide_eq_true_eq] at h
  exact ⟨h.2.2.1.1, h.2.2.1.2⟩
theorem may_hd {m : MdV} {w : Int} {o : OpV} (h : mayV m w o = true) : ∃ d, m.hands[w.toNat]? = some d := ⟨_, List.getElem?_eq_getElem (by have := may_n h; omega)⟩
theorem must_open {m : MdV} {w : Int} {o : OpV} {h : HnV} (hm : mayV m w o = true) {d : HdV} (hd : m.hands[w.toNat]? = some d) (hi : (mustV m w o h).2 = false) : refusesV m d o h = 0 ∧ (o.1 = 1 ∨ o.1 = 2) := by
  unfold mustV at hi
  rw [if_neg (by rw [hm]; simp), hd] at hi
  simp only at hi
  split at hi
  · cases hi
  · rename_i h0
    split at hi
    · rename_i h1
      exact ⟨by omega, h1⟩
    · cases hi
theorem must_fine {m : MdV} {w : Int} {o : OpV} {h : HnV} (hm : mayV m w o = true) {d : HdV} (hd : m.hands[w.toNat]? = some d) (hc : (mustV m w o h).1.1 = 0) : refusesV m d o h = 0 := by
  unfold mustV at hc
  rw [if_neg (by rw [hm]; simp), hd] at hc
  simp only at hc
  split at hc
  · exact hc
  · omega
theorem touch_ok {m : MdV} {d : HdV} {o : OpV} {h : HnV} (hr : refusesV m d o h = 0) (h6 : 6 ≤ o.1) (h9 : o.1 ≤ 9) : knownV m h 2 = true ∧ o.2.2.2.1 < h.2.2.2.2 := by
  obtain ⟨h1, h2⟩ := refuses_code hr
  have e : ofK o.1 = 2 := by rw [ofK, if_neg (by omega), if_pos ⟨h6, h9⟩]
  rw [e] at h1
  rw [codeV, if_neg (by omega), if_neg (by omega), if_neg (by omega), if_neg (by omega), if_pos ⟨h6, h9⟩] at h2
  refine ⟨h1.resolve_left (by omega), ?_⟩
  split at h2
  · omega
  · split at h2
    · omega
    · omega
theorem region_ok {m : MdV} {d : HdV} {o : OpV} {h : HnV} (hr : refusesV m d o h = 0) (hk : o.1 = 2 ∨ o.1 = 10 ∨ o.1 = 12) : ∃ i r, findR m.rgs (nmOf h) = some i ∧ m.rgs[i]? = some r ∧ r.nm = nmOf h ∧ isLv m (nmOf h) = true := by
  obtain ⟨h1, h2⟩ := refuses_code hr
  have e : ofK o.1 = 1 := by rw [ofK, if_pos hk]
  rw [e] at h1
  have hl : isLv m (nmOf h) = true := by
    have : staleV m h = 0 := by
      unfold codeV at h2
      rcases hk with k | k | k
      · rw [if_pos k] at h2
        split at h2
        · omega
        · exact h2
      · rw [if_neg (by omega), if_neg (by omega), if_neg (by omega), if_neg (by omega), if_neg (by omega), if_pos (by omega)] at h2; exact h2
      · rw [if_neg (by omega), if_neg (by omega), if_neg (by omega), if_neg (by omega), if_neg (by omega), if_pos (by omega)] at h2; exact h2
    unfold staleV at this
    split at this
    · assumption
    · omega
  have hk1 := h1.resolve_left (by omega)
  unfold knownV at hk1
  split at hk1
  · cases hk1
  · rename_i i hf
    obtain ⟨r, hr', hn⟩ := findR_at hf
    exact ⟨i, r, hf, hr', hn, hl⟩
theorem Wf.doV {m : MdV} {k : Nat} (h : Wf m k) (w : Int) (o : OpV) (a : HnV) (r : RsV) : Wf (doV m w o a r).2 (k + 1) := by
  have hk := h.mono (Nat.le_succ k)
  unfold Go.Proofs.YtgamnncehjcdiaaGreat.doV
  cases hm : mayV m w o with
  | false => simp only [if_true]; exact hk
  | true =>
    rw [if_neg (by simp)]
    obtain ⟨d, hd⟩ := may_hd hm
    split
    · split
      · rename_i hr
        simp only
        split
        · rename_i h0
          exact (h.does hd (must_fine hm hd (by rw [← hr]; exact h0))).mono (Nat.le_succ k)
        · exact hk
      · exact hk
    · rename_i hi
      have hop := must_open hm hd (by simpa using hi)
      split
      · exact h.creates _ _
      · have := refuses_n hop.1 (by omega)
        exact h.gives this.1 this.2.1 a r
end Go.Proofs.YtgamnncehjcdiaaGreat

namespace Go.Proofs.YtgamnncehjcdiaaGreat
open Go Ev Go.RowKit

theorem aV {w w' : World} (hc : Chg [] w w') {b o : Nat} {v : Value} (h : ldC (hp w b) o = some v) : ldC (hp w' b) o = some v := by
  have : hp w' b = hp w b := hc.block b (by
    rcases Nat.lt_or_ge b w.heap.size with h1 | h1
    · exact h1
    · have h2 : hp w b = none := by simp [hp]; omega
      rw [h2] at h; cases h) (by simp)
  rw [this]; exact h
theorem MdI.word {w : World} {g : Nat} {m : MdV} {F : Fp} (I : MdI w g m F) {i : Nat} {r : RgV} (hi : m.rgs[i]? = some r) {k : Nat} {L : List Int} (hL : r.words[k]? = some L) {j : Nat} {x : Int} (hj : L[j]? = some x) :
    ∃ b c bw cw g2 c2, ldC (hp w g) (0 + 8) = some (.slice (some ⟨b, 0, none⟩) m.rgs.length c) ∧ ldC (hp w b) (i * 7 + 5) = some (.slice (some ⟨bw, 0, none⟩) r.words.length cw) ∧ ldC (hp w bw) k = some (.slice (some ⟨g2, 0, none⟩) L.length c2) ∧ ldC (hp w g2) j = some (.int .u64 x) ∧
      ∀ y, okC (hp w g2) (j + 1) = true ∧ ∃ F', MdI (put w g2 ((getC (hp w g2)).setIfInBounds j (.int .u64 y)) (getE (hp w g2))) g { m with rgs := m.rgs.set i { r with words := r.words.set k (L.set j y) } } F' ∧ UpdP F F' w (put w g2 ((getC (hp w g2)).setIfInBounds j (.int .u64 y)) (getE (hp w g2))) := by
  obtain ⟨b, c, v, Fk, hl, hnb, hsub, hFb, _, hld, hP, hres, _⟩ := I.rgCell hi (k := 5) (P := wordsT r.words) (by omega) rfl
  have hPw : (r.words.map wordT)[k]? = some (wordT L) := by rw [List.getElem?_map, hL]; rfl
  obtain ⟨bw, cw, v2, Fk2, hx2, _, _, _, hld2, hP2, hres2, _⟩ := isRow.cell hP (fun P hP => by obtain ⟨l, _, rfl⟩ := List.mem_map.1 hP; exact good_word l) hPw
  have hPu : ((u64s L).map isV)[j]? = some (isV (.int .u64 x)) := by rw [u64s, List.map_map, List.getElem?_map, hj]; rfl
  obtain ⟨g2, c2, v3, Fk3, hx3, _, _, _, hld3, hv3, _, hst⟩ := isRow.cell hP2 (good_ints (u64s_int L)) hPu
  refine ⟨b, c, bw, cw, g2, c2, hl, by rw [← hx2]; exact hld, by rw [← hx3]; exact hld2, by rw [hld3, hv3.1], fun y => ?_⟩
  obtain ⟨ok, F1, hrow, hupd⟩ := hst w none' (isV (.int .u64 y)) (.int .u64 y) (UpdP.none hv3.2 w) (bj _ _) ⟨rfl, fun _ h => h⟩
  have hset : ((u64s L).map isV).set j (isV (.int .u64 y)) = (u64s (L.set j y)).map isV := by simp [u64s, List.map_set]
  rw [hset] at hrow
  have hrow' : wordT (L.set j y) (put w g2 ((getC (hp w g2)).setIfInBounds j (.int .u64 y)) (getE (hp w g2))) F1 v2 := by rw [wordT, List.length_set]; exact hrow
  obtain ⟨F2, hrow2, hupd2⟩ := hres2 _ F1 (wordT (L.set j y)) hupd hrow'
  rw [← List.map_set] at hrow2
  have hrow2' : wordsT (r.words.set k (L.set j y)) (put w g2 ((getC (hp w g2)).setIfInBounds j (.int .u64 y)) (getE (hp w g2))) F2 v := by rw [wordsT, List.length_set]; exact hrow2
  obtain ⟨F3, h1, h2⟩ := hres _ F2 (wordsT (r.words.set k (L.set j y))) { r with words := r.words.set k (L.set j y) } hupd2 hrow2' rfl
  exact ⟨ok, F3, h1, h2⟩
structure ObjAt (m : MdV) (h : HnV) (n : Int) (i : Nat) (r : RgV) (k : Nat) (L : List Int) (j : Nat) : Prop where
  fi : findR m.rgs (nmOf h) = some i
  ri : m.rgs[i]? = some r
  ix : ixOf r.chunks h.2.2.1 = k
  wk : r.words[k]? = some L
  wl : (L.length : Int) = m.c.2.2.1
  jn : h.2.2.2.1 + n = j
  jl : j < L.length
theorem obj_at {m : MdV} {K : Nat} (W : Wf m K) {h : HnV} {n : Int} (hk : knownV m h 2 = true) (n0 : 0 ≤ n) (n1 : n < h.2.2.2.2) : ∃ i r k L j, ObjAt m h n i r k L j := by
  unfold knownV at hk
  split at hk
  · cases hk
  · rename_i i hf
    rw [if_neg (by omega)] at hk
    obtain ⟨r, hr, _⟩ := findR_at hf
    simp only [hr, Bool.and_eq_true, decide_eq_true_eq] at hk
    have R := W.rg r (List.mem_of_getElem? hr)
    obtain ⟨o1, o2, o3, o4⟩ := R.ob h hk.2
    obtain ⟨k, k1, k2⟩ := ixOf_at o1
    have hkl := (List.getElem?_eq_some_iff.1 k2).1
    obtain ⟨L, hL⟩ : ∃ L, r.words[k]? = some L := ⟨_, List.getElem?_eq_getElem (by rw [R.wl]; exact hkl)⟩
    have hl := R.ww L (List.mem_of_getElem? hL)
    exact ⟨i, r, k, L, (h.2.2.2.1 + n).toNat, hf, hr, k1, hL, hl, by omega, by omega⟩
theorem ObjAt.val {m : MdV} {h : HnV} {n : Int} {i : Nat} {r : RgV} {k : Nat} {L : List Int} {j : Nat} (O : ObjAt m h n i r k L j) : L[j]? = some (wordV m h n) := by
  have e : rgOf m (nmOf h) = some r := by rw [rgOf, O.fi]; exact O.ri
  have e2 : chunkW r h.2.2.1 = L := by rw [chunkW, O.ix, Int.toNat_natCast, List.getD_eq_getElem?_getD, O.wk]; rfl
  rw [wordV, e]
  simp only
  rw [e2, O.jn, Int.toNat_natCast, List.getD_eq_getElem?_getD, List.getElem?_eq_getElem O.jl]
  rfl
theorem ObjAt.put {m : MdV} {h : HnV} {n : Int} {i : Nat} {r : RgV} {k : Nat} {L : List Int} {j : Nat} (O : ObjAt m h n i r k L j) (y : Int) : setWordV m h n y = { m with rgs := m.rgs.set i { r with words := r.words.set k (L.set j y) } } := by
  have e2 : chunkW r h.2.2.1 = L := by rw [chunkW, O.ix, Int.toNat_natCast, List.getD_eq_getElem?_getD, O.wk]; rfl
  simp only [setWordV, O.fi, O.ri, setW, e2, O.ix, O.jn, Int.toNat_natCast]
structure WordAt (w : World) (g : Nat) (m : MdV) (F : Fp) (h : HnV) (n : Int) (g2 j : Nat) : Prop where
  ld : ldC (hp w g2) j = some (.int .u64 (wordV m h n))
  ok : okC (hp w g2) (j + 1) = true
  st : ∀ y, ∃ F', MdI (put w g2 ((getC (hp w g2)).setIfInBounds j (.int .u64 y)) (getE (hp w g2))) g (setWordV m h n y) F' ∧ UpdP F F' w (put w g2 ((getC (hp w g2)).setIfInBounds j (.int .u64 y)) (getE (hp w g2)))
set_option maxHeartbeats 1000000 in
theorem c_mWord {w : World} {g : Nat} {m : MdV} {F : Fp} {K : Nat} (I : MdI w g m F) (W : Wf m K) (hK : K ≤ 1000000) {h : HnV} {n : Int} (hk : knownV m h 2 = true) (n0 : 0 ≤ n) (n1 : n < h.2.2.2.2) :
    CallR Tryz.prog 48 [.pointer (some ⟨g, 0, none⟩), .agg (hnC h).toArray, .int .i64 n] w fun v w' => ∃ g2 j, v = .pointer (some ⟨g2, j, none⟩) ∧ Chg [] w w' ∧ ∀ w'', Chg [] w w'' → WordAt w'' g m F h n g2 j := by
  apply F48_ok
  obtain ⟨i, r, k, L, j, O⟩ := obj_at W hk n0 n1
  obtain ⟨b, c, bw, cw, g2, c2, p1, p2, p3, p4, _⟩ := I.word O.ri O.wk O.val
  have all : ∀ w'', Chg [] w w'' → WordAt w'' g m F h n g2 j := fun w'' hc => by
    obtain ⟨b', c', bw', cw', g2', c2', q1, q2, q3, q4, q5⟩ := (I.keep hc).word O.ri O.wk O.val
    rw [aV hc p1] at q1; cases q1
    rw [aV hc p2] at q2; cases q2
    rw [aV hc p3] at q3; cases q3
    exact ⟨q4, (q5 0).1, fun y => by rw [O.put]; exact (q5 y).2⟩
  obtain ⟨s, rv, hh, M⟩ := I.rd
  have hrl := M.rl
  rw [p1] at hrl; cases hrl
  have w1 := W.w1
  have w2 := W.w2
  have hbox : hp (w.alloc (.cells (hnC h).toArray 25)) w.heap.size = some (.cells (hnC h).toArray 25) := by rw [ac, if_pos rfl]
  have hc0 : Chg [] w (w.alloc (.cells (hnC h).toArray 25)) := (Chg.refl _ _).alloc _
  simp -implicitDefEqProofs only [F48, aE, aB]
  generalize w.alloc (.cells (hnC h).toArray 25) = w0 at *
  generalize w.heap.size = gb at *
  have ldh : ∀ w', hp w' gb = some (.cells (hnC h).toArray 25) → ldv Tryz.prog 25 (.pointer (some ⟨gb, 0, none⟩)) w' = some (.agg (hnC h).toArray) := fun w' hw => aG (t := 25) (c := (hnC h).toArray) ag_25 (show (Tryz.prog.info? 25).map (·.size) = some (hnC h).toArray.size from sz_25) hw
  simp -implicitDefEqProofs only [ldh _ hbox, ad]
  refine (c_mNameOf h w0).mono ?_
  rintro _ w1 ⟨rfl, k1⟩
  have c01 := hc0.trans k1
  refine (c_mRegion (M.keep c01) (h.1, h.2.1) (Nat.le_trans W.rl hK)).mono ?_
  rintro v w2 ⟨k2, hv⟩
  have c02 := c01.trans k2
  have hf : findR m.rgs (h.1, h.2.1) = some i := O.fi
  rw [hf] at hv
  rcases hv with ⟨hv, _⟩ | ⟨i', rg, b', c', hi', hrg, hr, rfl⟩
  · cases hv
  cases hi'; cases hr
  have cd : Chg [] w w2.drew := c02.drew
  have b2 := (k1.trans k2).at hbox (by simp)
  have e2 : (hnC h).toArray[0 + 2]? = some (.int .i64 h.2.2.1) := rfl
  have e3 : (hnC h).toArray[0 + 3]? = some (.int .i64 h.2.2.2.1) := rfl
  rw [O.ri] at hrg
  cases hrg
  obtain ⟨G, hG⟩ := (M.keep cd).rT
  obtain ⟨b'', c'', hx, cv, wv, ov, R⟩ := rg_at hG O.ri
  cases hx
  have hwv := R.c5
  rw [aV cd p2] at hwv
  cases hwv
  obtain ⟨A, cc, hcv, hR⟩ := ints_sh R.cT
  have R4 := R.c4
  rw [hcv] at R4
  have R5 := R.c5
  have hlw := (List.getElem?_eq_some_iff.1 O.wk).1
  have iaw := ia_86 (b := bw) (p := 0) (n := r.words.length) (c := cw) (j := .i64) (i := (k : Int)) (by omega) (by omega)
  rw [Int.toNat_natCast, Nat.zero_add, Nat.mul_one] at iaw
  have hjl := O.jl
  have iau := ia_93 (b := g2) (p := 0) (n := L.length) (c := c2) (j := .i64) (i := (j : Int)) (by omega) (by omega)
  rw [Int.toNat_natCast, Nat.zero_add, Nat.mul_one] at iau
  have p3d := aV cd p3
  have hwl := O.wl
  have hcl : r.chunks.length ≤ 1000000 := Nat.le_trans (W.rg r (List.mem_of_getElem? O.ri)).cl hK
  have fin : ∃ g2' j', Value.pointer (some ⟨g2, j, none⟩) = .pointer (some ⟨g2', j', none⟩) ∧ Chg [] w w2.drew ∧ ∀ w'', Chg [] w w'' → WordAt w'' g m F h n g2' j' := ⟨g2, j, rfl, cd, all⟩
  have b2d : hp w2.drew gb = some (.cells (hnC h).toArray 25) := b2
  simp -implicitDefEqProofs only [ad, ay, fa_88_4, fa_88_3, bm, fa_25_3, ld_86, aY, af, ldC_some, R4, R5, b2d, e2, e3, aA, O.jn, az (n := (j : Int)) (by omega) (by omega)]
  have ix := c_iIndex (c := cc) hR hcl h.2.2.1
  rw [O.ix] at ix
  repeat' (with_reducible apply And.intro)
  all_goals
    refine ix.step ?_
    simp -implicitDefEqProofs only [ad, iaw, ld_93, ld_86, af, ldC_some, R5, b2d, e3, aA, O.jn, az (n := (j : Int)) (by omega) (by omega), p3d, iau]
    exact fin
end Go.Proofs.YtgamnncehjcdiaaGreat

namespace Go.Proofs.YtgamnncehjcdiaaGreat
open Go Ev Go.RowKit

section
variable {W w : World} {g g6 g7 g8 g10 k : Nat} {m : MdV} {F : Fp} {K : Nat} {o : OpV} {h : HnV} {d : HdV}
theorem rsC_one (r : RsV) : (rsC r).toArray.toList.all (·.oneCell') = true := rfl
theorem aZ {r : RsV} {b : Nat} {e : TypeId} (hb : hp w b = some (.cells (rsC r).toArray e)) : ldv Tryz.prog 28 (.pointer (some ⟨b, 0, none⟩)) w = some (.agg (rsC r).toArray) := aG (t := 28) (c := (rsC r).toArray) ag_28 (show (Tryz.prog.info? 28).map (·.size) = some (rsC r).toArray.size from sz_28) hb
theorem st_res {r : RsV} {b : Nat} {c : Array Value} {e : TypeId} (hb : hp w b = some (.cells c e)) (hs : c.size = 8) {L : World → Prop} : effu Tryz.prog (Instr.storeAt 28 (.pointer (some ⟨b, 0, none⟩)) (.agg (rsC r).toArray)) w L = L (put w b (rsC r).toArray e) := by
  rw [st_28 rfl (rsC_one r) (by rw [hb, okC_some]; exact decide_eq_true (by omega)) (by rw [hb]; exact hs), hb]; rfl
theorem l_must2 (r : RsV) (hc : Chg [] W w) {c8 : Array Value} (h8 : hp w g8 = some (.cells c8 28)) (hs : c8.size = 8) (h10 : hp w g10 = some (.cells (rsC r).toArray 28)) (n8 : W.heap.size ≤ g8) :
    P13_2 (.pointer (some ⟨g8, 0, none⟩)) (.pointer (some ⟨g10, 0, none⟩)) w fun v w' => v = .tuple #[.agg (rsC r).toArray, .bool true] ∧ Chg [] W w' := by
  apply L13_2_ok
  simp -implicitDefEqProofs only [L13_2, aZ h10, ad]
  rw [st_res h8 hs, aZ (ap (av h8) _ _), ad]
  exact ⟨rfl, hc.put (.inr n8) _ _⟩
set_option maxHeartbeats 1000000 in
theorem l_must1 (hc : Chg [] W w) (I : MdI w g m F) (Wm : Wf m K) (hK : K ≤ 1000000) (h6 : hp w g6 = some (.cells (opC o).toArray 39)) (h7 : hp w g7 = some (.cells (hnC h).toArray 25)) {c8 : Array Value} (h8 : hp w g8 = some (.cells c8 28)) (hs : c8.size = 8) (h10 : hp w g10 = some (.cells (rsC noR).toArray 28))
    (n8 : W.heap.size ≤ g8) (n10 : W.heap.size ≤ g10) (n810 : g8 ≠ g10) (hr : refusesV m d o h = 0) (n0 : 0 ≤ o.2.2.2.1) {t : Bool} (ht : t = decide (o.1 = 6 ∨ o.1 = 8)) :
    P13_1 (.pointer (some ⟨g, 0, none⟩)) (.pointer (some ⟨g6, 0, none⟩)) (.pointer (some ⟨g7, 0, none⟩)) (.pointer (some ⟨g8, 0, none⟩)) (.pointer (some ⟨g10, 0, none⟩)) (.int .i64 o.1) (.bool t) w fun v w' => v = .tuple #[.agg (rsC (mustB m o h)).toArray, .bool true] ∧ Chg [] W w' := by
  apply L13_1_ok
  have ldh : ∀ w', hp w' g7 = some (.cells (hnC h).toArray 25) → ldv Tryz.prog 25 (.pointer (some ⟨g7, 0, none⟩)) w' = some (.agg (hnC h).toArray) := fun w' hw => aG (t := 25) (c := (hnC h).toArray) ag_25 (show (Tryz.prog.info? 25).map (·.size) = some (hnC h).toArray.size from sz_25) hw
  have h6d : hp w.drew g6 = some (.cells (opC o).toArray 39) := h6
  have h7d : hp w.drew g7 = some (.cells (hnC h).toArray 25) := h7
  have cd : Chg [] w w.drew := (Chg.refl _ _).drew
  have fin : ∀ (r : RsV) (k : Nat) (v : Value) (w3 : World), Chg [] w w3 → (rsC noR).toArray.setIfInBounds k v = (rsC r).toArray → mustB m o h = r →
      P13_2 (.pointer (some ⟨g8, 0, none⟩)) (.pointer (some ⟨g10, 0, none⟩)) (put w3 g10 ((getC (hp w3 g10)).setIfInBounds k v) (getE (hp w3 g10))) fun v w' => v = .tuple #[.agg (rsC (mustB m o h)).toArray, .bool true] ∧ Chg [] W w' := by
    intro r k v w3 c3 he hm
    have h103 := c3.at h10 (by simp)
    rw [h103, br, aD, he, hm]
    exact l_must2 r ((hc.trans c3).put (.inr n10) _ _) (by rw [ax n810]; exact c3.at h8 (by simp)) hs (ap (av h103) _ _) n8
  have ok3 : ∀ (w3 : World) (k : Nat), Chg [] w w3 → k ≤ 8 → okC (hp w3 g10) k = true := fun w3 k c3 hk => by rw [c3.at h10 (by simp), okC_some]; exact decide_eq_true hk
  by_cases k68 : o.1 = 6 ∨ o.1 = 8
  · have ht' : t = true := by rw [ht]; exact decide_eq_true k68
    subst ht'
    obtain ⟨t1, t2⟩ := touch_ok hr (by omega) (by omega)
    simp -implicitDefEqProofs only [L13_1, zS, ldh _ h7, aN, af, h6, op_3]
    refine (c_mWord I Wm hK t1 n0 t2).mono ?_
    rintro _ w3 ⟨g2, j, rfl, c3, hw⟩
    have A := hw w3 c3
    simp -implicitDefEqProofs only [zS, ld_26, A.ld, fa_28_3]
    rw [st_26 rfl rfl (ok3 _ _ c3 (by omega))]
    exact fin (0, noH, 0, wordV m h o.2.2.2.1) _ _ _ c3 rfl (by rw [mustB, if_pos k68])
  have ht' : t = false := by rw [ht]; exact decide_eq_false k68
  subst ht'
  by_cases k9 : o.1 = 9
  · have q9 : (o.1 == 9) = true := by rw [k9]; rfl
    obtain ⟨t1, t2⟩ := touch_ok hr (by omega) (by omega)
    have three : ∀ w3, Chg [] w w3 → P13_3 (.pointer (some ⟨g8, 0, none⟩)) (.pointer (some ⟨g10, 0, none⟩)) (.bool (wordV m h o.2.2.2.1 == o.2.2.2.2.1)) w3 fun v w' => v = .tuple #[.agg (rsC (mustB m o h)).toArray, .bool true] ∧ Chg [] W w' := by
      intro w3 c3
      apply L13_3_ok
      by_cases hv : wordV m h o.2.2.2.1 = o.2.2.2.2.1
      · have e : (wordV m h o.2.2.2.1 == o.2.2.2.2.1) = true := by rw [hv]; exact beq_self_eq_true _
        simp -implicitDefEqProofs only [L13_3, e, cnd_true, fa_28_2, ad]
        rw [st_3 rfl rfl (ok3 _ _ c3 (by omega))]
        exact fin (0, noH, 1, 0) _ _ _ c3 rfl (by rw [mustB, if_neg k68, if_pos k9, if_pos hv])
      · simp -implicitDefEqProofs only [L13_3, eqf hv, cnd_false]
        have e : mustB m o h = noR := by rw [mustB, if_neg k68, if_pos k9, if_neg hv]; rfl
        rw [e]
        exact l_must2 noR (hc.trans c3) (c3.at h8 (by simp)) hs (c3.at h10 (by simp)) n8
    simp -implicitDefEqProofs only [L13_1, zS, q9, ldh _ h7d, aN, bn, af, ld_26, h6d, h6, op_3, op_4]
    have cw := c_mWord (I.keep cd) Wm hK t1 n0 t2
    repeat' (with_reducible apply And.intro)
    all_goals
      refine cw.mono ?_
      rintro _ w3 ⟨g2, j, rfl, c3, hw⟩
      have A := hw w3 c3
      have h63 := (cd.trans c3).at h6 (by simp)
      simp -implicitDefEqProofs only [zS, ld_26, A.ld, h63, op_4]
      exact three w3 (cd.trans c3)
  by_cases k12 : o.1 = 12
  · have q12 : (o.1 == 12) = true := by rw [k12]; rfl
    obtain ⟨i, r, hf, hri, _, _⟩ := region_ok hr (by omega)
    obtain ⟨s, rv, hh, M⟩ := I.rd
    simp -implicitDefEqProofs only [L13_1, zS, eqf k9, q12, ldh _ h7]
    refine (c_mNameOf h w).mono ?_
    rintro _ w1 ⟨rfl, c1⟩
    refine (c_mRegion (M.keep c1) (h.1, h.2.1) (Nat.le_trans Wm.rl hK)).mono ?_
    rintro v w2 ⟨c2, hv⟩
    have c02 := c1.trans c2
    have hf' : findR m.rgs (h.1, h.2.1) = some i := hf
    rw [hf'] at hv
    rcases hv with ⟨hv, _⟩ | ⟨i', rg, b', c', hi', hrg, hr', rfl⟩
    · cases hv
    cases hi'
    rw [hri] at hrg
    cases hrg
    obtain ⟨G, hG⟩ := (M.keep c02).rT
    obtain ⟨b'', c'', hx, cv, wv, ov, R⟩ := rg_at hG hri
    rw [hr'] at hx
    cases hx
    simp -implicitDefEqProofs only [zS, fa_88_2, fa_28_2, af, R.c3]
    rw [st_3 rfl rfl (ok3 _ _ c02 (by omega))]
    exact fin (0, noH, r.off, 0) _ _ _ c02 rfl (by
      rw [mustB, if_neg k68, if_neg k9, if_pos k12, rgOf, hf]
      simp only [Option.bind_some, hri])
  · simp -implicitDefEqProofs only [L13_1, zS, eqf k9, eqf k12]
    have e : mustB m o h = noR := by rw [mustB, if_neg k68, if_neg k9, if_neg k12]
    rw [e]
    exact l_must2 noR hc h8 hs h10 n8
set_option maxHeartbeats 1000000 in
theorem c_mMust {w : World} {g : Nat} {m : MdV} {F : Fp} {K : Nat} (I : MdI w g m F) (Wm : Wf m K) (hK : K ≤ 1000000) (n : Int) (o : OpV) (h : HnV) :
    CallR Tryz.prog 13 [.pointer (some ⟨g, 0, none⟩), .int .i64 n, .agg (opC o).toArray, .agg (hnC h).toArray] w fun v w' => v = .tuple #[.agg (rsC (mustV m n o h).1).toArray, .bool (mustV m n o h).2] ∧ Chg [] w w' := by
  apply F13_ok
  obtain ⟨s, rv, hh, M⟩ := I.rd
  simp -implicitDefEqProofs only [F13, aE, aB, al_28, ae]
  generalize hw : ((w.alloc (.cells (opC o).toArray 39)).alloc _).alloc _ = w1
  have c1 : Chg [] w w1 := by rw [← hw]; exact (((Chg.refl _ _).alloc _).alloc _).alloc _
  have b6 : hp w1 w.heap.size = some (.cells (opC o).toArray 39) := by rw [← hw, ac, ae, ae, if_neg (by omega), ac, ae, if_neg (by omega), ac, if_pos rfl]
  have b7 : hp w1 (w.heap.size + 1) = some (.cells (hnC h).toArray 25) := by rw [← hw, ac, ae, ae, if_neg (by omega), ac, ae, if_pos rfl]
  have b8 : hp w1 (w.heap.size + 1 + 1) = some (.cells (rsC noR).toArray 28) := by rw [← hw, ac, ae, ae, if_pos rfl]; rfl
  clear hw
  have ldo : ∀ w', hp w' w.heap.size = some (.cells (opC o).toArray 39) → ldv Tryz.prog 39 (.pointer (some ⟨w.heap.size, 0, none⟩)) w' = some (.agg (opC o).toArray) := fun w' hw => aG (t := 39) (c := (opC o).toArray) ag_39 (show (Tryz.prog.info? 39).map (·.size) = some (opC o).toArray.size from sz_39) hw
  have ldh : ∀ w', hp w' (w.heap.size + 1) = some (.cells (hnC h).toArray 25) → ldv Tryz.prog 25 (.pointer (some ⟨w.heap.size + 1, 0, none⟩)) w' = some (.agg (hnC h).toArray) := fun w' hw => aG (t := 25) (c := (hnC h).toArray) ag_25 (show (Tryz.prog.info? 25).map (·.size) = some (hnC h).toArray.size from sz_25) hw
  simp -implicitDefEqProofs only [ad, ldo _ b6]
  refine (c_mMay (M.keep c1) n o).mono ?_
  rintro _ w2 ⟨rfl, c2⟩
  have c02 := c1.trans c2
  have d6 := c2.at b6 (by simp)
  have d7 := c2.at b7 (by simp)
  have d8 := c2.at b8 (by simp)
  have noRe : ∀ (L : Array Value → Prop), L (rsC noR).toArray → L #[(Go.Value.int Go.IntKind.i64 0), (Go.Value.int Go.IntKind.i64 0), (Go.Value.int Go.IntKind.i64 0), (Go.Value.int Go.IntKind.i64 0), (Go.Value.int Go.IntKind.i64 0), (Go.Value.int Go.IntKind.i64 0), (Go.Value.int Go.IntKind.i64 0), (Go.Value.int Go.IntKind.u64 0)] := fun L h => h
  cases hm : mayV m n o with
  | false =>
    simp -implicitDefEqProofs only [zS, bd_28_]
    refine noRe (fun z => effu Tryz.prog (Instr.storeAt 28 _ (.agg z)) _ _) ?_
    rw [st_res d8 rfl, aZ (ap (av d8) _ _), ad]
    exact ⟨by rw [mustV, if_pos hm], c02.put (.inr (by omega)) _ _⟩
  | true =>
    obtain ⟨n0, n1, n2⟩ := may_n hm
    obtain ⟨d, hd⟩ := may_hd hm
    simp -implicitDefEqProofs only [zS, ldo _ d6, ldh _ d7]
    refine (c_mRefuses (M.keep c02) (Wm.small hK) n0 hd o h).mono ?_
    rintro _ w3 ⟨rfl, c3⟩
    have c03 := c02.trans c3
    have f6 := c3.at d6 (by simp)
    have f7 := c3.at d7 (by simp)
    have f8 := c3.at d8 (by simp)
    have s3 := c03.size
    simp -implicitDefEqProofs only [zS, bd_28_0, al_28]
    have codeE : ∀ (L : Array Value → Prop), L (rsC (codeR (refusesV m d o h))).toArray → L #[(.int .i64 (refusesV m d o h)), (Go.Value.int Go.IntKind.i64 0), (Go.Value.int Go.IntKind.i64 0), (Go.Value.int Go.IntKind.i64 0), (Go.Value.int Go.IntKind.i64 0), (Go.Value.int Go.IntKind.i64 0), (Go.Value.int Go.IntKind.i64 0), (Go.Value.int Go.IntKind.u64 0)] := fun L h => h
    refine codeE (fun z => effu Tryz.prog (Instr.storeAt 28 _ (.agg z)) _ _) ?_
    rw [st_res (c := (rsC noR).toArray) (e := 28) (by rw [ac, if_pos rfl]; rfl) rfl]
    generalize hw4 : put (w3.alloc _) w3.heap.size _ _ = w4
    have c4 : Chg [] w3 w4 := by rw [← hw4]; exact ((Chg.refl _ _).alloc _).put (.inr (Nat.le_refl _)) _ _
    have a10 : hp w4 w3.heap.size = some (.cells (rsC (codeR (refusesV m d o h))).toArray 28) := by rw [← hw4]; exact ap (by simp) _ _
    clear hw4
    have c04 := c03.trans c4
    have a6 := c4.at f6 (by simp)
    have a7 := c4.at f7 (by simp)
    have a8 := c4.at f8 (by simp)
    have r0 : (rsC (codeR (refusesV m d o h))).toArray[0 + 0]? = some (.int .i64 (refusesV m d o h)) := rfl
    have lt8 := av f8
    by_cases hr : refusesV m d o h = 0
    · have e0 : (refusesV m d o h != 0) = false := by rw [hr]; rfl
      have mv : mustV m n o h = if o.1 = 1 ∨ o.1 = 2 then (noR, false) else (mustB m o h, true) := by
        rw [mustV, if_neg (by rw [hm]; simp), hd]
        simp only [hr, ne_eq, not_true_eq_false, if_false]
      have a10' : hp w4 w3.heap.size = some (.cells (rsC noR).toArray 28) := by rw [a10, hr]; rfl
      simp -implicitDefEqProofs only [zS, fa_28_0, aU, a10, r0, e0, aj, af, a6, aC]
      have zero : ∀ t : Bool, t = decide (o.1 = 1 ∨ o.1 = 2) → P13_0 (.pointer (some ⟨g, 0, none⟩)) (.pointer (some ⟨w.heap.size, 0, none⟩)) (.pointer (some ⟨w.heap.size + 1, 0, none⟩)) (.pointer (some ⟨w.heap.size + 1 + 1, 0, none⟩)) (.pointer (some ⟨w3.heap.size, 0, none⟩)) (.int .i64 o.1) (.bool t) w4
          fun v w' => v = .tuple #[.agg (rsC (mustV m n o h).1).toArray, .bool (mustV m n o h).2] ∧ Chg [] w w' := by
        intro t ht
        apply L13_0_ok
        rw [mv]
        by_cases k12 : o.1 = 1 ∨ o.1 = 2
        · have ht' : t = true := by rw [ht]; exact decide_eq_true k12
          subst ht'
          rw [if_pos k12]
          simp -implicitDefEqProofs only [L13_0, zS, bd_28_]
          refine noRe (fun z => effu Tryz.prog (Instr.storeAt 28 _ (.agg z)) _ _) ?_
          rw [st_res a8 rfl, aZ (ap (av a8) _ _), ad]
          exact ⟨rfl, c04.put (.inr (by omega)) _ _⟩
        · have ht' : t = false := by rw [ht]; exact decide_eq_false k12
          subst ht'
          rw [if_neg k12]
          have one : ∀ t : Bool, t = decide (o.1 = 6 ∨ o.1 = 8) → _ := fun t ht => l_must1 (W := w) c04 (I.keep c04) Wm hK a6 a7 a8 rfl a10' (by omega) (by omega) (by omega) hr n2 ht
          by_cases k6 : o.1 = 6
          · have q : (o.1 == 6) = true := by rw [k6]; rfl
            have f := one true (by rw [k6]; rfl)
            simp -implicitDefEqProofs only [L13_0, zS, q]
            exact f
          · have f := one (o.1 == 8) (by
              by_cases k8 : o.1 = 8
              · rw [k8]; rfl
              · rw [eqf k8]; exact (decide_eq_false (by omega)).symm)
            simp -implicitDefEqProofs only [L13_0, zS, eqf k6]
            exact f
      by_cases k1 : o.1 = 1
      · have q : (o.1 == 1) = true := by rw [k1]; rfl
        have f := zero true (by rw [k1]; rfl)
        simp -implicitDefEqProofs only [zS, q]
        exact f
      · have f := zero (o.1 == 2) (by
          by_cases k2 : o.1 = 2
          · rw [k2]; rfl
          · rw [eqf k2]; exact (decide_eq_false (by omega)).symm)
        simp -implicitDefEqProofs only [zS, eqf k1]
        exact f
    · have e0 : (refusesV m d o h != 0) = true := bne_iff_ne.2 hr
      have mv : mustV m n o h = (codeR (refusesV m d o h), true) := by
        rw [mustV, if_neg (by rw [hm]; simp), hd]
        simp only
        rw [if_pos hr]
      simp -implicitDefEqProofs only [zS, fa_28_0, aU, a10, r0, e0]
      rw [aZ a10, ad, st_res a8 rfl, aZ (ap (av a8) _ _), ad, mv]
      exact ⟨rfl, c04.put (.inr (by omega)) _ _⟩
end
end Go.Proofs.YtgamnncehjcdiaaGreat

namespace Go.Proofs.YtgamnncehjcdiaaGreat
open Go Ev Go.RowKit

theorem Ev.UpdP.pre {F F' : Fp} {a b c : World} (k : Chg [] a b) (u : UpdP F F' b c) : UpdP F F' a c := (UpdP.of0 k).trans u
theorem Ev.UpdP.post {F F' : Fp} {a b c : World} (u : UpdP F F' a b) (k : Chg [] b c) : UpdP F F' a c := u.trans (UpdP.of0 k)
theorem flat_grown {e : TypeId} {z n m : Nat} {us vs : List Value} {w w' : World} {F : Fp} {x x' : Value} (h : isRow e z n (us.map isV) w F x) (ho : w'.ownsRow 0 e z x' m (us ++ vs)) (hg : w.grownBy w' x.ownBlock) (hnb : NewB w x x') :
    ∃ F', isRow e z m ((us ++ vs).map isV) w' F' x' ∧ UpdP F F' w w' := by
  obtain ⟨xs, Fs, _, _, _, h4⟩ := h
  refine ⟨_, own_flat ho, ⟨hg.os, hg.tape, hg.output, hg.size, fun k hk hn => hg.block k hk fun e => hn ((h4 k).2 (.inl e.symm))⟩, fun k hk => ?_⟩
  rcases hnb k hk with h5 | h5
  · exact .inl ((h4 k).2 (.inl h5))
  · exact .inr h5
theorem slots_at {m : MdV} {n : NmV} (h : isLv m n = true) : 0 ≤ n.1 ∧ n.1 < m.slots.length ∧ m.slots[n.1.toNat]? = some (1, n.2) := by
  simp only [isLv, Bool.and_eq_true, decide_eq_true_eq] at h
  exact ⟨h.1.1, h.1.2, h.2⟩
section
variable {W w : World} {g g6 g7 g9 b k : Nat} {m : MdV} {F : Fp} {K : Nat} {o : OpV} {h : HnV} {d : HdV} {n : Int}
theorem MdI.depthSet (I : MdI w g m F) (hd : m.hands[n.toNat]? = some d) (x : Int) :
    ∃ b c, ldC (hp w g) (0 + 9) = some (.slice (some ⟨b, 0, none⟩) m.hands.length c) ∧ b ≠ g ∧ ldC (hp w b) (n.toNat * 2 + 0) = some (.int .i64 d.depth) ∧ okC (hp w b) (n.toNat * 2 + 0 + 1) = true ∧
      ∃ F', MdI (put w b ((getC (hp w b)).setIfInBounds (n.toNat * 2 + 0) (.int .i64 x)) (getE (hp w b))) g (setHd m n { d with depth := x }) F' ∧ UpdP F F' w (put w b ((getC (hp w b)).setIfInBounds (n.toNat * 2 + 0) (.int .i64 x)) (getE (hp w b))) := by
  obtain ⟨b, c, v, Fk, hl, _, _, _, hbg, hld, hv, hst⟩ := I.hdCell hd (k := 0) (P := iT d.depth) (by omega) rfl
  obtain ⟨ok, F1, h1, h2⟩ := hst w none' (iT x) (.int .i64 x) { d with depth := x } (UpdP.none hv.2 w) (bj _ _) ⟨rfl, fun _ h => h⟩ rfl
  exact ⟨b, c, hl, hbg, by rw [hld, hv.1], ok, F1, h1, h2⟩
set_option maxHeartbeats 2000000 in
theorem l_does0 (hc : Chg [] W w) (I : MdI w g m F) (Wm : Wf m K) (hK : K ≤ 1000000) (h6 : hp w g6 = some (.cells (opC o).toArray 39)) (h7 : hp w g7 = some (.cells (hnC h).toArray 25)) (h9 : hp w g9 = some (.cells (nmC (nmOf h)).toArray 84))
    (hd : m.hands[n.toNat]? = some d) (hr : refusesV m d o h = 0) (n0 : 0 ≤ o.2.2.2.1) {c : Nat} (hb : ldC (hp w g) (0 + 9) = some (.slice (some ⟨b, 0, none⟩) m.hands.length c)) :
    P31_0 (.pointer (some ⟨g, 0, none⟩)) (.pointer (some ⟨g6, 0, none⟩)) (.pointer (some ⟨g7, 0, none⟩)) (.pointer (some ⟨b, n.toNat * 2, none⟩)) (.pointer (some ⟨g9, 0, none⟩)) w fun v w' => v = .tuple #[] ∧ ∃ F', MdI w' g (doesV m n o h) F' ∧ UpdP F F' W w' := by
  apply L31_0_ok
  have dv : doesV m n o h = if o.1 = 3 then setHd m n { d with depth := d.depth + 1 }
    else if o.1 = 4 then setHd m n (if d.depth - 1 = 0 then { depth := 0, holds := [] } else { d with depth := d.depth - 1 })
    else if o.1 = 5 then (if holdsV d h then m else setHd m n { d with holds := d.holds ++ [nmOf h] })
    else if o.1 = 7 then setWordV m h o.2.2.2.1 o.2.2.2.2.1
    else if o.1 = 8 then setWordV m h o.2.2.2.1 (IntKind.u64.wrap (wordV m h o.2.2.2.1 + o.2.2.2.2.1))
    else if o.1 = 9 then (if wordV m h o.2.2.2.1 = o.2.2.2.2.1 then setWordV m h o.2.2.2.1 o.2.2.2.2.2 else m)
    else if o.1 = 10 then (match m.slots[h.1.toNat]? with | some p => { m with slots := m.slots.set h.1.toNat (if m.loose then 0 else 2, p.2) } | none => m)
    else m := by rw [doesV, hd] <;> rfl
  have hD := Wm.hd d (List.mem_of_getElem? hd)
  have hco := (refuses_code hr).2
  have ldh : ∀ w', hp w' g7 = some (.cells (hnC h).toArray 25) → ldv Tryz.prog 25 (.pointer (some ⟨g7, 0, none⟩)) w' = some (.agg (hnC h).toArray) := fun w' hw => aG (t := 25) (c := (hnC h).toArray) ag_25 (show (Tryz.prog.info? 25).map (·.size) = some (hnC h).toArray.size from sz_25) hw
  have ldn : ∀ w', hp w' g9 = some (.cells (nmC (nmOf h)).toArray 84) → ldv Tryz.prog 84 (.pointer (some ⟨g9, 0, none⟩)) w' = some (.agg (nmC (nmOf h)).toArray) := fun w' hw => aG (t := 84) (c := (nmC (nmOf h)).toArray) ag_84 (show (Tryz.prog.info? 84).map (·.size) = some (nmC (nmOf h)).toArray.size from sz_84) hw
  have cd : Chg [] w w.drew := (Chg.refl _ _).drew
  have h6d : hp w.drew g6 = some (.cells (opC o).toArray 39) := h6
  have h7d : hp w.drew g7 = some (.cells (hnC h).toArray 25) := h7
  have h9d : hp w.drew g9 = some (.cells (nmC (nmOf h)).toArray 84) := h9
  by_cases k3 : o.1 = 3
  · have q : (o.1 == 3) = true := by rw [k3]; rfl
    obtain ⟨b', c', hl, hbg, hld, ok, F1, h1, h2⟩ := I.depthSet hd (d.depth + 1)
    rw [hb] at hl; cases hl
    simp -implicitDefEqProofs only [L31_0, zS, aj, af, h6, aC, q, fa_81_0, hld, aA, az (n := d.depth + 1) (by omega) (by omega)]
    rw [st_3 (o := n.toNat * 2 + 0) rfl rfl ok, dv, if_pos k3]
    exact ⟨by first | rfl | trivial, F1, h1, h2.pre hc⟩
  by_cases k4 : o.1 = 4
  · have q : (o.1 == 4) = true := by rw [k4]; rfl
    obtain ⟨b', c', hl, hbg, hld, ok, F1, h1, h2⟩ := I.depthSet hd (d.depth - 1)
    rw [hb] at hl; cases hl
    simp -implicitDefEqProofs only [L31_0, zS, aj, af, h6, aC, eqf k3, q, fa_81_0, hld, bp_sub, az (n := d.depth - 1) (by omega) (by omega)]
    rw [st_3 (o := n.toNat * 2 + 0) rfl rfl ok, dv, if_neg k3, if_pos k4]
    have hb1 : ldC (hp (put w b ((getC (hp w b)).setIfInBounds (n.toNat * 2 + 0) (.int .i64 (d.depth - 1))) (getE (hp w b))) g) (0 + 9) = some (.slice (some ⟨b, 0, none⟩) m.hands.length c) := by rw [ax (Ne.symm hbg)]; exact hb
    generalize put w b ((getC (hp w b)).setIfInBounds (n.toNat * 2 + 0) (.int .i64 (d.depth - 1))) (getE (hp w b)) = w1 at *
    have hd1 : (setHd m n { d with depth := d.depth - 1 }).hands[n.toNat]? = some { d with depth := d.depth - 1 } := by
      show (m.hands.set n.toNat _)[n.toNat]? = _
      rw [List.getElem?_set, if_pos rfl, if_pos (List.getElem?_eq_some_iff.1 hd).1]
    have hln : (setHd m n { d with depth := d.depth - 1 }).hands.length = m.hands.length := by simp [setHd]
    obtain ⟨b2, c2, v2, Fk2, hl2, _, _, _, _, hld2, hv2, hst2⟩ := h1.hdCell hd1 (k := 1) (P := namesT d.holds) (by omega) rfl
    obtain ⟨b3, c3, hl3, _, hld3, _⟩ := h1.depthSet hd1 0
    rw [hln, hb1] at hl2 hl3
    cases hl2; cases hl3
    by_cases hz : d.depth - 1 = 0
    · have e : (d.depth - 1 == 0) = true := by rw [hz]; rfl
      simp -implicitDefEqProofs only [zS, fa_81_0, fa_81_1, af, hld3, e]
      obtain ⟨ok2, F2, h3, h4⟩ := hst2 w1 none' (namesT []) (.slice none 0 0) { depth := 0, holds := [] } ⟨ChgP.refl _ _, fun k hk => hk.elim⟩ (good_names _) isRow.nil (by
        rw [hz]; rfl)
      rw [st_79 (o := n.toNat * 2 + 1) rfl rfl ok2, if_pos hz]
      have e2 : setHd m n { depth := 0, holds := [] } = { setHd m n { d with depth := d.depth - 1 } with hands := (setHd m n { d with depth := d.depth - 1 }).hands.set n.toNat { depth := 0, holds := [] } } := by
        simp [setHd, List.set_set]
      rw [e2]
      exact ⟨by first | rfl | trivial, F2, h3, (h2.trans h4).pre hc⟩
    · simp -implicitDefEqProofs only [zS, fa_81_0, af, hld3, eqf hz]
      rw [if_neg hz]
      exact ⟨by first | rfl | trivial, F1, h1, h2.pre hc⟩
  by_cases k5 : o.1 = 5
  · have q : (o.1 == 5) = true := by rw [k5]; rfl
    obtain ⟨b', c', v, Fk, hl, _, _, _, _, hld, hv, _⟩ := (I.keep cd).hdCell hd (k := 1) (P := namesT d.holds) (by omega) rfl
    rw [show ldC (hp w.drew g) (0 + 9) = _ from hb] at hl; cases hl
    obtain ⟨A, ca, rfl, hR⟩ := names_sh ⟨_, hv⟩
    simp -implicitDefEqProofs only [L31_0, zS, aj, af, h6, aC, eqf k3, eqf k4, q, fa_81_1, ld_79, show ldC (hp w b) (n.toNat * 2 + 1) = _ from hld, ldn _ h9d]
    refine (c_nContains (c := ca) hR (by omega) (nmOf h)).mono ?_
    rintro _ w1 ⟨rfl, c1⟩
    have c01 := cd.trans c1
    rw [dv, if_neg k3, if_neg k4, if_pos k5]
    cases hh : holdsV d h with
    | true =>
      have hh' : decide (nmOf h ∈ d.holds) = true := hh
      simp -implicitDefEqProofs only [zS, hh', if_true]
      exact ⟨by first | rfl | trivial, F, I.keep c01, (UpdP.of0 (hc.trans c01))⟩
    | false =>
      have hh' : decide (nmOf h ∈ d.holds) = false := hh
      have c02 : Chg [] w w1.drew := c01.drew
      obtain ⟨b', c', v, Fk, hl, _, _, _, _, hld, hv, hst⟩ := (I.keep c02).hdCell hd (k := 1) (P := namesT d.holds) (by omega) rfl
      rw [aV c02 hb] at hl; cases hl
      have h91 : hp w1.drew g9 = some (.cells (nmC (nmOf h)).toArray 84) := c01.at h9 (by simp)
      simp -implicitDefEqProofs only [zS, hh', fa_81_1, ld_79, show ldC (hp w1 b) (n.toNat * 2 + 1) = _ from hld, ldn _ h91, Bool.false_eq_true, if_false]
      obtain ⟨hown, _⟩ := flat_own hv
      refine ps_79 (by simp) hown (by omega) (Nat.zero_le _) fun x' w2 ho hg hnb => ?_
      rw [show d.holds.flatMap nmC ++ [Value.int .i64 (nmOf h).1, Value.int .i64 (nmOf h).2] = (d.holds ++ [nmOf h]).flatMap nmC by simp [nmC]] at ho
      have hv' : isRow 84 2 d.holds.length ((d.holds.flatMap nmC).map isV) w1.drew Fk v := hv
      obtain ⟨F2, hr2, hu2⟩ := flat_grown (vs := nmC (nmOf h)) hv' (by simpa [nmC] using ho) hg hnb
      have hr2' : namesT (d.holds ++ [nmOf h]) w2 F2 x' := by
        rw [namesT, List.length_append]
        have e : (d.holds ++ [nmOf h]).flatMap nmC = d.holds.flatMap nmC ++ nmC (nmOf h) := by simp
        rw [e]; exact hr2
      obtain ⟨ok2, F3, h3, h4⟩ := hst w2 F2 (namesT (d.holds ++ [nmOf h])) x' { d with holds := d.holds ++ [nmOf h] } hu2 (good_names _) hr2' rfl
      have one := (good_names _).one hr2'
      rw [st_79 (o := n.toNat * 2 + 1) one.1 one.2 ok2]
      exact ⟨by first | rfl | trivial, F3, h3, h4.pre (hc.trans c02)⟩
  by_cases k7 : o.1 = 7
  · have q : (o.1 == 7) = true := by rw [k7]; rfl
    obtain ⟨t1, t2⟩ := touch_ok hr (by omega) (by omega)
    have cw := c_mWord (I.keep cd) Wm hK t1 n0 t2
    simp -implicitDefEqProofs only [L31_0, zS, aj, aN, bn, af, ld_26, h6, h6d, aC, op_3, op_4, eqf k3, eqf k4, eqf k5, q, ldh _ h7d]
    rw [dv, if_neg k3, if_neg k4, if_neg k5, if_pos k7]
    repeat' (with_reducible apply And.intro)
    all_goals
      refine cw.mono ?_
      rintro _ w3 ⟨g2, j, rfl, c3, hw⟩
      have A := hw w3 c3
      have h63 := (cd.trans c3).at h6 (by simp)
      simp -implicitDefEqProofs only [zS, ld_26, h63, op_4]
      rw [st_26 rfl rfl A.ok]
      obtain ⟨F1, h1, h2⟩ := A.st o.2.2.2.2.1
      exact ⟨by first | rfl | trivial, F1, h1, h2.pre (hc.trans (cd.trans c3))⟩
  by_cases k8 : o.1 = 8
  · have q : (o.1 == 8) = true := by rw [k8]; rfl
    obtain ⟨t1, t2⟩ := touch_ok hr (by omega) (by omega)
    have cw := c_mWord (I.keep cd) Wm hK t1 n0 t2
    simp -implicitDefEqProofs only [L31_0, zS, aj, aN, bn, af, ld_26, h6, h6d, aC, op_3, op_4, eqf k3, eqf k4, eqf k5, eqf k7, q, ldh _ h7d]
    rw [dv, if_neg k3, if_neg k4, if_neg k5, if_neg k7, if_pos k8]
    repeat' (with_reducible apply And.intro)
    all_goals
      refine cw.mono ?_
      rintro _ w3 ⟨g2, j, rfl, c3, hw⟩
      have A := hw w3 c3
      have h63 := (cd.trans c3).at h6 (by simp)
      simp -implicitDefEqProofs only [zS, ld_26, h63, op_4, A.ld, aA]
      rw [st_26 rfl rfl A.ok]
      obtain ⟨F1, h1, h2⟩ := A.st (IntKind.u64.wrap (wordV m h o.2.2.2.1 + o.2.2.2.2.1))
      exact ⟨by first | rfl | trivial, F1, h1, h2.pre (hc.trans (cd.trans c3))⟩
  by_cases k9 : o.1 = 9
  · have q : (o.1 == 9) = true := by rw [k9]; rfl
    obtain ⟨t1, t2⟩ := touch_ok hr (by omega) (by omega)
    simp -implicitDefEqProofs only [L31_0, zS, aj, aN, bn, af, ld_26, h6, aC, op_3, eqf k3, eqf k4, eqf k5, eqf k7, eqf k8, q, ldh _ h7]
    rw [dv, if_neg k3, if_neg k4, if_neg k5, if_neg k7, if_neg k8, if_pos k9]
    refine (c_mWord I Wm hK t1 n0 t2).mono ?_
    rintro _ w3 ⟨g2, j, rfl, c3, hw⟩
    have c3d : Chg [] w w3.drew := c3.drew
    have A := hw w3.drew c3d
    have h63 := c3.at h6 (by simp)
    by_cases hv : wordV m h o.2.2.2.1 = o.2.2.2.2.1
    · have e : (wordV m h o.2.2.2.1 == o.2.2.2.2.1) = true := by rw [hv]; exact beq_self_eq_true _
      simp -implicitDefEqProofs only [zS, ld_26, bn, fa_39_5, h63, op_4, op_5, show ldC (hp w3 g2) j = _ from A.ld, e]
      rw [st_26 rfl rfl A.ok, if_pos hv]
      obtain ⟨F1, h1, h2⟩ := A.st o.2.2.2.2.2
      exact ⟨by first | rfl | trivial, F1, h1, h2.pre (hc.trans c3d)⟩
    · simp -implicitDefEqProofs only [zS, ld_26, bn, h63, op_4, show ldC (hp w3 g2) j = _ from A.ld, eqf hv]
      rw [if_neg hv]
      exact ⟨by first | rfl | trivial, F, I.keep c3d, UpdP.of0 (hc.trans c3d)⟩
  by_cases k10 : o.1 = 10
  · have q : (o.1 == 10) = true := by rw [k10]; rfl
    obtain ⟨i, r, hf, hri, hnm, hlv⟩ := region_ok hr (by omega)
    obtain ⟨s0, s1, s2⟩ := slots_at hlv
    have s2' : m.slots[h.1.toNat]? = some (1, h.2.1) := s2
    have s0' : 0 ≤ h.1 := s0
    have s1' : h.1 < m.slots.length := s1
    obtain ⟨b1, c1, hl, ok, F1, h1, h2⟩ := (I.keep cd).slotSet s2' (p' := (2, h.2.1)) (k := 0) (x := 2) (by omega) rfl
    have ia := ia_70 (b := b1) (p := 0) (n := m.slots.length) (c := c1) (j := .i64) (i := h.1) (by omega) (by omega)
    rw [Nat.zero_add] at ia
    have e0 : (hnC h).toArray[0 + 0]? = some (.int .i64 h.1) := rfl
    simp -implicitDefEqProofs only [L31_0, zS, aj, af, h6, aC, eqf k3, eqf k4, eqf k5, eqf k7, eqf k8, eqf k9, q, fa_74_2, ld_70, show ldC (hp w g) (0 + 7) = _ from hl, ba, h7, e0, ia, fa_77_0]
    rw [st_3 (o := h.1.toNat * 2 + 0) rfl rfl ok, dv, if_neg k3, if_neg k4, if_neg k5, if_neg k7, if_neg k8, if_neg k9, if_pos k10, s2']
    have u1 := h2.pre (hc.trans cd)
    have h71 : hp (put w.drew b1 ((getC (hp w.drew b1)).setIfInBounds (h.1.toNat * 2 + 0) (.int .i64 2)) (getE (hp w.drew b1))) g7 = some (.cells (hnC h).toArray 25) := by
      rw [ax]
      · exact h7
      · intro e
        subst e
        rw [show hp w.drew g7 = _ from h7, okC_some, decide_eq_true_eq] at ok
        obtain ⟨sv, _, _, M⟩ := I.rd
        obtain ⟨A', c', hs', hR'⟩ := slots_sh M.sT
        have hsl := M.sl
        rw [show ldC (hp w g) (0 + 7) = _ from hl] at hsl
        cases hsl
        cases hs'
        have hown := (flat_own M.sT.choose_spec).1
        rcases hown.2 with ⟨hx, _⟩ | ⟨gg, cap, cur, hx, _, hgg, _⟩
        · cases hx
        · cases hx
          have h7' : w.heap[g7]? = some (.cells (hnC h).toArray 25) := h7
          rw [h7'] at hgg
          cases hgg
    generalize put w.drew b1 ((getC (hp w.drew b1)).setIfInBounds (h.1.toNat * 2 + 0) (.int .i64 2)) (getE (hp w.drew b1)) = w1 at *
    obtain ⟨_, _, _, M1⟩ := h1.rd
    have ml := M1.l
    by_cases hlo : m.loose = true
    · rw [show ({ m with slots := m.slots.set h.1.toNat (2, h.2.1) } : MdV).loose = true from hlo] at ml
      have cd1 : Chg [] w1 w1.drew := (Chg.refl _ _).drew
      have s3 : ({ m with slots := m.slots.set h.1.toNat (2, h.2.1) } : MdV).slots[h.1.toNat]? = some (2, h.2.1) := by
        show (m.slots.set _ _)[_]? = _
        rw [List.getElem?_set, if_pos rfl, if_pos (List.getElem?_eq_some_iff.1 s2').1]
      obtain ⟨b2, c2, hl2, ok2, F2, h3, h4⟩ := (h1.keep cd1).slotSet s3 (p' := (0, h.2.1)) (k := 0) (x := 0) (by omega) rfl
      have hln : ({ m with slots := m.slots.set h.1.toNat (2, h.2.1) } : MdV).slots.length = m.slots.length := by simp
      rw [hln] at hl2
      have ia2 := ia_70 (b := b2) (p := 0) (n := m.slots.length) (c := c2) (j := .i64) (i := h.1) (by omega) (by omega)
      rw [Nat.zero_add] at ia2
      simp -implicitDefEqProofs only [zS, fa_74_1, fa_74_2, ld_4, ml, ld_70, show ldC (hp w1 g) (0 + 7) = _ from hl2, ba, af, h71, e0, ia2, fa_77_0, hlo, if_true]
      rw [st_3 (o := h.1.toNat * 2 + 0) rfl rfl ok2]
      have e2 : ({ m with slots := m.slots.set h.1.toNat (0, h.2.1) } : MdV) = { ({ m with slots := m.slots.set h.1.toNat (2, h.2.1) } : MdV) with slots := ({ m with slots := m.slots.set h.1.toNat (2, h.2.1) } : MdV).slots.set h.1.toNat (0, h.2.1) } := by simp [List.set_set]
      rw [← e2, hlo] at h3
      exact ⟨by first | rfl | trivial, F2, h3, u1.trans (h4.pre cd1)⟩
    · have hlf : m.loose = false := by simpa using hlo
      rw [show ({ m with slots := m.slots.set h.1.toNat (2, h.2.1) } : MdV).loose = false from hlf] at ml
      simp -implicitDefEqProofs only [zS, fa_74_1, ld_4, ml, hlf, Bool.false_eq_true, if_false]
      rw [hlf] at h1
      exact ⟨by first | rfl | trivial, F1, h1, u1⟩
  · simp -implicitDefEqProofs only [L31_0, zS, aj, af, h6, aC, eqf k3, eqf k4, eqf k5, eqf k7, eqf k8, eqf k9, eqf k10]
    rw [dv, if_neg k3, if_neg k4, if_neg k5, if_neg k7, if_neg k8, if_neg k9, if_neg k10]
    exact ⟨by first | rfl | trivial, F, I, UpdP.of0 hc⟩
set_option maxHeartbeats 1000000 in
theorem c_mDoes (I : MdI w g m F) (Wm : Wf m K) (hK : K ≤ 1000000) (hm : mayV m n o = true) (hd : m.hands[n.toNat]? = some d) (hr : refusesV m d o h = 0) :
    CallR Tryz.prog 31 [.pointer (some ⟨g, 0, none⟩), .int .i64 n, .agg (opC o).toArray, .agg (hnC h).toArray] w fun v w' => v = .tuple #[] ∧ ∃ F', MdI w' g (doesV m n o h) F' ∧ UpdP F F' w w' := by
  apply F31_ok
  obtain ⟨n0, n1, n2⟩ := may_n hm
  simp -implicitDefEqProofs only [F31, aE, aB, ae]
  generalize hw : (w.alloc (.cells (opC o).toArray 39)).alloc _ = w1
  have c1 : Chg [] w w1 := by rw [← hw]; exact ((Chg.refl _ _).alloc _).alloc _
  have a6 : hp w1 w.heap.size = some (.cells (opC o).toArray 39) := by rw [← hw, ac, ae, if_neg (by omega), ac, if_pos rfl]
  have a7 : hp w1 (w.heap.size + 1) = some (.cells (hnC h).toArray 25) := by rw [← hw, ac, ae, if_pos rfl]
  clear hw
  generalize w.heap.size = g6 at *
  have ldh : ∀ w', hp w' (g6 + 1) = some (.cells (hnC h).toArray 25) → ldv Tryz.prog 25 (.pointer (some ⟨g6 + 1, 0, none⟩)) w' = some (.agg (hnC h).toArray) := fun w' hw => aG (t := 25) (c := (hnC h).toArray) ag_25 (show (Tryz.prog.info? 25).map (·.size) = some (hnC h).toArray.size from sz_25) hw
  obtain ⟨_, _, hv, M⟩ := I.rd
  obtain ⟨Fh, hF⟩ := M.hT
  obtain ⟨b, c, hx, _⟩ := hd_at hF hd
  have hb := M.hl
  rw [hx] at hb
  have cd : Chg [] w w1.drew := c1.drew
  have a7d : hp w1.drew (g6 + 1) = some (.cells (hnC h).toArray 25) := a7
  have hbd := fun w' (k : Chg [] w w') => aV k hb
  have ia := ia_72 (b := b) (p := 0) (n := m.hands.length) (c := c) (j := .i64) (i := n) (by omega) (by omega)
  rw [Nat.zero_add] at ia
  have nm : ∀ (w' : World) {K : Value → World → Prop}, (∀ w'', Chg [] w' w'' → K (.agg (nmC (nmOf h)).toArray) w'') → CallR Tryz.prog 49 [.agg (hnC h).toArray] w' K := fun w' K hk => (c_mNameOf h w').mono fun v w'' hv => by obtain ⟨rfl, hc⟩ := hv; exact hk w'' hc
  have tail : ∀ w3, Chg [] w1 w3 → ∀ t : Nat, w1.heap.size ≤ t → hp w3 t = some (.cells #[.int .i64 0, .int .i64 0] 84) →
      effu Tryz.prog (Instr.storeAt 84 (.pointer (some ⟨t, 0, none⟩)) (.agg (nmC (nmOf h)).toArray)) w3 fun w' =>
      P31_0 (.pointer (some ⟨g, 0, none⟩)) (.pointer (some ⟨g6, 0, none⟩)) (.pointer (some ⟨g6 + 1, 0, none⟩)) (.pointer (some ⟨b, n.toNat * 2, none⟩)) (.pointer (some ⟨t, 0, none⟩)) w' fun v w' => v = .tuple #[] ∧ ∃ F', MdI w' g (doesV m n o h) F' ∧ UpdP F F' w w' := by
    intro w3 c3 t hge ht
    rw [st_84 (by rfl) (by rfl) (by rw [ht]; rfl) (by rw [ht]; rfl), ht]
    simp -implicitDefEqProofs only [aD]
    have c4 : Chg [] w1 (put w3 t (nmC (nmOf h)).toArray 84) := c3.put (.inr hge) _ _
    have c04 := c1.trans c4
    exact l_does0 c04 (I.keep c04) Wm hK (c4.at a6 (by simp)) (c4.at a7 (by simp)) (ap (av ht) _ _) hd hr n2 (hbd _ c04)
  simp -implicitDefEqProofs only [zS, fa_74_4, ld_72, show ldC (hp w1 g) (0 + 9) = _ from hbd _ c1, ia, ldh _ a7d, al_84]
  repeat' (with_reducible apply And.intro)
  all_goals first
    | (refine nm _ ?_
       intro w3 c3
       have c13 : Chg [] w1 w3 := (((Chg.refl [] w1).drew).alloc _).trans c3
       try simp -implicitDefEqProofs only [zS, fa_74_4, ld_72, hbd _ (c1.trans c13), ia, al_84]
       exact tail w3 c13 _ (Nat.le_refl _) (c3.at (by rw [ac, if_pos rfl]) (by simp)))
    | (refine nm _ ?_
       intro w3 c3
       have c13 : Chg [] w1 w3 := ((Chg.refl [] w1).drew).trans c3
       try simp -implicitDefEqProofs only [zS, fa_74_4, ld_72, hbd _ (c1.trans c13), ia, al_84]
       exact tail _ (c13.alloc _) _ c13.size (by rw [ac, if_pos rfl]))
end
end Go.Proofs.YtgamnncehjcdiaaGreat

