/- Parts of the proof of ModelPlays, one behind the other. Conditions: none. -/
import Derived.Test.YtgamnncehjcdiaaChecked
import Derived.Eval
import Derived.Test.YtgamnncehjcdiaaZModelPlays9
set_option linter.unusedSimpArgs false
set_option linter.unusedVariables false
set_option maxRecDepth 100000
namespace Go.Proofs.Ytgamnncehjcdiaa
open Go Ev
noncomputable def C13 : Code := (Try.f13.body).getD .skip
noncomputable def H13 : Hints := ⟨[(11, [2, 7, 8, 9, 10])], [(12, [2, 7, 8, 9, 10]), (16, [2, 7, 8, 9, 10, 74]), (20, [2, 7, 8, 9, 10, 12, 13, 14, 15, 16]), (21, [2, 7, 8, 9, 10, 12, 13, 14, 15, 16, 17, 18]), (23, [2, 7, 8, 9, 10, 12, 13, 14])], [(15, (.ask 9 5 (.leaf [0, 1, 2, 4, 6, 7, 8, 10, 3, 9, 5, 11, 12]) (.leaf [0, 1, 2, 3, 4, 5, 6, 7, 8, 9, 10, 11, 12]))), (19, (.ask 11 7 (.leaf [0, 1, 2, 4, 3, 5, 6, 11, 7, 8, 9, 10, 12, 13]) (.leaf [0, 1, 2, 3, 4, 5, 6, 7, 8, 9, 10, 11, 12, 13]))), (20, (.ask 11 7 (.leaf [0, 1, 2, 4, 3, 5, 6, 11, 7, 8, 9, 10, 12, 13]) (.leaf [0, 1, 2, 3, 4, 5, 6, 7, 8, 9, 10, 11, 12, 13]))), (24, (.leaf [0, 1, 2, 3, 4, 5, 6, 7, 8, 9])), (25, (.leaf [0, 1, 2, 3, 4, 5, 6, 7, 8, 9, 10, 11, 12, 13, 14, 15, 16, 17])), (28, (.leaf [0, 1, 2, 3, 4, 5, 6, 7, 8, 9, 10, 11]))]⟩
noncomputable def T13_0 : List It := [.lp (nav [1, 1, 1, 1, 1, 1, 1, 0, 1, 4, 5] C13), .blk 0, .jn (nav [1, 1, 1, 1, 1, 1, 1, 1] C13)]
noncomputable def T13_1 : List It := [.jn (nav [1, 1, 1, 1, 1, 1, 1, 0, 1, 4, 5, 1, 0, 4, 0, 1, 2, 1, 0, 1] C13), .jn (nav [1, 1, 1, 1, 1, 1, 1, 0, 1, 4, 5, 1, 0, 4, 0, 1, 2, 1, 1] C13), .jn (nav [1, 1, 1, 1, 1, 1, 1, 0, 1, 4, 5, 1, 0, 4, 1] C13), .blk 1, .jn (nav [1, 1, 1, 1, 1, 1, 1, 0, 1, 4, 5, 1, 1] C13), .lp (nav [1, 1, 1, 1, 1, 1, 1, 0, 1, 4, 5] C13), .blk 0, .jn (nav [1, 1, 1, 1, 1, 1, 1, 1] C13)]
noncomputable def T13_2 : List It := [.jn (nav [1, 1, 1, 1, 1, 1, 1, 0, 1, 4, 5, 1, 0, 4, 1, 1, 0, 1, 2, 1] C13), .jn (nav [1, 1, 1, 1, 1, 1, 1, 0, 1, 4, 5, 1, 0, 4, 1, 1, 1] C13), .blk 1, .jn (nav [1, 1, 1, 1, 1, 1, 1, 0, 1, 4, 5, 1, 1] C13), .lp (nav [1, 1, 1, 1, 1, 1, 1, 0, 1, 4, 5] C13), .blk 0, .jn (nav [1, 1, 1, 1, 1, 1, 1, 1] C13)]
noncomputable def T13_3 : List It := [.jn (nav [1, 1, 1, 1, 1, 1, 1, 0, 1, 4, 5, 1, 0, 4, 1, 1, 1] C13), .blk 1, .jn (nav [1, 1, 1, 1, 1, 1, 1, 0, 1, 4, 5, 1, 1] C13), .lp (nav [1, 1, 1, 1, 1, 1, 1, 0, 1, 4, 5] C13), .blk 0, .jn (nav [1, 1, 1, 1, 1, 1, 1, 1] C13)]
noncomputable def T13_4 : List It := [.jn (nav [1, 1, 1, 1, 1, 1, 1, 0, 1, 4, 5, 1, 1] C13), .lp (nav [1, 1, 1, 1, 1, 1, 1, 0, 1, 4, 5] C13), .blk 0, .jn (nav [1, 1, 1, 1, 1, 1, 1, 1] C13)]
noncomputable def T13_5 : List It := [.jn (nav [1, 1, 1, 1, 1, 1, 1, 0, 1, 4, 5, 1, 0, 4, 1, 1, 0, 1, 2, 1, 1] C13), .jn (nav [1, 1, 1, 1, 1, 1, 1, 0, 1, 4, 5, 1, 0, 4, 1, 1, 1] C13), .blk 1, .jn (nav [1, 1, 1, 1, 1, 1, 1, 0, 1, 4, 5, 1, 1] C13), .lp (nav [1, 1, 1, 1, 1, 1, 1, 0, 1, 4, 5] C13), .blk 0, .jn (nav [1, 1, 1, 1, 1, 1, 1, 1] C13)]
def P13_0 (x2 x7 x8 x9 x10 : Value) (w : World) (Q : Value → World → Prop) : Prop := Part Try.prog 13 T13_0 [2, 7, 8, 9, 10] [x2, x7, x8, x9, x10] w Q
def P13_1 (x2 x7 x8 x9 x10 x74 : Value) (w : World) (Q : Value → World → Prop) : Prop := Part Try.prog 13 T13_1 [2, 7, 8, 9, 10, 74] [x2, x7, x8, x9, x10, x74] w Q
def P13_2 (x2 x7 x8 x9 x10 x12 x13 x14 x15 x16 : Value) (w : World) (Q : Value → World → Prop) : Prop := Part Try.prog 13 T13_2 [2, 7, 8, 9, 10, 12, 13, 14, 15, 16] [x2, x7, x8, x9, x10, x12, x13, x14, x15, x16] w Q
def P13_3 (x2 x7 x8 x9 x10 x12 x13 x14 : Value) (w : World) (Q : Value → World → Prop) : Prop := Part Try.prog 13 T13_3 [2, 7, 8, 9, 10, 12, 13, 14] [x2, x7, x8, x9, x10, x12, x13, x14] w Q
def P13_4 (x2 x7 x8 x9 x10 : Value) (w : World) (Q : Value → World → Prop) : Prop := Part Try.prog 13 T13_4 [2, 7, 8, 9, 10] [x2, x7, x8, x9, x10] w Q
def P13_5 (x2 x7 x8 x9 x10 x12 x13 x14 x15 x16 x17 x18 : Value) (w : World) (Q : Value → World → Prop) : Prop := Part Try.prog 13 T13_5 [2, 7, 8, 9, 10, 12, 13, 14, 15, 16, 17, 18] [x2, x7, x8, x9, x10, x12, x13, x14, x15, x16, x17, x18] w Q
def F13 (a0 a1 a2 : Value) (w : World) (Q : Value → World → Prop) : Prop :=
  CallR Try.prog 40 [] w fun t21 w =>
  wpB (pureRun Try.prog (Op.unary .not t21)) fun t23 =>
  cnd t23
  (Q (Go.Value.bool false) w)
  (wpB (pureRun Try.prog (Builtin.len_ #[23] 3 #[a2])) fun t25 =>
  wpB (bp Try.prog .gtr 3 t25 (Go.Value.int Go.IntKind.i64 400)) fun t26 =>
  cnd t26
  (Q t21 w)
  (CallR Try.prog 49 [a0] w fun t29 w =>
  CallR Try.prog 46 [t29, a1] w fun t31 w =>
  wpB (be Try.prog .eql 87 (.tmp 32) (.const (Go.Value.pointer none)) t31 (Go.Value.pointer none)) fun t33 =>
  cnd t33
  (Q (Go.Value.bool false) w)
  (wpB (pureRun Try.prog (Instr.build 100 #[(0, a2)])) fun t35 =>
  effv Try.prog (Instr.box 100 t35) w fun t36 w =>
  P13_0 a2 t21 t31 t36 (Go.Value.int Go.IntKind.i64 0) w Q)))
def L13_0 (x2 x7 x8 x9 x10 : Value) (w : World) (Q : Value → World → Prop) : Prop :=
  wpB (bp Try.prog .lss 3 x10 (Go.Value.int Go.IntKind.i64 60)) fun t38 =>
  wpB (gd t38 true (nilv (gv t38 true x9))) fun t41 =>
  wpB (gd t38 true (pureRun Try.prog (Instr.fieldAt 100 t41 1))) fun t42 =>
  wpB (gd t38 true (ldv Try.prog 3 t42 w)) fun t43 =>
  wpB (gd t38 true (pureRun Try.prog (Builtin.len_ #[23] 3 #[(gv t38 true x2)]))) fun t45 =>
  wpB (gd t38 true (bp Try.prog .lss 3 t43 t45)) fun t46 =>
  wpB (pickv t38 (some t46) (some (Go.Value.bool false))) fun t47 =>
  cnd t47
  (CallR Try.prog 50 [x9, (Go.Value.int Go.IntKind.i64 7)] w fun t51 w =>
  wpB (be Try.prog .eql 3 (.tmp 51) (.const (Go.Value.int Go.IntKind.i64 0)) t51 (Go.Value.int Go.IntKind.i64 0)) fun t52 =>
  cnd t52
  (wpB (nilv x8) fun t55 =>
  wpB (pureRun Try.prog (Instr.fieldAt 92 t55 0)) fun t56 =>
  wpB (pureRun Try.prog (Instr.fieldAt 74 t56 3)) fun t57 =>
  wpB (ldv Try.prog 3 t57 w) fun t58 =>
  wpB (bp Try.prog .add 3 t58 (Go.Value.int Go.IntKind.i64 2)) fun t59 =>
  CallR Try.prog 50 [x9, t59] w fun t60 w =>
  wpB (bp Try.prog .sub 3 t60 (Go.Value.int Go.IntKind.i64 1)) fun t61 =>
  (wpB (nilv x8) fun t63 =>
  wpB (pureRun Try.prog (Instr.fieldAt 92 t63 1)) fun t64 =>
  wpB (nilv x8) fun t69 =>
  wpB (pureRun Try.prog (Instr.fieldAt 92 t69 2)) fun t70 =>
  wpB (ldv Try.prog 75 t64 w.drew) fun t65 =>
  wpB (ldv Try.prog 89 t70 w.drew) fun t71 =>
  CallR Try.prog 47 [t65, t61] w.drew fun t67 w =>
  CallR Try.prog 51 [t71, t61] w fun t73 w =>
  wpB (be Try.prog .neq 4 (.tmp 67) (.tmp 73) t67 t73) fun t74 =>
  P13_1 x2 x7 x8 x9 x10 t74 w Q) ∧
  (wpB (nilv x8) fun t63_1 =>
  wpB (pureRun Try.prog (Instr.fieldAt 92 t63_1 1)) fun t64_1 =>
  wpB (ldv Try.prog 75 t64_1 w.drew) fun t65_1 =>
  CallR Try.prog 47 [t65_1, t61] w.drew fun t67_1 w =>
  wpB (nilv x8) fun t69_1 =>
  wpB (pureRun Try.prog (Instr.fieldAt 92 t69_1 2)) fun t70_1 =>
  wpB (ldv Try.prog 89 t70_1 w) fun t71_1 =>
  CallR Try.prog 51 [t71_1, t61] w fun t73_1 w =>
  wpB (be Try.prog .neq 4 (.tmp 67) (.tmp 73) t67_1 t73_1) fun t74_1 =>
  P13_1 x2 x7 x8 x9 x10 t74_1 w Q))
  (CallR Try.prog 52 [x8, x9] w fun t78 w =>
  wpB (pureRun Try.prog (Instr.extract t78 0)) fun t79 =>
  wpB (pureRun Try.prog (Instr.extract t78 1)) fun t80 =>
  wpB (pureRun Try.prog (Instr.extract t78 2)) fun t81 =>
  effv Try.prog (Instr.alloc 40 true (.tuple #[])) w fun t13 w =>
  effv Try.prog (Instr.alloc 51 true (.tuple #[])) w fun t14 w =>
  effu Try.prog (Instr.storeAt 40 t13 t80) w fun w =>
  effu Try.prog (Instr.storeAt 51 t14 t81) w fun w =>
  wpB (bp Try.prog .geq 3 t79 (Go.Value.int Go.IntKind.i64 0)) fun t83 =>
  wpB (gd t83 true (nilv (gv t83 true x8))) fun t87 =>
  wpB (gd t83 true (pureRun Try.prog (Instr.fieldAt 92 t87 0))) fun t88 =>
  wpB (gd t83 true (pureRun Try.prog (Instr.fieldAt 74 t88 0))) fun t89 =>
  wpB (gd t83 true (ldv Try.prog 3 t89 w)) fun t90 =>
  wpB (gd t83 true (bp Try.prog .lss 3 (gv t83 true t79) t90)) fun t91 =>
  wpB (pickv t83 (some t91) (some (Go.Value.bool false))) fun t92 =>
  wpB (gd t92 true (ldv Try.prog 40 t13 w)) fun t94 =>
  gE t92 true (CallR Try.prog 53 [t94] w) (fun t95 w =>
  wpB (pickv t92 (some t95) (some (Go.Value.bool false))) fun t96 =>
  cnd t96
  ((wpB (nilv x8) fun t99 =>
  wpB (pureRun Try.prog (Instr.fieldAt 92 t99 1)) fun t100 =>
  wpB (ldv Try.prog 75 t100 w.drew) fun t101 =>
  wpB (ldv Try.prog 40 t13 w.drew) fun t103 =>
  wpB (ldv Try.prog 51 t14 w.drew) fun t104 =>
  effv Try.prog (Instr.alloc 53 true (.tuple #[])) w.drew fun t15 w =>
  CallR Try.prog 45 [t101, t79, t103, t104] w fun t105 w =>
  wpB (pureRun Try.prog (Instr.extract t105 0)) fun t106 =>
  wpB (pureRun Try.prog (Instr.extract t105 1)) fun t107 =>
  effu Try.prog (Instr.storeAt 53 t15 t106) w fun w =>
  P13_2 x2 x7 x8 x9 x10 t79 t13 t14 t15 t107 w Q) ∧
  (wpB (nilv x8) fun t99_1 =>
  wpB (pureRun Try.prog (Instr.fieldAt 92 t99_1 1)) fun t100_1 =>
  wpB (ldv Try.prog 75 t100_1 w.drew) fun t101_1 =>
  wpB (ldv Try.prog 40 t13 w.drew) fun t103_1 =>
  wpB (ldv Try.prog 51 t14 w.drew) fun t104_1 =>
  CallR Try.prog 45 [t101_1, t79, t103_1, t104_1] w.drew fun t105_1 w =>
  wpB (pureRun Try.prog (Instr.extract t105_1 0)) fun t106_1 =>
  wpB (pureRun Try.prog (Instr.extract t105_1 1)) fun t107_1 =>
  effv Try.prog (Instr.alloc 53 true (.tuple #[])) w fun t15_1 w =>
  effu Try.prog (Instr.storeAt 53 t15_1 t106_1) w fun w =>
  P13_2 x2 x7 x8 x9 x10 t79 t13 t14 t15_1 t107_1 w Q))
  (P13_3 x2 x7 x8 x9 x10 t79 t13 t14 w Q)) w))
  (Q x7 w)
def L13_1 (x2 x7 x8 x9 x10 x74 : Value) (w : World) (Q : Value → World → Prop) : Prop :=
  cnd x74
  (Q (Go.Value.bool false) w)
  (P13_4 x2 x7 x8 x9 x10 w Q)
def L13_2 (x2 x7 x8 x9 x10 x12 x13 x14 x15 x16 : Value) (w : World) (Q : Value → World → Prop) : Prop :=
  (wpB (nilv x8) fun t110 =>
  wpB (pureRun Try.prog (Instr.fieldAt 92 t110 2)) fun t111 =>
  wpB (ldv Try.prog 89 t111 w.drew) fun t112 =>
  wpB (ldv Try.prog 40 x13 w.drew) fun t114 =>
  wpB (ldv Try.prog 51 x14 w.drew) fun t115 =>
  effv Try.prog (Instr.alloc 53 true (.tuple #[])) w.drew fun t17 w =>
  CallR Try.prog 54 [t112, x12, t114, t115] w fun t116 w =>
  wpB (pureRun Try.prog (Instr.extract t116 0)) fun t117 =>
  wpB (pureRun Try.prog (Instr.extract t116 1)) fun t118 =>
  effu Try.prog (Instr.storeAt 53 t17 t117) w fun w =>
  P13_5 x2 x7 x8 x9 x10 x12 x13 x14 x15 x16 t17 t118 w Q) ∧
  (wpB (nilv x8) fun t110_1 =>
  wpB (pureRun Try.prog (Instr.fieldAt 92 t110_1 2)) fun t111_1 =>
  wpB (ldv Try.prog 89 t111_1 w.drew) fun t112_1 =>
  wpB (ldv Try.prog 40 x13 w.drew) fun t114_1 =>
  wpB (ldv Try.prog 51 x14 w.drew) fun t115_1 =>
  CallR Try.prog 54 [t112_1, x12, t114_1, t115_1] w.drew fun t116_1 w =>
  wpB (pureRun Try.prog (Instr.extract t116_1 0)) fun t117_1 =>
  wpB (pureRun Try.prog (Instr.extract t116_1 1)) fun t118_1 =>
  effv Try.prog (Instr.alloc 53 true (.tuple #[])) w fun t17_1 w =>
  effu Try.prog (Instr.storeAt 53 t17_1 t117_1) w fun w =>
  P13_5 x2 x7 x8 x9 x10 x12 x13 x14 x15 x16 t17_1 t118_1 w Q)
def L13_3 (x2 x7 x8 x9 x10 x12 x13 x14 : Value) (w : World) (Q : Value → World → Prop) : Prop :=
  wpB (ldv Try.prog 40 x13 w) fun t130 =>
  wpB (ldv Try.prog 51 x14 w) fun t131 =>
  CallR Try.prog 55 [x8, x9, x12, t130, t131] w fun t132 w =>
  effv Try.prog (Instr.alloc 53 true (.tuple #[])) w fun t19 w =>
  effu Try.prog (Instr.storeAt 53 t19 t132) w fun w =>
  wpB (nilv x8) fun t134 =>
  wpB (pureRun Try.prog (Instr.fieldAt 92 t134 2)) fun t135 =>
  wpB (ldv Try.prog 89 t135 w.drew) fun t136 =>
  wpB (ldv Try.prog 40 x13 w.drew) fun t138 =>
  wpB (ldv Try.prog 51 x14 w.drew) fun t139 =>
  wpB (ldv Try.prog 53 t19 w.drew) fun t140 =>
  CallR Try.prog 56 [t136, x12, t138, t139, t140] w.drew fun t141 w =>
  wpB (nilv x8) fun t143 =>
  wpB (pureRun Try.prog (Instr.fieldAt 92 t143 1)) fun t144 =>
  wpB (ldv Try.prog 75 t144 w.drew) fun t145 =>
  wpB (ldv Try.prog 40 x13 w.drew) fun t147 =>
  wpB (ldv Try.prog 51 x14 w.drew) fun t148 =>
  wpB (ldv Try.prog 53 t19 w.drew) fun t149 =>
  CallR Try.prog 57 [t145, x12, t147, t148, t149] w.drew fun t150 w =>
  wpB (be Try.prog .neq 4 (.tmp 150) (.tmp 151) t150 t141) fun t152 =>
  wpB (gd t152 false (ldv Try.prog 51 x14 w)) fun t155 =>
  gE t152 false (CallR Try.prog 58 [(gv t152 false x8), t155, (gv t152 false x12)] w) (fun t157 w =>
  wpB (gd t152 false (pureRun Try.prog (Op.unary .not t157))) fun t158 =>
  wpB (pickv t152 (some (Go.Value.bool true)) (some t158)) fun t159 =>
  cnd t159
  (Q (Go.Value.bool false) w)
  (wpB (gd t141 true (pureRun Try.prog (Instr.fieldAt 53 t19 1))) fun t162 =>
  wpB (gd t141 true (pureRun Try.prog (Instr.fieldAt 51 t162 1))) fun t163 =>
  wpB (gd t141 true (ldv Try.prog 3 t163 w)) fun t164 =>
  wpB (gd t141 true (bp Try.prog .gtr 3 t164 (Go.Value.int Go.IntKind.i64 0))) fun t165 =>
  wpB (pickv t141 (some t165) (some (Go.Value.bool false))) fun t166 =>
  cnd t166
  (wpB (nilv x8) fun t169 =>
  wpB (pureRun Try.prog (Instr.fieldAt 92 t169 3)) fun t170 =>
  wpB (ldv Try.prog 90 t170 w.drew) fun t171 =>
  wpB (pureRun Try.prog (Instr.fieldAt 53 t19 1)) fun t172 =>
  wpB (ldv Try.prog 51 t172 w.drew) fun t173 =>
  effv Try.prog (Instr.buildSlice 90 1 #[(0, t173)]) w.drew fun t174 w =>
  effv Try.prog (Builtin.append_ #[90, 90] 90 #[t171, t174]) w fun t175 w =>
  wpB (nilv x8) fun t176 =>
  wpB (pureRun Try.prog (Instr.fieldAt 92 t176 3)) fun t177 =>
  effu Try.prog (Instr.storeAt 90 t177 t175) w fun w =>
  P13_4 x2 x7 x8 x9 x10 w Q)
  (P13_4 x2 x7 x8 x9 x10 w Q))) w
def L13_4 (x2 x7 x8 x9 x10 : Value) (w : World) (Q : Value → World → Prop) : Prop :=
  wpB (bp Try.prog .add 3 x10 (Go.Value.int Go.IntKind.i64 1)) fun t49 =>
  P13_0 x2 x7 x8 x9 t49 w Q
def L13_5 (x2 x7 x8 x9 x10 x12 x13 x14 x15 x16 x17 x18 : Value) (w : World) (Q : Value → World → Prop) : Prop :=
  wpB (ldv Try.prog 53 x15 w) fun t119 =>
  wpB (ldv Try.prog 53 x17 w) fun t120 =>
  wpB (be Try.prog .neq 53 (.tmp 119) (.tmp 120) t119 t120) fun t121 =>
  wpB (gd t121 false (be Try.prog .neq 4 (.tmp 123) (.tmp 124) (gv t121 false x16) (gv t121 false x18))) fun t125 =>
  wpB (pickv t121 (some (Go.Value.bool true)) (some t125)) fun t126 =>
  cnd t126
  (Q (Go.Value.bool false) w)
  (P13_3 x2 x7 x8 x9 x10 x12 x13 x14 w Q)
theorem F13_ok {a0 a1 a2 : Value} {w : World} {Q : Value → World → Prop} (h : F13 a0 a1 a2 w Q) : CallR Try.prog 13 [a0, a1, a2] w Q :=
  have e : evC Try.prog (entR 3 143) 13 179 H13 Q C13 [] (entryE 0 [a0, a1, a2]) w (contT Try.prog (entR 3 143) 13 179 H13 Try.f13.results.toList Q []) = F13 a0 a1 a2 w Q := by kernel_rfl
  bt (fn := Try.f13) mixed bn Try.func13 (c := C13) rfl H13 (Nat.le_of_ble_eq_true rfl) (e.mpr h)
theorem L13_0_ok {x2 x7 x8 x9 x10 : Value} {w : World} {Q : Value → World → Prop} (h : L13_0 x2 x7 x8 x9 x10 w Q) : P13_0 x2 x7 x8 x9 x10 w Q :=
  have e : evC Try.prog (entR 3 143) 13 179 H13 Q (nav [1, 1, 1, 1, 1, 1, 1, 0, 1, 4, 5] C13) T13_0 (unpack [2, 7, 8, 9, 10] [x2, x7, x8, x9, x10]) w (contT Try.prog (entR 3 143) 13 179 H13 Try.f13.results.toList Q T13_0) = L13_0 x2 x7 x8 x9 x10 w Q := by kernel_rfl
  part_lp (fn := Try.f13) mixed bn Try.func13 H13 (c := (nav [1, 1, 1, 1, 1, 1, 1, 0, 1, 4, 5] C13)) (t := [.blk 0, .jn (nav [1, 1, 1, 1, 1, 1, 1, 1] C13)]) (e.mpr h)
theorem L13_1_ok {x2 x7 x8 x9 x10 x74 : Value} {w : World} {Q : Value → World → Prop} (h : L13_1 x2 x7 x8 x9 x10 x74 w Q) : P13_1 x2 x7 x8 x9 x10 x74 w Q :=
  have e : evC Try.prog (entR 3 143) 13 179 H13 Q (nav [1, 1, 1, 1, 1, 1, 1, 0, 1, 4, 5, 1, 0, 4, 0, 1, 2, 1, 0, 1] C13) [.jn (nav [1, 1, 1, 1, 1, 1, 1, 0, 1, 4, 5, 1, 0, 4, 0, 1, 2, 1, 1] C13), .jn (nav [1, 1, 1, 1, 1, 1, 1, 0, 1, 4, 5, 1, 0, 4, 1] C13), .blk 1, .jn (nav [1, 1, 1, 1, 1, 1, 1, 0, 1, 4, 5, 1, 1] C13), .lp (nav [1, 1, 1, 1, 1, 1, 1, 0, 1, 4, 5] C13), .blk 0, .jn (nav [1, 1, 1, 1, 1, 1, 1, 1] C13)] (unpack [2, 7, 8, 9, 10, 74] [x2, x7, x8, x9, x10, x74]) w (contT Try.prog (entR 3 143) 13 179 H13 Try.f13.results.toList Q [.jn (nav [1, 1, 1, 1, 1, 1, 1, 0, 1, 4, 5, 1, 0, 4, 0, 1, 2, 1, 1] C13), .jn (nav [1, 1, 1, 1, 1, 1, 1, 0, 1, 4, 5, 1, 0, 4, 1] C13), .blk 1, .jn (nav [1, 1, 1, 1, 1, 1, 1, 0, 1, 4, 5, 1, 1] C13), .lp (nav [1, 1, 1, 1, 1, 1, 1, 0, 1, 4, 5] C13), .blk 0, .jn (nav [1, 1, 1, 1, 1, 1, 1, 1] C13)]) = L13_1 x2 x7 x8 x9 x10 x74 w Q := by kernel_rfl
  bx (fn := Try.f13) mixed bn Try.func13 H13 (c := (nav [1, 1, 1, 1, 1, 1, 1, 0, 1, 4, 5, 1, 0, 4, 0, 1, 2, 1, 0, 1] C13)) (t := [.jn (nav [1, 1, 1, 1, 1, 1, 1, 0, 1, 4, 5, 1, 0, 4, 0, 1, 2, 1, 1] C13), .jn (nav [1, 1, 1, 1, 1, 1, 1, 0, 1, 4, 5, 1, 0, 4, 1] C13), .blk 1, .jn (nav [1, 1, 1, 1, 1, 1, 1, 0, 1, 4, 5, 1, 1] C13), .lp (nav [1, 1, 1, 1, 1, 1, 1, 0, 1, 4, 5] C13), .blk 0, .jn (nav [1, 1, 1, 1, 1, 1, 1, 1] C13)]) (e.mpr h)
theorem L13_2_ok {x2 x7 x8 x9 x10 x12 x13 x14 x15 x16 : Value} {w : World} {Q : Value → World → Prop} (h : L13_2 x2 x7 x8 x9 x10 x12 x13 x14 x15 x16 w Q) : P13_2 x2 x7 x8 x9 x10 x12 x13 x14 x15 x16 w Q :=
  have e : evC Try.prog (entR 3 143) 13 179 H13 Q (nav [1, 1, 1, 1, 1, 1, 1, 0, 1, 4, 5, 1, 0, 4, 1, 1, 0, 1, 2, 1] C13) [.jn (nav [1, 1, 1, 1, 1, 1, 1, 0, 1, 4, 5, 1, 0, 4, 1, 1, 1] C13), .blk 1, .jn (nav [1, 1, 1, 1, 1, 1, 1, 0, 1, 4, 5, 1, 1] C13), .lp (nav [1, 1, 1, 1, 1, 1, 1, 0, 1, 4, 5] C13), .blk 0, .jn (nav [1, 1, 1, 1, 1, 1, 1, 1] C13)] (unpack [2, 7, 8, 9, 10, 12, 13, 14, 15, 16] [x2, x7, x8, x9, x10, x12, x13, x14, x15, x16]) w (contT Try.prog (entR 3 143) 13 179 H13 Try.f13.results.toList Q [.jn (nav [1, 1, 1, 1, 1, 1, 1, 0, 1, 4, 5, 1, 0, 4, 1, 1, 1] C13), .blk 1, .jn (nav [1, 1, 1, 1, 1, 1, 1, 0, 1, 4, 5, 1, 1] C13), .lp (nav [1, 1, 1, 1, 1, 1, 1, 0, 1, 4, 5] C13), .blk 0, .jn (nav [1, 1, 1, 1, 1, 1, 1, 1] C13)]) = L13_2 x2 x7 x8 x9 x10 x12 x13 x14 x15 x16 w Q := by kernel_rfl
  bx (fn := Try.f13) mixed bn Try.func13 H13 (c := (nav [1, 1, 1, 1, 1, 1, 1, 0, 1, 4, 5, 1, 0, 4, 1, 1, 0, 1, 2, 1] C13)) (t := [.jn (nav [1, 1, 1, 1, 1, 1, 1, 0, 1, 4, 5, 1, 0, 4, 1, 1, 1] C13), .blk 1, .jn (nav [1, 1, 1, 1, 1, 1, 1, 0, 1, 4, 5, 1, 1] C13), .lp (nav [1, 1, 1, 1, 1, 1, 1, 0, 1, 4, 5] C13), .blk 0, .jn (nav [1, 1, 1, 1, 1, 1, 1, 1] C13)]) (e.mpr h)
theorem L13_3_ok {x2 x7 x8 x9 x10 x12 x13 x14 : Value} {w : World} {Q : Value → World → Prop} (h : L13_3 x2 x7 x8 x9 x10 x12 x13 x14 w Q) : P13_3 x2 x7 x8 x9 x10 x12 x13 x14 w Q :=
  have e : evC Try.prog (entR 3 143) 13 179 H13 Q (nav [1, 1, 1, 1, 1, 1, 1, 0, 1, 4, 5, 1, 0, 4, 1, 1, 1] C13) [.blk 1, .jn (nav [1, 1, 1, 1, 1, 1, 1, 0, 1, 4, 5, 1, 1] C13), .lp (nav [1, 1, 1, 1, 1, 1, 1, 0, 1, 4, 5] C13), .blk 0, .jn (nav [1, 1, 1, 1, 1, 1, 1, 1] C13)] (unpack [2, 7, 8, 9, 10, 12, 13, 14] [x2, x7, x8, x9, x10, x12, x13, x14]) w (contT Try.prog (entR 3 143) 13 179 H13 Try.f13.results.toList Q [.blk 1, .jn (nav [1, 1, 1, 1, 1, 1, 1, 0, 1, 4, 5, 1, 1] C13), .lp (nav [1, 1, 1, 1, 1, 1, 1, 0, 1, 4, 5] C13), .blk 0, .jn (nav [1, 1, 1, 1, 1, 1, 1, 1] C13)]) = L13_3 x2 x7 x8 x9 x10 x12 x13 x14 w Q := by kernel_rfl
  bx (fn := Try.f13) mixed bn Try.func13 H13 (c := (nav [1, 1, 1, 1, 1, 1, 1, 0, 1, 4, 5, 1, 0, 4, 1, 1, 1] C13)) (t := [.blk 1, .jn (nav [1, 1, 1, 1, 1, 1, 1, 0, 1, 4, 5, 1, 1] C13), .lp (nav [1, 1, 1, 1, 1, 1, 1, 0, 1, 4, 5] C13), .blk 0, .jn (nav [1, 1, 1, 1, 1, 1, 1, 1] C13)]) (e.mpr h)
theorem L13_4_ok {x2 x7 x8 x9 x10 : Value} {w : World} {Q : Value → World → Prop} (h : L13_4 x2 x7 x8 x9 x10 w Q) : P13_4 x2 x7 x8 x9 x10 w Q :=
  have e : evC Try.prog (entR 3 143) 13 179 H13 Q (nav [1, 1, 1, 1, 1, 1, 1, 0, 1, 4, 5, 1, 1] C13) [.lp (nav [1, 1, 1, 1, 1, 1, 1, 0, 1, 4, 5] C13), .blk 0, .jn (nav [1, 1, 1, 1, 1, 1, 1, 1] C13)] (unpack [2, 7, 8, 9, 10] [x2, x7, x8, x9, x10]) w (contT Try.prog (entR 3 143) 13 179 H13 Try.f13.results.toList Q [.lp (nav [1, 1, 1, 1, 1, 1, 1, 0, 1, 4, 5] C13), .blk 0, .jn (nav [1, 1, 1, 1, 1, 1, 1, 1] C13)]) = L13_4 x2 x7 x8 x9 x10 w Q := by kernel_rfl
  bx (fn := Try.f13) mixed bn Try.func13 H13 (c := (nav [1, 1, 1, 1, 1, 1, 1, 0, 1, 4, 5, 1, 1] C13)) (t := [.lp (nav [1, 1, 1, 1, 1, 1, 1, 0, 1, 4, 5] C13), .blk 0, .jn (nav [1, 1, 1, 1, 1, 1, 1, 1] C13)]) (e.mpr h)
theorem L13_5_ok {x2 x7 x8 x9 x10 x12 x13 x14 x15 x16 x17 x18 : Value} {w : World} {Q : Value → World → Prop} (h : L13_5 x2 x7 x8 x9 x10 x12 x13 x14 x15 x16 x17 x18 w Q) : P13_5 x2 x7 x8 x9 x10 x12 x13 x14 x15 x16 x17 x18 w Q :=
  have e : evC Try.prog (entR 3 143) 13 179 H13 Q (nav [1, 1, 1, 1, 1, 1, 1, 0, 1, 4, 5, 1, 0, 4, 1, 1, 0, 1, 2, 1, 1] C13) [.jn (nav [1, 1, 1, 1, 1, 1, 1, 0, 1, 4, 5, 1, 0, 4, 1, 1, 1] C13), .blk 1, .jn (nav [1, 1, 1, 1, 1, 1, 1, 0, 1, 4, 5, 1, 1] C13), .lp (nav [1, 1, 1, 1, 1, 1, 1, 0, 1, 4, 5] C13), .blk 0, .jn (nav [1, 1, 1, 1, 1, 1, 1, 1] C13)] (unpack [2, 7, 8, 9, 10, 12, 13, 14, 15, 16, 17, 18] [x2, x7, x8, x9, x10, x12, x13, x14, x15, x16, x17, x18]) w (contT Try.prog (entR 3 143) 13 179 H13 Try.f13.results.toList Q [.jn (nav [1, 1, 1, 1, 1, 1, 1, 0, 1, 4, 5, 1, 0, 4, 1, 1, 1] C13), .blk 1, .jn (nav [1, 1, 1, 1, 1, 1, 1, 0, 1, 4, 5, 1, 1] C13), .lp (nav [1, 1, 1, 1, 1, 1, 1, 0, 1, 4, 5] C13), .blk 0, .jn (nav [1, 1, 1, 1, 1, 1, 1, 1] C13)]) = L13_5 x2 x7 x8 x9 x10 x12 x13 x14 x15 x16 x17 x18 w Q := by kernel_rfl
  bx (fn := Try.f13) mixed bn Try.func13 H13 (c := (nav [1, 1, 1, 1, 1, 1, 1, 0, 1, 4, 5, 1, 0, 4, 1, 1, 0, 1, 2, 1, 1] C13)) (t := [.jn (nav [1, 1, 1, 1, 1, 1, 1, 0, 1, 4, 5, 1, 0, 4, 1, 1, 1] C13), .blk 1, .jn (nav [1, 1, 1, 1, 1, 1, 1, 0, 1, 4, 5, 1, 1] C13), .lp (nav [1, 1, 1, 1, 1, 1, 1, 0, 1, 4, 5] C13), .blk 0, .jn (nav [1, 1, 1, 1, 1, 1, 1, 1] C13)]) (e.mpr h)

noncomputable def C40 : Code := (Try.f40.body).getD .skip
noncomputable def H40 : Hints := ⟨[], [], []⟩
def F40 (w : World) (Q : Value → World → Prop) : Prop :=
  wpB (pureRun Try.prog (Instr.build 74 #[(0, (Go.Value.int Go.IntKind.i64 1)), (1, (Go.Value.int Go.IntKind.i64 1)), (2, (Go.Value.int Go.IntKind.i64 8)), (3, (Go.Value.int Go.IntKind.i64 1)), (5, (Go.Value.int Go.IntKind.i64 1))])) fun t9 =>
  CallR Try.prog 41 [t9] w fun t10 w =>
  wpB (pureRun Try.prog (Instr.extract t10 0)) fun t11 =>
  wpB (pureRun Try.prog (Instr.extract t10 1)) fun t12 =>
  wpB (be Try.prog .eql 75 (.tmp 13) (.const (Go.Value.pointer none)) t11 (Go.Value.pointer none)) fun t14 =>
  wpB (gd t14 false (be Try.prog .neq 29 (.tmp 16) (.const (Go.Value.int Go.IntKind.i64 0)) (gv t14 false t12) (Go.Value.int Go.IntKind.i64 0))) fun t17 =>
  wpB (pickv t14 (some (Go.Value.bool true)) (some t17)) fun t18 =>
  cnd t18
  (Q (Go.Value.bool false) w)
  (wpB (pureRun Try.prog (Instr.build 40 #[(0, (Go.Value.int Go.IntKind.i64 10))])) fun t21 =>
  wpB (pureRun Try.prog (Instr.build 51 #[])) fun t22 =>
  CallR Try.prog 45 [t11, (Go.Value.int Go.IntKind.i64 0), t21, t22] w fun t23 w =>
  wpB (pureRun Try.prog (Instr.extract t23 0)) fun t24 =>
  wpB (pureRun Try.prog (Instr.extract t23 1)) fun t25 =>
  effv Try.prog (Instr.alloc 53 true (.tuple #[])) w fun t3 w =>
  effu Try.prog (Instr.storeAt 53 t3 t24) w fun w =>
  wpB (pureRun Try.prog (Instr.build 51 #[(1, (Go.Value.int Go.IntKind.i64 1))])) fun t26 =>
  effv Try.prog (Instr.alloc 51 true (.tuple #[])) w fun t5 w =>
  effu Try.prog (Instr.storeAt 51 t5 t26) w fun w =>
  wpB (pureRun Try.prog (Instr.build 40 #[(0, (Go.Value.int Go.IntKind.i64 1))])) fun t28 =>
  wpB (pureRun Try.prog (Instr.build 51 #[])) fun t29 =>
  wpB (ldv Try.prog 51 t5 w) fun t30 =>
  wpB (pureRun Try.prog (Instr.build 53 #[(1, t30)])) fun t31 =>
  CallR Try.prog 57 [t11, (Go.Value.int Go.IntKind.i64 0), t28, t29, t31] w fun t32 w =>
  wpB (pureRun Try.prog (Instr.build 40 #[(0, (Go.Value.int Go.IntKind.i64 10))])) fun t34 =>
  wpB (ldv Try.prog 51 t5 w) fun t35 =>
  wpB (pureRun Try.prog (Instr.build 53 #[])) fun t36 =>
  CallR Try.prog 57 [t11, (Go.Value.int Go.IntKind.i64 0), t34, t35, t36] w fun t37 w =>
  wpB (gd t25 true (ldv Try.prog 53 t3 w)) fun t40 =>
  wpB (gd t25 true (pureRun Try.prog (Instr.build 53 #[(0, (Go.Value.int Go.IntKind.i64 2))]))) fun t41 =>
  wpB (gd t25 true (be Try.prog .eql 53 (.tmp 40) (.tmp 41) t40 t41)) fun t42 =>
  wpB (pickv t25 (some t42) (some (Go.Value.bool false))) fun t43 =>
  wpB (pickv t43 (some (gv t43 true t32)) (some (Go.Value.bool false))) fun t46 =>
  wpB (pickv t46 (some (gv t46 true t37)) (some (Go.Value.bool false))) fun t49 =>
  gE t49 true (CallR Try.prog 79 [(gv t49 true t11)] w) (fun t52 w =>
  wpB (gd t49 true (be Try.prog .eql 3 (.tmp 52) (.const (Go.Value.int Go.IntKind.i64 0)) t52 (Go.Value.int Go.IntKind.i64 0))) fun t53 =>
  wpB (pickv t49 (some t53) (some (Go.Value.bool false))) fun t54 =>
  gE t54 true (CallR Try.prog 47 [(gv t54 true t11), (Go.Value.int Go.IntKind.i64 0)] w) (fun t57 w =>
  wpB (pickv t54 (some t57) (some (Go.Value.bool false))) fun t58 =>
  gE t58 true (CallR Try.prog 79 [(gv t58 true t11)] w) (fun t61 w =>
  wpB (gd t58 true (be Try.prog .eql 3 (.tmp 61) (.const (Go.Value.int Go.IntKind.i64 1)) t61 (Go.Value.int Go.IntKind.i64 1))) fun t62 =>
  wpB (pickv t58 (some t62) (some (Go.Value.bool false))) fun t63 =>
  Q t63 w) w) w) w)
theorem F40_ok {w : World} {Q : Value → World → Prop} (h : F40  w Q) : CallR Try.prog 40 [] w Q :=
  have e : evC Try.prog (entR 3 143) 40 64 H40 Q C40 [] (entryE 0 []) w (contT Try.prog (entR 3 143) 40 64 H40 Try.f40.results.toList Q []) = F40  w Q := by kernel_rfl
  bt (fn := Try.f40) mixed bn Try.func40 (c := C40) rfl H40 (Nat.le_of_ble_eq_true rfl) (e.mpr h)

noncomputable def C41 : Code := (Try.f41.body).getD .skip
noncomputable def H41 : Hints := ⟨[], [], [(3, (.ask 3 6 (.leaf [1, 4, 0, 2, 5, 3, 6, 7, 8, 9, 10]) (.leaf [1, 4, 0, 2, 5, 6, 3, 7, 8, 9, 10])))]⟩
def F41 (a0 : Value) (w : World) (Q : Value → World → Prop) : Prop :=
  effv Try.prog (Instr.box 74 a0) w fun t1 w =>
  wpB (ldv Try.prog 74 t1 w) fun t4 =>
  CallR Try.prog 80 [t4] w fun t5 w =>
  wpB (pureRun Try.prog (Op.unary .not t5)) fun t6 =>
  cnd t6
  (Q (.tuple #[(Go.Value.pointer none), (Go.Value.int Go.IntKind.i64 1)]) w)
  ((wpB (pureRun Try.prog (Instr.fieldAt 74 t1 3)) fun t8 =>
  wpB (pureRun Try.prog (Instr.fieldAt 74 t1 0)) fun t11 =>
  wpB (ldv Try.prog 74 t1 w.drew) fun t7 =>
  wpB (ldv Try.prog 3 t8 w.drew) fun t9 =>
  wpB (ldv Try.prog 3 t11 w.drew) fun t12 =>
  effv Try.prog (Instr.makeSlice 128 t9 t9) w.drew fun t10 w =>
  effv Try.prog (Instr.makeSlice 129 t12 t12) w fun t13 w =>
  wpB (pureRun Try.prog (Instr.build 132 #[(0, t7), (2, t10), (4, t13)])) fun t14 =>
  effv Try.prog (Instr.box 132 t14) w fun t15 w =>
  Q (.tuple #[t15, (Go.Value.int Go.IntKind.i64 0)]) w) ∧
  (wpB (pureRun Try.prog (Instr.fieldAt 74 t1 3)) fun t8_1 =>
  wpB (pureRun Try.prog (Instr.fieldAt 74 t1 0)) fun t11_1 =>
  wpB (ldv Try.prog 74 t1 w.drew) fun t7_1 =>
  wpB (ldv Try.prog 3 t8_1 w.drew) fun t9_1 =>
  wpB (ldv Try.prog 3 t11_1 w.drew) fun t12_1 =>
  effv Try.prog (Instr.makeSlice 129 t12_1 t12_1) w.drew fun t13_1 w =>
  effv Try.prog (Instr.makeSlice 128 t9_1 t9_1) w fun t10_1 w =>
  wpB (pureRun Try.prog (Instr.build 132 #[(0, t7_1), (2, t10_1), (4, t13_1)])) fun t14_1 =>
  effv Try.prog (Instr.box 132 t14_1) w fun t15_1 w =>
  Q (.tuple #[t15_1, (Go.Value.int Go.IntKind.i64 0)]) w))
theorem F41_ok {a0 : Value} {w : World} {Q : Value → World → Prop} (h : F41 a0 w Q) : CallR Try.prog 41 [a0] w Q :=
  have e : evC Try.prog (entR 3 143) 41 16 H41 Q C41 [] (entryE 0 [a0]) w (contT Try.prog (entR 3 143) 41 16 H41 Try.f41.results.toList Q []) = F41 a0 w Q := by kernel_rfl
  bt (fn := Try.f41) mixed bn Try.func41 (c := C41) rfl H41 (Nat.le_of_ble_eq_true rfl) (e.mpr h)

noncomputable def C43 : Code := (Try.f43.body).getD .skip
noncomputable def H43 : Hints := ⟨[], [], []⟩
def F43 (a0 a1 a2 : Value) (w : World) (Q : Value → World → Prop) : Prop :=
  effv Try.prog (Instr.box 51 a1) w fun t4 w =>
  wpB (ldv Try.prog 51 t4 w) fun t9 =>
  CallR Try.prog 81 [a0, t9, (Go.Value.int Go.IntKind.i64 2)] w fun t10 w =>
  wpB (pureRun Try.prog (Op.unary .not t10)) fun t11 =>
  wpB (gd t11 false (bp Try.prog .lss 3 (gv t11 false a2) (Go.Value.int Go.IntKind.i64 0))) fun t14 =>
  wpB (pickv t11 (some (Go.Value.bool true)) (some t14)) fun t15 =>
  wpB (gd t15 false (pureRun Try.prog (Instr.fieldAt 51 t4 4))) fun t18 =>
  wpB (gd t15 false (ldv Try.prog 3 t18 w)) fun t19 =>
  wpB (gd t15 false (bp Try.prog .geq 3 (gv t15 false a2) t19)) fun t20 =>
  wpB (pickv t15 (some (Go.Value.bool true)) (some t20)) fun t21 =>
  cnd t21
  (Q (.tuple #[(Go.Value.int Go.IntKind.u64 0), (Go.Value.bool false)]) w)
  (wpB (ldv Try.prog 51 t4 w) fun t23 =>
  CallR Try.prog 82 [a0, t23, a2] w fun t25 w =>
  wpB (nilv t25) fun t26 =>
  wpB (ldv Try.prog 38 t26 w) fun t27 =>
  Q (.tuple #[t27, (Go.Value.bool true)]) w)
theorem F43_ok {a0 a1 a2 : Value} {w : World} {Q : Value → World → Prop} (h : F43 a0 a1 a2 w Q) : CallR Try.prog 43 [a0, a1, a2] w Q :=
  have e : evC Try.prog (entR 3 143) 43 28 H43 Q C43 [] (entryE 0 [a0, a1, a2]) w (contT Try.prog (entR 3 143) 43 28 H43 Try.f43.results.toList Q []) = F43 a0 a1 a2 w Q := by kernel_rfl
  bt (fn := Try.f43) mixed bn Try.func43 (c := C43) rfl H43 (Nat.le_of_ble_eq_true rfl) (e.mpr h)

noncomputable def C44 : Code := (Try.f44.body).getD .skip
noncomputable def H44 : Hints := ⟨[], [], []⟩
def F44 (a0 a1 : Value) (w : World) (Q : Value → World → Prop) : Prop :=
  wpB (bp Try.prog .lss 3 a1 (Go.Value.int Go.IntKind.i64 0)) fun t6 =>
  wpB (gd t6 false (nilv (gv t6 false a0))) fun t10 =>
  wpB (gd t6 false (pureRun Try.prog (Instr.fieldAt 132 t10 4))) fun t11 =>
  wpB (gd t6 false (ldv Try.prog 129 t11 w)) fun t12 =>
  wpB (gd t6 false (pureRun Try.prog (Builtin.len_ #[129] 3 #[t12]))) fun t13 =>
  wpB (gd t6 false (bp Try.prog .geq 3 (gv t6 false a1) t13)) fun t14 =>
  wpB (pickv t6 (some (Go.Value.bool true)) (some t14)) fun t15 =>
  cnd t15
  (Q (Go.Value.int Go.IntKind.i64 0) w)
  (wpB (nilv a0) fun t17 =>
  wpB (pureRun Try.prog (Instr.fieldAt 132 t17 4)) fun t18 =>
  wpB (ldv Try.prog 129 t18 w) fun t19 =>
  wpB (pureRun Try.prog (Instr.indexAt 129 t19 a1)) fun t21 =>
  wpB (pureRun Try.prog (Instr.fieldAt 137 t21 0)) fun t22 =>
  wpB (ldv Try.prog 3 t22 w) fun t23 =>
  Q t23 w)
theorem F44_ok {a0 a1 : Value} {w : World} {Q : Value → World → Prop} (h : F44 a0 a1 w Q) : CallR Try.prog 44 [a0, a1] w Q :=
  have e : evC Try.prog (entR 3 143) 44 24 H44 Q C44 [] (entryE 0 [a0, a1]) w (contT Try.prog (entR 3 143) 44 24 H44 Try.f44.results.toList Q []) = F44 a0 a1 w Q := by kernel_rfl
  bt (fn := Try.f44) mixed bn Try.func44 (c := C44) rfl H44 (Nat.le_of_ble_eq_true rfl) (e.mpr h)

noncomputable def C45 : Code := (Try.f45.body).getD .skip
noncomputable def H45 : Hints := ⟨[], [(9, [0, 6, 7, 8, 10, 28, 29]), (12, [0, 6, 7, 8, 10, 28, 33]), (15, [8, 10, 55]), (18, [8, 10])], [(14, (.ask 8 4 (.leaf [0, 2, 7, 1, 3, 8, 4, 5, 6, 9]) (.leaf [0, 1, 2, 3, 4, 5, 6, 7, 8, 9])))]⟩
noncomputable def T45_0 : List It := [.jn (nav [1, 1, 1, 1, 0, 1, 4, 1] C45), .blk 0, .jn (nav [1, 1, 1, 1, 1] C45)]
noncomputable def T45_1 : List It := [.jn (nav [1, 1, 1, 1, 0, 1, 4, 1, 3, 1] C45), .blk 0, .jn (nav [1, 1, 1, 1, 1] C45)]
noncomputable def T45_2 : List It := [.jn (nav [1, 1, 1, 1, 1] C45)]
noncomputable def T45_3 : List It := [.jn (nav [1, 1, 1, 1, 0, 1, 4, 1, 3, 1, 3, 1, 2, 1] C45), .blk 0, .jn (nav [1, 1, 1, 1, 1] C45)]
def P45_0 (x0 x6 x7 x8 x10 x28 x29 : Value) (w : World) (Q : Value → World → Prop) : Prop := Part Try.prog 45 T45_0 [0, 6, 7, 8, 10, 28, 29] [x0, x6, x7, x8, x10, x28, x29] w Q
def P45_1 (x0 x6 x7 x8 x10 x28 x33 : Value) (w : World) (Q : Value → World → Prop) : Prop := Part Try.prog 45 T45_1 [0, 6, 7, 8, 10, 28, 33] [x0, x6, x7, x8, x10, x28, x33] w Q
def P45_2 (x8 x10 : Value) (w : World) (Q : Value → World → Prop) : Prop := Part Try.prog 45 T45_2 [8, 10] [x8, x10] w Q
def P45_3 (x8 x10 x55 : Value) (w : World) (Q : Value → World → Prop) : Prop := Part Try.prog 45 T45_3 [8, 10, 55] [x8, x10, x55] w Q
def F45 (a0 a1 a2 a3 : Value) (w : World) (Q : Value → World → Prop) : Prop :=
  effv Try.prog (Instr.box 40 a2) w fun t6 w =>
  effv Try.prog (Instr.box 51 a3) w fun t7 w =>
  effv Try.prog (Instr.alloc 53 true (.tuple #[])) w fun t8 w =>
  wpB (ldv Try.prog 40 t6 w) fun t13 =>
  CallR Try.prog 83 [a0, a1, t13] w fun t14 w =>
  wpB (pureRun Try.prog (Op.unary .not t14)) fun t15 =>
  cnd t15
  (wpB (pureRun Try.prog (Instr.build 53 #[])) fun t16 =>
  effu Try.prog (Instr.storeAt 53 t8 t16) w fun w =>
  wpB (ldv Try.prog 53 t8 w) fun r8 => Q (.tuple #[r8, (Go.Value.bool false)]) w)
  (wpB (ldv Try.prog 40 t6 w) fun t19 =>
  wpB (ldv Try.prog 51 t7 w) fun t20 =>
  CallR Try.prog 84 [a0, a1, t19, t20] w fun t21 w =>
  wpB (pureRun Try.prog (Instr.build 53 #[(0, t21)])) fun t22 =>
  effv Try.prog (Instr.alloc 53 true (.tuple #[])) w fun t10 w =>
  effu Try.prog (Instr.storeAt 53 t10 t22) w fun w =>
  wpB (pureRun Try.prog (Instr.fieldAt 53 t10 0)) fun t23 =>
  wpB (ldv Try.prog 29 t23 w) fun t24 =>
  wpB (be Try.prog .neq 29 (.tmp 24) (.const (Go.Value.int Go.IntKind.i64 0)) t24 (Go.Value.int Go.IntKind.i64 0)) fun t25 =>
  cnd t25
  (wpB (ldv Try.prog 53 t10 w) fun t26 =>
  effu Try.prog (Instr.storeAt 53 t8 t26) w fun w =>
  wpB (ldv Try.prog 53 t8 w) fun r8_1 => Q (.tuple #[r8_1, (Go.Value.bool true)]) w)
  (wpB (pureRun Try.prog (Instr.fieldAt 40 t6 0)) fun t27 =>
  wpB (ldv Try.prog 3 t27 w) fun t28 =>
  wpB (be Try.prog .eql 3 (.tmp 28) (.const (Go.Value.int Go.IntKind.i64 1)) t28 (Go.Value.int Go.IntKind.i64 1)) fun t30 =>
  cnd t30
  (P45_0 a0 t6 t7 t8 t10 t28 t30 w Q)
  (wpB (be Try.prog .eql 3 (.tmp 28) (.const (Go.Value.int Go.IntKind.i64 2)) t28 (Go.Value.int Go.IntKind.i64 2)) fun t31 =>
  P45_0 a0 t6 t7 t8 t10 t28 t31 w Q)))
def L45_0 (x0 x6 x7 x8 x10 x28 x29 : Value) (w : World) (Q : Value → World → Prop) : Prop :=
  cnd x29
  (wpB (pureRun Try.prog (Instr.build 53 #[])) fun t32 =>
  effu Try.prog (Instr.storeAt 53 x8 t32) w fun w =>
  wpB (ldv Try.prog 53 x8 w) fun r8 => Q (.tuple #[r8, (Go.Value.bool false)]) w)
  (wpB (be Try.prog .eql 3 (.tmp 28) (.const (Go.Value.int Go.IntKind.i64 6)) x28 (Go.Value.int Go.IntKind.i64 6)) fun t34 =>
  cnd t34
  (P45_1 x0 x6 x7 x8 x10 x28 t34 w Q)
  (wpB (be Try.prog .eql 3 (.tmp 28) (.const (Go.Value.int Go.IntKind.i64 8)) x28 (Go.Value.int Go.IntKind.i64 8)) fun t35 =>
  P45_1 x0 x6 x7 x8 x10 x28 t35 w Q))
def L45_1 (x0 x6 x7 x8 x10 x28 x33 : Value) (w : World) (Q : Value → World → Prop) : Prop :=
  cnd x33
  (wpB (ldv Try.prog 51 x7 w) fun t37 =>
  wpB (pureRun Try.prog (Instr.fieldAt 40 x6 3)) fun t38 =>
  wpB (ldv Try.prog 3 t38 w) fun t39 =>
  CallR Try.prog 82 [x0, t37, t39] w fun t40 w =>
  wpB (nilv t40) fun t41 =>
  wpB (ldv Try.prog 38 t41 w) fun t42 =>
  wpB (pureRun Try.prog (Instr.fieldAt 53 x10 3)) fun t43 =>
  effu Try.prog (Instr.storeAt 38 t43 t42) w fun w =>
  P45_2 x8 x10 w Q)
  (wpB (be Try.prog .eql 3 (.tmp 28) (.const (Go.Value.int Go.IntKind.i64 9)) x28 (Go.Value.int Go.IntKind.i64 9)) fun t45 =>
  cnd t45
  ((wpB (pureRun Try.prog (Instr.fieldAt 40 x6 3)) fun t48 =>
  wpB (pureRun Try.prog (Instr.fieldAt 40 x6 4)) fun t53 =>
  wpB (ldv Try.prog 51 x7 w.drew) fun t47 =>
  wpB (ldv Try.prog 3 t48 w.drew) fun t49 =>
  wpB (ldv Try.prog 38 t53 w.drew) fun t54 =>
  CallR Try.prog 82 [x0, t47, t49] w.drew fun t50 w =>
  wpB (nilv t50) fun t51 =>
  wpB (ldv Try.prog 38 t51 w) fun t52 =>
  wpB (be Try.prog .eql 38 (.tmp 52) (.tmp 54) t52 t54) fun t55 =>
  P45_3 x8 x10 t55 w Q) ∧
  (wpB (ldv Try.prog 51 x7 w.drew) fun t47_1 =>
  wpB (pureRun Try.prog (Instr.fieldAt 40 x6 3)) fun t48_1 =>
  wpB (ldv Try.prog 3 t48_1 w.drew) fun t49_1 =>
  CallR Try.prog 82 [x0, t47_1, t49_1] w.drew fun t50_1 w =>
  wpB (nilv t50_1) fun t51_1 =>
  wpB (ldv Try.prog 38 t51_1 w) fun t52_1 =>
  wpB (pureRun Try.prog (Instr.fieldAt 40 x6 4)) fun t53_1 =>
  wpB (ldv Try.prog 38 t53_1 w) fun t54_1 =>
  wpB (be Try.prog .eql 38 (.tmp 52) (.tmp 54) t52_1 t54_1) fun t55_1 =>
  P45_3 x8 x10 t55_1 w Q))
  (wpB (be Try.prog .eql 3 (.tmp 28) (.const (Go.Value.int Go.IntKind.i64 12)) x28 (Go.Value.int Go.IntKind.i64 12)) fun t58 =>
  cnd t58
  (wpB (ldv Try.prog 51 x7 w) fun t60 =>
  CallR Try.prog 86 [t60] w fun t61 w =>
  CallR Try.prog 85 [x0, t61] w fun t62 w =>
  wpB (nilv t62) fun t63 =>
  wpB (pureRun Try.prog (Instr.fieldAt 144 t63 2)) fun t64 =>
  wpB (ldv Try.prog 3 t64 w) fun t65 =>
  wpB (pureRun Try.prog (Instr.fieldAt 53 x10 2)) fun t66 =>
  effu Try.prog (Instr.storeAt 3 t66 t65) w fun w =>
  P45_2 x8 x10 w Q)
  (P45_2 x8 x10 w Q)))
def L45_2 (x8 x10 : Value) (w : World) (Q : Value → World → Prop) : Prop :=
  wpB (ldv Try.prog 53 x10 w) fun t67 =>
  effu Try.prog (Instr.storeAt 53 x8 t67) w fun w =>
  wpB (ldv Try.prog 53 x8 w) fun r8 => Q (.tuple #[r8, (Go.Value.bool true)]) w
def L45_3 (x8 x10 x55 : Value) (w : World) (Q : Value → World → Prop) : Prop :=
  cnd x55
  (wpB (pureRun Try.prog (Instr.fieldAt 53 x10 2)) fun t56 =>
  effu Try.prog (Instr.storeAt 3 t56 (Go.Value.int Go.IntKind.i64 1)) w fun w =>
  P45_2 x8 x10 w Q)
  (P45_2 x8 x10 w Q)
theorem F45_ok {a0 a1 a2 a3 : Value} {w : World} {Q : Value → World → Prop} (h : F45 a0 a1 a2 a3 w Q) : CallR Try.prog 45 [a0, a1, a2, a3] w Q :=
  have e : evC Try.prog (entR 3 143) 45 68 H45 Q C45 [] (entryE 0 [a0, a1, a2, a3]) w (contT Try.prog (entR 3 143) 45 68 H45 Try.f45.results.toList Q []) = F45 a0 a1 a2 a3 w Q := by kernel_rfl
  bt (fn := Try.f45) mixed bn Try.func45 (c := C45) rfl H45 (Nat.le_of_ble_eq_true rfl) (e.mpr h)
theorem L45_0_ok {x0 x6 x7 x8 x10 x28 x29 : Value} {w : World} {Q : Value → World → Prop} (h : L45_0 x0 x6 x7 x8 x10 x28 x29 w Q) : P45_0 x0 x6 x7 x8 x10 x28 x29 w Q :=
  have e : evC Try.prog (entR 3 143) 45 68 H45 Q (nav [1, 1, 1, 1, 0, 1, 4, 1] C45) [.blk 0, .jn (nav [1, 1, 1, 1, 1] C45)] (unpack [0, 6, 7, 8, 10, 28, 29] [x0, x6, x7, x8, x10, x28, x29]) w (contT Try.prog (entR 3 143) 45 68 H45 Try.f45.results.toList Q [.blk 0, .jn (nav [1, 1, 1, 1, 1] C45)]) = L45_0 x0 x6 x7 x8 x10 x28 x29 w Q := by kernel_rfl
  bx (fn := Try.f45) mixed bn Try.func45 H45 (c := (nav [1, 1, 1, 1, 0, 1, 4, 1] C45)) (t := [.blk 0, .jn (nav [1, 1, 1, 1, 1] C45)]) (e.mpr h)
theorem L45_1_ok {x0 x6 x7 x8 x10 x28 x33 : Value} {w : World} {Q : Value → World → Prop} (h : L45_1 x0 x6 x7 x8 x10 x28 x33 w Q) : P45_1 x0 x6 x7 x8 x10 x28 x33 w Q :=
  have e : evC Try.prog (entR 3 143) 45 68 H45 Q (nav [1, 1, 1, 1, 0, 1, 4, 1, 3, 1] C45) [.blk 0, .jn (nav [1, 1, 1, 1, 1] C45)] (unpack [0, 6, 7, 8, 10, 28, 33] [x0, x6, x7, x8, x10, x28, x33]) w (contT Try.prog (entR 3 143) 45 68 H45 Try.f45.results.toList Q [.blk 0, .jn (nav [1, 1, 1, 1, 1] C45)]) = L45_1 x0 x6 x7 x8 x10 x28 x33 w Q := by kernel_rfl
  bx (fn := Try.f45) mixed bn Try.func45 H45 (c := (nav [1, 1, 1, 1, 0, 1, 4, 1, 3, 1] C45)) (t := [.blk 0, .jn (nav [1, 1, 1, 1, 1] C45)]) (e.mpr h)
theorem L45_2_ok {x8 x10 : Value} {w : World} {Q : Value → World → Prop} (h : L45_2 x8 x10 w Q) : P45_2 x8 x10 w Q :=
  have e : evC Try.prog (entR 3 143) 45 68 H45 Q (nav [1, 1, 1, 1, 1] C45) [] (unpack [8, 10] [x8, x10]) w (contT Try.prog (entR 3 143) 45 68 H45 Try.f45.results.toList Q []) = L45_2 x8 x10 w Q := by kernel_rfl
  bx (fn := Try.f45) mixed bn Try.func45 H45 (c := (nav [1, 1, 1, 1, 1] C45)) (t := []) (e.mpr h)
theorem L45_3_ok {x8 x10 x55 : Value} {w : World} {Q : Value → World → Prop} (h : L45_3 x8 x10 x55 w Q) : P45_3 x8 x10 x55 w Q :=
  have e : evC Try.prog (entR 3 143) 45 68 H45 Q (nav [1, 1, 1, 1, 0, 1, 4, 1, 3, 1, 3, 1, 2, 1] C45) [.blk 0, .jn (nav [1, 1, 1, 1, 1] C45)] (unpack [8, 10, 55] [x8, x10, x55]) w (contT Try.prog (entR 3 143) 45 68 H45 Try.f45.results.toList Q [.blk 0, .jn (nav [1, 1, 1, 1, 1] C45)]) = L45_3 x8 x10 x55 w Q := by kernel_rfl
  bx (fn := Try.f45) mixed bn Try.func45 H45 (c := (nav [1, 1, 1, 1, 0, 1, 4, 1, 3, 1, 3, 1, 2, 1] C45)) (t := [.blk 0, .jn (nav [1, 1, 1, 1, 1] C45)]) (e.mpr h)

noncomputable def C46 : Code := (Try.f46.body).getD .skip
noncomputable def H46 : Hints := ⟨[], [(4, [1, 2, 5, 6])], [(6, (.ask 0 4 (.leaf [0, 1, 2, 3, 4, 5, 6, 7]) (.leaf [1, 3, 2, 4, 0, 5, 6, 7])))]⟩
noncomputable def T46_0 : List It := [.jn (nav [1, 1, 1] C46)]
def P46_0 (x1 x2 x5 x6 : Value) (w : World) (Q : Value → World → Prop) : Prop := Part Try.prog 46 T46_0 [1, 2, 5, 6] [x1, x2, x5, x6] w Q
def F46 (a0 a1 : Value) (w : World) (Q : Value → World → Prop) : Prop :=
  effv Try.prog (Instr.box 74 a0) w fun t2 w =>
  wpB (ldv Try.prog 74 t2 w) fun t8 =>
  CallR Try.prog 41 [t8] w fun t9 w =>
  wpB (pureRun Try.prog (Instr.extract t9 0)) fun t10 =>
  wpB (pureRun Try.prog (Instr.extract t9 1)) fun t11 =>
  cnd a1
  (wpB (ldv Try.prog 74 t2 w) fun t14 =>
  CallR Try.prog 87 [t14] w fun t15 w =>
  wpB (pureRun Try.prog (Instr.extract t15 0)) fun t16 =>
  wpB (pureRun Try.prog (Instr.extract t15 1)) fun t17 =>
  P46_0 a1 t2 t16 t17 w Q)
  (P46_0 a1 t2 t10 t11 w Q)
def L46_0 (x1 x2 x5 x6 : Value) (w : World) (Q : Value → World → Prop) : Prop :=
  wpB (be Try.prog .eql 75 (.tmp 18) (.const (Go.Value.pointer none)) x5 (Go.Value.pointer none)) fun t19 =>
  wpB (gd t19 false (be Try.prog .neq 29 (.tmp 21) (.const (Go.Value.int Go.IntKind.i64 0)) (gv t19 false x6) (Go.Value.int Go.IntKind.i64 0))) fun t22 =>
  wpB (pickv t19 (some (Go.Value.bool true)) (some t22)) fun t23 =>
  cnd t23
  (Q (Go.Value.pointer none) w)
  ((wpB (ldv Try.prog 74 x2 w.drew) fun t24 =>
  wpB (ldv Try.prog 74 x2 w.drew) fun t26 =>
  CallR Try.prog 88 [t26, x1] w.drew fun t28 w =>
  wpB (pureRun Try.prog (Instr.build 92 #[(0, t24), (1, x5), (2, t28)])) fun t29 =>
  effv Try.prog (Instr.box 92 t29) w fun t30 w =>
  Q t30 w) ∧
  (wpB (ldv Try.prog 74 x2 w.drew) fun t26_1 =>
  CallR Try.prog 88 [t26_1, x1] w.drew fun t28_1 w =>
  wpB (ldv Try.prog 74 x2 w) fun t24_1 =>
  wpB (pureRun Try.prog (Instr.build 92 #[(0, t24_1), (1, x5), (2, t28_1)])) fun t29_1 =>
  effv Try.prog (Instr.box 92 t29_1) w fun t30_1 w =>
  Q t30_1 w))
theorem F46_ok {a0 a1 : Value} {w : World} {Q : Value → World → Prop} (h : F46 a0 a1 w Q) : CallR Try.prog 46 [a0, a1] w Q :=
  have e : evC Try.prog (entR 3 143) 46 31 H46 Q C46 [] (entryE 0 [a0, a1]) w (contT Try.prog (entR 3 143) 46 31 H46 Try.f46.results.toList Q []) = F46 a0 a1 w Q := by kernel_rfl
  bt (fn := Try.f46) mixed bn Try.func46 (c := C46) rfl H46 (Nat.le_of_ble_eq_true rfl) (e.mpr h)
theorem L46_0_ok {x1 x2 x5 x6 : Value} {w : World} {Q : Value → World → Prop} (h : L46_0 x1 x2 x5 x6 w Q) : P46_0 x1 x2 x5 x6 w Q :=
  have e : evC Try.prog (entR 3 143) 46 31 H46 Q (nav [1, 1, 1] C46) [] (unpack [1, 2, 5, 6] [x1, x2, x5, x6]) w (contT Try.prog (entR 3 143) 46 31 H46 Try.f46.results.toList Q []) = L46_0 x1 x2 x5 x6 w Q := by kernel_rfl
  bx (fn := Try.f46) mixed bn Try.func46 H46 (c := (nav [1, 1, 1] C46)) (t := []) (e.mpr h)

noncomputable def C47 : Code := (Try.f47.body).getD .skip
noncomputable def H47 : Hints := ⟨[], [], []⟩
def F47 (a0 a1 : Value) (w : World) (Q : Value → World → Prop) : Prop :=
  CallR Try.prog 89 [a0, a1] w fun t7 w =>
  wpB (pureRun Try.prog (Op.unary .not t7)) fun t8 =>
  wpB (gd t8 false (nilv (gv t8 false a0))) fun t11 =>
  wpB (gd t8 false (pureRun Try.prog (Instr.fieldAt 132 t11 2))) fun t12 =>
  wpB (gd t8 false (ldv Try.prog 128 t12 w)) fun t13 =>
  wpB (gd t8 false (pureRun Try.prog (Instr.indexAt 128 t13 (gv t8 false a1)))) fun t15 =>
  wpB (gd t8 false (pureRun Try.prog (Instr.fieldAt 150 t15 0))) fun t16 =>
  wpB (gd t8 false (ldv Try.prog 3 t16 w)) fun t17 =>
  wpB (gd t8 false (be Try.prog .neq 3 (.tmp 17) (.const (Go.Value.int Go.IntKind.i64 2)) t17 (Go.Value.int Go.IntKind.i64 2))) fun t18 =>
  wpB (pickv t8 (some (Go.Value.bool true)) (some t18)) fun t19 =>
  cnd t19
  (Q (Go.Value.bool false) w)
  (wpB (nilv a0) fun t21 =>
  wpB (pureRun Try.prog (Instr.fieldAt 132 t21 2)) fun t22 =>
  wpB (ldv Try.prog 128 t22 w) fun t23 =>
  wpB (pureRun Try.prog (Instr.indexAt 128 t23 a1)) fun t25 =>
  wpB (pureRun Try.prog (Instr.fieldAt 150 t25 0)) fun t26 =>
  effu Try.prog (Instr.storeAt 3 t26 (Go.Value.int Go.IntKind.i64 0)) w fun w =>
  Q (Go.Value.bool true) w)
theorem F47_ok {a0 a1 : Value} {w : World} {Q : Value → World → Prop} (h : F47 a0 a1 w Q) : CallR Try.prog 47 [a0, a1] w Q :=
  have e : evC Try.prog (entR 3 143) 47 27 H47 Q C47 [] (entryE 0 [a0, a1]) w (contT Try.prog (entR 3 143) 47 27 H47 Try.f47.results.toList Q []) = F47 a0 a1 w Q := by kernel_rfl
  bt (fn := Try.f47) mixed bn Try.func47 (c := C47) rfl H47 (Nat.le_of_ble_eq_true rfl) (e.mpr h)

noncomputable def C48 : Code := (Try.f48.body).getD .skip
noncomputable def H48 : Hints := ⟨[], [], []⟩
def F48 (a0 a1 : Value) (w : World) (Q : Value → World → Prop) : Prop :=
  CallR Try.prog 89 [a0, a1] w fun t8 w =>
  wpB (pureRun Try.prog (Op.unary .not t8)) fun t9 =>
  wpB (gd t9 false (nilv (gv t9 false a0))) fun t12 =>
  wpB (gd t9 false (pureRun Try.prog (Instr.fieldAt 132 t12 2))) fun t13 =>
  wpB (gd t9 false (ldv Try.prog 128 t13 w)) fun t14 =>
  wpB (gd t9 false (pureRun Try.prog (Instr.indexAt 128 t14 (gv t9 false a1)))) fun t16 =>
  wpB (gd t9 false (pureRun Try.prog (Instr.fieldAt 150 t16 0))) fun t17 =>
  wpB (gd t9 false (ldv Try.prog 3 t17 w)) fun t18 =>
  wpB (gd t9 false (be Try.prog .neq 3 (.tmp 18) (.const (Go.Value.int Go.IntKind.i64 1)) t18 (Go.Value.int Go.IntKind.i64 1))) fun t19 =>
  wpB (pickv t9 (some (Go.Value.bool true)) (some t19)) fun t20 =>
  cnd t20
  (Q (.tuple #[(Go.Value.int Go.IntKind.i64 0), (Go.Value.bool false)]) w)
  (wpB (nilv a0) fun t22 =>
  wpB (pureRun Try.prog (Instr.fieldAt 132 t22 2)) fun t23 =>
  wpB (ldv Try.prog 128 t23 w) fun t24 =>
  wpB (pureRun Try.prog (Instr.indexAt 128 t24 a1)) fun t26 =>
  wpB (pureRun Try.prog (Instr.fieldAt 150 t26 1)) fun t27 =>
  wpB (ldv Try.prog 3 t27 w) fun t28 =>
  Q (.tuple #[t28, (Go.Value.bool true)]) w)
theorem F48_ok {a0 a1 : Value} {w : World} {Q : Value → World → Prop} (h : F48 a0 a1 w Q) : CallR Try.prog 48 [a0, a1] w Q :=
  have e : evC Try.prog (entR 3 143) 48 29 H48 Q C48 [] (entryE 0 [a0, a1]) w (contT Try.prog (entR 3 143) 48 29 H48 Try.f48.results.toList Q []) = F48 a0 a1 w Q := by kernel_rfl
  bt (fn := Try.f48) mixed bn Try.func48 (c := C48) rfl H48 (Nat.le_of_ble_eq_true rfl) (e.mpr h)

noncomputable def C57 : Code := (Try.f57.body).getD .skip
noncomputable def H57 : Hints := ⟨[], [(9, [])], []⟩
noncomputable def T57_0 : List It := [.jn (nav [1, 1, 0, 1, 1, 2, 1, 1] C57), .jn (nav [1, 1, 1] C57)]
def P57_0 (w : World) (Q : Value → World → Prop) : Prop := Part Try.prog 57 T57_0 [] [] w Q
def F57 (a0 a1 a2 a3 a4 : Value) (w : World) (Q : Value → World → Prop) : Prop :=
  effv Try.prog (Instr.box 40 a2) w fun t7 w =>
  effv Try.prog (Instr.box 51 a3) w fun t8 w =>
  effv Try.prog (Instr.box 53 a4) w fun t9 w =>
  wpB (ldv Try.prog 40 t7 w) fun t15 =>
  CallR Try.prog 83 [a0, a1, t15] w fun t16 w =>
  wpB (pureRun Try.prog (Op.unary .not t16)) fun t17 =>
  cnd t17
  (Q (Go.Value.bool false) w)
  (wpB (ldv Try.prog 40 t7 w) fun t21 =>
  wpB (ldv Try.prog 51 t8 w) fun t22 =>
  CallR Try.prog 45 [a0, a1, t21, t22] w fun t23 w =>
  wpB (pureRun Try.prog (Instr.extract t23 0)) fun t24 =>
  wpB (pureRun Try.prog (Instr.extract t23 1)) fun t25 =>
  effv Try.prog (Instr.alloc 53 true (.tuple #[])) w fun t11 w =>
  effu Try.prog (Instr.storeAt 53 t11 t24) w fun w =>
  cnd t25
  (wpB (ldv Try.prog 53 t9 w) fun t27 =>
  wpB (ldv Try.prog 53 t11 w) fun t28 =>
  wpB (be Try.prog .neq 53 (.tmp 27) (.tmp 28) t27 t28) fun t29 =>
  cnd t29
  (Q (Go.Value.bool false) w)
  (wpB (pureRun Try.prog (Instr.fieldAt 53 t9 0)) fun t30 =>
  wpB (ldv Try.prog 29 t30 w) fun t31 =>
  wpB (be Try.prog .eql 29 (.tmp 31) (.const (Go.Value.int Go.IntKind.i64 0)) t31 (Go.Value.int Go.IntKind.i64 0)) fun t32 =>
  cnd t32
  (wpB (ldv Try.prog 40 t7 w) fun t35 =>
  wpB (ldv Try.prog 51 t8 w) fun t36 =>
  CallR Try.prog 100 [a0, a1, t35, t36] w fun t37 w =>
  P57_0 w Q)
  (P57_0 w Q)))
  (wpB (pureRun Try.prog (Instr.fieldAt 40 t7 0)) fun t38 =>
  wpB (ldv Try.prog 3 t38 w) fun t39 =>
  wpB (be Try.prog .eql 3 (.tmp 39) (.const (Go.Value.int Go.IntKind.i64 1)) t39 (Go.Value.int Go.IntKind.i64 1)) fun t40 =>
  cnd t40
  (wpB (pureRun Try.prog (Instr.fieldAt 40 t7 3)) fun t42 =>
  wpB (ldv Try.prog 3 t42 w) fun t43 =>
  wpB (ldv Try.prog 53 t9 w) fun t44 =>
  CallR Try.prog 101 [a0, t43, t44] w fun t45 w =>
  Q t45 w)
  (wpB (pureRun Try.prog (Instr.fieldAt 40 t7 3)) fun t47 =>
  wpB (ldv Try.prog 3 t47 w) fun t48 =>
  wpB (ldv Try.prog 51 t8 w) fun t49 =>
  wpB (ldv Try.prog 53 t9 w) fun t50 =>
  CallR Try.prog 102 [a0, t48, t49, t50] w fun t51 w =>
  Q t51 w)))
def L57_0 (w : World) (Q : Value → World → Prop) : Prop :=
  Q (Go.Value.bool true) w
theorem F57_ok {a0 a1 a2 a3 a4 : Value} {w : World} {Q : Value → World → Prop} (h : F57 a0 a1 a2 a3 a4 w Q) : CallR Try.prog 57 [a0, a1, a2, a3, a4] w Q :=
  have e : evC Try.prog (entR 3 143) 57 52 H57 Q C57 [] (entryE 0 [a0, a1, a2, a3, a4]) w (contT Try.prog (entR 3 143) 57 52 H57 Try.f57.results.toList Q []) = F57 a0 a1 a2 a3 a4 w Q := by kernel_rfl
  bt (fn := Try.f57) mixed bn Try.func57 (c := C57) rfl H57 (Nat.le_of_ble_eq_true rfl) (e.mpr h)
theorem L57_0_ok {w : World} {Q : Value → World → Prop} (h : L57_0  w Q) : P57_0  w Q :=
  have e : evC Try.prog (entR 3 143) 57 52 H57 Q (nav [1, 1, 0, 1, 1, 2, 1, 1] C57) [.jn (nav [1, 1, 1] C57)] (unpack [] []) w (contT Try.prog (entR 3 143) 57 52 H57 Try.f57.results.toList Q [.jn (nav [1, 1, 1] C57)]) = L57_0  w Q := by kernel_rfl
  bx (fn := Try.f57) mixed bn Try.func57 H57 (c := (nav [1, 1, 0, 1, 1, 2, 1, 1] C57)) (t := [.jn (nav [1, 1, 1] C57)]) (e.mpr h)

noncomputable def C79 : Code := (Try.f79.body).getD .skip
noncomputable def H79 : Hints := ⟨[(3, [3, 9, 10, 11])], [(7, [3, 9, 10, 11])], []⟩
noncomputable def T79_0 : List It := [.lp (nav [1, 1, 0, 1, 4, 5] C79), .blk 0, .jn (nav [1, 1, 1] C79)]
noncomputable def T79_1 : List It := [.jn (nav [1, 1, 0, 1, 4, 5, 1, 1, 1] C79), .lp (nav [1, 1, 0, 1, 4, 5] C79), .blk 0, .jn (nav [1, 1, 1] C79)]
def P79_0 (x3 x9 x10 x11 : Value) (w : World) (Q : Value → World → Prop) : Prop := Part Try.prog 79 T79_0 [3, 9, 10, 11] [x3, x9, x10, x11] w Q
def P79_1 (x3 x9 x10 x11 : Value) (w : World) (Q : Value → World → Prop) : Prop := Part Try.prog 79 T79_1 [3, 9, 10, 11] [x3, x9, x10, x11] w Q
def F79 (a0 : Value) (w : World) (Q : Value → World → Prop) : Prop :=
  wpB (nilv a0) fun t7 =>
  wpB (pureRun Try.prog (Instr.fieldAt 132 t7 2)) fun t8 =>
  wpB (ldv Try.prog 128 t8 w) fun t9 =>
  wpB (pureRun Try.prog (Builtin.len_ #[128] 3 #[t9])) fun t10 =>
  P79_0 (Go.Value.int Go.IntKind.i64 0) t9 t10 (Go.Value.int Go.IntKind.i64 0) w Q
def L79_0 (x3 x9 x10 x11 : Value) (w : World) (Q : Value → World → Prop) : Prop :=
  wpB (bp Try.prog .lss 3 x11 x10) fun t12 =>
  cnd t12
  (wpB (pureRun Try.prog (Instr.indexAt 128 x9 x11)) fun t13 =>
  wpB (ldv Try.prog 150 t13 w) fun t14 =>
  effv Try.prog (Instr.alloc 150 true (.tuple #[])) w fun t5 w =>
  effu Try.prog (Instr.storeAt 150 t5 t14) w fun w =>
  wpB (pureRun Try.prog (Instr.fieldAt 150 t5 0)) fun t15 =>
  wpB (ldv Try.prog 3 t15 w) fun t16 =>
  wpB (be Try.prog .eql 3 (.tmp 16) (.const (Go.Value.int Go.IntKind.i64 0)) t16 (Go.Value.int Go.IntKind.i64 0)) fun t17 =>
  cnd t17
  (wpB (bp Try.prog .add 3 x3 (Go.Value.int Go.IntKind.i64 1)) fun t19 =>
  P79_1 t19 x9 x10 x11 w Q)
  (P79_1 x3 x9 x10 x11 w Q))
  (Q x3 w)
def L79_1 (x3 x9 x10 x11 : Value) (w : World) (Q : Value → World → Prop) : Prop :=
  wpB (bp Try.prog .add 3 x11 (Go.Value.int Go.IntKind.i64 1)) fun t20 =>
  P79_0 x3 x9 x10 t20 w Q
theorem F79_ok {a0 : Value} {w : World} {Q : Value → World → Prop} (h : F79 a0 w Q) : CallR Try.prog 79 [a0] w Q :=
  have e : evC Try.prog (entR 3 143) 79 22 H79 Q C79 [] (entryE 0 [a0]) w (contT Try.prog (entR 3 143) 79 22 H79 Try.f79.results.toList Q []) = F79 a0 w Q := by kernel_rfl
  bt (fn := Try.f79) mixed bn Try.func79 (c := C79) rfl H79 (Nat.le_of_ble_eq_true rfl) (e.mpr h)
theorem L79_0_ok {x3 x9 x10 x11 : Value} {w : World} {Q : Value → World → Prop} (h : L79_0 x3 x9 x10 x11 w Q) : P79_0 x3 x9 x10 x11 w Q :=
  have e : evC Try.prog (entR 3 143) 79 22 H79 Q (nav [1, 1, 0, 1, 4, 5] C79) T79_0 (unpack [3, 9, 10, 11] [x3, x9, x10, x11]) w (contT Try.prog (entR 3 143) 79 22 H79 Try.f79.results.toList Q T79_0) = L79_0 x3 x9 x10 x11 w Q := by kernel_rfl
  part_lp (fn := Try.f79) mixed bn Try.func79 H79 (c := (nav [1, 1, 0, 1, 4, 5] C79)) (t := [.blk 0, .jn (nav [1, 1, 1] C79)]) (e.mpr h)
theorem L79_1_ok {x3 x9 x10 x11 : Value} {w : World} {Q : Value → World → Prop} (h : L79_1 x3 x9 x10 x11 w Q) : P79_1 x3 x9 x10 x11 w Q :=
  have e : evC Try.prog (entR 3 143) 79 22 H79 Q (nav [1, 1, 0, 1, 4, 5, 1, 1, 1] C79) [.lp (nav [1, 1, 0, 1, 4, 5] C79), .blk 0, .jn (nav [1, 1, 1] C79)] (unpack [3, 9, 10, 11] [x3, x9, x10, x11]) w (contT Try.prog (entR 3 143) 79 22 H79 Try.f79.results.toList Q [.lp (nav [1, 1, 0, 1, 4, 5] C79), .blk 0, .jn (nav [1, 1, 1] C79)]) = L79_1 x3 x9 x10 x11 w Q := by kernel_rfl
  bx (fn := Try.f79) mixed bn Try.func79 H79 (c := (nav [1, 1, 0, 1, 4, 5, 1, 1, 1] C79)) (t := [.lp (nav [1, 1, 0, 1, 4, 5] C79), .blk 0, .jn (nav [1, 1, 1] C79)]) (e.mpr h)

noncomputable def C80 : Code := (Try.f80.body).getD .skip
noncomputable def H80 : Hints := ⟨[], [], []⟩
def F80 (a0 : Value) (w : World) (Q : Value → World → Prop) : Prop :=
  effv Try.prog (Instr.box 74 a0) w fun t1 w =>
  wpB (pureRun Try.prog (Instr.fieldAt 74 t1 0)) fun t3 =>
  wpB (ldv Try.prog 3 t3 w) fun t4 =>
  CallR Try.prog 113 [t4, (Go.Value.int Go.IntKind.i64 1), (Go.Value.int Go.IntKind.i64 64)] w fun t5 w =>
  wpB (gd t5 true (pureRun Try.prog (Instr.fieldAt 74 t1 1))) fun t7 =>
  wpB (gd t5 true (ldv Try.prog 3 t7 w)) fun t8 =>
  gE t5 true (CallR Try.prog 113 [t8, (Go.Value.int Go.IntKind.i64 1), (Go.Value.int Go.IntKind.i64 4096)] w) (fun t9 w =>
  wpB (pickv t5 (some t9) (some (Go.Value.bool false))) fun t10 =>
  wpB (gd t10 true (pureRun Try.prog (Instr.fieldAt 74 t1 2))) fun t12 =>
  wpB (gd t10 true (ldv Try.prog 3 t12 w)) fun t13 =>
  gE t10 true (CallR Try.prog 113 [t13, (Go.Value.int Go.IntKind.i64 8), (Go.Value.int Go.IntKind.i64 1024)] w) (fun t14 w =>
  wpB (pickv t10 (some t14) (some (Go.Value.bool false))) fun t15 =>
  wpB (gd t15 true (pureRun Try.prog (Instr.fieldAt 74 t1 2))) fun t17 =>
  wpB (gd t15 true (ldv Try.prog 3 t17 w)) fun t18 =>
  wpB (gd t15 true (bp Try.prog .rem 3 t18 (Go.Value.int Go.IntKind.i64 8))) fun t19 =>
  wpB (gd t15 true (be Try.prog .eql 3 (.tmp 19) (.const (Go.Value.int Go.IntKind.i64 0)) t19 (Go.Value.int Go.IntKind.i64 0))) fun t20 =>
  wpB (pickv t15 (some t20) (some (Go.Value.bool false))) fun t21 =>
  wpB (gd t21 true (pureRun Try.prog (Instr.fieldAt 74 t1 3))) fun t23 =>
  wpB (gd t21 true (ldv Try.prog 3 t23 w)) fun t24 =>
  gE t21 true (CallR Try.prog 113 [t24, (Go.Value.int Go.IntKind.i64 1), (Go.Value.int Go.IntKind.i64 4096)] w) (fun t25 w =>
  wpB (pickv t21 (some t25) (some (Go.Value.bool false))) fun t26 =>
  wpB (gd t26 true (pureRun Try.prog (Instr.fieldAt 74 t1 4))) fun t28 =>
  wpB (gd t26 true (ldv Try.prog 3 t28 w)) fun t29 =>
  gE t26 true (CallR Try.prog 113 [t29, (Go.Value.int Go.IntKind.i64 0), (Go.Value.int Go.IntKind.i64 64)] w) (fun t30 w =>
  wpB (pickv t26 (some t30) (some (Go.Value.bool false))) fun t31 =>
  wpB (gd t31 true (pureRun Try.prog (Instr.fieldAt 74 t1 5))) fun t33 =>
  wpB (gd t31 true (ldv Try.prog 3 t33 w)) fun t34 =>
  gE t31 true (CallR Try.prog 113 [t34, (Go.Value.int Go.IntKind.i64 1), (Go.Value.int Go.IntKind.i64 8)] w) (fun t35 w =>
  wpB (pickv t31 (some t35) (some (Go.Value.bool false))) fun t36 =>
  Q t36 w) w) w) w) w) w
theorem F80_ok {a0 : Value} {w : World} {Q : Value → World → Prop} (h : F80 a0 w Q) : CallR Try.prog 80 [a0] w Q :=
  have e : evC Try.prog (entR 3 143) 80 37 H80 Q C80 [] (entryE 0 [a0]) w (contT Try.prog (entR 3 143) 80 37 H80 Try.f80.results.toList Q []) = F80 a0 w Q := by kernel_rfl
  bt (fn := Try.f80) mixed bn Try.func80 (c := C80) rfl H80 (Nat.le_of_ble_eq_true rfl) (e.mpr h)

noncomputable def C81 : Code := (Try.f81.body).getD .skip
noncomputable def H81 : Hints := ⟨[], [], [(6, (.leaf [0, 1, 2, 3, 4, 5, 6, 7, 8, 9, 10]))]⟩
def F81 (a0 a1 a2 : Value) (w : World) (Q : Value → World → Prop) : Prop :=
  effv Try.prog (Instr.box 51 a1) w fun t4 w =>
  wpB (ldv Try.prog 51 t4 w) fun t9 =>
  CallR Try.prog 86 [t9] w fun t10 w =>
  CallR Try.prog 85 [a0, t10] w fun t11 w =>
  wpB (be Try.prog .eql 145 (.tmp 12) (.const (Go.Value.pointer none)) t11 (Go.Value.pointer none)) fun t13 =>
  cnd t13
  (Q (Go.Value.bool false) w)
  (wpB (pureRun Try.prog (Instr.fieldAt 51 t4 4)) fun t14 =>
  wpB (ldv Try.prog 3 t14 w) fun t15 =>
  wpB (be Try.prog .eql 3 (.tmp 15) (.const (Go.Value.int Go.IntKind.i64 0)) t15 (Go.Value.int Go.IntKind.i64 0)) fun t16 =>
  cnd t16
  (wpB (pureRun Try.prog (Instr.fieldAt 51 t4 2)) fun t17 =>
  wpB (ldv Try.prog 3 t17 w) fun t18 =>
  wpB (be Try.prog .eql 3 (.tmp 18) (.const (Go.Value.int Go.IntKind.i64 0)) t18 (Go.Value.int Go.IntKind.i64 0)) fun t19 =>
  wpB (gd t19 true (pureRun Try.prog (Instr.fieldAt 51 t4 3))) fun t21 =>
  wpB (gd t19 true (ldv Try.prog 3 t21 w)) fun t22 =>
  wpB (gd t19 true (be Try.prog .eql 3 (.tmp 22) (.const (Go.Value.int Go.IntKind.i64 0)) t22 (Go.Value.int Go.IntKind.i64 0))) fun t23 =>
  wpB (pickv t19 (some t23) (some (Go.Value.bool false))) fun t24 =>
  wpB (gd t24 true (be Try.prog .neq 3 (.tmp 26) (.const (Go.Value.int Go.IntKind.i64 2)) (gv t24 true a2) (Go.Value.int Go.IntKind.i64 2))) fun t27 =>
  wpB (pickv t24 (some t27) (some (Go.Value.bool false))) fun t28 =>
  Q t28 w)
  (wpB (be Try.prog .neq 3 (.tmp 29) (.const (Go.Value.int Go.IntKind.i64 1)) a2 (Go.Value.int Go.IntKind.i64 1)) fun t30 =>
  wpB (gd t30 true (nilv (gv t30 true t11))) fun t33 =>
  wpB (gd t30 true (pureRun Try.prog (Instr.fieldAt 144 t33 5))) fun t34 =>
  wpB (gd t30 true (ldv Try.prog 90 t34 w.drew)) fun t35 =>
  wpB (gd t30 true (ldv Try.prog 51 t4 w.drew)) fun t36 =>
  gE t30 true (CallR Try.prog 114 [t35, t36] w.drew) (fun t37 w =>
  wpB (pickv t30 (some t37) (some (Go.Value.bool false))) fun t38 =>
  Q t38 w) w.drew))
theorem F81_ok {a0 a1 a2 : Value} {w : World} {Q : Value → World → Prop} (h : F81 a0 a1 a2 w Q) : CallR Try.prog 81 [a0, a1, a2] w Q :=
  have e : evC Try.prog (entR 3 143) 81 39 H81 Q C81 [] (entryE 0 [a0, a1, a2]) w (contT Try.prog (entR 3 143) 81 39 H81 Try.f81.results.toList Q []) = F81 a0 a1 a2 w Q := by kernel_rfl
  bt (fn := Try.f81) mixed bn Try.func81 (c := C81) rfl H81 (Nat.le_of_ble_eq_true rfl) (e.mpr h)

noncomputable def C82 : Code := (Try.f82.body).getD .skip
noncomputable def H82 : Hints := ⟨[], [], [(2, (.ask 3 10 (.ask 14 10 (.leaf [0, 1, 2, 4, 5, 6, 8, 13, 15, 3, 7, 9, 14, 16, 10, 11, 12, 17, 18]) (.leaf [0, 1, 2, 3, 4, 5, 6, 7, 8, 9, 10, 11, 12, 13, 14, 15, 16, 17, 18])) (.ask 14 10 (.leaf [0, 1, 2, 4, 5, 6, 8, 13, 15, 7, 9, 14, 16, 10, 3, 11, 12, 17, 18]) (.leaf [0, 1, 2, 4, 5, 6, 8, 13, 15, 7, 9, 10, 3, 11, 12, 14, 16, 17, 18]))))]⟩
def F82 (a0 a1 a2 : Value) (w : World) (Q : Value → World → Prop) : Prop :=
  effv Try.prog (Instr.box 51 a1) w fun t4 w =>
  wpB (ldv Try.prog 51 t4 w) fun t9 =>
  CallR Try.prog 86 [t9] w fun t10 w =>
  CallR Try.prog 85 [a0, t10] w fun t11 w =>
  ((wpB (nilv t11) fun t13 =>
  wpB (pureRun Try.prog (Instr.fieldAt 144 t13 4)) fun t14 =>
  wpB (nilv t11) fun t17 =>
  wpB (pureRun Try.prog (Instr.fieldAt 144 t17 3)) fun t18 =>
  wpB (pureRun Try.prog (Instr.fieldAt 51 t4 2)) fun t20 =>
  wpB (pureRun Try.prog (Instr.fieldAt 51 t4 3)) fun t25 =>
  wpB (ldv Try.prog 142 t14 w.drew) fun t15 =>
  wpB (ldv Try.prog 23 t18 w.drew) fun t19 =>
  wpB (ldv Try.prog 3 t20 w.drew) fun t21 =>
  wpB (ldv Try.prog 3 t25 w.drew) fun t26 =>
  wpB (bp Try.prog .add 3 t26 a2) fun t28 =>
  CallR Try.prog 115 [t19, t21] w.drew fun t22 w =>
  wpB (pureRun Try.prog (Instr.indexAt 142 t15 t22)) fun t23 =>
  wpB (ldv Try.prog 177 t23 w) fun t24 =>
  wpB (pureRun Try.prog (Instr.indexAt 177 t24 t28)) fun t29 =>
  Q t29 w) ∧
  (wpB (nilv t11) fun t13_1 =>
  wpB (pureRun Try.prog (Instr.fieldAt 144 t13_1 4)) fun t14_1 =>
  wpB (ldv Try.prog 142 t14_1 w.drew) fun t15_1 =>
  wpB (nilv t11) fun t17_1 =>
  wpB (pureRun Try.prog (Instr.fieldAt 144 t17_1 3)) fun t18_1 =>
  wpB (ldv Try.prog 23 t18_1 w.drew) fun t19_1 =>
  wpB (pureRun Try.prog (Instr.fieldAt 51 t4 2)) fun t20_1 =>
  wpB (ldv Try.prog 3 t20_1 w.drew) fun t21_1 =>
  CallR Try.prog 115 [t19_1, t21_1] w.drew fun t22_1 w =>
  wpB (pureRun Try.prog (Instr.indexAt 142 t15_1 t22_1)) fun t23_1 =>
  wpB (ldv Try.prog 177 t23_1 w) fun t24_1 =>
  wpB (pureRun Try.prog (Instr.fieldAt 51 t4 3)) fun t25_1 =>
  wpB (ldv Try.prog 3 t25_1 w) fun t26_1 =>
  wpB (bp Try.prog .add 3 t26_1 a2) fun t28_1 =>
  wpB (pureRun Try.prog (Instr.indexAt 177 t24_1 t28_1)) fun t29_1 =>
  Q t29_1 w)) ∧
  ((wpB (nilv t11) fun t13_2 =>
  wpB (pureRun Try.prog (Instr.fieldAt 144 t13_2 4)) fun t14_2 =>
  wpB (nilv t11) fun t17_2 =>
  wpB (pureRun Try.prog (Instr.fieldAt 144 t17_2 3)) fun t18_2 =>
  wpB (pureRun Try.prog (Instr.fieldAt 51 t4 2)) fun t20_2 =>
  wpB (pureRun Try.prog (Instr.fieldAt 51 t4 3)) fun t25_2 =>
  wpB (ldv Try.prog 23 t18_2 w.drew) fun t19_2 =>
  wpB (ldv Try.prog 3 t20_2 w.drew) fun t21_2 =>
  wpB (ldv Try.prog 3 t25_2 w.drew) fun t26_2 =>
  wpB (bp Try.prog .add 3 t26_2 a2) fun t28_2 =>
  CallR Try.prog 115 [t19_2, t21_2] w.drew fun t22_2 w =>
  wpB (ldv Try.prog 142 t14_2 w) fun t15_2 =>
  wpB (pureRun Try.prog (Instr.indexAt 142 t15_2 t22_2)) fun t23_2 =>
  wpB (ldv Try.prog 177 t23_2 w) fun t24_2 =>
  wpB (pureRun Try.prog (Instr.indexAt 177 t24_2 t28_2)) fun t29_2 =>
  Q t29_2 w) ∧
  (wpB (nilv t11) fun t13_3 =>
  wpB (pureRun Try.prog (Instr.fieldAt 144 t13_3 4)) fun t14_3 =>
  wpB (nilv t11) fun t17_3 =>
  wpB (pureRun Try.prog (Instr.fieldAt 144 t17_3 3)) fun t18_3 =>
  wpB (pureRun Try.prog (Instr.fieldAt 51 t4 2)) fun t20_3 =>
  wpB (pureRun Try.prog (Instr.fieldAt 51 t4 3)) fun t25_3 =>
  wpB (ldv Try.prog 23 t18_3 w.drew) fun t19_3 =>
  wpB (ldv Try.prog 3 t20_3 w.drew) fun t21_3 =>
  CallR Try.prog 115 [t19_3, t21_3] w.drew fun t22_3 w =>
  wpB (ldv Try.prog 142 t14_3 w) fun t15_3 =>
  wpB (pureRun Try.prog (Instr.indexAt 142 t15_3 t22_3)) fun t23_3 =>
  wpB (ldv Try.prog 177 t23_3 w) fun t24_3 =>
  wpB (ldv Try.prog 3 t25_3 w) fun t26_3 =>
  wpB (bp Try.prog .add 3 t26_3 a2) fun t28_3 =>
  wpB (pureRun Try.prog (Instr.indexAt 177 t24_3 t28_3)) fun t29_3 =>
  Q t29_3 w))
theorem F82_ok {a0 a1 a2 : Value} {w : World} {Q : Value → World → Prop} (h : F82 a0 a1 a2 w Q) : CallR Try.prog 82 [a0, a1, a2] w Q :=
  have e : evC Try.prog (entR 3 143) 82 30 H82 Q C82 [] (entryE 0 [a0, a1, a2]) w (contT Try.prog (entR 3 143) 82 30 H82 Try.f82.results.toList Q []) = F82 a0 a1 a2 w Q := by kernel_rfl
  bt (fn := Try.f82) mixed bn Try.func82 (c := C82) rfl H82 (Nat.le_of_ble_eq_true rfl) (e.mpr h)

noncomputable def C83 : Code := (Try.f83.body).getD .skip
noncomputable def H83 : Hints := ⟨[], [], []⟩
def F83 (a0 a1 a2 : Value) (w : World) (Q : Value → World → Prop) : Prop :=
  effv Try.prog (Instr.box 40 a2) w fun t5 w =>
  wpB (bp Try.prog .geq 3 a1 (Go.Value.int Go.IntKind.i64 0)) fun t8 =>
  wpB (gd t8 true (nilv (gv t8 true a0))) fun t12 =>
  wpB (gd t8 true (pureRun Try.prog (Instr.fieldAt 132 t12 4))) fun t13 =>
  wpB (gd t8 true (ldv Try.prog 129 t13 w)) fun t14 =>
  wpB (gd t8 true (pureRun Try.prog (Builtin.len_ #[129] 3 #[t14]))) fun t15 =>
  wpB (gd t8 true (bp Try.prog .lss 3 (gv t8 true a1) t15)) fun t16 =>
  wpB (pickv t8 (some t16) (some (Go.Value.bool false))) fun t17 =>
  wpB (gd t17 true (ldv Try.prog 40 t5 w)) fun t19 =>
  gE t17 true (CallR Try.prog 60 [t19] w) (fun t20 w =>
  wpB (pickv t17 (some t20) (some (Go.Value.bool false))) fun t21 =>
  Q t21 w) w
theorem F83_ok {a0 a1 a2 : Value} {w : World} {Q : Value → World → Prop} (h : F83 a0 a1 a2 w Q) : CallR Try.prog 83 [a0, a1, a2] w Q :=
  have e : evC Try.prog (entR 3 143) 83 22 H83 Q C83 [] (entryE 0 [a0, a1, a2]) w (contT Try.prog (entR 3 143) 83 22 H83 Try.f83.results.toList Q []) = F83 a0 a1 a2 w Q := by kernel_rfl
  bt (fn := Try.f83) mixed bn Try.func83 (c := C83) rfl H83 (Nat.le_of_ble_eq_true rfl) (e.mpr h)

noncomputable def C84 : Code := (Try.f84.body).getD .skip
noncomputable def H84 : Hints := ⟨[], [(5, [0, 6, 7, 10, 11]), (9, [0, 6, 7, 10, 12, 13]), (31, [6, 7, 12, 13, 45, 94]), (37, [13, 108]), (38, [])], [(4, (.ask 3 7 (.ask 8 7 (.leaf [0, 1, 2, 4, 3, 5, 6, 8, 7, 9, 10]) (.leaf [0, 1, 2, 3, 4, 5, 6, 7, 8, 9, 10])) (.ask 8 7 (.leaf [0, 1, 2, 4, 6, 8, 7, 3, 5, 9, 10]) (.leaf [0, 1, 2, 4, 6, 7, 3, 5, 8, 9, 10])))), (5, (.leaf [0, 1, 2, 3, 4, 5, 6])), (11, (.leaf [0, 1, 2, 3, 4, 5, 6, 7, 8, 9, 10, 11, 12]))]⟩
noncomputable def T84_0 : List It := [.jn (nav [1, 1, 1] C84)]
noncomputable def T84_1 : List It := [.jn (nav [1, 1, 1, 1, 1, 1] C84)]
noncomputable def T84_2 : List It := [.jn (nav [1, 1, 1, 1, 1, 1, 1] C84)]
noncomputable def T84_3 : List It := [.jn (nav [1, 1, 1, 1, 1, 1, 0, 1, 4, 1, 3, 1, 3, 1, 3, 1, 3, 1] C84), .blk 0, .jn (nav [1, 1, 1, 1, 1, 1, 1] C84)]
noncomputable def T84_4 : List It := [.jn (nav [1, 1, 1, 1, 1, 1, 0, 1, 4, 1, 3, 1, 3, 1, 3, 1, 3, 1, 3, 1] C84), .blk 0, .jn (nav [1, 1, 1, 1, 1, 1, 1] C84)]
def P84_0 (x0 x6 x7 x10 x11 : Value) (w : World) (Q : Value → World → Prop) : Prop := Part Try.prog 84 T84_0 [0, 6, 7, 10, 11] [x0, x6, x7, x10, x11] w Q
def P84_1 (x0 x6 x7 x10 x12 x13 : Value) (w : World) (Q : Value → World → Prop) : Prop := Part Try.prog 84 T84_1 [0, 6, 7, 10, 12, 13] [x0, x6, x7, x10, x12, x13] w Q
def P84_2 (w : World) (Q : Value → World → Prop) : Prop := Part Try.prog 84 T84_2 [] [] w Q
def P84_3 (x6 x7 x12 x13 x45 x94 : Value) (w : World) (Q : Value → World → Prop) : Prop := Part Try.prog 84 T84_3 [6, 7, 12, 13, 45, 94] [x6, x7, x12, x13, x45, x94] w Q
def P84_4 (x13 x108 : Value) (w : World) (Q : Value → World → Prop) : Prop := Part Try.prog 84 T84_4 [13, 108] [x13, x108] w Q
def F84 (a0 a1 a2 a3 : Value) (w : World) (Q : Value → World → Prop) : Prop :=
  effv Try.prog (Instr.box 40 a2) w fun t6 w =>
  effv Try.prog (Instr.box 51 a3) w fun t7 w =>
  wpB (pureRun Try.prog (Instr.fieldAt 40 t6 0)) fun t14 =>
  wpB (ldv Try.prog 3 t14 w) fun t15 =>
  CallR Try.prog 110 [t15] w fun t16 w =>
  wpB (be Try.prog .neq 3 (.tmp 17) (.const (Go.Value.int Go.IntKind.i64 0)) t16 (Go.Value.int Go.IntKind.i64 0)) fun t18 =>
  wpB (gd t18 true (ldv Try.prog 51 t7 w)) fun t21 =>
  gE t18 true (CallR Try.prog 81 [(gv t18 true a0), t21, (gv t18 true t16)] w) (fun t23 w =>
  wpB (gd t18 true (pureRun Try.prog (Op.unary .not t23))) fun t24 =>
  wpB (pickv t18 (some t24) (some (Go.Value.bool false))) fun t25 =>
  cnd t25
  (Q (Go.Value.int Go.IntKind.i64 2) w)
  (((wpB (nilv a0) fun t27 =>
  wpB (pureRun Try.prog (Instr.fieldAt 132 t27 4)) fun t28 =>
  wpB (ldv Try.prog 129 t28 w.drew) fun t29 =>
  wpB (pureRun Try.prog (Instr.indexAt 129 t29 a1)) fun t31 =>
  wpB (ldv Try.prog 51 t7 w.drew) fun t32 =>
  effv Try.prog (Instr.alloc 141 true (.tuple #[])) w.drew fun t11 w =>
  CallR Try.prog 86 [t32] w fun t33 w =>
  effu Try.prog (Instr.storeAt 141 t11 t33) w fun w =>
  P84_0 a0 t6 t7 t31 t11 w Q) ∧
  (wpB (nilv a0) fun t27_1 =>
  wpB (pureRun Try.prog (Instr.fieldAt 132 t27_1 4)) fun t28_1 =>
  wpB (ldv Try.prog 129 t28_1 w.drew) fun t29_1 =>
  wpB (pureRun Try.prog (Instr.indexAt 129 t29_1 a1)) fun t31_1 =>
  wpB (ldv Try.prog 51 t7 w.drew) fun t32_1 =>
  CallR Try.prog 86 [t32_1] w.drew fun t33_1 w =>
  effv Try.prog (Instr.alloc 141 true (.tuple #[])) w fun t11_1 w =>
  effu Try.prog (Instr.storeAt 141 t11_1 t33_1) w fun w =>
  P84_0 a0 t6 t7 t31_1 t11_1 w Q)) ∧
  ((wpB (nilv a0) fun t27_2 =>
  wpB (pureRun Try.prog (Instr.fieldAt 132 t27_2 4)) fun t28_2 =>
  wpB (ldv Try.prog 51 t7 w.drew) fun t32_2 =>
  effv Try.prog (Instr.alloc 141 true (.tuple #[])) w.drew fun t11_2 w =>
  CallR Try.prog 86 [t32_2] w fun t33_2 w =>
  wpB (ldv Try.prog 129 t28_2 w) fun t29_2 =>
  wpB (pureRun Try.prog (Instr.indexAt 129 t29_2 a1)) fun t31_2 =>
  effu Try.prog (Instr.storeAt 141 t11_2 t33_2) w fun w =>
  P84_0 a0 t6 t7 t31_2 t11_2 w Q) ∧
  (wpB (nilv a0) fun t27_3 =>
  wpB (pureRun Try.prog (Instr.fieldAt 132 t27_3 4)) fun t28_3 =>
  wpB (ldv Try.prog 51 t7 w.drew) fun t32_3 =>
  CallR Try.prog 86 [t32_3] w.drew fun t33_3 w =>
  wpB (ldv Try.prog 129 t28_3 w) fun t29_3 =>
  wpB (pureRun Try.prog (Instr.indexAt 129 t29_3 a1)) fun t31_3 =>
  effv Try.prog (Instr.alloc 141 true (.tuple #[])) w fun t11_3 w =>
  effu Try.prog (Instr.storeAt 141 t11_3 t33_3) w fun w =>
  P84_0 a0 t6 t7 t31_3 t11_3 w Q)))) w
def L84_0 (x0 x6 x7 x10 x11 : Value) (w : World) (Q : Value → World → Prop) : Prop :=
  wpB (nilv x10) fun t35 =>
  wpB (pureRun Try.prog (Instr.fieldAt 137 t35 1)) fun t36 =>
  wpB (ldv Try.prog 135 t36 w.drew) fun t37 =>
  wpB (ldv Try.prog 141 x11 w.drew) fun t38 =>
  CallR Try.prog 116 [t37, t38] w.drew fun t39 w =>
  wpB (ldv Try.prog 141 x11 w) fun t41 =>
  CallR Try.prog 117 [x0, t41] w fun t42 w =>
  wpB (pureRun Try.prog (Op.unary .not t42)) fun t43 =>
  cnd t43
  (P84_1 x0 x6 x7 x10 t39 (Go.Value.int Go.IntKind.i64 3) w Q)
  (P84_1 x0 x6 x7 x10 t39 (Go.Value.int Go.IntKind.i64 0) w Q)
def L84_1 (x0 x6 x7 x10 x12 x13 : Value) (w : World) (Q : Value → World → Prop) : Prop :=
  wpB (pureRun Try.prog (Instr.fieldAt 40 x6 0)) fun t44 =>
  wpB (ldv Try.prog 3 t44 w) fun t45 =>
  wpB (be Try.prog .eql 3 (.tmp 45) (.const (Go.Value.int Go.IntKind.i64 2)) t45 (Go.Value.int Go.IntKind.i64 2)) fun t47 =>
  cnd t47
  (wpB (pureRun Try.prog (Instr.fieldAt 40 x6 3)) fun t48 =>
  wpB (ldv Try.prog 3 t48 w.drew) fun t49 =>
  wpB (bp Try.prog .lss 3 t49 (Go.Value.int Go.IntKind.i64 1)) fun t50 =>
  wpB (gd t50 false (pureRun Try.prog (Instr.fieldAt 40 x6 3))) fun t52 =>
  wpB (gd t50 false (ldv Try.prog 3 t52 w.drew)) fun t53 =>
  wpB (gd t50 false (nilv (gv t50 false x0))) fun t55 =>
  wpB (gd t50 false (pureRun Try.prog (Instr.fieldAt 132 t55 0))) fun t56 =>
  wpB (gd t50 false (pureRun Try.prog (Instr.fieldAt 74 t56 2))) fun t57 =>
  wpB (gd t50 false (ldv Try.prog 3 t57 w.drew)) fun t58 =>
  wpB (gd t50 false (bp Try.prog .gtr 3 t53 t58)) fun t59 =>
  wpB (pickv t50 (some (Go.Value.bool true)) (some t59)) fun t60 =>
  cnd t60
  (Q (Go.Value.int Go.IntKind.i64 5) w.drew)
  (Q x13 w.drew))
  (wpB (be Try.prog .eql 3 (.tmp 45) (.const (Go.Value.int Go.IntKind.i64 3)) t45 (Go.Value.int Go.IntKind.i64 3)) fun t63 =>
  cnd t63
  (wpB (nilv x10) fun t65 =>
  wpB (pureRun Try.prog (Instr.fieldAt 137 t65 0)) fun t66 =>
  wpB (ldv Try.prog 3 t66 w) fun t67 =>
  wpB (be Try.prog .eql 3 (.tmp 67) (.const (Go.Value.int Go.IntKind.i64 15)) t67 (Go.Value.int Go.IntKind.i64 15)) fun t68 =>
  cnd t68
  (Q (Go.Value.int Go.IntKind.i64 8) w)
  (P84_2 w Q))
  (wpB (be Try.prog .eql 3 (.tmp 45) (.const (Go.Value.int Go.IntKind.i64 4)) t45 (Go.Value.int Go.IntKind.i64 4)) fun t70 =>
  cnd t70
  (wpB (nilv x10) fun t72 =>
  wpB (pureRun Try.prog (Instr.fieldAt 137 t72 0)) fun t73 =>
  wpB (ldv Try.prog 3 t73 w) fun t74 =>
  wpB (be Try.prog .eql 3 (.tmp 74) (.const (Go.Value.int Go.IntKind.i64 0)) t74 (Go.Value.int Go.IntKind.i64 0)) fun t75 =>
  cnd t75
  (Q (Go.Value.int Go.IntKind.i64 4) w)
  (P84_2 w Q))
  (wpB (be Try.prog .eql 3 (.tmp 45) (.const (Go.Value.int Go.IntKind.i64 5)) t45 (Go.Value.int Go.IntKind.i64 5)) fun t77 =>
  cnd t77
  (wpB (nilv x10) fun t81 =>
  wpB (pureRun Try.prog (Instr.fieldAt 137 t81 0)) fun t82 =>
  wpB (ldv Try.prog 3 t82 w) fun t83 =>
  wpB (be Try.prog .eql 3 (.tmp 83) (.const (Go.Value.int Go.IntKind.i64 0)) t83 (Go.Value.int Go.IntKind.i64 0)) fun t84 =>
  cnd t84
  (Q (Go.Value.int Go.IntKind.i64 4) w)
  (cnd x12
  (P84_2 w Q)
  (wpB (nilv x10) fun t89 =>
  wpB (pureRun Try.prog (Instr.fieldAt 137 t89 1)) fun t90 =>
  wpB (ldv Try.prog 135 t90 w) fun t91 =>
  wpB (pureRun Try.prog (Builtin.len_ #[135] 3 #[t91])) fun t92 =>
  wpB (be Try.prog .eql 3 (.tmp 92) (.const (Go.Value.int Go.IntKind.i64 8)) t92 (Go.Value.int Go.IntKind.i64 8)) fun t93 =>
  cnd t93
  (Q (Go.Value.int Go.IntKind.i64 8) w)
  (Q x13 w))))
  (wpB (be Try.prog .eql 3 (.tmp 45) (.const (Go.Value.int Go.IntKind.i64 6)) t45 (Go.Value.int Go.IntKind.i64 6)) fun t95 =>
  cnd t95
  (P84_3 x6 x7 x12 x13 t45 t95 w Q)
  (wpB (be Try.prog .eql 3 (.tmp 45) (.const (Go.Value.int Go.IntKind.i64 7)) t45 (Go.Value.int Go.IntKind.i64 7)) fun t96 =>
  cnd t96
  (P84_3 x6 x7 x12 x13 t45 t96 w Q)
  (wpB (be Try.prog .eql 3 (.tmp 45) (.const (Go.Value.int Go.IntKind.i64 8)) t45 (Go.Value.int Go.IntKind.i64 8)) fun t97 =>
  cnd t97
  (P84_3 x6 x7 x12 x13 t45 t97 w Q)
  (wpB (be Try.prog .eql 3 (.tmp 45) (.const (Go.Value.int Go.IntKind.i64 9)) t45 (Go.Value.int Go.IntKind.i64 9)) fun t98 =>
  P84_3 x6 x7 x12 x13 t45 t98 w Q)))))))
def L84_2 (w : World) (Q : Value → World → Prop) : Prop :=
  Q (Go.Value.int Go.IntKind.i64 0) w
def L84_3 (x6 x7 x12 x13 x45 x94 : Value) (w : World) (Q : Value → World → Prop) : Prop :=
  cnd x94
  (wpB (pureRun Try.prog (Op.unary .not x12)) fun t101 =>
  cnd t101
  (Q (Go.Value.int Go.IntKind.i64 4) w)
  (wpB (pureRun Try.prog (Instr.fieldAt 40 x6 3)) fun t103 =>
  wpB (ldv Try.prog 3 t103 w) fun t104 =>
  wpB (pureRun Try.prog (Instr.fieldAt 51 x7 4)) fun t105 =>
  wpB (ldv Try.prog 3 t105 w) fun t106 =>
  wpB (bp Try.prog .geq 3 t104 t106) fun t107 =>
  cnd t107
  (Q (Go.Value.int Go.IntKind.i64 5) w)
  (P84_2 w Q)))
  (wpB (be Try.prog .eql 3 (.tmp 45) (.const (Go.Value.int Go.IntKind.i64 10)) x45 (Go.Value.int Go.IntKind.i64 10)) fun t109 =>
  cnd t109
  (P84_4 x13 t109 w Q)
  (wpB (be Try.prog .eql 3 (.tmp 45) (.const (Go.Value.int Go.IntKind.i64 12)) x45 (Go.Value.int Go.IntKind.i64 12)) fun t110 =>
  P84_4 x13 t110 w Q))
def L84_4 (x13 x108 : Value) (w : World) (Q : Value → World → Prop) : Prop :=
  cnd x108
  (Q x13 w)
  (P84_2 w Q)
theorem F84_ok {a0 a1 a2 a3 : Value} {w : World} {Q : Value → World → Prop} (h : F84 a0 a1 a2 a3 w Q) : CallR Try.prog 84 [a0, a1, a2, a3] w Q :=
  have e : evC Try.prog (entR 3 143) 84 112 H84 Q C84 [] (entryE 0 [a0, a1, a2, a3]) w (contT Try.prog (entR 3 143) 84 112 H84 Try.f84.results.toList Q []) = F84 a0 a1 a2 a3 w Q := by kernel_rfl
  bt (fn := Try.f84) mixed bn Try.func84 (c := C84) rfl H84 (Nat.le_of_ble_eq_true rfl) (e.mpr h)
theorem L84_0_ok {x0 x6 x7 x10 x11 : Value} {w : World} {Q : Value → World → Prop} (h : L84_0 x0 x6 x7 x10 x11 w Q) : P84_0 x0 x6 x7 x10 x11 w Q :=
  have e : evC Try.prog (entR 3 143) 84 112 H84 Q (nav [1, 1, 1] C84) [] (unpack [0, 6, 7, 10, 11] [x0, x6, x7, x10, x11]) w (contT Try.prog (entR 3 143) 84 112 H84 Try.f84.results.toList Q []) = L84_0 x0 x6 x7 x10 x11 w Q := by kernel_rfl
  bx (fn := Try.f84) mixed bn Try.func84 H84 (c := (nav [1, 1, 1] C84)) (t := []) (e.mpr h)
theorem L84_1_ok {x0 x6 x7 x10 x12 x13 : Value} {w : World} {Q : Value → World → Prop} (h : L84_1 x0 x6 x7 x10 x12 x13 w Q) : P84_1 x0 x6 x7 x10 x12 x13 w Q :=
  have e : evC Try.prog (entR 3 143) 84 112 H84 Q (nav [1, 1, 1, 1, 1, 1] C84) [] (unpack [0, 6, 7, 10, 12, 13] [x0, x6, x7, x10, x12, x13]) w (contT Try.prog (entR 3 143) 84 112 H84 Try.f84.results.toList Q []) = L84_1 x0 x6 x7 x10 x12 x13 w Q := by kernel_rfl
  bx (fn := Try.f84) mixed bn Try.func84 H84 (c := (nav [1, 1, 1, 1, 1, 1] C84)) (t := []) (e.mpr h)
theorem L84_2_ok {w : World} {Q : Value → World → Prop} (h : L84_2  w Q) : P84_2  w Q :=
  have e : evC Try.prog (entR 3 143) 84 112 H84 Q (nav [1, 1, 1, 1, 1, 1, 1] C84) [] (unpack [] []) w (contT Try.prog (entR 3 143) 84 112 H84 Try.f84.results.toList Q []) = L84_2  w Q := by kernel_rfl
  bx (fn := Try.f84) mixed bn Try.func84 H84 (c := (nav [1, 1, 1, 1, 1, 1, 1] C84)) (t := []) (e.mpr h)
theorem L84_3_ok {x6 x7 x12 x13 x45 x94 : Value} {w : World} {Q : Value → World → Prop} (h : L84_3 x6 x7 x12 x13 x45 x94 w Q) : P84_3 x6 x7 x12 x13 x45 x94 w Q :=
  have e : evC Try.prog (entR 3 143) 84 112 H84 Q (nav [1, 1, 1, 1, 1, 1, 0, 1, 4, 1, 3, 1, 3, 1, 3, 1, 3, 1] C84) [.blk 0, .jn (nav [1, 1, 1, 1, 1, 1, 1] C84)] (unpack [6, 7, 12, 13, 45, 94] [x6, x7, x12, x13, x45, x94]) w (contT Try.prog (entR 3 143) 84 112 H84 Try.f84.results.toList Q [.blk 0, .jn (nav [1, 1, 1, 1, 1, 1, 1] C84)]) = L84_3 x6 x7 x12 x13 x45 x94 w Q := by kernel_rfl
  bx (fn := Try.f84) mixed bn Try.func84 H84 (c := (nav [1, 1, 1, 1, 1, 1, 0, 1, 4, 1, 3, 1, 3, 1, 3, 1, 3, 1] C84)) (t := [.blk 0, .jn (nav [1, 1, 1, 1, 1, 1, 1] C84)]) (e.mpr h)
theorem L84_4_ok {x13 x108 : Value} {w : World} {Q : Value → World → Prop} (h : L84_4 x13 x108 w Q) : P84_4 x13 x108 w Q :=
  have e : evC Try.prog (entR 3 143) 84 112 H84 Q (nav [1, 1, 1, 1, 1, 1, 0, 1, 4, 1, 3, 1, 3, 1, 3, 1, 3, 1, 3, 1] C84) [.blk 0, .jn (nav [1, 1, 1, 1, 1, 1, 1] C84)] (unpack [13, 108] [x13, x108]) w (contT Try.prog (entR 3 143) 84 112 H84 Try.f84.results.toList Q [.blk 0, .jn (nav [1, 1, 1, 1, 1, 1, 1] C84)]) = L84_4 x13 x108 w Q := by kernel_rfl
  bx (fn := Try.f84) mixed bn Try.func84 H84 (c := (nav [1, 1, 1, 1, 1, 1, 0, 1, 4, 1, 3, 1, 3, 1, 3, 1, 3, 1, 3, 1] C84)) (t := [.blk 0, .jn (nav [1, 1, 1, 1, 1, 1, 1] C84)]) (e.mpr h)

noncomputable def C85 : Code := (Try.f85.body).getD .skip
noncomputable def H85 : Hints := ⟨[(2, [0, 3, 10, 11])], [], [(4, (.leaf [0, 1, 2, 3, 4, 5, 6, 7, 8, 9]))]⟩
noncomputable def T85_0 : List It := [.lp (nav [1, 0, 1, 4, 5] C85), .blk 0, .jn (nav [1, 1] C85)]
def P85_0 (x0 x3 x10 x11 : Value) (w : World) (Q : Value → World → Prop) : Prop := Part Try.prog 85 T85_0 [0, 3, 10, 11] [x0, x3, x10, x11] w Q
def F85 (a0 a1 : Value) (w : World) (Q : Value → World → Prop) : Prop :=
  effv Try.prog (Instr.box 141 a1) w fun t3 w =>
  wpB (nilv a0) fun t7 =>
  wpB (pureRun Try.prog (Instr.fieldAt 132 t7 3)) fun t8 =>
  wpB (ldv Try.prog 130 t8 w) fun t9 =>
  wpB (pureRun Try.prog (Builtin.len_ #[130] 3 #[t9])) fun t10 =>
  P85_0 a0 t3 t10 (Go.Value.int Go.IntKind.i64 0) w Q
def L85_0 (x0 x3 x10 x11 : Value) (w : World) (Q : Value → World → Prop) : Prop :=
  wpB (bp Try.prog .lss 3 x11 x10) fun t12 =>
  cnd t12
  (wpB (nilv x0) fun t15 =>
  wpB (pureRun Try.prog (Instr.fieldAt 132 t15 3)) fun t16 =>
  wpB (ldv Try.prog 130 t16 w.drew) fun t17 =>
  wpB (pureRun Try.prog (Instr.indexAt 130 t17 x11)) fun t19 =>
  wpB (pureRun Try.prog (Instr.fieldAt 144 t19 0)) fun t20 =>
  wpB (ldv Try.prog 141 t20 w.drew) fun t21 =>
  wpB (ldv Try.prog 141 x3 w.drew) fun t22 =>
  wpB (be Try.prog .eql 141 (.tmp 21) (.tmp 22) t21 t22) fun t23 =>
  cnd t23
  (wpB (nilv x0) fun t25 =>
  wpB (pureRun Try.prog (Instr.fieldAt 132 t25 3)) fun t26 =>
  wpB (ldv Try.prog 130 t26 w.drew) fun t27 =>
  wpB (pureRun Try.prog (Instr.indexAt 130 t27 x11)) fun t29 =>
  Q t29 w.drew)
  (wpB (bp Try.prog .add 3 x11 (Go.Value.int Go.IntKind.i64 1)) fun t30 =>
  P85_0 x0 x3 x10 t30 w.drew Q))
  (Q (Go.Value.pointer none) w)
theorem F85_ok {a0 a1 : Value} {w : World} {Q : Value → World → Prop} (h : F85 a0 a1 w Q) : CallR Try.prog 85 [a0, a1] w Q :=
  have e : evC Try.prog (entR 3 143) 85 31 H85 Q C85 [] (entryE 0 [a0, a1]) w (contT Try.prog (entR 3 143) 85 31 H85 Try.f85.results.toList Q []) = F85 a0 a1 w Q := by kernel_rfl
  bt (fn := Try.f85) mixed bn Try.func85 (c := C85) rfl H85 (Nat.le_of_ble_eq_true rfl) (e.mpr h)
theorem L85_0_ok {x0 x3 x10 x11 : Value} {w : World} {Q : Value → World → Prop} (h : L85_0 x0 x3 x10 x11 w Q) : P85_0 x0 x3 x10 x11 w Q :=
  have e : evC Try.prog (entR 3 143) 85 31 H85 Q (nav [1, 0, 1, 4, 5] C85) T85_0 (unpack [0, 3, 10, 11] [x0, x3, x10, x11]) w (contT Try.prog (entR 3 143) 85 31 H85 Try.f85.results.toList Q T85_0) = L85_0 x0 x3 x10 x11 w Q := by kernel_rfl
  part_lp (fn := Try.f85) mixed bn Try.func85 H85 (c := (nav [1, 0, 1, 4, 5] C85)) (t := [.blk 0, .jn (nav [1, 1] C85)]) (e.mpr h)

noncomputable def C86 : Code := (Try.f86.body).getD .skip
noncomputable def H86 : Hints := ⟨[], [], []⟩
def F86 (a0 : Value) (w : World) (Q : Value → World → Prop) : Prop :=
  effv Try.prog (Instr.box 51 a0) w fun t1 w =>
  effv Try.prog (Instr.alloc 141 true (.tuple #[])) w fun t2 w =>
  wpB (pureRun Try.prog (Instr.fieldAt 51 t1 0)) fun t3 =>
  wpB (ldv Try.prog 3 t3 w) fun t4 =>
  wpB (pureRun Try.prog (Instr.fieldAt 51 t1 1)) fun t5 =>
  wpB (ldv Try.prog 3 t5 w) fun t6 =>
  wpB (pureRun Try.prog (Instr.build 141 #[(0, t4), (1, t6)])) fun t7 =>
  effu Try.prog (Instr.storeAt 141 t2 t7) w fun w =>
  wpB (ldv Try.prog 141 t2 w) fun r2 => Q r2 w
theorem F86_ok {a0 : Value} {w : World} {Q : Value → World → Prop} (h : F86 a0 w Q) : CallR Try.prog 86 [a0] w Q :=
  have e : evC Try.prog (entR 3 143) 86 8 H86 Q C86 [] (entryE 0 [a0]) w (contT Try.prog (entR 3 143) 86 8 H86 Try.f86.results.toList Q []) = F86 a0 w Q := by kernel_rfl
  bt (fn := Try.f86) mixed bn Try.func86 (c := C86) rfl H86 (Nat.le_of_ble_eq_true rfl) (e.mpr h)

noncomputable def C87 : Code := (Try.f87.body).getD .skip
noncomputable def H87 : Hints := ⟨[], [(4, [4, 5])], []⟩
noncomputable def T87_0 : List It := [.jn (nav [1, 1, 1] C87)]
def P87_0 (x4 x5 : Value) (w : World) (Q : Value → World → Prop) : Prop := Part Try.prog 87 T87_0 [4, 5] [x4, x5] w Q
def F87 (a0 : Value) (w : World) (Q : Value → World → Prop) : Prop :=
  effv Try.prog (Instr.box 74 a0) w fun t1 w =>
  wpB (ldv Try.prog 74 t1 w) fun t7 =>
  CallR Try.prog 41 [t7] w fun t8 w =>
  wpB (pureRun Try.prog (Instr.extract t8 0)) fun t9 =>
  wpB (pureRun Try.prog (Instr.extract t8 1)) fun t10 =>
  wpB (be Try.prog .eql 29 (.tmp 11) (.const (Go.Value.int Go.IntKind.i64 0)) t10 (Go.Value.int Go.IntKind.i64 0)) fun t12 =>
  cnd t12
  (wpB (nilv t9) fun t14 =>
  wpB (pureRun Try.prog (Instr.fieldAt 132 t14 1)) fun t15 =>
  effu Try.prog (Instr.storeAt 4 t15 (Go.Value.bool true)) w fun w =>
  P87_0 t9 t10 w Q)
  (P87_0 t9 t10 w Q)
def L87_0 (x4 x5 : Value) (w : World) (Q : Value → World → Prop) : Prop :=
  Q (.tuple #[x4, x5]) w
theorem F87_ok {a0 : Value} {w : World} {Q : Value → World → Prop} (h : F87 a0 w Q) : CallR Try.prog 87 [a0] w Q :=
  have e : evC Try.prog (entR 3 143) 87 18 H87 Q C87 [] (entryE 0 [a0]) w (contT Try.prog (entR 3 143) 87 18 H87 Try.f87.results.toList Q []) = F87 a0 w Q := by kernel_rfl
  bt (fn := Try.f87) mixed bn Try.func87 (c := C87) rfl H87 (Nat.le_of_ble_eq_true rfl) (e.mpr h)
theorem L87_0_ok {x4 x5 : Value} {w : World} {Q : Value → World → Prop} (h : L87_0 x4 x5 w Q) : P87_0 x4 x5 w Q :=
  have e : evC Try.prog (entR 3 143) 87 18 H87 Q (nav [1, 1, 1] C87) [] (unpack [4, 5] [x4, x5]) w (contT Try.prog (entR 3 143) 87 18 H87 Try.f87.results.toList Q []) = L87_0 x4 x5 w Q := by kernel_rfl
  bx (fn := Try.f87) mixed bn Try.func87 H87 (c := (nav [1, 1, 1] C87)) (t := []) (e.mpr h)

noncomputable def C89 : Code := (Try.f89.body).getD .skip
noncomputable def H89 : Hints := ⟨[], [], []⟩
def F89 (a0 a1 : Value) (w : World) (Q : Value → World → Prop) : Prop :=
  wpB (bp Try.prog .geq 3 a1 (Go.Value.int Go.IntKind.i64 0)) fun t6 =>
  wpB (gd t6 true (nilv (gv t6 true a0))) fun t10 =>
  wpB (gd t6 true (pureRun Try.prog (Instr.fieldAt 132 t10 2))) fun t11 =>
  wpB (gd t6 true (ldv Try.prog 128 t11 w)) fun t12 =>
  wpB (gd t6 true (pureRun Try.prog (Builtin.len_ #[128] 3 #[t12]))) fun t13 =>
  wpB (gd t6 true (bp Try.prog .lss 3 (gv t6 true a1) t13)) fun t14 =>
  wpB (pickv t6 (some t14) (some (Go.Value.bool false))) fun t15 =>
  Q t15 w
theorem F89_ok {a0 a1 : Value} {w : World} {Q : Value → World → Prop} (h : F89 a0 a1 w Q) : CallR Try.prog 89 [a0, a1] w Q :=
  have e : evC Try.prog (entR 3 143) 89 16 H89 Q C89 [] (entryE 0 [a0, a1]) w (contT Try.prog (entR 3 143) 89 16 H89 Try.f89.results.toList Q []) = F89 a0 a1 w Q := by kernel_rfl
  bt (fn := Try.f89) mixed bn Try.func89 (c := C89) rfl H89 (Nat.le_of_ble_eq_true rfl) (e.mpr h)

noncomputable def C100 : Code := (Try.f100.body).getD .skip
noncomputable def H100 : Hints := ⟨[], [(2, [0, 6, 7, 8, 9])], [(1, (.ask 3 7 (.ask 8 7 (.leaf [0, 1, 2, 4, 3, 5, 6, 8, 7, 9, 10]) (.leaf [0, 1, 2, 3, 4, 5, 6, 7, 8, 9, 10])) (.ask 8 7 (.leaf [0, 1, 2, 4, 6, 8, 7, 3, 5, 9, 10]) (.leaf [0, 1, 2, 4, 6, 7, 3, 5, 8, 9, 10])))), (10, (.leaf [0, 1, 2, 3, 4, 5, 6])), (11, (.leaf [0, 1, 2, 3, 4, 5, 6, 7, 8, 9, 10])), (13, (.ask 6 4 (.leaf [0, 2, 5, 1, 3, 6, 4, 7, 8]) (.leaf [0, 1, 2, 3, 4, 5, 6, 7, 8]))), (15, (.ask 8 4 (.leaf [0, 2, 7, 1, 3, 8, 4, 5, 6, 9, 10, 11]) (.leaf [0, 1, 2, 3, 4, 5, 6, 7, 8, 9, 10, 11]))), (18, (.leaf [0, 1, 2, 3, 4, 5])), (21, (.leaf [0, 1, 2, 3, 4, 5, 6, 7, 8])), (23, (.leaf [0, 1, 2, 3, 4, 5, 6, 7, 8]))]⟩
noncomputable def T100_0 : List It := [.jn (nav [1, 1] C100)]
def P100_0 (x0 x6 x7 x8 x9 : Value) (w : World) (Q : Value → World → Prop) : Prop := Part Try.prog 100 T100_0 [0, 6, 7, 8, 9] [x0, x6, x7, x8, x9] w Q
def F100 (a0 a1 a2 a3 : Value) (w : World) (Q : Value → World → Prop) : Prop :=
  effv Try.prog (Instr.box 40 a2) w fun t6 w =>
  effv Try.prog (Instr.box 51 a3) w fun t7 w =>
  ((wpB (nilv a0) fun t12 =>
  wpB (pureRun Try.prog (Instr.fieldAt 132 t12 4)) fun t13 =>
  wpB (ldv Try.prog 129 t13 w.drew) fun t14 =>
  wpB (pureRun Try.prog (Instr.indexAt 129 t14 a1)) fun t16 =>
  wpB (ldv Try.prog 51 t7 w.drew) fun t17 =>
  effv Try.prog (Instr.alloc 141 true (.tuple #[])) w.drew fun t9 w =>
  CallR Try.prog 86 [t17] w fun t18 w =>
  effu Try.prog (Instr.storeAt 141 t9 t18) w fun w =>
  P100_0 a0 t6 t7 t16 t9 w Q) ∧
  (wpB (nilv a0) fun t12_1 =>
  wpB (pureRun Try.prog (Instr.fieldAt 132 t12_1 4)) fun t13_1 =>
  wpB (ldv Try.prog 129 t13_1 w.drew) fun t14_1 =>
  wpB (pureRun Try.prog (Instr.indexAt 129 t14_1 a1)) fun t16_1 =>
  wpB (ldv Try.prog 51 t7 w.drew) fun t17_1 =>
  CallR Try.prog 86 [t17_1] w.drew fun t18_1 w =>
  effv Try.prog (Instr.alloc 141 true (.tuple #[])) w fun t9_1 w =>
  effu Try.prog (Instr.storeAt 141 t9_1 t18_1) w fun w =>
  P100_0 a0 t6 t7 t16_1 t9_1 w Q)) ∧
  ((wpB (nilv a0) fun t12_2 =>
  wpB (pureRun Try.prog (Instr.fieldAt 132 t12_2 4)) fun t13_2 =>
  wpB (ldv Try.prog 51 t7 w.drew) fun t17_2 =>
  effv Try.prog (Instr.alloc 141 true (.tuple #[])) w.drew fun t9_2 w =>
  CallR Try.prog 86 [t17_2] w fun t18_2 w =>
  wpB (ldv Try.prog 129 t13_2 w) fun t14_2 =>
  wpB (pureRun Try.prog (Instr.indexAt 129 t14_2 a1)) fun t16_2 =>
  effu Try.prog (Instr.storeAt 141 t9_2 t18_2) w fun w =>
  P100_0 a0 t6 t7 t16_2 t9_2 w Q) ∧
  (wpB (nilv a0) fun t12_3 =>
  wpB (pureRun Try.prog (Instr.fieldAt 132 t12_3 4)) fun t13_3 =>
  wpB (ldv Try.prog 51 t7 w.drew) fun t17_3 =>
  CallR Try.prog 86 [t17_3] w.drew fun t18_3 w =>
  wpB (ldv Try.prog 129 t13_3 w) fun t14_3 =>
  wpB (pureRun Try.prog (Instr.indexAt 129 t14_3 a1)) fun t16_3 =>
  effv Try.prog (Instr.alloc 141 true (.tuple #[])) w fun t9_3 w =>
  effu Try.prog (Instr.storeAt 141 t9_3 t18_3) w fun w =>
  P100_0 a0 t6 t7 t16_3 t9_3 w Q))
def L100_0 (x0 x6 x7 x8 x9 : Value) (w : World) (Q : Value → World → Prop) : Prop :=
  wpB (pureRun Try.prog (Instr.fieldAt 40 x6 0)) fun t19 =>
  wpB (ldv Try.prog 3 t19 w) fun t20 =>
  wpB (be Try.prog .eql 3 (.tmp 20) (.const (Go.Value.int Go.IntKind.i64 3)) t20 (Go.Value.int Go.IntKind.i64 3)) fun t22 =>
  cnd t22
  (wpB (nilv x8) fun t24 =>
  wpB (pureRun Try.prog (Instr.fieldAt 137 t24 0)) fun t25 =>
  wpB (ldv Try.prog 3 t25 w) fun t26 =>
  wpB (bp Try.prog .add 3 t26 (Go.Value.int Go.IntKind.i64 1)) fun t27 =>
  wpB (nilv x8) fun t28 =>
  wpB (pureRun Try.prog (Instr.fieldAt 137 t28 0)) fun t29 =>
  effu Try.prog (Instr.storeAt 3 t29 t27) w fun w =>
  Q (.tuple #[]) w)
  (wpB (be Try.prog .eql 3 (.tmp 20) (.const (Go.Value.int Go.IntKind.i64 4)) t20 (Go.Value.int Go.IntKind.i64 4)) fun t31 =>
  cnd t31
  (wpB (nilv x8) fun t33 =>
  wpB (pureRun Try.prog (Instr.fieldAt 137 t33 0)) fun t34 =>
  wpB (ldv Try.prog 3 t34 w) fun t35 =>
  wpB (bp Try.prog .sub 3 t35 (Go.Value.int Go.IntKind.i64 1)) fun t36 =>
  wpB (nilv x8) fun t37 =>
  wpB (pureRun Try.prog (Instr.fieldAt 137 t37 0)) fun t38 =>
  effu Try.prog (Instr.storeAt 3 t38 t36) w fun w =>
  wpB (nilv x8) fun t40 =>
  wpB (pureRun Try.prog (Instr.fieldAt 137 t40 0)) fun t41 =>
  wpB (ldv Try.prog 3 t41 w) fun t42 =>
  wpB (be Try.prog .eql 3 (.tmp 42) (.const (Go.Value.int Go.IntKind.i64 0)) t42 (Go.Value.int Go.IntKind.i64 0)) fun t43 =>
  cnd t43
  (wpB (nilv x8) fun t45 =>
  wpB (pureRun Try.prog (Instr.fieldAt 137 t45 1)) fun t46 =>
  effu Try.prog (Instr.storeAt 135 t46 (Go.Value.slice none 0 0)) w fun w =>
  Q (.tuple #[]) w)
  (Q (.tuple #[]) w))
  (wpB (be Try.prog .eql 3 (.tmp 20) (.const (Go.Value.int Go.IntKind.i64 5)) t20 (Go.Value.int Go.IntKind.i64 5)) fun t48 =>
  cnd t48
  (wpB (nilv x8) fun t50 =>
  wpB (pureRun Try.prog (Instr.fieldAt 137 t50 1)) fun t51 =>
  wpB (ldv Try.prog 135 t51 w.drew) fun t52 =>
  wpB (ldv Try.prog 141 x9 w.drew) fun t53 =>
  CallR Try.prog 116 [t52, t53] w.drew fun t54 w =>
  wpB (pureRun Try.prog (Op.unary .not t54)) fun t55 =>
  cnd t55
  (wpB (nilv x8) fun t58 =>
  wpB (pureRun Try.prog (Instr.fieldAt 137 t58 1)) fun t59 =>
  wpB (ldv Try.prog 135 t59 w.drew) fun t60 =>
  wpB (ldv Try.prog 141 x9 w.drew) fun t61 =>
  effv Try.prog (Instr.buildSlice 135 1 #[(0, t61)]) w.drew fun t62 w =>
  effv Try.prog (Builtin.append_ #[135, 135] 135 #[t60, t62]) w fun t63 w =>
  wpB (nilv x8) fun t64 =>
  wpB (pureRun Try.prog (Instr.fieldAt 137 t64 1)) fun t65 =>
  effu Try.prog (Instr.storeAt 135 t65 t63) w fun w =>
  Q (.tuple #[]) w)
  (Q (.tuple #[]) w))
  (wpB (be Try.prog .eql 3 (.tmp 20) (.const (Go.Value.int Go.IntKind.i64 7)) t20 (Go.Value.int Go.IntKind.i64 7)) fun t67 =>
  cnd t67
  ((wpB (pureRun Try.prog (Instr.fieldAt 40 x6 3)) fun t70 =>
  wpB (pureRun Try.prog (Instr.fieldAt 40 x6 4)) fun t73 =>
  wpB (ldv Try.prog 51 x7 w.drew) fun t69 =>
  wpB (ldv Try.prog 3 t70 w.drew) fun t71 =>
  wpB (ldv Try.prog 38 t73 w.drew) fun t74 =>
  CallR Try.prog 82 [x0, t69, t71] w.drew fun t72 w =>
  wpB (nilv t72) fun t75 =>
  effu Try.prog (Instr.storeAt 38 t75 t74) w fun w =>
  Q (.tuple #[]) w) ∧
  (wpB (ldv Try.prog 51 x7 w.drew) fun t69_1 =>
  wpB (pureRun Try.prog (Instr.fieldAt 40 x6 3)) fun t70_1 =>
  wpB (ldv Try.prog 3 t70_1 w.drew) fun t71_1 =>
  CallR Try.prog 82 [x0, t69_1, t71_1] w.drew fun t72_1 w =>
  wpB (pureRun Try.prog (Instr.fieldAt 40 x6 4)) fun t73_1 =>
  wpB (ldv Try.prog 38 t73_1 w) fun t74_1 =>
  wpB (nilv t72_1) fun t75_1 =>
  effu Try.prog (Instr.storeAt 38 t75_1 t74_1) w fun w =>
  Q (.tuple #[]) w))
  (wpB (be Try.prog .eql 3 (.tmp 20) (.const (Go.Value.int Go.IntKind.i64 8)) t20 (Go.Value.int Go.IntKind.i64 8)) fun t77 =>
  cnd t77
  ((wpB (pureRun Try.prog (Instr.fieldAt 40 x6 3)) fun t80 =>
  wpB (pureRun Try.prog (Instr.fieldAt 40 x6 4)) fun t85 =>
  wpB (ldv Try.prog 51 x7 w.drew) fun t79 =>
  wpB (ldv Try.prog 3 t80 w.drew) fun t81 =>
  wpB (ldv Try.prog 38 t85 w.drew) fun t86 =>
  CallR Try.prog 82 [x0, t79, t81] w.drew fun t82 w =>
  wpB (nilv t82) fun t83 =>
  wpB (ldv Try.prog 38 t83 w) fun t84 =>
  wpB (bp Try.prog .add 38 t84 t86) fun t87 =>
  wpB (nilv t82) fun t88 =>
  effu Try.prog (Instr.storeAt 38 t88 t87) w fun w =>
  Q (.tuple #[]) w) ∧
  (wpB (ldv Try.prog 51 x7 w.drew) fun t79_1 =>
  wpB (pureRun Try.prog (Instr.fieldAt 40 x6 3)) fun t80_1 =>
  wpB (ldv Try.prog 3 t80_1 w.drew) fun t81_1 =>
  CallR Try.prog 82 [x0, t79_1, t81_1] w.drew fun t82_1 w =>
  wpB (nilv t82_1) fun t83_1 =>
  wpB (ldv Try.prog 38 t83_1 w) fun t84_1 =>
  wpB (pureRun Try.prog (Instr.fieldAt 40 x6 4)) fun t85_1 =>
  wpB (ldv Try.prog 38 t85_1 w) fun t86_1 =>
  wpB (bp Try.prog .add 38 t84_1 t86_1) fun t87_1 =>
  wpB (nilv t82_1) fun t88_1 =>
  effu Try.prog (Instr.storeAt 38 t88_1 t87_1) w fun w =>
  Q (.tuple #[]) w))
  (wpB (be Try.prog .eql 3 (.tmp 20) (.const (Go.Value.int Go.IntKind.i64 9)) t20 (Go.Value.int Go.IntKind.i64 9)) fun t90 =>
  cnd t90
  (wpB (ldv Try.prog 51 x7 w) fun t92 =>
  wpB (pureRun Try.prog (Instr.fieldAt 40 x6 3)) fun t93 =>
  wpB (ldv Try.prog 3 t93 w) fun t94 =>
  CallR Try.prog 82 [x0, t92, t94] w fun t95 w =>
  wpB (nilv t95) fun t97 =>
  wpB (ldv Try.prog 38 t97 w.drew) fun t98 =>
  wpB (pureRun Try.prog (Instr.fieldAt 40 x6 4)) fun t99 =>
  wpB (ldv Try.prog 38 t99 w.drew) fun t100 =>
  wpB (be Try.prog .eql 38 (.tmp 98) (.tmp 100) t98 t100) fun t101 =>
  cnd t101
  (wpB (pureRun Try.prog (Instr.fieldAt 40 x6 5)) fun t103 =>
  wpB (ldv Try.prog 38 t103 w.drew) fun t104 =>
  wpB (nilv t95) fun t105 =>
  effu Try.prog (Instr.storeAt 38 t105 t104) w.drew fun w =>
  Q (.tuple #[]) w)
  (Q (.tuple #[]) w.drew))
  (wpB (be Try.prog .eql 3 (.tmp 20) (.const (Go.Value.int Go.IntKind.i64 10)) t20 (Go.Value.int Go.IntKind.i64 10)) fun t107 =>
  cnd t107
  (wpB (nilv x0) fun t109 =>
  wpB (pureRun Try.prog (Instr.fieldAt 132 t109 2)) fun t110 =>
  wpB (ldv Try.prog 128 t110 w.drew) fun t111 =>
  wpB (pureRun Try.prog (Instr.fieldAt 51 x7 0)) fun t112 =>
  wpB (ldv Try.prog 3 t112 w.drew) fun t113 =>
  wpB (pureRun Try.prog (Instr.indexAt 128 t111 t113)) fun t114 =>
  wpB (pureRun Try.prog (Instr.fieldAt 150 t114 0)) fun t115 =>
  effu Try.prog (Instr.storeAt 3 t115 (Go.Value.int Go.IntKind.i64 2)) w.drew fun w =>
  wpB (nilv x0) fun t117 =>
  wpB (pureRun Try.prog (Instr.fieldAt 132 t117 1)) fun t118 =>
  wpB (ldv Try.prog 4 t118 w) fun t119 =>
  cnd t119
  (wpB (nilv x0) fun t121 =>
  wpB (pureRun Try.prog (Instr.fieldAt 132 t121 2)) fun t122 =>
  wpB (ldv Try.prog 128 t122 w.drew) fun t123 =>
  wpB (pureRun Try.prog (Instr.fieldAt 51 x7 0)) fun t124 =>
  wpB (ldv Try.prog 3 t124 w.drew) fun t125 =>
  wpB (pureRun Try.prog (Instr.indexAt 128 t123 t125)) fun t126 =>
  wpB (pureRun Try.prog (Instr.fieldAt 150 t126 0)) fun t127 =>
  effu Try.prog (Instr.storeAt 3 t127 (Go.Value.int Go.IntKind.i64 0)) w.drew fun w =>
  Q (.tuple #[]) w)
  (Q (.tuple #[]) w))
  (Q (.tuple #[]) w)))))))
theorem F100_ok {a0 a1 a2 a3 : Value} {w : World} {Q : Value → World → Prop} (h : F100 a0 a1 a2 a3 w Q) : CallR Try.prog 100 [a0, a1, a2, a3] w Q :=
  have e : evC Try.prog (entR 3 143) 100 128 H100 Q C100 [] (entryE 0 [a0, a1, a2, a3]) w (contT Try.prog (entR 3 143) 100 128 H100 Try.f100.results.toList Q []) = F100 a0 a1 a2 a3 w Q := by kernel_rfl
  bt (fn := Try.f100) mixed bn Try.func100 (c := C100) rfl H100 (Nat.le_of_ble_eq_true rfl) (e.mpr h)
theorem L100_0_ok {x0 x6 x7 x8 x9 : Value} {w : World} {Q : Value → World → Prop} (h : L100_0 x0 x6 x7 x8 x9 w Q) : P100_0 x0 x6 x7 x8 x9 w Q :=
  have e : evC Try.prog (entR 3 143) 100 128 H100 Q (nav [1, 1] C100) [] (unpack [0, 6, 7, 8, 9] [x0, x6, x7, x8, x9]) w (contT Try.prog (entR 3 143) 100 128 H100 Try.f100.results.toList Q []) = L100_0 x0 x6 x7 x8 x9 w Q := by kernel_rfl
  bx (fn := Try.f100) mixed bn Try.func100 H100 (c := (nav [1, 1] C100)) (t := []) (e.mpr h)

noncomputable def C101 : Code := (Try.f101.body).getD .skip
noncomputable def H101 : Hints := ⟨[], [(9, [0, 1, 5, 7]), (13, [])], [(3, (.leaf [0, 1, 2, 3, 4, 5, 6, 7, 8, 9, 10, 11, 12, 13, 14, 15, 16, 17, 18])), (6, (.leaf [0, 1, 2, 3, 4, 5, 6, 7, 8, 9, 10])), (11, (.leaf [0, 1, 2, 3, 4, 5, 6, 7, 8, 9, 10])), (12, (.ask 4 7 (.leaf [0, 1, 2, 3, 4, 5, 6, 7, 8, 9, 10, 11, 12, 13, 14]) (.leaf [0, 1, 2, 3, 5, 8, 6, 7, 9, 4, 10, 11, 12, 13, 14])))]⟩
noncomputable def T101_0 : List It := [.jn (nav [1, 1, 1, 1, 1] C101)]
noncomputable def T101_1 : List It := [.jn (nav [1, 1, 1, 1, 1, 1, 1, 1] C101)]
def P101_0 (x0 x1 x5 x7 : Value) (w : World) (Q : Value → World → Prop) : Prop := Part Try.prog 101 T101_0 [0, 1, 5, 7] [x0, x1, x5, x7] w Q
def P101_1 (w : World) (Q : Value → World → Prop) : Prop := Part Try.prog 101 T101_1 [] [] w Q
def F101 (a0 a1 a2 : Value) (w : World) (Q : Value → World → Prop) : Prop :=
  effv Try.prog (Instr.box 53 a2) w fun t5 w =>
  wpB (ldv Try.prog 53 t5 w) fun t9 =>
  wpB (pureRun Try.prog (Instr.build 53 #[(0, (Go.Value.int Go.IntKind.i64 7))])) fun t10 =>
  wpB (be Try.prog .eql 53 (.tmp 9) (.tmp 10) t9 t10) fun t11 =>
  cnd t11
  (wpB (nilv a0) fun t13 =>
  wpB (pureRun Try.prog (Instr.fieldAt 132 t13 1)) fun t14 =>
  wpB (ldv Try.prog 4 t14 w) fun t15 =>
  gE t15 false (CallR Try.prog 79 [(gv t15 false a0)] w) (fun t18 w =>
  wpB (gd t15 false (be Try.prog .eql 3 (.tmp 18) (.const (Go.Value.int Go.IntKind.i64 0)) t18 (Go.Value.int Go.IntKind.i64 0))) fun t19 =>
  wpB (pickv t15 (some (Go.Value.bool true)) (some t19)) fun t20 =>
  Q t20 w) w)
  (wpB (pureRun Try.prog (Instr.fieldAt 53 t5 1)) fun t22 =>
  wpB (pureRun Try.prog (Instr.fieldAt 51 t22 0)) fun t23 =>
  wpB (ldv Try.prog 3 t23 w.drew) fun t24 =>
  CallR Try.prog 89 [a0, t24] w.drew fun t25 w =>
  wpB (pureRun Try.prog (Op.unary .not t25)) fun t26 =>
  wpB (gd t26 false (nilv (gv t26 false a0))) fun t29 =>
  wpB (gd t26 false (pureRun Try.prog (Instr.fieldAt 132 t29 2))) fun t30 =>
  wpB (gd t26 false (ldv Try.prog 128 t30 w)) fun t31 =>
  wpB (gd t26 false (pureRun Try.prog (Instr.fieldAt 53 t5 1))) fun t32 =>
  wpB (gd t26 false (pureRun Try.prog (Instr.fieldAt 51 t32 0))) fun t33 =>
  wpB (gd t26 false (ldv Try.prog 3 t33 w)) fun t34 =>
  wpB (gd t26 false (pureRun Try.prog (Instr.indexAt 128 t31 t34))) fun t35 =>
  wpB (gd t26 false (pureRun Try.prog (Instr.fieldAt 150 t35 0))) fun t36 =>
  wpB (gd t26 false (ldv Try.prog 3 t36 w)) fun t37 =>
  wpB (gd t26 false (be Try.prog .neq 3 (.tmp 37) (.const (Go.Value.int Go.IntKind.i64 0)) t37 (Go.Value.int Go.IntKind.i64 0))) fun t38 =>
  wpB (pickv t26 (some (Go.Value.bool true)) (some t38)) fun t39 =>
  cnd t39
  (Q (Go.Value.bool false) w)
  (wpB (nilv a0) fun t41 =>
  wpB (pureRun Try.prog (Instr.fieldAt 132 t41 2)) fun t42 =>
  wpB (ldv Try.prog 128 t42 w.drew) fun t43 =>
  wpB (pureRun Try.prog (Instr.fieldAt 53 t5 1)) fun t44 =>
  wpB (pureRun Try.prog (Instr.fieldAt 51 t44 0)) fun t45 =>
  wpB (ldv Try.prog 3 t45 w.drew) fun t46 =>
  wpB (pureRun Try.prog (Instr.indexAt 128 t43 t46)) fun t47 =>
  wpB (pureRun Try.prog (Instr.fieldAt 150 t47 1)) fun t48 =>
  wpB (ldv Try.prog 3 t48 w.drew) fun t49 =>
  wpB (bp Try.prog .lss 3 t49 (Go.Value.int Go.IntKind.i64 4294967295)) fun t51 =>
  cnd t51
  (wpB (bp Try.prog .add 3 t49 (Go.Value.int Go.IntKind.i64 1)) fun t53 =>
  P101_0 a0 a1 t5 t53 w.drew Q)
  (P101_0 a0 a1 t5 (Go.Value.int Go.IntKind.i64 0) w.drew Q)))
def L101_0 (x0 x1 x5 x7 : Value) (w : World) (Q : Value → World → Prop) : Prop :=
  wpB (ldv Try.prog 53 x5 w) fun t54 =>
  wpB (pureRun Try.prog (Instr.fieldAt 53 x5 1)) fun t55 =>
  wpB (pureRun Try.prog (Instr.fieldAt 51 t55 0)) fun t56 =>
  wpB (ldv Try.prog 3 t56 w) fun t57 =>
  wpB (pureRun Try.prog (Instr.build 51 #[(0, t57), (1, x7)])) fun t59 =>
  wpB (pureRun Try.prog (Instr.build 53 #[(1, t59)])) fun t60 =>
  wpB (be Try.prog .neq 53 (.tmp 54) (.tmp 60) t54 t60) fun t61 =>
  cnd t61
  (Q (Go.Value.bool false) w)
  (wpB (nilv x0) fun t63 =>
  wpB (pureRun Try.prog (Instr.fieldAt 132 t63 2)) fun t64 =>
  wpB (ldv Try.prog 128 t64 w.drew) fun t65 =>
  wpB (pureRun Try.prog (Instr.fieldAt 53 x5 1)) fun t66 =>
  wpB (pureRun Try.prog (Instr.fieldAt 51 t66 0)) fun t67 =>
  wpB (ldv Try.prog 3 t67 w.drew) fun t68 =>
  wpB (pureRun Try.prog (Instr.build 150 #[(0, (Go.Value.int Go.IntKind.i64 1)), (1, x7)])) fun t70 =>
  wpB (pureRun Try.prog (Instr.indexAt 128 t65 t68)) fun t71 =>
  effu Try.prog (Instr.storeAt 150 t71 t70) w.drew fun w =>
  (wpB (nilv x0) fun t74 =>
  wpB (pureRun Try.prog (Instr.fieldAt 132 t74 3)) fun t75 =>
  wpB (ldv Try.prog 130 t75 w.drew) fun t76 =>
  wpB (pureRun Try.prog (Instr.fieldAt 53 x5 1)) fun t77 =>
  wpB (ldv Try.prog 51 t77 w.drew) fun t78 =>
  CallR Try.prog 86 [t78] w.drew fun t79 w =>
  wpB (pureRun Try.prog (Instr.build 144 #[(0, t79), (1, x1)])) fun t81 =>
  effv Try.prog (Instr.buildSlice 130 1 #[(0, t81)]) w fun t82 w =>
  effv Try.prog (Builtin.append_ #[130, 130] 130 #[t76, t82]) w fun t83 w =>
  wpB (nilv x0) fun t84 =>
  wpB (pureRun Try.prog (Instr.fieldAt 132 t84 3)) fun t85 =>
  effu Try.prog (Instr.storeAt 130 t85 t83) w fun w =>
  P101_1 w Q) ∧
  (wpB (nilv x0) fun t74_1 =>
  wpB (pureRun Try.prog (Instr.fieldAt 132 t74_1 3)) fun t75_1 =>
  wpB (pureRun Try.prog (Instr.fieldAt 53 x5 1)) fun t77_1 =>
  wpB (ldv Try.prog 51 t77_1 w.drew) fun t78_1 =>
  CallR Try.prog 86 [t78_1] w.drew fun t79_1 w =>
  wpB (pureRun Try.prog (Instr.build 144 #[(0, t79_1), (1, x1)])) fun t81_1 =>
  wpB (ldv Try.prog 130 t75_1 w) fun t76_1 =>
  effv Try.prog (Instr.buildSlice 130 1 #[(0, t81_1)]) w fun t82_1 w =>
  effv Try.prog (Builtin.append_ #[130, 130] 130 #[t76_1, t82_1]) w fun t83_1 w =>
  wpB (nilv x0) fun t84_1 =>
  wpB (pureRun Try.prog (Instr.fieldAt 132 t84_1 3)) fun t85_1 =>
  effu Try.prog (Instr.storeAt 130 t85_1 t83_1) w fun w =>
  P101_1 w Q))
def L101_1 (w : World) (Q : Value → World → Prop) : Prop :=
  Q (Go.Value.bool true) w
theorem F101_ok {a0 a1 a2 : Value} {w : World} {Q : Value → World → Prop} (h : F101 a0 a1 a2 w Q) : CallR Try.prog 101 [a0, a1, a2] w Q :=
  have e : evC Try.prog (entR 3 143) 101 86 H101 Q C101 [] (entryE 0 [a0, a1, a2]) w (contT Try.prog (entR 3 143) 101 86 H101 Try.f101.results.toList Q []) = F101 a0 a1 a2 w Q := by kernel_rfl
  bt (fn := Try.f101) mixed bn Try.func101 (c := C101) rfl H101 (Nat.le_of_ble_eq_true rfl) (e.mpr h)
theorem L101_0_ok {x0 x1 x5 x7 : Value} {w : World} {Q : Value → World → Prop} (h : L101_0 x0 x1 x5 x7 w Q) : P101_0 x0 x1 x5 x7 w Q :=
  have e : evC Try.prog (entR 3 143) 101 86 H101 Q (nav [1, 1, 1, 1, 1] C101) [] (unpack [0, 1, 5, 7] [x0, x1, x5, x7]) w (contT Try.prog (entR 3 143) 101 86 H101 Try.f101.results.toList Q []) = L101_0 x0 x1 x5 x7 w Q := by kernel_rfl
  bx (fn := Try.f101) mixed bn Try.func101 H101 (c := (nav [1, 1, 1, 1, 1] C101)) (t := []) (e.mpr h)
theorem L101_1_ok {w : World} {Q : Value → World → Prop} (h : L101_1  w Q) : P101_1  w Q :=
  have e : evC Try.prog (entR 3 143) 101 86 H101 Q (nav [1, 1, 1, 1, 1, 1, 1, 1] C101) [] (unpack [] []) w (contT Try.prog (entR 3 143) 101 86 H101 Try.f101.results.toList Q []) = L101_1  w Q := by kernel_rfl
  bx (fn := Try.f101) mixed bn Try.func101 H101 (c := (nav [1, 1, 1, 1, 1, 1, 1, 1] C101)) (t := []) (e.mpr h)

noncomputable def C102 : Code := (Try.f102.body).getD .skip
noncomputable def H102 : Hints := ⟨[], [(11, [0, 7, 9, 10, 11, 12]), (18, [9, 11])], [(6, (.ask 5 1 (.leaf [0, 2, 3, 4, 5, 1, 6, 7, 8, 9]) (.ask 5 7 (.leaf [0, 1, 2, 3, 4, 5, 6, 7, 8, 9]) (.leaf [0, 2, 3, 4, 1, 6, 7, 5, 8, 9])))), (9, (.leaf [0, 1, 2, 3, 4, 5, 6, 7, 8, 9, 10, 11, 12, 13, 14, 15, 16, 17, 18, 19])), (15, (.leaf [0, 1, 2, 3, 4, 5, 6, 7, 8, 9, 10, 11])), (16, (.leaf [0, 1, 2, 3, 4, 5, 6, 7, 8, 9, 10, 11, 12, 13, 14, 15])), (18, (.leaf [0, 1, 2, 3, 4, 5, 6, 7, 8, 9, 10]))]⟩
noncomputable def T102_0 : List It := [.jn (nav [1, 1, 1, 1, 1, 1] C102)]
noncomputable def T102_1 : List It := [.jn (nav [1, 1, 1, 1, 1, 1, 1, 1] C102)]
def P102_0 (x0 x7 x9 x10 x11 x12 : Value) (w : World) (Q : Value → World → Prop) : Prop := Part Try.prog 102 T102_0 [0, 7, 9, 10, 11, 12] [x0, x7, x9, x10, x11, x12] w Q
def P102_1 (x9 x11 : Value) (w : World) (Q : Value → World → Prop) : Prop := Part Try.prog 102 T102_1 [9, 11] [x9, x11] w Q
def F102 (a0 a1 a2 a3 : Value) (w : World) (Q : Value → World → Prop) : Prop :=
  effv Try.prog (Instr.box 51 a2) w fun t6 w =>
  effv Try.prog (Instr.box 53 a3) w fun t7 w =>
  wpB (ldv Try.prog 51 t6 w) fun t14 =>
  CallR Try.prog 86 [t14] w fun t15 w =>
  CallR Try.prog 85 [a0, t15] w fun t16 w =>
  wpB (nilv t16) fun t18 =>
  wpB (pureRun Try.prog (Instr.fieldAt 144 t18 1)) fun t19 =>
  wpB (ldv Try.prog 3 t19 w) fun t20 =>
  CallR Try.prog 126 [t20, a1] w fun t22 w =>
  wpB (pureRun Try.prog (Instr.fieldAt 51 t6 0)) fun t23 =>
  wpB (ldv Try.prog 3 t23 w) fun t24 =>
  wpB (pureRun Try.prog (Instr.fieldAt 51 t6 1)) fun t25 =>
  wpB (ldv Try.prog 3 t25 w) fun t26 =>
  wpB (pureRun Try.prog (Instr.fieldAt 53 t7 1)) fun t27 =>
  wpB (pureRun Try.prog (Instr.fieldAt 51 t27 2)) fun t28 =>
  wpB (ldv Try.prog 3 t28 w) fun t29 =>
  wpB (pureRun Try.prog (Instr.build 51 #[(0, t24), (1, t26), (2, t29), (4, a1)])) fun t31 =>
  effv Try.prog (Instr.alloc 51 true (.tuple #[])) w fun t11 w =>
  effu Try.prog (Instr.storeAt 51 t11 t31) w fun w =>
  wpB (nilv a0) fun t34 =>
  wpB (pureRun Try.prog (Instr.fieldAt 132 t34 0)) fun t35 =>
  wpB (pureRun Try.prog (Instr.fieldAt 74 t35 2)) fun t36 =>
  wpB (ldv Try.prog 3 t36 w) fun t37 =>
  CallR Try.prog 127 [t16, t37, t22] w fun t39 w =>
  cnd t39
  ((wpB (nilv t16) fun t45 =>
  wpB (pureRun Try.prog (Instr.fieldAt 144 t45 2)) fun t46 =>
  wpB (ldv Try.prog 3 t46 w.drew) fun t47 =>
  CallR Try.prog 128 [t16] w.drew fun t43 w =>
  wpB (pureRun Try.prog (Instr.fieldAt 51 t11 2)) fun t48 =>
  effu Try.prog (Instr.storeAt 3 t48 t43) w fun w =>
  wpB (pureRun Try.prog (Instr.fieldAt 51 t11 3)) fun t49 =>
  effu Try.prog (Instr.storeAt 3 t49 t47) w fun w =>
  P102_0 a0 t7 t16 t22 t11 t39 w Q) ∧
  ((CallR Try.prog 128 [t16] w.drew fun t43_1 w =>
  wpB (nilv t16) fun t45_1 =>
  wpB (pureRun Try.prog (Instr.fieldAt 144 t45_1 2)) fun t46_1 =>
  wpB (ldv Try.prog 3 t46_1 w) fun t47_1 =>
  wpB (pureRun Try.prog (Instr.fieldAt 51 t11 2)) fun t48_1 =>
  effu Try.prog (Instr.storeAt 3 t48_1 t43_1) w fun w =>
  wpB (pureRun Try.prog (Instr.fieldAt 51 t11 3)) fun t49_1 =>
  effu Try.prog (Instr.storeAt 3 t49_1 t47_1) w fun w =>
  P102_0 a0 t7 t16 t22 t11 t39 w Q) ∧
  (wpB (nilv t16) fun t45_2 =>
  wpB (pureRun Try.prog (Instr.fieldAt 144 t45_2 2)) fun t46_2 =>
  CallR Try.prog 128 [t16] w.drew fun t43_2 w =>
  wpB (pureRun Try.prog (Instr.fieldAt 51 t11 2)) fun t48_2 =>
  effu Try.prog (Instr.storeAt 3 t48_2 t43_2) w fun w =>
  wpB (ldv Try.prog 3 t46_2 w) fun t47_2 =>
  wpB (pureRun Try.prog (Instr.fieldAt 51 t11 3)) fun t49_2 =>
  effu Try.prog (Instr.storeAt 3 t49_2 t47_2) w fun w =>
  P102_0 a0 t7 t16 t22 t11 t39 w Q)))
  (wpB (ldv Try.prog 53 t7 w) fun t51 =>
  wpB (pureRun Try.prog (Instr.build 53 #[(0, (Go.Value.int Go.IntKind.i64 6))])) fun t52 =>
  wpB (be Try.prog .eql 53 (.tmp 51) (.tmp 52) t51 t52) fun t53 =>
  cnd t53
  (Q (Go.Value.bool true) w)
  (wpB (pureRun Try.prog (Instr.fieldAt 51 t11 2)) fun t55 =>
  wpB (ldv Try.prog 3 t55 w.drew) fun t56 =>
  wpB (bp Try.prog .lss 3 t56 (Go.Value.int Go.IntKind.i64 0)) fun t57 =>
  wpB (gd t57 false (pureRun Try.prog (Instr.fieldAt 51 t11 2))) fun t59 =>
  wpB (gd t57 false (ldv Try.prog 3 t59 w.drew)) fun t60 =>
  wpB (gd t57 false (nilv (gv t57 false a0))) fun t62 =>
  wpB (gd t57 false (pureRun Try.prog (Instr.fieldAt 132 t62 0))) fun t63 =>
  wpB (gd t57 false (pureRun Try.prog (Instr.fieldAt 74 t63 1))) fun t64 =>
  wpB (gd t57 false (ldv Try.prog 3 t64 w.drew)) fun t65 =>
  wpB (gd t57 false (bp Try.prog .geq 3 t60 t65)) fun t66 =>
  wpB (pickv t57 (some (Go.Value.bool true)) (some t66)) fun t67 =>
  wpB (gd t67 false (pureRun Try.prog (Instr.fieldAt 51 t11 2))) fun t70 =>
  wpB (gd t67 false (ldv Try.prog 3 t70 w.drew)) fun t71 =>
  gE t67 false (CallR Try.prog 129 [(gv t67 false a0), t71] w.drew) (fun t72 w =>
  wpB (pickv t67 (some (Go.Value.bool true)) (some t72)) fun t73 =>
  cnd t73
  (Q (Go.Value.bool false) w)
  (P102_0 a0 t7 t16 t22 t11 t39 w Q)) w.drew))
def L102_0 (x0 x7 x9 x10 x11 x12 : Value) (w : World) (Q : Value → World → Prop) : Prop :=
  wpB (ldv Try.prog 53 x7 w) fun t74 =>
  wpB (ldv Try.prog 51 x11 w) fun t75 =>
  wpB (pureRun Try.prog (Instr.build 53 #[(1, t75)])) fun t76 =>
  wpB (be Try.prog .neq 53 (.tmp 74) (.tmp 76) t74 t76) fun t77 =>
  cnd t77
  (Q (Go.Value.bool false) w)
  (cnd x12
  (wpB (nilv x9) fun t80 =>
  wpB (pureRun Try.prog (Instr.fieldAt 144 t80 2)) fun t81 =>
  wpB (ldv Try.prog 3 t81 w) fun t82 =>
  wpB (bp Try.prog .add 3 t82 x10) fun t84 =>
  wpB (nilv x9) fun t85 =>
  wpB (pureRun Try.prog (Instr.fieldAt 144 t85 2)) fun t86 =>
  effu Try.prog (Instr.storeAt 3 t86 t84) w fun w =>
  P102_1 x9 x11 w Q)
  (wpB (nilv x9) fun t89 =>
  wpB (pureRun Try.prog (Instr.fieldAt 144 t89 3)) fun t90 =>
  wpB (ldv Try.prog 23 t90 w.drew) fun t91 =>
  wpB (pureRun Try.prog (Instr.fieldAt 51 x11 2)) fun t92 =>
  wpB (ldv Try.prog 3 t92 w.drew) fun t93 =>
  effv Try.prog (Instr.buildSlice 23 1 #[(0, t93)]) w.drew fun t94 w =>
  effv Try.prog (Builtin.append_ #[23, 23] 23 #[t91, t94]) w fun t95 w =>
  wpB (nilv x9) fun t96 =>
  wpB (pureRun Try.prog (Instr.fieldAt 144 t96 3)) fun t97 =>
  effu Try.prog (Instr.storeAt 23 t97 t95) w fun w =>
  wpB (nilv x9) fun t100 =>
  wpB (pureRun Try.prog (Instr.fieldAt 144 t100 4)) fun t101 =>
  wpB (ldv Try.prog 142 t101 w.drew) fun t102 =>
  wpB (nilv x0) fun t104 =>
  wpB (pureRun Try.prog (Instr.fieldAt 132 t104 0)) fun t105 =>
  wpB (pureRun Try.prog (Instr.fieldAt 74 t105 2)) fun t106 =>
  wpB (ldv Try.prog 3 t106 w.drew) fun t107 =>
  effv Try.prog (Instr.makeSlice 177 t107 t107) w.drew fun t108 w =>
  effv Try.prog (Instr.buildSlice 142 1 #[(0, t108)]) w fun t109 w =>
  effv Try.prog (Builtin.append_ #[142, 142] 142 #[t102, t109]) w fun t110 w =>
  wpB (nilv x9) fun t111 =>
  wpB (pureRun Try.prog (Instr.fieldAt 144 t111 4)) fun t112 =>
  effu Try.prog (Instr.storeAt 142 t112 t110) w fun w =>
  wpB (nilv x0) fun t115 =>
  wpB (pureRun Try.prog (Instr.fieldAt 132 t115 0)) fun t116 =>
  wpB (pureRun Try.prog (Instr.fieldAt 74 t116 2)) fun t117 =>
  wpB (ldv Try.prog 3 t117 w) fun t118 =>
  CallR Try.prog 130 [t118, x10] w fun t120 w =>
  wpB (nilv x9) fun t121 =>
  wpB (pureRun Try.prog (Instr.fieldAt 144 t121 2)) fun t122 =>
  effu Try.prog (Instr.storeAt 3 t122 t120) w fun w =>
  P102_1 x9 x11 w Q))
def L102_1 (x9 x11 : Value) (w : World) (Q : Value → World → Prop) : Prop :=
  wpB (nilv x9) fun t125 =>
  wpB (pureRun Try.prog (Instr.fieldAt 144 t125 5)) fun t126 =>
  wpB (ldv Try.prog 90 t126 w.drew) fun t127 =>
  wpB (ldv Try.prog 51 x11 w.drew) fun t128 =>
  effv Try.prog (Instr.buildSlice 90 1 #[(0, t128)]) w.drew fun t129 w =>
  effv Try.prog (Builtin.append_ #[90, 90] 90 #[t127, t129]) w fun t130 w =>
  wpB (nilv x9) fun t131 =>
  wpB (pureRun Try.prog (Instr.fieldAt 144 t131 5)) fun t132 =>
  effu Try.prog (Instr.storeAt 90 t132 t130) w fun w =>
  Q (Go.Value.bool true) w
theorem F102_ok {a0 a1 a2 a3 : Value} {w : World} {Q : Value → World → Prop} (h : F102 a0 a1 a2 a3 w Q) : CallR Try.prog 102 [a0, a1, a2, a3] w Q :=
  have e : evC Try.prog (entR 3 143) 102 133 H102 Q C102 [] (entryE 0 [a0, a1, a2, a3]) w (contT Try.prog (entR 3 143) 102 133 H102 Try.f102.results.toList Q []) = F102 a0 a1 a2 a3 w Q := by kernel_rfl
  bt (fn := Try.f102) mixed bn Try.func102 (c := C102) rfl H102 (Nat.le_of_ble_eq_true rfl) (e.mpr h)
theorem L102_0_ok {x0 x7 x9 x10 x11 x12 : Value} {w : World} {Q : Value → World → Prop} (h : L102_0 x0 x7 x9 x10 x11 x12 w Q) : P102_0 x0 x7 x9 x10 x11 x12 w Q :=
  have e : evC Try.prog (entR 3 143) 102 133 H102 Q (nav [1, 1, 1, 1, 1, 1] C102) [] (unpack [0, 7, 9, 10, 11, 12] [x0, x7, x9, x10, x11, x12]) w (contT Try.prog (entR 3 143) 102 133 H102 Try.f102.results.toList Q []) = L102_0 x0 x7 x9 x10 x11 x12 w Q := by kernel_rfl
  bx (fn := Try.f102) mixed bn Try.func102 H102 (c := (nav [1, 1, 1, 1, 1, 1] C102)) (t := []) (e.mpr h)
theorem L102_1_ok {x9 x11 : Value} {w : World} {Q : Value → World → Prop} (h : L102_1 x9 x11 w Q) : P102_1 x9 x11 w Q :=
  have e : evC Try.prog (entR 3 143) 102 133 H102 Q (nav [1, 1, 1, 1, 1, 1, 1, 1] C102) [] (unpack [9, 11] [x9, x11]) w (contT Try.prog (entR 3 143) 102 133 H102 Try.f102.results.toList Q []) = L102_1 x9 x11 w Q := by kernel_rfl
  bx (fn := Try.f102) mixed bn Try.func102 H102 (c := (nav [1, 1, 1, 1, 1, 1, 1, 1] C102)) (t := []) (e.mpr h)

noncomputable def C105 : Code := (Try.f105.body).getD .skip
noncomputable def H105 : Hints := ⟨[], [], []⟩
def F105 (a0 a1 : Value) (w : World) (Q : Value → World → Prop) : Prop :=
  CallR Try.prog 48 [a0, a1] w fun t10 w =>
  wpB (pureRun Try.prog (Instr.extract t10 0)) fun t11 =>
  wpB (pureRun Try.prog (Instr.extract t10 1)) fun t12 =>
  wpB (pureRun Try.prog (Op.unary .not t12)) fun t14 =>
  cnd t14
  (Q (Go.Value.slice none 0 0) w)
  (wpB (pureRun Try.prog (Instr.build 141 #[(0, a1), (1, t11)])) fun t18 =>
  CallR Try.prog 85 [a0, t18] w fun t19 w =>
  wpB (nilv t19) fun t20 =>
  wpB (pureRun Try.prog (Instr.fieldAt 144 t20 5)) fun t21 =>
  wpB (ldv Try.prog 90 t21 w) fun t22 =>
  CallR Try.prog 131 [t22] w fun t23 w =>
  Q t23 w)
theorem F105_ok {a0 a1 : Value} {w : World} {Q : Value → World → Prop} (h : F105 a0 a1 w Q) : CallR Try.prog 105 [a0, a1] w Q :=
  have e : evC Try.prog (entR 3 143) 105 24 H105 Q C105 [] (entryE 0 [a0, a1]) w (contT Try.prog (entR 3 143) 105 24 H105 Try.f105.results.toList Q []) = F105 a0 a1 w Q := by kernel_rfl
  bt (fn := Try.f105) mixed bn Try.func105 (c := C105) rfl H105 (Nat.le_of_ble_eq_true rfl) (e.mpr h)

noncomputable def C113 : Code := (Try.f113.body).getD .skip
noncomputable def H113 : Hints := ⟨[], [], []⟩
def F113 (a0 a1 a2 : Value) (w : World) (Q : Value → World → Prop) : Prop :=
  wpB (bp Try.prog .geq 3 a0 a1) fun t9 =>
  wpB (gd t9 true (bp Try.prog .leq 3 (gv t9 true a0) (gv t9 true a2))) fun t13 =>
  wpB (pickv t9 (some t13) (some (Go.Value.bool false))) fun t14 =>
  Q t14 w
theorem F113_ok {a0 a1 a2 : Value} {w : World} {Q : Value → World → Prop} (h : F113 a0 a1 a2 w Q) : CallR Try.prog 113 [a0, a1, a2] w Q :=
  have e : evC Try.prog (entR 3 143) 113 15 H113 Q C113 [] (entryE 0 [a0, a1, a2]) w (contT Try.prog (entR 3 143) 113 15 H113 Try.f113.results.toList Q []) = F113 a0 a1 a2 w Q := by kernel_rfl
  bt (fn := Try.f113) mixed bn Try.func113 (c := C113) rfl H113 (Nat.le_of_ble_eq_true rfl) (e.mpr h)

noncomputable def C114 : Code := (Try.f114.body).getD .skip
noncomputable def H114 : Hints := ⟨[], [], []⟩
def F114 (a0 a1 : Value) (w : World) (Q : Value → World → Prop) : Prop :=
  effv Try.prog (Instr.box 51 a1) w fun t3 w =>
  wpB (ldv Try.prog 51 t3 w) fun t6 =>
  CallR Try.prog 134 [a0, t6] w fun t7 w =>
  wpB (bp Try.prog .geq 3 t7 (Go.Value.int Go.IntKind.i64 0)) fun t8 =>
  Q t8 w
theorem F114_ok {a0 a1 : Value} {w : World} {Q : Value → World → Prop} (h : F114 a0 a1 w Q) : CallR Try.prog 114 [a0, a1] w Q :=
  have e : evC Try.prog (entR 3 143) 114 9 H114 Q C114 [] (entryE 0 [a0, a1]) w (contT Try.prog (entR 3 143) 114 9 H114 Try.f114.results.toList Q []) = F114 a0 a1 w Q := by kernel_rfl
  bt (fn := Try.f114) mixed bn Try.func114 (c := C114) rfl H114 (Nat.le_of_ble_eq_true rfl) (e.mpr h)

noncomputable def C116 : Code := (Try.f116.body).getD .skip
noncomputable def H116 : Hints := ⟨[], [], []⟩
def F116 (a0 a1 : Value) (w : World) (Q : Value → World → Prop) : Prop :=
  effv Try.prog (Instr.box 141 a1) w fun t3 w =>
  wpB (ldv Try.prog 141 t3 w) fun t6 =>
  CallR Try.prog 135 [a0, t6] w fun t7 w =>
  wpB (bp Try.prog .geq 3 t7 (Go.Value.int Go.IntKind.i64 0)) fun t8 =>
  Q t8 w
theorem F116_ok {a0 a1 : Value} {w : World} {Q : Value → World → Prop} (h : F116 a0 a1 w Q) : CallR Try.prog 116 [a0, a1] w Q :=
  have e : evC Try.prog (entR 3 143) 116 9 H116 Q C116 [] (entryE 0 [a0, a1]) w (contT Try.prog (entR 3 143) 116 9 H116 Try.f116.results.toList Q []) = F116 a0 a1 w Q := by kernel_rfl
  bt (fn := Try.f116) mixed bn Try.func116 (c := C116) rfl H116 (Nat.le_of_ble_eq_true rfl) (e.mpr h)

noncomputable def C117 : Code := (Try.f117.body).getD .skip
noncomputable def H117 : Hints := ⟨[], [], [(1, (.leaf [0, 1, 2, 3, 4, 5, 6, 7, 8, 9, 10, 11, 12, 13, 14, 15, 16, 17, 18]))]⟩
def F117 (a0 a1 : Value) (w : World) (Q : Value → World → Prop) : Prop :=
  effv Try.prog (Instr.box 141 a1) w fun t3 w =>
  wpB (pureRun Try.prog (Instr.fieldAt 141 t3 0)) fun t6 =>
  wpB (ldv Try.prog 3 t6 w.drew) fun t7 =>
  CallR Try.prog 89 [a0, t7] w.drew fun t8 w =>
  wpB (gd t8 true (nilv (gv t8 true a0))) fun t11 =>
  wpB (gd t8 true (pureRun Try.prog (Instr.fieldAt 132 t11 2))) fun t12 =>
  wpB (gd t8 true (ldv Try.prog 128 t12 w)) fun t13 =>
  wpB (gd t8 true (pureRun Try.prog (Instr.fieldAt 141 t3 0))) fun t14 =>
  wpB (gd t8 true (ldv Try.prog 3 t14 w)) fun t15 =>
  wpB (gd t8 true (pureRun Try.prog (Instr.indexAt 128 t13 t15))) fun t16 =>
  wpB (gd t8 true (ldv Try.prog 150 t16 w)) fun t17 =>
  wpB (gd t8 true (pureRun Try.prog (Instr.fieldAt 141 t3 1))) fun t18 =>
  wpB (gd t8 true (ldv Try.prog 3 t18 w)) fun t19 =>
  wpB (gd t8 true (pureRun Try.prog (Instr.build 150 #[(0, (Go.Value.int Go.IntKind.i64 1)), (1, t19)]))) fun t20 =>
  wpB (gd t8 true (be Try.prog .eql 150 (.tmp 17) (.tmp 20) t17 t20)) fun t21 =>
  wpB (pickv t8 (some t21) (some (Go.Value.bool false))) fun t22 =>
  Q t22 w
theorem F117_ok {a0 a1 : Value} {w : World} {Q : Value → World → Prop} (h : F117 a0 a1 w Q) : CallR Try.prog 117 [a0, a1] w Q :=
  have e : evC Try.prog (entR 3 143) 117 23 H117 Q C117 [] (entryE 0 [a0, a1]) w (contT Try.prog (entR 3 143) 117 23 H117 Try.f117.results.toList Q []) = F117 a0 a1 w Q := by kernel_rfl
  bt (fn := Try.f117) mixed bn Try.func117 (c := C117) rfl H117 (Nat.le_of_ble_eq_true rfl) (e.mpr h)

noncomputable def C126 : Code := (Try.f126.body).getD .skip
noncomputable def H126 : Hints := ⟨[], [], []⟩
def F126 (a0 a1 : Value) (w : World) (Q : Value → World → Prop) : Prop :=
  wpB (bp Try.prog .lss 3 a1 (Go.Value.int Go.IntKind.i64 1)) fun t7 =>
  wpB (gd t7 false (bp Try.prog .gtr 3 (gv t7 false a1) (Go.Value.int Go.IntKind.i64 1024))) fun t10 =>
  wpB (pickv t7 (some (Go.Value.bool true)) (some t10)) fun t11 =>
  cnd t11
  (Q (Go.Value.int Go.IntKind.i64 0) w)
  (wpB (pureRun Try.prog (Builtin.max_ #[3, 3] 3 #[a0, (Go.Value.int Go.IntKind.i64 0)])) fun t13 =>
  wpB (pureRun Try.prog (Builtin.min_ #[3, 3] 3 #[t13, (Go.Value.int Go.IntKind.i64 3)])) fun t14 =>
  wpB (bp Try.prog .shl 3 (Go.Value.int Go.IntKind.i64 1) t14) fun t15 =>
  wpB (bp Try.prog .add 3 a1 t15) fun t18 =>
  wpB (bp Try.prog .sub 3 t18 (Go.Value.int Go.IntKind.i64 1)) fun t19 =>
  wpB (bp Try.prog .quo 3 t19 t15) fun t21 =>
  wpB (bp Try.prog .mul 3 t21 t15) fun t23 =>
  Q t23 w)
theorem F126_ok {a0 a1 : Value} {w : World} {Q : Value → World → Prop} (h : F126 a0 a1 w Q) : CallR Try.prog 126 [a0, a1] w Q :=
  have e : evC Try.prog (entR 3 143) 126 24 H126 Q C126 [] (entryE 0 [a0, a1]) w (contT Try.prog (entR 3 143) 126 24 H126 Try.f126.results.toList Q []) = F126 a0 a1 w Q := by kernel_rfl
  bt (fn := Try.f126) mixed bn Try.func126 (c := C126) rfl H126 (Nat.le_of_ble_eq_true rfl) (e.mpr h)

noncomputable def C127 : Code := (Try.f127.body).getD .skip
noncomputable def H127 : Hints := ⟨[], [], []⟩
def F127 (a0 a1 a2 : Value) (w : World) (Q : Value → World → Prop) : Prop :=
  wpB (nilv a0) fun t8 =>
  wpB (pureRun Try.prog (Instr.fieldAt 144 t8 3)) fun t9 =>
  wpB (ldv Try.prog 23 t9 w) fun t10 =>
  wpB (pureRun Try.prog (Builtin.len_ #[23] 3 #[t10])) fun t11 =>
  wpB (bp Try.prog .gtr 3 t11 (Go.Value.int Go.IntKind.i64 0)) fun t12 =>
  wpB (gd t12 true (nilv (gv t12 true a0))) fun t16 =>
  wpB (gd t12 true (pureRun Try.prog (Instr.fieldAt 144 t16 2))) fun t17 =>
  wpB (gd t12 true (ldv Try.prog 3 t17 w)) fun t18 =>
  gE t12 true (CallR Try.prog 140 [(gv t12 true a1), t18, (gv t12 true a2)] w) (fun t20 w =>
  wpB (pickv t12 (some t20) (some (Go.Value.bool false))) fun t21 =>
  Q t21 w) w
theorem F127_ok {a0 a1 a2 : Value} {w : World} {Q : Value → World → Prop} (h : F127 a0 a1 a2 w Q) : CallR Try.prog 127 [a0, a1, a2] w Q :=
  have e : evC Try.prog (entR 3 143) 127 22 H127 Q C127 [] (entryE 0 [a0, a1, a2]) w (contT Try.prog (entR 3 143) 127 22 H127 Try.f127.results.toList Q []) = F127 a0 a1 a2 w Q := by kernel_rfl
  bt (fn := Try.f127) mixed bn Try.func127 (c := C127) rfl H127 (Nat.le_of_ble_eq_true rfl) (e.mpr h)

noncomputable def C128 : Code := (Try.f128.body).getD .skip
noncomputable def H128 : Hints := ⟨[], [], [(3, (.leaf [0, 1, 2, 3, 4, 5, 6, 7, 8, 9, 10, 11, 12]))]⟩
def F128 (a0 : Value) (w : World) (Q : Value → World → Prop) : Prop :=
  wpB (nilv a0) fun t4 =>
  wpB (pureRun Try.prog (Instr.fieldAt 144 t4 3)) fun t5 =>
  wpB (ldv Try.prog 23 t5 w) fun t6 =>
  wpB (pureRun Try.prog (Builtin.len_ #[23] 3 #[t6])) fun t7 =>
  wpB (be Try.prog .eql 3 (.tmp 7) (.const (Go.Value.int Go.IntKind.i64 0)) t7 (Go.Value.int Go.IntKind.i64 0)) fun t8 =>
  cnd t8
  (Q (Go.Value.int Go.IntKind.i64 (-1)) w)
  (wpB (nilv a0) fun t10 =>
  wpB (pureRun Try.prog (Instr.fieldAt 144 t10 3)) fun t11 =>
  wpB (ldv Try.prog 23 t11 w.drew) fun t12 =>
  wpB (nilv a0) fun t14 =>
  wpB (pureRun Try.prog (Instr.fieldAt 144 t14 3)) fun t15 =>
  wpB (ldv Try.prog 23 t15 w.drew) fun t16 =>
  wpB (pureRun Try.prog (Builtin.len_ #[23] 3 #[t16])) fun t17 =>
  wpB (bp Try.prog .sub 3 t17 (Go.Value.int Go.IntKind.i64 1)) fun t18 =>
  wpB (pureRun Try.prog (Instr.indexAt 23 t12 t18)) fun t19 =>
  wpB (ldv Try.prog 3 t19 w.drew) fun t20 =>
  Q t20 w.drew)
theorem F128_ok {a0 : Value} {w : World} {Q : Value → World → Prop} (h : F128 a0 w Q) : CallR Try.prog 128 [a0] w Q :=
  have e : evC Try.prog (entR 3 143) 128 21 H128 Q C128 [] (entryE 0 [a0]) w (contT Try.prog (entR 3 143) 128 21 H128 Try.f128.results.toList Q []) = F128 a0 w Q := by kernel_rfl
  bt (fn := Try.f128) mixed bn Try.func128 (c := C128) rfl H128 (Nat.le_of_ble_eq_true rfl) (e.mpr h)

noncomputable def C129 : Code := (Try.f129.body).getD .skip
noncomputable def H129 : Hints := ⟨[(2, [0, 1, 10, 11, 12])], [], []⟩
noncomputable def T129_0 : List It := [.lp (nav [1, 0, 1, 4, 5] C129), .blk 0, .jn (nav [1, 1] C129)]
def P129_0 (x0 x1 x10 x11 x12 : Value) (w : World) (Q : Value → World → Prop) : Prop := Part Try.prog 129 T129_0 [0, 1, 10, 11, 12] [x0, x1, x10, x11, x12] w Q
def F129 (a0 a1 : Value) (w : World) (Q : Value → World → Prop) : Prop :=
  wpB (nilv a0) fun t8 =>
  wpB (pureRun Try.prog (Instr.fieldAt 132 t8 3)) fun t9 =>
  wpB (ldv Try.prog 130 t9 w) fun t10 =>
  wpB (pureRun Try.prog (Builtin.len_ #[130] 3 #[t10])) fun t11 =>
  P129_0 a0 a1 t10 t11 (Go.Value.int Go.IntKind.i64 0) w Q
def L129_0 (x0 x1 x10 x11 x12 : Value) (w : World) (Q : Value → World → Prop) : Prop :=
  wpB (bp Try.prog .lss 3 x12 x11) fun t13 =>
  cnd t13
  (wpB (pureRun Try.prog (Instr.indexAt 130 x10 x12)) fun t14 =>
  wpB (ldv Try.prog 144 t14 w) fun t15 =>
  effv Try.prog (Instr.alloc 144 true (.tuple #[])) w fun t6 w =>
  effu Try.prog (Instr.storeAt 144 t6 t15) w fun w =>
  wpB (pureRun Try.prog (Instr.fieldAt 144 t6 0)) fun t17 =>
  wpB (ldv Try.prog 141 t17 w) fun t18 =>
  CallR Try.prog 117 [x0, t18] w fun t19 w =>
  wpB (gd t19 true (pureRun Try.prog (Instr.fieldAt 144 t6 3))) fun t21 =>
  wpB (gd t19 true (ldv Try.prog 23 t21 w)) fun t22 =>
  gE t19 true (CallR Try.prog 112 [t22, (gv t19 true x1)] w) (fun t24 w =>
  wpB (pickv t19 (some t24) (some (Go.Value.bool false))) fun t25 =>
  cnd t25
  (Q (Go.Value.bool true) w)
  (wpB (bp Try.prog .add 3 x12 (Go.Value.int Go.IntKind.i64 1)) fun t26 =>
  P129_0 x0 x1 x10 x11 t26 w Q)) w)
  (Q (Go.Value.bool false) w)
theorem F129_ok {a0 a1 : Value} {w : World} {Q : Value → World → Prop} (h : F129 a0 a1 w Q) : CallR Try.prog 129 [a0, a1] w Q :=
  have e : evC Try.prog (entR 3 143) 129 27 H129 Q C129 [] (entryE 0 [a0, a1]) w (contT Try.prog (entR 3 143) 129 27 H129 Try.f129.results.toList Q []) = F129 a0 a1 w Q := by kernel_rfl
  bt (fn := Try.f129) mixed bn Try.func129 (c := C129) rfl H129 (Nat.le_of_ble_eq_true rfl) (e.mpr h)
theorem L129_0_ok {x0 x1 x10 x11 x12 : Value} {w : World} {Q : Value → World → Prop} (h : L129_0 x0 x1 x10 x11 x12 w Q) : P129_0 x0 x1 x10 x11 x12 w Q :=
  have e : evC Try.prog (entR 3 143) 129 27 H129 Q (nav [1, 0, 1, 4, 5] C129) T129_0 (unpack [0, 1, 10, 11, 12] [x0, x1, x10, x11, x12]) w (contT Try.prog (entR 3 143) 129 27 H129 Try.f129.results.toList Q T129_0) = L129_0 x0 x1 x10 x11 x12 w Q := by kernel_rfl
  part_lp (fn := Try.f129) mixed bn Try.func129 H129 (c := (nav [1, 0, 1, 4, 5] C129)) (t := [.blk 0, .jn (nav [1, 1] C129)]) (e.mpr h)

noncomputable def C130 : Code := (Try.f130.body).getD .skip
noncomputable def H130 : Hints := ⟨[], [], []⟩
def F130 (a0 a1 : Value) (w : World) (Q : Value → World → Prop) : Prop :=
  CallR Try.prog 141 [a0, a1] w fun t8 w =>
  wpB (pureRun Try.prog (Op.unary .not t8)) fun t9 =>
  cnd t9
  (Q (Go.Value.int Go.IntKind.i64 0) w)
  (CallR Try.prog 142 [a0, a1] w fun t13 w =>
  cnd t13
  (Q a0 w)
  (Q a1 w))
theorem F130_ok {a0 a1 : Value} {w : World} {Q : Value → World → Prop} (h : F130 a0 a1 w Q) : CallR Try.prog 130 [a0, a1] w Q :=
  have e : evC Try.prog (entR 3 143) 130 16 H130 Q C130 [] (entryE 0 [a0, a1]) w (contT Try.prog (entR 3 143) 130 16 H130 Try.f130.results.toList Q []) = F130 a0 a1 w Q := by kernel_rfl
  bt (fn := Try.f130) mixed bn Try.func130 (c := C130) rfl H130 (Nat.le_of_ble_eq_true rfl) (e.mpr h)

noncomputable def C131 : Code := (Try.f131.body).getD .skip
noncomputable def H131 : Hints := ⟨[], [], []⟩
def F131 (a0 : Value) (w : World) (Q : Value → World → Prop) : Prop :=
  wpB (be Try.prog .eql 90 (.tmp 3) (.const (Go.Value.slice none 0 0)) a0 (Go.Value.slice none 0 0)) fun t4 =>
  cnd t4
  (Q (Go.Value.slice none 0 0) w)
  (effv Try.prog (Instr.buildSlice 90 0 #[]) w fun t5 w =>
  effv Try.prog (Builtin.append_ #[90, 90] 90 #[t5, a0]) w fun t7 w =>
  Q t7 w)
theorem F131_ok {a0 : Value} {w : World} {Q : Value → World → Prop} (h : F131 a0 w Q) : CallR Try.prog 131 [a0] w Q :=
  have e : evC Try.prog (entR 3 143) 131 8 H131 Q C131 [] (entryE 0 [a0]) w (contT Try.prog (entR 3 143) 131 8 H131 Try.f131.results.toList Q []) = F131 a0 w Q := by kernel_rfl
  bt (fn := Try.f131) mixed bn Try.func131 (c := C131) rfl H131 (Nat.le_of_ble_eq_true rfl) (e.mpr h)

noncomputable def C134 : Code := (Try.f134.body).getD .skip
noncomputable def H134 : Hints := ⟨[(2, [0, 3, 7, 8])], [], [(4, (.leaf [0, 1, 2, 3, 4, 5]))]⟩
noncomputable def T134_0 : List It := [.lp (nav [1, 0, 1, 4, 5] C134), .blk 0, .jn (nav [1, 1] C134)]
def P134_0 (x0 x3 x7 x8 : Value) (w : World) (Q : Value → World → Prop) : Prop := Part Try.prog 134 T134_0 [0, 3, 7, 8] [x0, x3, x7, x8] w Q
def F134 (a0 a1 : Value) (w : World) (Q : Value → World → Prop) : Prop :=
  effv Try.prog (Instr.box 51 a1) w fun t3 w =>
  wpB (pureRun Try.prog (Builtin.len_ #[90] 3 #[a0])) fun t7 =>
  P134_0 a0 t3 t7 (Go.Value.int Go.IntKind.i64 0) w Q
def L134_0 (x0 x3 x7 x8 : Value) (w : World) (Q : Value → World → Prop) : Prop :=
  wpB (bp Try.prog .lss 3 x8 x7) fun t9 =>
  cnd t9
  (wpB (ldv Try.prog 51 x3 w.drew) fun t11 =>
  wpB (pureRun Try.prog (Instr.indexAt 90 x0 x8)) fun t14 =>
  wpB (ldv Try.prog 51 t14 w.drew) fun t15 =>
  wpB (be Try.prog .eql 51 (.tmp 11) (.tmp 15) t11 t15) fun t16 =>
  cnd t16
  (Q x8 w.drew)
  (wpB (bp Try.prog .add 3 x8 (Go.Value.int Go.IntKind.i64 1)) fun t18 =>
  P134_0 x0 x3 x7 t18 w.drew Q))
  (Q (Go.Value.int Go.IntKind.i64 (-1)) w)
theorem F134_ok {a0 a1 : Value} {w : World} {Q : Value → World → Prop} (h : F134 a0 a1 w Q) : CallR Try.prog 134 [a0, a1] w Q :=
  have e : evC Try.prog (entR 3 143) 134 19 H134 Q C134 [] (entryE 0 [a0, a1]) w (contT Try.prog (entR 3 143) 134 19 H134 Try.f134.results.toList Q []) = F134 a0 a1 w Q := by kernel_rfl
  bt (fn := Try.f134) mixed bn Try.func134 (c := C134) rfl H134 (Nat.le_of_ble_eq_true rfl) (e.mpr h)
theorem L134_0_ok {x0 x3 x7 x8 : Value} {w : World} {Q : Value → World → Prop} (h : L134_0 x0 x3 x7 x8 w Q) : P134_0 x0 x3 x7 x8 w Q :=
  have e : evC Try.prog (entR 3 143) 134 19 H134 Q (nav [1, 0, 1, 4, 5] C134) T134_0 (unpack [0, 3, 7, 8] [x0, x3, x7, x8]) w (contT Try.prog (entR 3 143) 134 19 H134 Try.f134.results.toList Q T134_0) = L134_0 x0 x3 x7 x8 w Q := by kernel_rfl
  part_lp (fn := Try.f134) mixed bn Try.func134 H134 (c := (nav [1, 0, 1, 4, 5] C134)) (t := [.blk 0, .jn (nav [1, 1] C134)]) (e.mpr h)

noncomputable def C135 : Code := (Try.f135.body).getD .skip
noncomputable def H135 : Hints := ⟨[(2, [0, 3, 7, 8])], [], [(4, (.leaf [0, 1, 2, 3, 4, 5]))]⟩
noncomputable def T135_0 : List It := [.lp (nav [1, 0, 1, 4, 5] C135), .blk 0, .jn (nav [1, 1] C135)]
def P135_0 (x0 x3 x7 x8 : Value) (w : World) (Q : Value → World → Prop) : Prop := Part Try.prog 135 T135_0 [0, 3, 7, 8] [x0, x3, x7, x8] w Q
def F135 (a0 a1 : Value) (w : World) (Q : Value → World → Prop) : Prop :=
  effv Try.prog (Instr.box 141 a1) w fun t3 w =>
  wpB (pureRun Try.prog (Builtin.len_ #[135] 3 #[a0])) fun t7 =>
  P135_0 a0 t3 t7 (Go.Value.int Go.IntKind.i64 0) w Q
def L135_0 (x0 x3 x7 x8 : Value) (w : World) (Q : Value → World → Prop) : Prop :=
  wpB (bp Try.prog .lss 3 x8 x7) fun t9 =>
  cnd t9
  (wpB (ldv Try.prog 141 x3 w.drew) fun t11 =>
  wpB (pureRun Try.prog (Instr.indexAt 135 x0 x8)) fun t14 =>
  wpB (ldv Try.prog 141 t14 w.drew) fun t15 =>
  wpB (be Try.prog .eql 141 (.tmp 11) (.tmp 15) t11 t15) fun t16 =>
  cnd t16
  (Q x8 w.drew)
  (wpB (bp Try.prog .add 3 x8 (Go.Value.int Go.IntKind.i64 1)) fun t18 =>
  P135_0 x0 x3 x7 t18 w.drew Q))
  (Q (Go.Value.int Go.IntKind.i64 (-1)) w)
theorem F135_ok {a0 a1 : Value} {w : World} {Q : Value → World → Prop} (h : F135 a0 a1 w Q) : CallR Try.prog 135 [a0, a1] w Q :=
  have e : evC Try.prog (entR 3 143) 135 19 H135 Q C135 [] (entryE 0 [a0, a1]) w (contT Try.prog (entR 3 143) 135 19 H135 Try.f135.results.toList Q []) = F135 a0 a1 w Q := by kernel_rfl
  bt (fn := Try.f135) mixed bn Try.func135 (c := C135) rfl H135 (Nat.le_of_ble_eq_true rfl) (e.mpr h)
theorem L135_0_ok {x0 x3 x7 x8 : Value} {w : World} {Q : Value → World → Prop} (h : L135_0 x0 x3 x7 x8 w Q) : P135_0 x0 x3 x7 x8 w Q :=
  have e : evC Try.prog (entR 3 143) 135 19 H135 Q (nav [1, 0, 1, 4, 5] C135) T135_0 (unpack [0, 3, 7, 8] [x0, x3, x7, x8]) w (contT Try.prog (entR 3 143) 135 19 H135 Try.f135.results.toList Q T135_0) = L135_0 x0 x3 x7 x8 w Q := by kernel_rfl
  part_lp (fn := Try.f135) mixed bn Try.func135 H135 (c := (nav [1, 0, 1, 4, 5] C135)) (t := [.blk 0, .jn (nav [1, 1] C135)]) (e.mpr h)

noncomputable def C140 : Code := (Try.f140.body).getD .skip
noncomputable def H140 : Hints := ⟨[], [], []⟩
def F140 (a0 a1 a2 : Value) (w : World) (Q : Value → World → Prop) : Prop :=
  CallR Try.prog 141 [a0, a2] w fun t9 w =>
  gE t9 true (CallR Try.prog 142 [(gv t9 true a0), (gv t9 true a2)] w) (fun t13 w =>
  wpB (gd t9 true (pureRun Try.prog (Op.unary .not t13))) fun t14 =>
  wpB (pickv t9 (some t14) (some (Go.Value.bool false))) fun t15 =>
  wpB (gd t15 true (bp Try.prog .geq 3 (gv t15 true a1) (Go.Value.int Go.IntKind.i64 0))) fun t18 =>
  wpB (pickv t15 (some t18) (some (Go.Value.bool false))) fun t19 =>
  wpB (gd t19 true (bp Try.prog .sub 3 (gv t19 true a0) (gv t19 true a2))) fun t24 =>
  wpB (gd t19 true (bp Try.prog .leq 3 (gv t19 true a1) t24)) fun t25 =>
  wpB (pickv t19 (some t25) (some (Go.Value.bool false))) fun t26 =>
  Q t26 w) w
theorem F140_ok {a0 a1 a2 : Value} {w : World} {Q : Value → World → Prop} (h : F140 a0 a1 a2 w Q) : CallR Try.prog 140 [a0, a1, a2] w Q :=
  have e : evC Try.prog (entR 3 143) 140 27 H140 Q C140 [] (entryE 0 [a0, a1, a2]) w (contT Try.prog (entR 3 143) 140 27 H140 Try.f140.results.toList Q []) = F140 a0 a1 a2 w Q := by kernel_rfl
  bt (fn := Try.f140) mixed bn Try.func140 (c := C140) rfl H140 (Nat.le_of_ble_eq_true rfl) (e.mpr h)

noncomputable def C141 : Code := (Try.f141.body).getD .skip
noncomputable def H141 : Hints := ⟨[], [], []⟩
def F141 (a0 a1 : Value) (w : World) (Q : Value → World → Prop) : Prop :=
  wpB (bp Try.prog .geq 3 a0 (Go.Value.int Go.IntKind.i64 1)) fun t6 =>
  wpB (gd t6 true (bp Try.prog .leq 3 (gv t6 true a0) (Go.Value.int Go.IntKind.i64 1024))) fun t9 =>
  wpB (pickv t6 (some t9) (some (Go.Value.bool false))) fun t10 =>
  wpB (gd t10 true (bp Try.prog .geq 3 (gv t10 true a1) (Go.Value.int Go.IntKind.i64 1))) fun t13 =>
  wpB (pickv t10 (some t13) (some (Go.Value.bool false))) fun t14 =>
  wpB (gd t14 true (bp Try.prog .leq 3 (gv t14 true a1) (gv t14 true a0))) fun t18 =>
  wpB (pickv t14 (some t18) (some (Go.Value.bool false))) fun t19 =>
  Q t19 w
theorem F141_ok {a0 a1 : Value} {w : World} {Q : Value → World → Prop} (h : F141 a0 a1 w Q) : CallR Try.prog 141 [a0, a1] w Q :=
  have e : evC Try.prog (entR 3 143) 141 20 H141 Q C141 [] (entryE 0 [a0, a1]) w (contT Try.prog (entR 3 143) 141 20 H141 Try.f141.results.toList Q []) = F141 a0 a1 w Q := by kernel_rfl
  bt (fn := Try.f141) mixed bn Try.func141 (c := C141) rfl H141 (Nat.le_of_ble_eq_true rfl) (e.mpr h)

noncomputable def C142 : Code := (Try.f142.body).getD .skip
noncomputable def H142 : Hints := ⟨[], [], []⟩
def F142 (a0 a1 : Value) (w : World) (Q : Value → World → Prop) : Prop :=
  CallR Try.prog 141 [a0, a1] w fun t7 w =>
  wpB (gd t7 true (bp Try.prog .mul 3 (Go.Value.int Go.IntKind.i64 2) (gv t7 true a1))) fun t10 =>
  wpB (gd t7 true (bp Try.prog .gtr 3 t10 (gv t7 true a0))) fun t12 =>
  wpB (pickv t7 (some t12) (some (Go.Value.bool false))) fun t13 =>
  Q t13 w
theorem F142_ok {a0 a1 : Value} {w : World} {Q : Value → World → Prop} (h : F142 a0 a1 w Q) : CallR Try.prog 142 [a0, a1] w Q :=
  have e : evC Try.prog (entR 3 143) 142 14 H142 Q C142 [] (entryE 0 [a0, a1]) w (contT Try.prog (entR 3 143) 142 14 H142 Try.f142.results.toList Q []) = F142 a0 a1 w Q := by kernel_rfl
  bt (fn := Try.f142) mixed bn Try.func142 (c := C142) rfl H142 (Nat.le_of_ble_eq_true rfl) (e.mpr h)
end Go.Proofs.Ytgamnncehjcdiaa

namespace Go.Proofs.Ytgamnncehjcdiaa
open Go Ev Go.RowKit

abbrev HnV := Int × Int × Int × Int × Int
abbrev NmV := Int × Int
def hnC (h : HnV) : List Value := [.int .i64 h.1, .int .i64 h.2.1, .int .i64 h.2.2.1, .int .i64 h.2.2.2.1, .int .i64 h.2.2.2.2]
def nmC (n : NmV) : List Value := [.int .i64 n.1, .int .i64 n.2]
structure RgV where
  nm : NmV
  cls : Int
  off : Int
  chunks : List Int
  words : List (List Int)
  objs : List HnV
structure HdV where
  depth : Int
  holds : List NmV
abbrev CfV := Int × Int × Int × Int × Int × Int
def cfC (c : CfV) : List Value := [.int .i64 c.1, .int .i64 c.2.1, .int .i64 c.2.2.1, .int .i64 c.2.2.2.1, .int .i64 c.2.2.2.2.1, .int .i64 c.2.2.2.2.2]
structure MdV where
  c : CfV
  loose : Bool
  slots : List NmV
  rgs : List RgV
  hands : List HdV
def u64s (l : List Int) : List Value := l.map (Value.int .u64)
def slotsT (L : List NmV) : Th := isRow 150 2 L.length ((L.flatMap nmC).map isV)
def namesT (L : List NmV) : Th := isRow 141 2 L.length ((L.flatMap nmC).map isV)
def intsT (L : List Int) : Th := isRow 3 1 L.length ((ints L).map isV)
def wordT (L : List Int) : Th := isRow 38 1 L.length ((u64s L).map isV)
def wordsT (L : List (List Int)) : Th := isRow 177 1 L.length (L.map wordT)
def objsT (L : List HnV) : Th := isRow 51 5 L.length ((L.flatMap hnC).map isV)
def iT (x : Int) : Th := isV (.int .i64 x)
def rgT (r : RgV) : List Th := [iT r.nm.1, iT r.nm.2, iT r.cls, iT r.off, intsT r.chunks, wordsT r.words, objsT r.objs]
def hdT (h : HdV) : List Th := [iT h.depth, namesT h.holds]
def rgsT (L : List RgV) : Th := isRow 144 7 L.length (L.flatMap rgT)
def handsT (L : List HdV) : Th := isRow 137 2 L.length (L.flatMap hdT)
def mdT (m : MdV) : List Th := (cfC m.c).map isV ++ [isV (.bool m.loose), slotsT m.slots, rgsT m.rgs, handsT m.hands]
def MdI (w : World) (g : Nat) (m : MdV) (F : Fp) : Prop := isAt 132 g (mdT m) w F
theorem good_int (k : IntKind) (x : Int) : OwnT (isV (.int k x)) := good_isV ⟨rfl, rfl⟩
theorem good_ints {us : List Value} (h : ∀ u ∈ us, ∃ k x, u = .int k x) : ∀ P ∈ us.map isV, OwnT P := good_flat fun u hu => by
  obtain ⟨k, x, rfl⟩ := h u hu; exact ⟨rfl, rfl⟩
theorem nmC_int (L : List NmV) : ∀ u ∈ L.flatMap nmC, ∃ k x, u = .int k x := fun u hu => by
  obtain ⟨n, _, hn⟩ := List.mem_flatMap.1 hu
  simp only [nmC, List.mem_cons, List.not_mem_nil, or_false] at hn
  rcases hn with rfl | rfl <;> exact ⟨_, _, rfl⟩
theorem hnC_int (L : List HnV) : ∀ u ∈ L.flatMap hnC, ∃ k x, u = .int k x := fun u hu => by
  obtain ⟨n, _, hn⟩ := List.mem_flatMap.1 hu
  simp only [hnC, List.mem_cons, List.not_mem_nil, or_false] at hn
  rcases hn with rfl | rfl | rfl | rfl | rfl <;> exact ⟨_, _, rfl⟩
theorem ints_int (L : List Int) : ∀ u ∈ ints L, ∃ k x, u = .int k x := fun u hu => by
  obtain ⟨n, _, rfl⟩ := List.mem_map.1 hu; exact ⟨_, _, rfl⟩
theorem u64s_int (L : List Int) : ∀ u ∈ u64s L, ∃ k x, u = .int k x := fun u hu => by
  obtain ⟨n, _, rfl⟩ := List.mem_map.1 hu; exact ⟨_, _, rfl⟩
theorem good_slots (L : List NmV) : OwnT (slotsT L) := good_isRow (good_ints (nmC_int L))
theorem good_names (L : List NmV) : OwnT (namesT L) := good_isRow (good_ints (nmC_int L))
theorem good_intsT (L : List Int) : OwnT (intsT L) := good_isRow (good_ints (ints_int L))
theorem good_word (L : List Int) : OwnT (wordT L) := good_isRow (good_ints (u64s_int L))
theorem good_words (L : List (List Int)) : OwnT (wordsT L) := good_isRow fun P hP => by
  obtain ⟨l, _, rfl⟩ := List.mem_map.1 hP; exact good_word l
theorem cm (L : List HnV) : OwnT (objsT L) := good_isRow (good_ints (hnC_int L))
theorem good_rg (r : RgV) : ∀ P ∈ rgT r, OwnT P := fun P hP => by
  simp only [rgT, List.mem_cons, List.not_mem_nil, or_false] at hP
  rcases hP with rfl | rfl | rfl | rfl | rfl | rfl | rfl
  · exact good_int _ _
  · exact good_int _ _
  · exact good_int _ _
  · exact good_int _ _
  · exact good_intsT _
  · exact good_words _
  · exact cm _
theorem good_hd (h : HdV) : ∀ P ∈ hdT h, OwnT P := fun P hP => by
  simp only [hdT, List.mem_cons, List.not_mem_nil, or_false] at hP
  rcases hP with rfl | rfl
  · exact good_int _ _
  · exact good_names _
theorem good_rgL (L : List RgV) : ∀ P ∈ L.flatMap rgT, OwnT P := fun P hP => by
  obtain ⟨r, _, hr⟩ := List.mem_flatMap.1 hP; exact good_rg r P hr
theorem good_hdL (L : List HdV) : ∀ P ∈ L.flatMap hdT, OwnT P := fun P hP => by
  obtain ⟨r, _, hr⟩ := List.mem_flatMap.1 hP; exact good_hd r P hr
theorem good_rgs (L : List RgV) : OwnT (rgsT L) := good_isRow (good_rgL L)
theorem good_hands (L : List HdV) : OwnT (handsT L) := good_isRow (good_hdL L)
theorem bY (m : MdV) : ∀ P ∈ mdT m, OwnT P := fun P hP => by
  rcases List.mem_append.1 hP with h | h
  · refine good_ints (fun u hu => ?_) P h
    simp only [cfC, List.mem_cons, List.not_mem_nil, or_false] at hu
    rcases hu with rfl | rfl | rfl | rfl | rfl | rfl <;> exact ⟨_, _, rfl⟩
  · simp only [List.mem_cons, List.not_mem_nil, or_false] at h
    rcases h with rfl | rfl | rfl | rfl
    · exact good_isV ⟨rfl, rfl⟩
    · exact good_slots _
    · exact good_rgs _
    · exact good_hands _
theorem rgT_len (r : RgV) : (rgT r).length = 7 := rfl
theorem hdT_len (h : HdV) : (hdT h).length = 2 := rfl
theorem nmC_len (n : NmV) : (nmC n).length = 2 := rfl
theorem hnC_len (h : HnV) : (hnC h).length = 5 := rfl
theorem MdI.keep {w w' : World} {g : Nat} {m : MdV} {F : Fp} (h : MdI w g m F) (hc : Chg [] w w') : MdI w' g m F := isAt.frame h (bY m) (ChgP.of0 hc none') fun _ _ h => h
structure MdR (w : World) (g : Nat) (m : MdV) (s r h : Value) : Prop where
  c : ∀ k, k < 6 → ldC (hp w g) (0 + k) = (cfC m.c)[k]?
  l : ldC (hp w g) (0 + 6) = some (.bool m.loose)
  sl : ldC (hp w g) (0 + 7) = some s
  rl : ldC (hp w g) (0 + 8) = some r
  hl : ldC (hp w g) (0 + 9) = some h
  sT : ∃ F, slotsT m.slots w F s
  rT : ∃ F, rgsT m.rgs w F r
  hT : ∃ F, handsT m.hands w F h
theorem MdI.rd {w : World} {g : Nat} {m : MdV} {F : Fp} (h : MdI w g m F) : ∃ s r h, MdR w g m s r h := by
  obtain ⟨sv, _, _, _, _, hs, hS, _⟩ := isAt.cell h (bY m) (k := 7) (P := slotsT m.slots) rfl
  obtain ⟨rv, _, _, _, _, hr, hR, _⟩ := isAt.cell h (bY m) (k := 8) (P := rgsT m.rgs) rfl
  obtain ⟨hv, _, _, _, _, hh, hH, _⟩ := isAt.cell h (bY m) (k := 9) (P := handsT m.hands) rfl
  obtain ⟨lv, _, _, _, _, hl, hL, _⟩ := isAt.cell h (bY m) (k := 6) (P := isV (.bool m.loose)) rfl
  refine ⟨sv, rv, hv, fun k hk => ?_, hl.trans (by rw [hL.1]), hs, hr, hh, ⟨_, hS⟩, ⟨_, hR⟩, ⟨_, hH⟩⟩
  obtain ⟨u, hu⟩ : ∃ u, (cfC m.c)[k]? = some u := ⟨_, List.getElem?_eq_getElem (by simpa [cfC] using hk)⟩
  have hP : (mdT m)[k]? = some (isV u) := by
    rw [mdT, List.getElem?_append_left (by simpa [cfC] using hk), List.getElem?_map, hu]; rfl
  obtain ⟨cv, _, _, _, _, hc, hC, _⟩ := isAt.cell h (bY m) hP
  rw [Nat.zero_add, hc, hC.1, hu]
theorem MdR.keep {w w' : World} {g : Nat} {m : MdV} {s r h : Value} (k : MdR w g m s r h) (hc : Chg [] w w') : MdR w' g m s r h := by
  have e : ∀ i u, ldC (hp w g) i = some u → hp w' g = hp w g := fun i u hu => hc.block g (by
    rcases Nat.lt_or_ge g w.heap.size with h | h
    · exact h
    · have : hp w g = none := by simp [hp]; omega
      rw [this] at hu; cases hu) (by simp)
  have e := e _ _ k.sl
  obtain ⟨F, hF⟩ := k.sT
  obtain ⟨G, hG⟩ := k.rT
  obtain ⟨H, hH⟩ := k.hT
  exact ⟨fun i hi => by rw [e]; exact k.c i hi, by rw [e]; exact k.l, by rw [e]; exact k.sl, by rw [e]; exact k.rl, by rw [e]; exact k.hl,
    ⟨F, (good_slots _).frame hF (ChgP.of0 hc none') fun _ _ h => h⟩, ⟨G, (good_rgs _).frame hG (ChgP.of0 hc none') fun _ _ h => h⟩, ⟨H, (good_hands _).frame hH (ChgP.of0 hc none') fun _ _ h => h⟩⟩
end Go.Proofs.Ytgamnncehjcdiaa

namespace Go.Proofs.Ytgamnncehjcdiaa
open Go Ev Go.RowKit

theorem slots_sh {w : World} {L : List NmV} {s : Value} (h : ∃ F, slotsT L w F s) : ∃ A c, s = .slice A L.length c ∧ RdV w A (L.flatMap nmC) := by
  obtain ⟨F, h⟩ := h
  obtain ⟨h1, _⟩ := flat_own h
  obtain ⟨A, c, e, r, _⟩ := rdV_of_own h1
  exact ⟨A, c, e, r⟩
theorem rgs_sh {w : World} {L : List RgV} {s : Value} (h : ∃ F, rgsT L w F s) : ∃ A c, s = .slice A L.length c := by
  obtain ⟨F, h⟩ := h
  obtain ⟨A, c, _, _, e, _⟩ := isRow.rd h
  exact ⟨A, c, e⟩
theorem hands_sh {w : World} {L : List HdV} {s : Value} (h : ∃ F, handsT L w F s) : ∃ A c, s = .slice A L.length c := by
  obtain ⟨F, h⟩ := h
  obtain ⟨A, c, _, _, e, _⟩ := isRow.rd h
  exact ⟨A, c, e⟩
theorem c_mSlot {w : World} {g : Nat} {m : MdV} {s r h : Value} (M : MdR w g m s r h) (n : Int) : CallR Try.prog 89 [.pointer (some ⟨g, 0, none⟩), .int .i64 n] w fun v w' => v = .bool (decide (0 ≤ n ∧ n < m.slots.length)) ∧ w' = w := by
  apply F89_ok
  obtain ⟨A, c, rfl, _⟩ := slots_sh M.sT
  by_cases h0 : 0 ≤ n
  · simp -implicitDefEqProofs only [F89, ad, ax, am, aM, aN, aQ, aR, av, ak, aJ, aK, aS, aT, ay, ap, aU, aV, aX, aY, ae, ac, aj, ag, z1z, z2z, z3z, z4z, aH, af, aD, aB, aC, aA, aE, aG, z5z, z6z, ah, z7z, z8z, au, h0, af, fa_132_2, ld_128, M.sl, len_128]
    exact ⟨by simp, trivial⟩
  · simp -implicitDefEqProofs only [F89, ad, ax, am, aM, aN, aQ, aR, av, ak, aJ, aK, aS, aT, ay, ap, aU, aV, aX, aY, ae, ac, aj, ag, z1z, z2z, z3z, z4z, aH, af, aD, aB, aC, aA, aE, aG, z5z, z6z, ah, z7z, z8z, au, h0]
    exact ⟨by simp, trivial⟩
def findR (L : List RgV) (n : NmV) : Option Nat := L.findIdx? (fun r => decide (r.nm = n))
theorem box_nm {w : World} (n : NmV) : hp (w.alloc (.cells (nmC n).toArray 141)) w.heap.size = some (.cells (nmC n).toArray 141) := by rw [bc, if_pos rfl]
structure RgR (w : World) (b o : Nat) (r : RgV) (cv wv ov : Value) : Prop where
  c0 : ldC (hp w b) (o + 0) = some (.int .i64 r.nm.1)
  c1 : ldC (hp w b) (o + 1) = some (.int .i64 r.nm.2)
  c2 : ldC (hp w b) (o + 2) = some (.int .i64 r.cls)
  c3 : ldC (hp w b) (o + 3) = some (.int .i64 r.off)
  c4 : ldC (hp w b) (o + 4) = some cv
  c5 : ldC (hp w b) (o + 5) = some wv
  c6 : ldC (hp w b) (o + 6) = some ov
  cT : ∃ F, intsT r.chunks w F cv
  wT : ∃ F, wordsT r.words w F wv
  oT : ∃ F, objsT r.objs w F ov
theorem rg_at {w : World} {L : List RgV} {F : Fp} {x : Value} (h : rgsT L w F x) {i : Nat} {r : RgV} (hr : L[i]? = some r) : ∃ b c, x = .slice (some ⟨b, 0, none⟩) L.length c ∧ ∃ cv wv ov, RgR w b (i * 7) r cv wv ov := by
  have get : ∀ k, k < 7 → (L.flatMap rgT)[i * 7 + k]? = (rgT r)[k]? := fun k hk => flatM_get rgT_len L i r hr k hk
  obtain ⟨b, c, v0, F0, e0, _, _, _, l0, t0, _⟩ := isRow.cell h (good_rgL L) (get 0 (by omega))
  obtain ⟨b1, c1, v1, F1, e1, _, _, _, l1, t1, _⟩ := isRow.cell h (good_rgL L) (get 1 (by omega))
  obtain ⟨b2, c2, v2, F2, e2, _, _, _, l2, t2, _⟩ := isRow.cell h (good_rgL L) (get 2 (by omega))
  obtain ⟨b3, c3, v3, F3, e3, _, _, _, l3, t3, _⟩ := isRow.cell h (good_rgL L) (get 3 (by omega))
  obtain ⟨b4, c4, v4, F4, e4, _, _, _, l4, t4, _⟩ := isRow.cell h (good_rgL L) (get 4 (by omega))
  obtain ⟨b5, c5, v5, F5, e5, _, _, _, l5, t5, _⟩ := isRow.cell h (good_rgL L) (get 5 (by omega))
  obtain ⟨b6, c6, v6, F6, e6, _, _, _, l6, t6, _⟩ := isRow.cell h (good_rgL L) (get 6 (by omega))
  subst e0
  cases e1; cases e2; cases e3; cases e4; cases e5; cases e6
  rw [t0.1] at l0; rw [t1.1] at l1; rw [t2.1] at l2; rw [t3.1] at l3
  exact ⟨b, c, rfl, v4, v5, v6, l0, l1, l2, l3, l4, l5, l6, ⟨F4, t4⟩, ⟨F5, t5⟩, ⟨F6, t6⟩⟩
theorem findR_none {L : List RgV} {n : NmV} (h : ∀ (j : Nat) (r : RgV), L[j]? = some r → r.nm ≠ n) : findR L n = none := by
  rw [findR, List.findIdx?_eq_none_iff]
  intro r hr
  obtain ⟨j, hj⟩ := List.getElem?_of_mem hr
  simpa using h j r hj
theorem findR_some {L : List RgV} {n : NmV} {i : Nat} {r : RgV} (hi : L[i]? = some r) (hr : r.nm = n) (h : ∀ (j : Nat) (r : RgV), j < i → L[j]? = some r → r.nm ≠ n) : findR L n = some i := by
  have hil := (List.getElem?_eq_some_iff.1 hi).1
  rw [findR, List.findIdx?_eq_some_iff_getElem]
  refine ⟨hil, ?_, fun j hj => ?_⟩
  · rw [List.getElem?_eq_getElem hil] at hi; cases hi; simpa using hr
  · simpa using h j _ hj (List.getElem?_eq_getElem (by omega))
theorem ldL_two {x : Option Obj} {o : Nat} {a b : Value} (h0 : ldC x (o + 0) = some a) (h1 : ldC x (o + 1) = some b) : ldL x o 2 = some [a, b] := ldL_take 2 o [a, b] rfl fun j u hj => by
  rcases j with _ | _ | j
  · simp at hj; subst hj; exact h0
  · simp at hj; subst hj; exact h1
  · simp at hj
theorem nm_beq (a b : NmV) : ((a.1 == b.1) && ((a.2 == b.2) && true)) = decide (a = b) := by
  obtain ⟨a1, a2⟩ := a; obtain ⟨b1, b2⟩ := b
  by_cases h1 : a1 = b1 <;> by_cases h2 : a2 = b2 <;> simp [h1, h2]
set_option maxHeartbeats 1000000 in
theorem c_mRegion {w : World} {g : Nat} {m : MdV} {s r h : Value} (M : MdR w g m s r h) (n : NmV) (hl : m.rgs.length ≤ 1000000) : CallR Try.prog 85 [.pointer (some ⟨g, 0, none⟩), .agg (nmC n).toArray] w fun v w' =>
    Chg [] w w' ∧ ((findR m.rgs n = none ∧ v = .pointer none) ∨ ∃ i rg b c, findR m.rgs n = some i ∧ m.rgs[i]? = some rg ∧ r = .slice (some ⟨b, 0, none⟩) m.rgs.length c ∧ v = .pointer (some ⟨b, i * 7, none⟩)) := by
  apply F85_ok
  have hbox := box_nm (w := w) n
  have hc0 : Chg [] w (w.alloc (.cells (nmC n).toArray 141)) := (Chg.refl _ _).alloc _
  simp -implicitDefEqProofs only [F85, bE, bA]
  generalize w.alloc (.cells (nmC n).toArray 141) = w0 at *
  have M0 := M.keep hc0
  obtain ⟨A, c, hr⟩ := rgs_sh M0.rT
  generalize w.heap.size = gb at *
  have hrl := M0.rl
  rw [hr] at hrl
  simp -implicitDefEqProofs only [ad, ax, am, aM, aN, aQ, aR, av, ak, aJ, aK, aS, aT, ay, ap, aU, aV, aX, aY, ae, ac, aj, ag, z1z, z2z, z3z, z4z, aH, af, aD, aB, aC, aA, aE, aG, z5z, z6z, ah, z7z, z8z, au, af, fa_132_3, ld_130, hrl, len_130]
  have main : ∀ (d i : Nat) (w1 : World), Chg [] w0 w1 → (∀ (j : Nat) (r : RgV), j < i → m.rgs[j]? = some r → r.nm ≠ n) → i + d = m.rgs.length →
      P85_0 (.pointer (some ⟨g, 0, none⟩)) (.pointer (some ⟨gb, 0, none⟩)) (.int .i64 m.rgs.length) (.int .i64 i) w1 fun v w' =>
    Chg [] w w' ∧ ((findR m.rgs n = none ∧ v = .pointer none) ∨ ∃ i rg b c, findR m.rgs n = some i ∧ m.rgs[i]? = some rg ∧ r = .slice (some ⟨b, 0, none⟩) m.rgs.length c ∧ v = .pointer (some ⟨b, i * 7, none⟩)) := by
    intro d
    induction d with
    | zero =>
      intro i w1 hc hn hi
      apply L85_0_ok
      have : ¬ (i : Int) < m.rgs.length := by omega
      simp -implicitDefEqProofs only [L85_0, ad, ax, am, aM, aN, aQ, aR, av, ak, aJ, aK, aS, aT, ay, ap, aU, aV, aX, aY, ae, ac, aj, ag, z1z, z2z, z3z, z4z, aH, af, aD, aB, aC, aA, aE, aG, z5z, z6z, ah, z7z, z8z, au, this]
      exact ⟨hc0.trans hc, .inl ⟨findR_none fun j r hj => hn j r (by have := (List.getElem?_eq_some_iff.1 hj).1; omega) hj, by first | rfl | trivial⟩⟩
    | succ d ih =>
      intro i w1 hc hn hi
      apply L85_0_ok
      have hlt : (i : Int) < m.rgs.length := by omega
      obtain ⟨rg, hrg⟩ : ∃ rg, m.rgs[i]? = some rg := ⟨_, List.getElem?_eq_getElem (by omega)⟩
      have M1 := M0.keep hc
      obtain ⟨F, hF⟩ := M1.rT
      obtain ⟨b, c', hx, cv, wv, ov, R⟩ := rg_at hF hrg
      have hrl1 := M1.rl
      rw [hx] at hrl1
      have hb1 := hc.at hbox (by simp)
      have ia := ia_130 (b := b) (p := 0) (n := m.rgs.length) (c := c') (j := .i64) (i := (i : Int)) (by omega) (by omega)
      rw [Int.toNat_natCast, Nat.zero_add] at ia
      have e0 : ldC (hp w1 gb) 0 = some (.int .i64 n.1) := by rw [hb1]; rfl
      have e1 : ldC (hp w1 gb) (0 + 1) = some (.int .i64 n.2) := by rw [hb1]; rfl
      have hbe : be Try.prog .eql 141 (.tmp 21) (.tmp 22) (.agg #[.int .i64 rg.nm.1, .int .i64 rg.nm.2]) (.agg #[.int .i64 n.1, .int .i64 n.2]) = some (.bool (decide (rg.nm = n))) := by
        rw [← nm_beq]; exact be_eql_141
      have lr := ldL_two (o := i * 7 + 0) R.c0 R.c1
      have ln := ldL_two (o := 0) e0 e1
      simp -implicitDefEqProofs only [L85_0, ad, ax, am, aM, aN, aQ, aR, av, ak, aJ, aK, aS, aT, ay, ap, aU, aV, aX, aY, ae, ac, aj, ag, z1z, z2z, z3z, z4z, aH, af, aD, aB, aC, aA, aE, aG, z5z, z6z, ah, z7z, z8z, au, hlt, af, fa_132_3, ld_130, hrl1, ia, fa_144_0, ld_141, lr, ln, Option.map_some, hbe]
      by_cases hnm : rg.nm = n
      · simp -implicitDefEqProofs only [hnm, z1z, ad, ax, am, aM, aN, aQ, aR, av, ak, aJ, aK, aS, aT, ay, ap, aU, aV, aX, aY, ae, ac, aj, ag, z1z, z2z, z3z, z4z, aH, af, aD, aB, aC, aA, aE, aG, z5z, z6z, ah, z7z, z8z, au, ia]
        exact ⟨hc0.trans hc.drew, .inr ⟨i, rg, b, c', findR_some hrg hnm hn, hrg, hx, rfl⟩⟩
      · simp -implicitDefEqProofs only [hnm, z2z, ad, ax, am, aM, aN, aQ, aR, av, ak, aJ, aK, aS, aT, ay, ap, aU, aV, aX, aY, ae, ac, aj, ag, z1z, z2z, z3z, z4z, aH, af, aD, aB, aC, aA, aE, aG, z5z, z6z, ah, z7z, z8z, au, bG, bC (n := (i : Int) + 1) (by omega) (by omega)]
        have := ih (i + 1) w1.drew hc.drew (fun j r hj hr => by
          rcases Nat.lt_or_ge j i with h1 | h1
          · exact hn j r h1 hr
          · have : j = i := by omega
            subst this
            rw [hrg] at hr; cases hr; exact hnm) (by omega)
        rw [Int.natCast_add i 1] at this
        exact this
  exact main m.rgs.length 0 w0 (Chg.refl _ _) (fun j r hj => by omega) (by omega)
end Go.Proofs.Ytgamnncehjcdiaa

namespace Go.Proofs.Ytgamnncehjcdiaa
open Go Ev Go.RowKit

theorem slot_at {w : World} {A : Option Addr} {c : Nat} {L : List NmV} (h : RdV w A (L.flatMap nmC)) {i : Nat} {p : NmV} (hp' : L[i]? = some p) :
    ∃ b o, pureRun Try.prog (Instr.indexAt 128 (.slice A L.length c) (.int .i64 i)) = some (.pointer (some ⟨b, o, none⟩)) ∧ ldC (hp w b) (o + 0) = some (.int .i64 p.1) ∧ ldC (hp w b) (o + 1) = some (.int .i64 p.2) := by
  have hi := (List.getElem?_eq_some_iff.1 hp').1
  obtain ⟨b, o, h1, h2, _⟩ := h.elem (P := Try.prog) (c := c) (n := L.length) (i := (i : Int)) (j := .i64) Try.underlying128 sz_150 (by omega) (by rw [flatM_len nmC_len]; exact Nat.le_refl _) (by omega) (by omega)
  rw [Int.toNat_natCast] at h2
  exact ⟨b, o, h1, (h2 0 (by omega)).trans (flatM_get nmC_len L i p hp' 0 (by omega)), (h2 1 (by omega)).trans (flatM_get nmC_len L i p hp' 1 (by omega))⟩
theorem c_mNameOf (h : HnV) (w : World) : CallR Try.prog 86 [.agg (hnC h).toArray] w fun v w' => v = .agg (nmC (h.1, h.2.1)).toArray ∧ Chg [] w w' := by
  apply F86_ok
  simp -implicitDefEqProofs only [F86, bE, bA, al_141, bf]
  generalize hw : (w.alloc (.cells (hnC h).toArray 51)).alloc _ = w1
  have hc : Chg [] w w1 := by rw [← hw]; exact ((Chg.refl _ _).alloc _).alloc _
  have a1 : hp w1 w.heap.size = some (.cells (hnC h).toArray 51) := by rw [← hw, bc, bf, if_neg (by omega), bc, if_pos rfl]
  have a2 : hp w1 (w.heap.size + 1) = some (.cells #[.int .i64 0, .int .i64 0] 141) := by rw [← hw, bc, bf, if_pos rfl]
  clear hw
  have e0 : (hnC h).toArray[0 + 0]? = some (.int .i64 h.1) := rfl
  have e1 : (hnC h).toArray[0 + 1]? = some (.int .i64 h.2.1) := rfl
  simp -implicitDefEqProofs only [ad, ax, am, aM, aN, aQ, aR, av, ak, aJ, aK, aS, aT, ay, ap, aU, aV, aX, aY, ae, ac, aj, ag, z1z, z2z, z3z, z4z, aH, af, aD, aB, aC, aA, aE, aG, z5z, z6z, ah, z7z, z8z, au, bX, fa_51_1, bj, a1, e0, e1, bd_141_0_1]
  rw [st_141 (by rfl) (by rfl) (by rw [a2]; rfl) (by rw [a2]; rfl), a2]
  simp -implicitDefEqProofs only [bM]
  have f2 : hp (put w1 (w.heap.size + 1) #[.int .i64 h.1, .int .i64 h.2.1] 141) (w.heap.size + 1) = some (.cells #[.int .i64 h.1, .int .i64 h.2.1] 141) := bv (bz a2) _ _
  rw [bJ (c := #[.int .i64 h.1, .int .i64 h.2.1]) ag_141 sz_141 f2, ad]
  exact ⟨rfl, hc.put (.inr (by omega)) _ _⟩
def isLv (m : MdV) (n : NmV) : Bool := decide (0 ≤ n.1 ∧ n.1 < m.slots.length) && decide (m.slots[n.1.toNat]? = some (1, n.2))
set_option maxHeartbeats 1000000 in
theorem c_mIsLive {w : World} {g : Nat} {m : MdV} {s r h : Value} (M : MdR w g m s r h) (n : NmV) : CallR Try.prog 117 [.pointer (some ⟨g, 0, none⟩), .agg (nmC n).toArray] w fun v w' => v = .bool (isLv m n) ∧ Chg [] w w' := by
  apply F117_ok
  have hbox := box_nm (w := w) n
  have hc0 : Chg [] w (w.alloc (.cells (nmC n).toArray 141)) := (Chg.refl _ _).alloc _
  simp -implicitDefEqProofs only [F117, bE, bA]
  generalize w.alloc (.cells (nmC n).toArray 141) = w0 at *
  have M0 := (M.keep hc0).keep (Chg.refl _ _).drew
  have hbd : hp w0.drew w.heap.size = some (.cells (nmC n).toArray 141) := hbox
  have hcd := hc0.drew
  have e0 : (nmC n).toArray[0 + 0]? = some (.int .i64 n.1) := rfl
  have e1 : (nmC n).toArray[0 + 1]? = some (.int .i64 n.2) := rfl
  simp -implicitDefEqProofs only [ad, ax, am, aM, aN, aQ, aR, av, ak, aJ, aK, aS, aT, ay, ap, aU, aV, aX, aY, ae, ac, aj, ag, z1z, z2z, z3z, z4z, aH, af, aD, aB, aC, aA, aE, aG, z5z, z6z, ah, z7z, z8z, au, fa_141_0, bj, hbox, e0]
  generalize w0.drew = w1 at *
  refine (c_mSlot M0 n.1).step ?_
  obtain ⟨A, c, rfl, hR⟩ := slots_sh M0.sT
  by_cases hn : 0 ≤ n.1 ∧ n.1 < m.slots.length
  · obtain ⟨p, hp'⟩ : ∃ p, m.slots[n.1.toNat]? = some p := ⟨_, List.getElem?_eq_getElem (by omega)⟩
    obtain ⟨b, o, q1, q2, q3⟩ := slot_at (c := c) hR hp'
    have hcast : ((n.1.toNat : Nat) : Int) = n.1 := by omega
    rw [hcast] at q1
    have lr := ldL_two q2 q3
    have hbe : be Try.prog .eql 150 (.tmp 17) (.tmp 20) (.agg #[.int .i64 p.1, .int .i64 p.2]) (.agg #[.int .i64 1, .int .i64 n.2]) = some (.bool (decide (p = (1, n.2)))) := by
      rw [← nm_beq]; exact be_eql_150
    simp -implicitDefEqProofs only [ad, ax, am, aM, aN, aQ, aR, av, ak, aJ, aK, aS, aT, ay, ap, aU, aV, aX, aY, ae, ac, aj, ag, z1z, z2z, z3z, z4z, aH, af, aD, aB, aC, aA, aE, aG, z5z, z6z, ah, z7z, z8z, au, hn, and_self, z1z, af, fa_132_2, ld_128, M0.sl, fa_141_0, fa_141_1, bj, hbd, e0, e1, q1, ld_150, lr, Option.map_some, bd_150_0_1, hbe]
    refine ⟨?_, hcd⟩
    rw [isLv, hp', decide_eq_true hn, Bool.true_and]
    simp
  · simp -implicitDefEqProofs only [ad, ax, am, aM, aN, aQ, aR, av, ak, aJ, aK, aS, aT, ay, ap, aU, aV, aX, aY, ae, ac, aj, ag, z1z, z2z, z3z, z4z, aH, af, aD, aB, aC, aA, aE, aG, z5z, z6z, ah, z7z, z8z, au, hn, z2z]
    exact ⟨by simp [isLv, hn], hcd⟩
def liveV (m : MdV) (n : Int) : Int × Bool := if 0 ≤ n ∧ n < m.slots.length then (match m.slots[n.toNat]? with | some p => if p.1 = 1 then (p.2, true) else (0, false) | none => (0, false)) else (0, false)
set_option maxHeartbeats 1000000 in
theorem c_mLive {w : World} {g : Nat} {m : MdV} {s r h : Value} (M : MdR w g m s r h) (n : Int) : CallR Try.prog 48 [.pointer (some ⟨g, 0, none⟩), .int .i64 n] w fun v w' => v = .tuple #[.int .i64 (liveV m n).1, .bool (liveV m n).2] ∧ w' = w := by
  apply F48_ok
  simp -implicitDefEqProofs only [F48]
  refine (c_mSlot M n).step ?_
  obtain ⟨A, c, rfl, hR⟩ := slots_sh M.sT
  by_cases hn : 0 ≤ n ∧ n < m.slots.length
  · obtain ⟨p, hp'⟩ : ∃ p, m.slots[n.toNat]? = some p := ⟨_, List.getElem?_eq_getElem (by omega)⟩
    obtain ⟨b, o, q1, q2, q3⟩ := slot_at (c := c) hR hp'
    have hcast : ((n.toNat : Nat) : Int) = n := by omega
    rw [hcast] at q1
    have hl : liveV m n = if p.1 = 1 then (p.2, true) else (0, false) := by rw [liveV, if_pos hn, hp']
    by_cases h1 : p.1 = 1
    · have e1 : (p.1 != 1) = false := by rw [h1]; rfl
      simp -implicitDefEqProofs only [ad, ax, am, aM, aN, aQ, aR, av, ak, aJ, aK, aS, aT, ay, ap, aU, aV, aX, aY, ae, ac, aj, ag, z1z, z2z, z3z, z4z, aH, af, aD, aB, aC, aA, aE, aG, z5z, z6z, ah, z7z, z8z, au, hn, and_self, z1z, af, fa_132_2, ld_128, M.sl, q1, fa_150_0, fa_150_1, bj, q2, q3, e1]
      rw [hl, if_pos h1]
      exact ⟨rfl, trivial⟩
    · have e1 : (p.1 != 1) = true := bne_iff_ne.2 h1
      simp -implicitDefEqProofs only [ad, ax, am, aM, aN, aQ, aR, av, ak, aJ, aK, aS, aT, ay, ap, aU, aV, aX, aY, ae, ac, aj, ag, z1z, z2z, z3z, z4z, aH, af, aD, aB, aC, aA, aE, aG, z5z, z6z, ah, z7z, z8z, au, hn, and_self, z1z, af, fa_132_2, ld_128, M.sl, q1, fa_150_0, fa_150_1, bj, q2, q3, e1]
      rw [hl, if_neg h1]
      exact ⟨rfl, trivial⟩
  · simp -implicitDefEqProofs only [ad, ax, am, aM, aN, aQ, aR, av, ak, aJ, aK, aS, aT, ay, ap, aU, aV, aX, aY, ae, ac, aj, ag, z1z, z2z, z3z, z4z, aH, af, aD, aB, aC, aA, aE, aG, z5z, z6z, ah, z7z, z8z, au, hn, z2z]
    rw [liveV, if_neg hn]
    exact ⟨rfl, trivial⟩
def spareN (L : List NmV) : Nat := (L.filter fun p => decide (p.1 = 0)).length
theorem spareN_snoc (L : List NmV) (p : NmV) : spareN (L ++ [p]) = spareN L + if p.1 = 0 then 1 else 0 := by
  simp only [spareN, List.filter_append, List.length_append]
  by_cases h : p.1 = 0 <;> simp [h]
set_option maxHeartbeats 1000000 in
theorem c_mSpare {w : World} {g : Nat} {m : MdV} {s r h : Value} (M : MdR w g m s r h) (hl : m.slots.length ≤ 1000000) : CallR Try.prog 79 [.pointer (some ⟨g, 0, none⟩)] w fun v w' => v = .int .i64 (spareN m.slots) ∧ Chg [] w w' := by
  apply F79_ok
  obtain ⟨A, c, hs, hR⟩ := slots_sh M.sT
  have hsl := M.sl
  rw [hs] at hsl
  simp -implicitDefEqProofs only [F79, ad, ax, am, aM, aN, aQ, aR, av, ak, aJ, aK, aS, aT, ay, ap, aU, aV, aX, aY, ae, ac, aj, ag, z1z, z2z, z3z, z4z, aH, af, aD, aB, aC, aA, aE, aG, z5z, z6z, ah, z7z, z8z, au, af, fa_132_2, ld_128, hsl, len_128]
  have main : ∀ (d i : Nat) (w1 : World), Chg [] w w1 → i + d = m.slots.length →
      P79_0 (.int .i64 (spareN (m.slots.take i))) (.slice A m.slots.length c) (.int .i64 m.slots.length) (.int .i64 i) w1 fun v w' => v = .int .i64 (spareN m.slots) ∧ Chg [] w w' := by
    intro d
    induction d with
    | zero =>
      intro i w1 hc hi
      apply L79_0_ok
      have : ¬ (i : Int) < m.slots.length := by omega
      simp -implicitDefEqProofs only [L79_0, ad, ax, am, aM, aN, aQ, aR, av, ak, aJ, aK, aS, aT, ay, ap, aU, aV, aX, aY, ae, ac, aj, ag, z1z, z2z, z3z, z4z, aH, af, aD, aB, aC, aA, aE, aG, z5z, z6z, ah, z7z, z8z, au, this]
      rw [List.take_of_length_le (by omega)]
      exact ⟨rfl, hc⟩
    | succ d ih =>
      intro i w1 hc hi
      apply L79_0_ok
      have hlt : (i : Int) < m.slots.length := by omega
      have hil : i < m.slots.length := by omega
      obtain ⟨b, o, q1, q2, q3⟩ := slot_at (c := c) (hR.keep hc.below) (List.getElem?_eq_getElem hil)
      have lr := ldL_two q2 q3
      have hle : spareN (m.slots.take i) ≤ i := by
        have := List.length_filter_le (fun p : NmV => decide (p.1 = 0)) (m.slots.take i)
        simp only [spareN]; simp at this ⊢; omega
      have hsn : spareN (m.slots.take (i + 1)) = spareN (m.slots.take i) + if (m.slots[i]).1 = 0 then 1 else 0 := by
        rw [List.take_add_one, List.getElem?_eq_getElem hil]
        exact spareN_snoc _ _
      generalize m.slots[i] = p at *
      simp -implicitDefEqProofs only [L79_0, ad, ax, am, aM, aN, aQ, aR, av, ak, aJ, aK, aS, aT, ay, ap, aU, aV, aX, aY, ae, ac, aj, ag, z1z, z2z, z3z, z4z, aH, af, aD, aB, aC, aA, aE, aG, z5z, z6z, ah, z7z, z8z, au, hlt, q1, ld_150, lr, Option.map_some, al_150]
      rw [st_150 (by rfl) (by rfl) (by rw [bc, if_pos rfl]; rfl) (by rw [bc, if_pos rfl]; rfl), bc, if_pos rfl]
      simp -implicitDefEqProofs only [bM]
      generalize hz : w1.alloc _ = wa
      have hca : Chg [] w1 wa := by rw [← hz]; exact (Chg.refl _ _).alloc _
      have hza : wa.heap.size = w1.heap.size + 1 := by rw [← hz]; simp
      have hcp : Chg [] w1 (put wa w1.heap.size [Value.int .i64 p.1, Value.int .i64 p.2].toArray 150) := hca.put (.inr (Nat.le_refl _)) _ _
      have h8 : hp (put wa w1.heap.size [Value.int .i64 p.1, Value.int .i64 p.2].toArray 150) w1.heap.size = some (.cells [Value.int .i64 p.1, Value.int .i64 p.2].toArray 150) := by rw [put_heap, if_pos rfl, if_pos (by omega)]
      generalize put wa w1.heap.size [Value.int .i64 p.1, Value.int .i64 p.2].toArray 150 = w2 at *
      have e0 : ([Value.int .i64 p.1, Value.int .i64 p.2].toArray)[0 + 0]? = some (Value.int .i64 p.1) := rfl
      have hc2 := hc.trans hcp
      have one : ∀ k : Nat, k = spareN (m.slots.take (i + 1)) → P79_1 (.int .i64 k) (.slice A m.slots.length c) (.int .i64 m.slots.length) (.int .i64 i) w2 fun v w' => v = .int .i64 (spareN m.slots) ∧ Chg [] w w' := by
        rintro k rfl
        apply L79_1_ok
        simp -implicitDefEqProofs only [L79_1, ad, ax, am, aM, aN, aQ, aR, av, ak, aJ, aK, aS, aT, ay, ap, aU, aV, aX, aY, ae, ac, aj, ag, z1z, z2z, z3z, z4z, aH, af, aD, aB, aC, aA, aE, aG, z5z, z6z, ah, z7z, z8z, au, bG, bC (n := (i : Int) + 1) (by omega) (by omega)]
        have := ih (i + 1) w2 hc2 (by omega)
        rw [Int.natCast_add i 1] at this
        exact this
      by_cases hp0 : p.1 = 0
      · have e1 : (p.1 == 0) = true := by rw [hp0]; rfl
        simp -implicitDefEqProofs only [ad, ax, am, aM, aN, aQ, aR, av, ak, aJ, aK, aS, aT, ay, ap, aU, aV, aX, aY, ae, ac, aj, ag, z1z, z2z, z3z, z4z, aH, af, aD, aB, aC, aA, aE, aG, z5z, z6z, ah, z7z, z8z, au, fa_150_0, bj, h8, e0, e1, bG, bC (n := (spareN (m.slots.take i) : Int) + 1) (by omega) (by omega)]
        have := one (spareN (m.slots.take i) + 1) (by rw [hsn, if_pos hp0])
        rw [Int.natCast_add _ 1] at this
        exact this
      · simp -implicitDefEqProofs only [ad, ax, am, aM, aN, aQ, aR, av, ak, aJ, aK, aS, aT, ay, ap, aU, aV, aX, aY, ae, ac, aj, ag, z1z, z2z, z3z, z4z, aH, af, aD, aB, aC, aA, aE, aG, z5z, z6z, ah, z7z, z8z, au, fa_150_0, bj, h8, e0, eqf hp0]
        exact one _ (by rw [hsn, if_neg hp0]; rfl)
  exact main m.slots.length 0 w (Chg.refl _ _) (by omega)
end Go.Proofs.Ytgamnncehjcdiaa

namespace Go.Proofs.Ytgamnncehjcdiaa
open Go Ev Go.RowKit

def ixOf {α : Type} [DecidableEq α] (L : List α) (x : α) : Int := match L.findIdx? (fun y => decide (y = x)) with | some i => (i : Int) | none => -1
theorem ixOf_none {α : Type} [DecidableEq α] {L : List α} {x : α} (h : ∀ (j : Nat) (y : α), L[j]? = some y → y ≠ x) : ixOf L x = -1 := by
  have : L.findIdx? (fun y => decide (y = x)) = none := by
    rw [List.findIdx?_eq_none_iff]
    intro r hr
    obtain ⟨j, hj⟩ := List.getElem?_of_mem hr
    simpa using h j r hj
  rw [ixOf, this]
theorem ixOf_some {α : Type} [DecidableEq α] {L : List α} {x y : α} {i : Nat} (hi : L[i]? = some y) (hy : y = x) (h : ∀ (j : Nat) (y : α), j < i → L[j]? = some y → y ≠ x) : ixOf L x = i := by
  have hil := (List.getElem?_eq_some_iff.1 hi).1
  have : L.findIdx? (fun y => decide (y = x)) = some i := by
    rw [List.findIdx?_eq_some_iff_getElem]
    refine ⟨hil, ?_, fun j hj => ?_⟩
    · rw [List.getElem?_eq_getElem hil] at hi; cases hi; simpa using hy
    · simpa using h j _ hj (List.getElem?_eq_getElem (by omega))
  rw [ixOf, this]
theorem ixOf_mem {α : Type} [DecidableEq α] (L : List α) (x : α) : decide (0 ≤ ixOf L x) = decide (x ∈ L) := by
  by_cases h : x ∈ L
  · rw [decide_eq_true h]
    unfold ixOf
    split
    · simp
    · rename_i he
      rw [List.findIdx?_eq_none_iff] at he
      have := he x h
      simp at this
  · rw [decide_eq_false h, ixOf_none fun j y hj e => by subst e; exact h (List.mem_of_getElem? hj)]
    simp
theorem hn_beq (a b : HnV) : ((a.1 == b.1) && ((a.2.1 == b.2.1) && ((a.2.2.1 == b.2.2.1) && ((a.2.2.2.1 == b.2.2.2.1) && ((a.2.2.2.2 == b.2.2.2.2) && true))))) = decide (a = b) := by
  obtain ⟨a1, a2, a3, a4, a5⟩ := a; obtain ⟨b1, b2, b3, b4, b5⟩ := b
  by_cases h1 : a1 = b1 <;> by_cases h2 : a2 = b2 <;> by_cases h3 : a3 = b3 <;> by_cases h4 : a4 = b4 <;> by_cases h5 : a5 = b5 <;> simp [h1, h2, h3, h4, h5]
set_option maxHeartbeats 1000000 in
theorem c_nIndex {w : World} {A : Option Addr} {c : Nat} {L : List NmV} (hR : RdV w A (L.flatMap nmC)) (hl : L.length ≤ 1000000) (x : NmV) : CallR Try.prog 135 [.slice A L.length c, .agg (nmC x).toArray] w fun v w' => v = .int .i64 (ixOf L x) ∧ Chg [] w w' := by
  apply F135_ok
  have hbox : hp (w.alloc (.cells (nmC x).toArray 141)) w.heap.size = some (.cells (nmC x).toArray 141) := by rw [bc, if_pos rfl]
  have hc0 : Chg [] w (w.alloc (.cells (nmC x).toArray 141)) := (Chg.refl _ _).alloc _
  simp -implicitDefEqProofs only [F135, bE, bA, ad, len_135]
  generalize w.alloc (.cells (nmC x).toArray 141) = w0 at *
  generalize w.heap.size = gb at *
  have main : ∀ (d i : Nat) (w1 : World), Chg [] w w1 → hp w1 gb = some (.cells (nmC x).toArray 141) → (∀ (j : Nat) (y : NmV), j < i → L[j]? = some y → y ≠ x) → i + d = L.length →
      P135_0 (.slice A L.length c) (.pointer (some ⟨gb, 0, none⟩)) (.int .i64 L.length) (.int .i64 i) w1 fun v w' => v = .int .i64 (ixOf L x) ∧ Chg [] w w' := by
    intro d
    induction d with
    | zero =>
      intro i w1 hc hb hn hi
      apply L135_0_ok
      have : ¬ (i : Int) < L.length := by omega
      simp -implicitDefEqProofs only [L135_0, ad, ax, am, aM, aN, aQ, aR, av, ak, aJ, aK, aS, aT, ay, ap, aU, aV, aX, aY, ae, ac, aj, ag, z1z, z2z, z3z, z4z, aH, af, aD, aB, aC, aA, aE, aG, z5z, z6z, ah, z7z, z8z, au, this]
      rw [ixOf_none fun j y hj => hn j y (by have := (List.getElem?_eq_some_iff.1 hj).1; omega) hj]
      exact ⟨rfl, hc⟩
    | succ d ih =>
      intro i w1 hc hb hn hi
      apply L135_0_ok
      have hlt : (i : Int) < L.length := by omega
      have hil : i < L.length := by omega
      obtain ⟨y, hy⟩ : ∃ y, L[i]? = some y := ⟨_, List.getElem?_eq_getElem hil⟩
      obtain ⟨b, o, q1, _, q3, _⟩ := (hR.keep hc.drew.below).elem (P := Try.prog) (c := c) (n := L.length) (i := (i : Int)) (j := .i64) Try.underlying135 sz_141 (by omega) (by rw [flat_len nmC_len]; exact Nat.le_refl _) (by omega) (by omega)
      have hyl : L[i] = y := by rw [List.getElem?_eq_getElem hil] at hy; exact Option.some.inj hy
      rw [Int.toNat_natCast, flat_at nmC_len L i hil, hyl] at q3
      have lx := bJ (t := 141) (c := (nmC x).toArray) ag_141 (show (Try.prog.info? 141).map (·.size) = some (nmC x).toArray.size from sz_141) (show hp w1.drew gb = _ from hb)
      have ly : ldv Try.prog 141 (.pointer (some ⟨b, o, none⟩)) w1.drew = some (.agg (nmC y).toArray) := by rw [ld_141, q3]; rfl
      have hbe : be Try.prog .eql 141 (.tmp 11) (.tmp 15) (.agg (nmC x).toArray) (.agg (nmC y).toArray) = some (.bool (decide (x = y))) := by
        rw [← nm_beq]; exact be_eql_141
      simp -implicitDefEqProofs only [L135_0, ad, ax, am, aM, aN, aQ, aR, av, ak, aJ, aK, aS, aT, ay, ap, aU, aV, aX, aY, ae, ac, aj, ag, z1z, z2z, z3z, z4z, aH, af, aD, aB, aC, aA, aE, aG, z5z, z6z, ah, z7z, z8z, au, hlt, lx, q1, ly, hbe]
      by_cases hxy : x = y
      · simp -implicitDefEqProofs only [hxy, z1z, ad, ax, am, aM, aN, aQ, aR, av, ak, aJ, aK, aS, aT, ay, ap, aU, aV, aX, aY, ae, ac, aj, ag, z1z, z2z, z3z, z4z, aH, af, aD, aB, aC, aA, aE, aG, z5z, z6z, ah, z7z, z8z, au]
        rw [← hxy, ixOf_some hy hxy.symm hn]
        exact ⟨rfl, hc.drew⟩
      · simp -implicitDefEqProofs only [hxy, z2z, ad, ax, am, aM, aN, aQ, aR, av, ak, aJ, aK, aS, aT, ay, ap, aU, aV, aX, aY, ae, ac, aj, ag, z1z, z2z, z3z, z4z, aH, af, aD, aB, aC, aA, aE, aG, z5z, z6z, ah, z7z, z8z, au, bG, bC (n := (i : Int) + 1) (by omega) (by omega)]
        have := ih (i + 1) w1.drew hc.drew hb (fun j z hj hz => by
          rcases Nat.lt_or_ge j i with h1 | h1
          · exact hn j z h1 hz
          · have : j = i := by omega
            subst this
            rw [hy] at hz; cases hz; exact fun e => hxy e.symm) (by omega)
        rw [Int.natCast_add i 1] at this
        exact this
  exact main L.length 0 w0 hc0 hbox (fun j r hj => by omega) (by omega)
set_option maxHeartbeats 1000000 in
theorem c_hIndex {w : World} {A : Option Addr} {c : Nat} {L : List HnV} (hR : RdV w A (L.flatMap hnC)) (hl : L.length ≤ 1000000) (x : HnV) : CallR Try.prog 134 [.slice A L.length c, .agg (hnC x).toArray] w fun v w' => v = .int .i64 (ixOf L x) ∧ Chg [] w w' := by
  apply F134_ok
  have hbox : hp (w.alloc (.cells (hnC x).toArray 51)) w.heap.size = some (.cells (hnC x).toArray 51) := by rw [bc, if_pos rfl]
  have hc0 : Chg [] w (w.alloc (.cells (hnC x).toArray 51)) := (Chg.refl _ _).alloc _
  simp -implicitDefEqProofs only [F134, bE, bA, ad, len_90]
  generalize w.alloc (.cells (hnC x).toArray 51) = w0 at *
  generalize w.heap.size = gb at *
  have main : ∀ (d i : Nat) (w1 : World), Chg [] w w1 → hp w1 gb = some (.cells (hnC x).toArray 51) → (∀ (j : Nat) (y : HnV), j < i → L[j]? = some y → y ≠ x) → i + d = L.length →
      P134_0 (.slice A L.length c) (.pointer (some ⟨gb, 0, none⟩)) (.int .i64 L.length) (.int .i64 i) w1 fun v w' => v = .int .i64 (ixOf L x) ∧ Chg [] w w' := by
    intro d
    induction d with
    | zero =>
      intro i w1 hc hb hn hi
      apply L134_0_ok
      have : ¬ (i : Int) < L.length := by omega
      simp -implicitDefEqProofs only [L134_0, ad, ax, am, aM, aN, aQ, aR, av, ak, aJ, aK, aS, aT, ay, ap, aU, aV, aX, aY, ae, ac, aj, ag, z1z, z2z, z3z, z4z, aH, af, aD, aB, aC, aA, aE, aG, z5z, z6z, ah, z7z, z8z, au, this]
      rw [ixOf_none fun j y hj => hn j y (by have := (List.getElem?_eq_some_iff.1 hj).1; omega) hj]
      exact ⟨rfl, hc⟩
    | succ d ih =>
      intro i w1 hc hb hn hi
      apply L134_0_ok
      have hlt : (i : Int) < L.length := by omega
      have hil : i < L.length := by omega
      obtain ⟨y, hy⟩ : ∃ y, L[i]? = some y := ⟨_, List.getElem?_eq_getElem hil⟩
      obtain ⟨b, o, q1, _, q3, _⟩ := (hR.keep hc.drew.below).elem (P := Try.prog) (c := c) (n := L.length) (i := (i : Int)) (j := .i64) Try.underlying90 sz_51 (by omega) (by rw [flat_len hnC_len]; exact Nat.le_refl _) (by omega) (by omega)
      have hyl : L[i] = y := by rw [List.getElem?_eq_getElem hil] at hy; exact Option.some.inj hy
      rw [Int.toNat_natCast, flat_at hnC_len L i hil, hyl] at q3
      have lx := bJ (t := 51) (c := (hnC x).toArray) ag_51 (show (Try.prog.info? 51).map (·.size) = some (hnC x).toArray.size from sz_51) (show hp w1.drew gb = _ from hb)
      have ly : ldv Try.prog 51 (.pointer (some ⟨b, o, none⟩)) w1.drew = some (.agg (hnC y).toArray) := by rw [ld_51, q3]; rfl
      have hbe : be Try.prog .eql 51 (.tmp 11) (.tmp 15) (.agg (hnC x).toArray) (.agg (hnC y).toArray) = some (.bool (decide (x = y))) := by
        rw [← hn_beq]; exact be_eql_51
      simp -implicitDefEqProofs only [L134_0, ad, ax, am, aM, aN, aQ, aR, av, ak, aJ, aK, aS, aT, ay, ap, aU, aV, aX, aY, ae, ac, aj, ag, z1z, z2z, z3z, z4z, aH, af, aD, aB, aC, aA, aE, aG, z5z, z6z, ah, z7z, z8z, au, hlt, lx, q1, ly, hbe]
      by_cases hxy : x = y
      · simp -implicitDefEqProofs only [hxy, z1z, ad, ax, am, aM, aN, aQ, aR, av, ak, aJ, aK, aS, aT, ay, ap, aU, aV, aX, aY, ae, ac, aj, ag, z1z, z2z, z3z, z4z, aH, af, aD, aB, aC, aA, aE, aG, z5z, z6z, ah, z7z, z8z, au]
        rw [← hxy, ixOf_some hy hxy.symm hn]
        exact ⟨rfl, hc.drew⟩
      · simp -implicitDefEqProofs only [hxy, z2z, ad, ax, am, aM, aN, aQ, aR, av, ak, aJ, aK, aS, aT, ay, ap, aU, aV, aX, aY, ae, ac, aj, ag, z1z, z2z, z3z, z4z, aH, af, aD, aB, aC, aA, aE, aG, z5z, z6z, ah, z7z, z8z, au, bG, bC (n := (i : Int) + 1) (by omega) (by omega)]
        have := ih (i + 1) w1.drew hc.drew hb (fun j z hj hz => by
          rcases Nat.lt_or_ge j i with h1 | h1
          · exact hn j z h1 hz
          · have : j = i := by omega
            subst this
            rw [hy] at hz; cases hz; exact fun e => hxy e.symm) (by omega)
        rw [Int.natCast_add i 1] at this
        exact this
  exact main L.length 0 w0 hc0 hbox (fun j r hj => by omega) (by omega)
theorem c_nContains {w : World} {A : Option Addr} {c : Nat} {L : List NmV} (hR : RdV w A (L.flatMap nmC)) (hl : L.length ≤ 1000000) (x : NmV) : CallR Try.prog 116 [.slice A L.length c, .agg (nmC x).toArray] w fun v w' => v = .bool (decide (x ∈ L)) ∧ Chg [] w w' := by
  apply F116_ok
  have hbox : hp (w.alloc (.cells (nmC x).toArray 141)) w.heap.size = some (.cells (nmC x).toArray 141) := by rw [bc, if_pos rfl]
  have hc0 : Chg [] w (w.alloc (.cells (nmC x).toArray 141)) := (Chg.refl _ _).alloc _
  simp -implicitDefEqProofs only [F116, bE, bA]
  generalize w.alloc (.cells (nmC x).toArray 141) = w0 at *
  simp -implicitDefEqProofs only [bJ (t := 141) (c := (nmC x).toArray) ag_141 (show (Try.prog.info? 141).map (·.size) = some (nmC x).toArray.size from sz_141) hbox, ad]
  refine (c_nIndex (c := c) (hR.keep hc0.below) hl x).mono ?_
  rintro _ w1 ⟨rfl, c1⟩
  simp -implicitDefEqProofs only [ad, ax, am, aM, aN, aQ, aR, av, ak, aJ, aK, aS, aT, ay, ap, aU, aV, aX, aY, ae, ac, aj, ag, z1z, z2z, z3z, z4z, aH, af, aD, aB, aC, aA, aE, aG, z5z, z6z, ah, z7z, z8z, au, aA]
  exact ⟨by rw [ixOf_mem]; congr, hc0.trans c1⟩
theorem c_hContains {w : World} {A : Option Addr} {c : Nat} {L : List HnV} (hR : RdV w A (L.flatMap hnC)) (hl : L.length ≤ 1000000) (x : HnV) : CallR Try.prog 114 [.slice A L.length c, .agg (hnC x).toArray] w fun v w' => v = .bool (decide (x ∈ L)) ∧ Chg [] w w' := by
  apply F114_ok
  have hbox : hp (w.alloc (.cells (hnC x).toArray 51)) w.heap.size = some (.cells (hnC x).toArray 51) := by rw [bc, if_pos rfl]
  have hc0 : Chg [] w (w.alloc (.cells (hnC x).toArray 51)) := (Chg.refl _ _).alloc _
  simp -implicitDefEqProofs only [F114, bE, bA]
  generalize w.alloc (.cells (hnC x).toArray 51) = w0 at *
  simp -implicitDefEqProofs only [bJ (t := 51) (c := (hnC x).toArray) ag_51 (show (Try.prog.info? 51).map (·.size) = some (hnC x).toArray.size from sz_51) hbox, ad]
  refine (c_hIndex (c := c) (hR.keep hc0.below) hl x).mono ?_
  rintro _ w1 ⟨rfl, c1⟩
  simp -implicitDefEqProofs only [ad, ax, am, aM, aN, aQ, aR, av, ak, aJ, aK, aS, aT, ay, ap, aU, aV, aX, aY, ae, ac, aj, ag, z1z, z2z, z3z, z4z, aH, af, aD, aB, aC, aA, aE, aG, z5z, z6z, ah, z7z, z8z, au, aA]
  exact ⟨by rw [ixOf_mem]; congr, hc0.trans c1⟩
end Go.Proofs.Ytgamnncehjcdiaa

namespace Go.Proofs.Ytgamnncehjcdiaa
open Go Ev Go.RowKit

theorem objs_sh {w : World} {L : List HnV} {s : Value} (h : ∃ F, objsT L w F s) : ∃ A c, s = .slice A L.length c ∧ RdV w A (L.flatMap hnC) := by
  obtain ⟨F, h⟩ := h
  obtain ⟨h1, _⟩ := flat_own h
  obtain ⟨A, c, e, r, _⟩ := rdV_of_own h1
  exact ⟨A, c, e, r⟩
theorem ints_sh {w : World} {L : List Int} {s : Value} (h : ∃ F, intsT L w F s) : ∃ A c, s = .slice A L.length c ∧ RdI .i64 w A L := by
  obtain ⟨F, h⟩ := h
  obtain ⟨h1, _⟩ := flat_own h
  obtain ⟨_, A, c, e, r, _⟩ := rd_of_own h1
  exact ⟨A, c, e, r⟩
def knownV (m : MdV) (h : HnV) (of : Int) : Bool := match findR m.rgs (h.1, h.2.1) with
  | none => false
  | some i => if h.2.2.2.2 = 0 then decide (h.2.2.1 = 0) && (decide (h.2.2.2.1 = 0) && decide (of ≠ 2)) else decide (of ≠ 1) && (match m.rgs[i]? with | some r => decide (h ∈ r.objs) | none => false)
set_option maxHeartbeats 2000000 in
theorem c_mKnown {w : World} {g : Nat} {m : MdV} {s r hh : Value} (M : MdR w g m s r hh) (h : HnV) (of : Int) (hl : m.rgs.length ≤ 1000000) (ho : ∀ rg ∈ m.rgs, rg.objs.length ≤ 1000000) : CallR Try.prog 81 [.pointer (some ⟨g, 0, none⟩), .agg (hnC h).toArray, .int .i64 of] w fun v w' => v = .bool (knownV m h of) ∧ Chg [] w w' := by
  apply F81_ok
  have hbox : hp (w.alloc (.cells (hnC h).toArray 51)) w.heap.size = some (.cells (hnC h).toArray 51) := by rw [bc, if_pos rfl]
  have hc0 : Chg [] w (w.alloc (.cells (hnC h).toArray 51)) := (Chg.refl _ _).alloc _
  simp -implicitDefEqProofs only [F81, bE, bA]
  generalize w.alloc (.cells (hnC h).toArray 51) = w0 at *
  generalize w.heap.size = gb at *
  have ldh : ∀ w', hp w' gb = some (.cells (hnC h).toArray 51) → ldv Try.prog 51 (.pointer (some ⟨gb, 0, none⟩)) w' = some (.agg (hnC h).toArray) := fun w' hw => bJ (t := 51) (c := (hnC h).toArray) ag_51 (show (Try.prog.info? 51).map (·.size) = some (hnC h).toArray.size from sz_51) hw
  simp -implicitDefEqProofs only [ldh _ hbox, ad]
  refine (c_mNameOf h w0).mono ?_
  rintro _ w1 ⟨rfl, c1⟩
  refine (c_mRegion ((M.keep hc0).keep c1) (h.1, h.2.1) hl).mono ?_
  rintro v w2 ⟨c2, hv⟩
  have c02 := hc0.trans (c1.trans c2)
  have M2 := M.keep c02
  have hb2 := (c1.trans c2).at hbox (by simp)
  rcases hv with ⟨hf, rfl⟩ | ⟨i, rg, b, c, hf, hrg, hr, rfl⟩
  · simp -implicitDefEqProofs only [ad, ax, am, aM, aN, aQ, aR, av, ak, aJ, aK, aS, aT, ay, ap, aU, aV, aX, aY, ae, ac, aj, ag, z1z, z2z, z3z, z4z, aH, af, aD, aB, aC, aA, aE, aG, z5z, z6z, ah, z7z, z8z, au, be_eqlp Try.underlying145, z7z]
    refine ⟨?_, c02⟩
    simp [knownV, hf]
  · obtain ⟨F, hF⟩ := M2.rT
    obtain ⟨b', c', hr', cv, wv, ov, R⟩ := rg_at hF hrg
    rw [hr] at hr'
    cases hr'
    have e2 : (hnC h).toArray[0 + 2]? = some (.int .i64 h.2.2.1) := rfl
    have e3 : (hnC h).toArray[0 + 3]? = some (.int .i64 h.2.2.2.1) := rfl
    have e4 : (hnC h).toArray[0 + 4]? = some (.int .i64 h.2.2.2.2) := rfl
    by_cases h4 : h.2.2.2.2 = 0
    · have k4 : (h.2.2.2.2 == 0) = true := by rw [h4]; rfl
      have kv : knownV m h of = (decide (h.2.2.1 = 0) && (decide (h.2.2.2.1 = 0) && decide (of ≠ 2))) := by rw [knownV, hf]; simp only [h4, if_true]
      by_cases h2 : h.2.2.1 = 0
      · have k2 : (h.2.2.1 == 0) = true := by rw [h2]; rfl
        by_cases h3 : h.2.2.2.1 = 0
        · have k3 : (h.2.2.2.1 == 0) = true := by rw [h3]; rfl
          simp -implicitDefEqProofs only [ad, ax, am, aM, aN, aQ, aR, av, ak, aJ, aK, aS, aT, ay, ap, aU, aV, aX, aY, ae, ac, aj, ag, z1z, z2z, z3z, z4z, aH, af, aD, aB, aC, aA, aE, aG, z5z, z6z, ah, z7z, z8z, au, be_eqlp Try.underlying145, z8z, fa_51_4, cj, fa_51_3, bj, hb2, e4, e2, e3, k4, k2, k3]
          refine ⟨?_, c02⟩
          rw [kv]; by_cases h5 : of = 2 <;> simp [h2, h3, h5]
        · simp -implicitDefEqProofs only [ad, ax, am, aM, aN, aQ, aR, av, ak, aJ, aK, aS, aT, ay, ap, aU, aV, aX, aY, ae, ac, aj, ag, z1z, z2z, z3z, z4z, aH, af, aD, aB, aC, aA, aE, aG, z5z, z6z, ah, z7z, z8z, au, be_eqlp Try.underlying145, z8z, fa_51_4, cj, fa_51_3, bj, hb2, e4, e2, e3, k4, k2, eqf h3]
          refine ⟨?_, c02⟩
          rw [kv]; simp [h3]
      · simp -implicitDefEqProofs only [ad, ax, am, aM, aN, aQ, aR, av, ak, aJ, aK, aS, aT, ay, ap, aU, aV, aX, aY, ae, ac, aj, ag, z1z, z2z, z3z, z4z, aH, af, aD, aB, aC, aA, aE, aG, z5z, z6z, ah, z7z, z8z, au, be_eqlp Try.underlying145, z8z, fa_51_4, cj, fa_51_3, bj, hb2, e4, e2, e3, k4, eqf h2]
        refine ⟨?_, c02⟩
        rw [kv]; simp [h2]
    · have kv : knownV m h of = (decide (of ≠ 1) && decide (h ∈ rg.objs)) := by rw [knownV, hf]; simp only [h4, if_false, hrg]
      by_cases h5 : of = 1
      · have k5 : (of != 1) = false := by rw [h5]; rfl
        simp -implicitDefEqProofs only [ad, ax, am, aM, aN, aQ, aR, av, ak, aJ, aK, aS, aT, ay, ap, aU, aV, aX, aY, ae, ac, aj, ag, z1z, z2z, z3z, z4z, aH, af, aD, aB, aC, aA, aE, aG, z5z, z6z, ah, z7z, z8z, au, be_eqlp Try.underlying145, z8z, fa_51_4, bj, hb2, e4, eqf h4, k5]
        refine ⟨?_, c02.drew⟩
        rw [kv]; simp [h5]
      · have k5 : (of != 1) = true := bne_iff_ne.2 h5
        obtain ⟨A, co, hov, hR⟩ := objs_sh R.oT
        have R6 := R.c6
        rw [hov] at R6
        have R6d : ldC (hp w2.drew b) (i * 7 + 6) = some (.slice A rg.objs.length co) := R6
        simp -implicitDefEqProofs only [ad, ax, am, aM, aN, aQ, aR, av, ak, aJ, aK, aS, aT, ay, ap, aU, aV, aX, aY, ae, ac, aj, ag, z1z, z2z, z3z, z4z, aH, af, aD, aB, aC, aA, aE, aG, z5z, z6z, ah, z7z, z8z, au, be_eqlp Try.underlying145, z8z, fa_51_4, bj, hb2, e4, eqf h4, k5, af, fa_144_5, ld_90, R6d, R6, ldh w2.drew hb2]
        refine (c_hContains (c := co) (hR.keep (Chg.refl [] _).drew.below) (ho rg (List.mem_of_getElem? hrg)) h).mono ?_
        rintro _ w3 ⟨rfl, c3⟩
        refine ⟨?_, c02.trans ((Chg.refl _ _).drew.trans c3)⟩
        rw [kv]; simp [h5]
end Go.Proofs.Ytgamnncehjcdiaa

namespace Go.Proofs.Ytgamnncehjcdiaa
open Go Ev Go.RowKit

def rightV (w n : Int) : Bool := decide (1 ≤ w ∧ w ≤ 1024 ∧ 1 ≤ n ∧ n ≤ w)
theorem c_sRight (a n : Int) (w : World) : CallR Try.prog 141 [.int .i64 a, .int .i64 n] w fun v w' => v = .bool (rightV a n) ∧ w' = w := by
  apply F141_ok
  by_cases h1 : 1 ≤ a
  · by_cases h2 : a ≤ 1024
    · by_cases h3 : 1 ≤ n
      · simp -implicitDefEqProofs only [F141, ad, ax, am, aM, aN, aQ, aR, av, ak, aJ, aK, aS, aT, ay, ap, aU, aV, aX, aY, ae, ac, aj, ag, z1z, z2z, z3z, z4z, aH, af, aD, aB, aC, aA, aE, aG, z5z, z6z, ah, z7z, z8z, au, aA, aB, h1, h2, h3]
        exact ⟨by simp [rightV, h1, h2, h3], trivial⟩
      · simp -implicitDefEqProofs only [F141, ad, ax, am, aM, aN, aQ, aR, av, ak, aJ, aK, aS, aT, ay, ap, aU, aV, aX, aY, ae, ac, aj, ag, z1z, z2z, z3z, z4z, aH, af, aD, aB, aC, aA, aE, aG, z5z, z6z, ah, z7z, z8z, au, aA, aB, h1, h2, h3]
        exact ⟨by simp [rightV, h3], trivial⟩
    · simp -implicitDefEqProofs only [F141, ad, ax, am, aM, aN, aQ, aR, av, ak, aJ, aK, aS, aT, ay, ap, aU, aV, aX, aY, ae, ac, aj, ag, z1z, z2z, z3z, z4z, aH, af, aD, aB, aC, aA, aE, aG, z5z, z6z, ah, z7z, z8z, au, aA, aB, h1, h2]
      exact ⟨by simp [rightV, h2], trivial⟩
  · simp -implicitDefEqProofs only [F141, ad, ax, am, aM, aN, aQ, aR, av, ak, aJ, aK, aS, aT, ay, ap, aU, aV, aX, aY, ae, ac, aj, ag, z1z, z2z, z3z, z4z, aH, af, aD, aB, aC, aA, aE, aG, z5z, z6z, ah, z7z, z8z, au, aA, aB, h1]
    exact ⟨by simp [rightV, h1], trivial⟩
def aloneV (w n : Int) : Bool := rightV w n && decide (w < 2 * n)
theorem right_iff {a n : Int} (h : rightV a n = true) : 1 ≤ a ∧ a ≤ 1024 ∧ 1 ≤ n ∧ n ≤ a := of_decide_eq_true h
theorem c_sAlone (a n : Int) (w : World) : CallR Try.prog 142 [.int .i64 a, .int .i64 n] w fun v w' => v = .bool (aloneV a n) ∧ w' = w := by
  apply F142_ok
  simp -implicitDefEqProofs only [F142]
  refine (c_sRight a n w).step ?_
  cases hr : rightV a n with
  | true =>
    have := right_iff hr
    simp -implicitDefEqProofs only [ad, ax, am, aM, aN, aQ, aR, av, ak, aJ, aK, aS, aT, ay, ap, aU, aV, aX, aY, ae, ac, aj, ag, z1z, z2z, z3z, z4z, aH, af, aD, aB, aC, aA, aE, aG, z5z, z6z, ah, z7z, z8z, au, bp_mul, bC (n := 2 * n) (by omega) (by omega)]
    exact ⟨by simp [aloneV, hr], trivial⟩
  | false =>
    simp -implicitDefEqProofs only [ad, ax, am, aM, aN, aQ, aR, av, ak, aJ, aK, aS, aT, ay, ap, aU, aV, aX, aY, ae, ac, aj, ag, z1z, z2z, z3z, z4z, aH, af, aD, aB, aC, aA, aE, aG, z5z, z6z, ah, z7z, z8z, au]
    exact ⟨by simp [aloneV, hr], trivial⟩
def fitsV (w off n : Int) : Bool := rightV w n && (!aloneV w n && (decide (0 ≤ off) && decide (off ≤ w - n)))
theorem c_sFits (a off n : Int) (w : World) : CallR Try.prog 140 [.int .i64 a, .int .i64 off, .int .i64 n] w fun v w' => v = .bool (fitsV a off n) ∧ w' = w := by
  apply F140_ok
  simp -implicitDefEqProofs only [F140]
  refine (c_sRight a n w).step ?_
  cases hr : rightV a n with
  | true =>
    have := right_iff hr
    simp -implicitDefEqProofs only [ad, ax, am, aM, aN, aQ, aR, av, ak, aJ, aK, aS, aT, ay, ap, aU, aV, aX, aY, ae, ac, aj, ag, z1z, z2z, z3z, z4z, aH, af, aD, aB, aC, aA, aE, aG, z5z, z6z, ah, z7z, z8z, au]
    refine (c_sAlone a n w).step ?_
    cases ha : aloneV a n with
    | true =>
      simp -implicitDefEqProofs only [ad, ax, am, aM, aN, aQ, aR, av, ak, aJ, aK, aS, aT, ay, ap, aU, aV, aX, aY, ae, ac, aj, ag, z1z, z2z, z3z, z4z, aH, af, aD, aB, aC, aA, aE, aG, z5z, z6z, ah, z7z, z8z, au]
      exact ⟨by simp [fitsV, ha], trivial⟩
    | false =>
      by_cases h0 : 0 ≤ off
      · simp -implicitDefEqProofs only [ad, ax, am, aM, aN, aQ, aR, av, ak, aJ, aK, aS, aT, ay, ap, aU, aV, aX, aY, ae, ac, aj, ag, z1z, z2z, z3z, z4z, aH, af, aD, aB, aC, aA, aE, aG, z5z, z6z, ah, z7z, z8z, au, aA, aB, bp_sub, h0, bC (n := a - n) (by omega) (by omega)]
        exact ⟨by simp [fitsV, hr, ha, h0], trivial⟩
      · simp -implicitDefEqProofs only [ad, ax, am, aM, aN, aQ, aR, av, ak, aJ, aK, aS, aT, ay, ap, aU, aV, aX, aY, ae, ac, aj, ag, z1z, z2z, z3z, z4z, aH, af, aD, aB, aC, aA, aE, aG, z5z, z6z, ah, z7z, z8z, au, aA, h0]
        exact ⟨by simp [fitsV, h0], trivial⟩
  | false =>
    simp -implicitDefEqProofs only [ad, ax, am, aM, aN, aQ, aR, av, ak, aJ, aK, aS, aT, ay, ap, aU, aV, aX, aY, ae, ac, aj, ag, z1z, z2z, z3z, z4z, aH, af, aD, aB, aC, aA, aE, aG, z5z, z6z, ah, z7z, z8z, au]
    exact ⟨by simp [fitsV, hr], trivial⟩
def afterV (w n : Int) : Int := if rightV w n then (if aloneV w n then w else n) else 0
theorem c_sAfter (a n : Int) (w : World) : CallR Try.prog 130 [.int .i64 a, .int .i64 n] w fun v w' => v = .int .i64 (afterV a n) ∧ w' = w := by
  apply F130_ok
  simp -implicitDefEqProofs only [F130]
  refine (c_sRight a n w).step ?_
  cases hr : rightV a n with
  | true =>
    simp -implicitDefEqProofs only [ad, ax, am, aM, aN, aQ, aR, av, ak, aJ, aK, aS, aT, ay, ap, aU, aV, aX, aY, ae, ac, aj, ag, z1z, z2z, z3z, z4z, aH, af, aD, aB, aC, aA, aE, aG, z5z, z6z, ah, z7z, z8z, au]
    refine (c_sAlone a n w).step ?_
    cases ha : aloneV a n with
    | true =>
      simp -implicitDefEqProofs only [ad, ax, am, aM, aN, aQ, aR, av, ak, aJ, aK, aS, aT, ay, ap, aU, aV, aX, aY, ae, ac, aj, ag, z1z, z2z, z3z, z4z, aH, af, aD, aB, aC, aA, aE, aG, z5z, z6z, ah, z7z, z8z, au]
      exact ⟨by simp [afterV, hr, ha], trivial⟩
    | false =>
      simp -implicitDefEqProofs only [ad, ax, am, aM, aN, aQ, aR, av, ak, aJ, aK, aS, aT, ay, ap, aU, aV, aX, aY, ae, ac, aj, ag, z1z, z2z, z3z, z4z, aH, af, aD, aB, aC, aA, aE, aG, z5z, z6z, ah, z7z, z8z, au]
      exact ⟨by simp [afterV, hr, ha], trivial⟩
  | false =>
    simp -implicitDefEqProofs only [ad, ax, am, aM, aN, aQ, aR, av, ak, aJ, aK, aS, aT, ay, ap, aU, aV, aX, aY, ae, ac, aj, ag, z1z, z2z, z3z, z4z, aH, af, aD, aB, aC, aA, aE, aG, z5z, z6z, ah, z7z, z8z, au]
    exact ⟨by simp [afterV, hr], trivial⟩
def roundS (s n : Int) : Int := (n + s - 1) / s * s
def stepOf (cls : Int) : Int := if cls ≤ 0 then 1 else if cls = 1 then 2 else if cls = 2 then 4 else 8
def roundV (cls n : Int) : Int := if n < 1 ∨ 1024 < n then 0 else roundS (stepOf cls) n
theorem quo_nn {a b : Int} (h : 0 ≤ a) : a.tdiv b = a / b := Int.tdiv_eq_ediv_of_nonneg h
theorem shl_lit {P : Program} {t : TypeId} (k : Nat) (hk : k ≤ 3) : bp P .shl t (.int .i64 1) (.int .i64 k) = some (.int .i64 (2 ^ k)) := by
  rw [bp_shl (by omega)]
  have : k = 0 ∨ k = 1 ∨ k = 2 ∨ k = 3 := by omega
  rcases this with rfl | rfl | rfl | rfl <;> rfl
set_option maxHeartbeats 1000000 in
theorem c_sRound (cls n : Int) (w : World) : CallR Try.prog 126 [.int .i64 cls, .int .i64 n] w fun v w' => v = .int .i64 (roundV cls n) ∧ w' = w := by
  apply F126_ok
  by_cases h1 : n < 1
  · simp -implicitDefEqProofs only [F126, ad, ax, am, aM, aN, aQ, aR, av, ak, aJ, aK, aS, aT, ay, ap, aU, aV, aX, aY, ae, ac, aj, ag, z1z, z2z, z3z, z4z, aH, af, aD, aB, aC, aA, aE, aG, z5z, z6z, ah, z7z, z8z, au, h1]
    exact ⟨by rw [roundV, if_pos (.inl h1)], trivial⟩
  by_cases h2 : 1024 < n
  · simp -implicitDefEqProofs only [F126, ad, ax, am, aM, aN, aQ, aR, av, ak, aJ, aK, aS, aT, ay, ap, aU, aV, aX, aY, ae, ac, aj, ag, z1z, z2z, z3z, z4z, aH, af, aD, aB, aC, aA, aE, aG, z5z, z6z, ah, z7z, z8z, au, h1, h2]
    exact ⟨by rw [roundV, if_pos (.inr h2)], trivial⟩
  have hk : ∃ k : Nat, k ≤ 3 ∧ stepOf cls = 2 ^ k ∧ (if (3 : Int) < (if (0 : Int) > cls then 0 else cls) then (3 : Int) else (if (0 : Int) > cls then 0 else cls)) = (k : Int) := by
    by_cases c0 : cls ≤ 0
    · refine ⟨0, by omega, by rw [stepOf, if_pos c0]; rfl, ?_⟩
      have : (if (0 : Int) > cls then 0 else cls) = 0 := by split <;> omega
      rw [this]; rfl
    · have e : (if (0 : Int) > cls then 0 else cls) = cls := by rw [if_neg (by omega)]
      rw [e, stepOf, if_neg c0]
      by_cases c1 : cls = 1
      · exact ⟨1, by omega, by rw [if_pos c1]; rfl, by rw [if_neg (by omega), c1]; rfl⟩
      · rw [if_neg c1]
        by_cases c2 : cls = 2
        · exact ⟨2, by omega, by rw [if_pos c2]; rfl, by rw [if_neg (by omega), c2]; rfl⟩
        · refine ⟨3, by omega, by rw [if_neg c2]; rfl, ?_⟩
          split <;> omega
  obtain ⟨k, k3, hs, hk⟩ := hk
  have hs1 : (1 : Int) ≤ 2 ^ k ∧ (2 : Int) ^ k ≤ 8 := by
    have : k = 0 ∨ k = 1 ∨ k = 2 ∨ k = 3 := by omega
    rcases this with rfl | rfl | rfl | rfl <;> decide
  have hv : roundV cls n = roundS (2 ^ k) n := by rw [roundV, if_neg (by omega), hs]
  have hb : 0 ≤ roundS (2 ^ k) n ∧ roundS (2 ^ k) n ≤ 2000 := by
    have h3 := Int.ediv_mul_le (n + 2 ^ k - 1) (b := 2 ^ k) (by omega)
    have h4 := Int.ediv_nonneg (a := n + 2 ^ k - 1) (b := 2 ^ k) (by omega) (by omega)
    have h5 := Int.mul_nonneg h4 (show (0 : Int) ≤ 2 ^ k by omega)
    exact ⟨h5, by simp only [roundS]; omega⟩
  have hq : 0 ≤ (n + 2 ^ k - 1) / 2 ^ k ∧ (n + 2 ^ k - 1) / 2 ^ k ≤ 2000 := by
    have h4 := Int.ediv_nonneg (a := n + 2 ^ k - 1) (b := 2 ^ k) (by omega) (by omega)
    have h5 := Int.ediv_le_self (a := n + 2 ^ k - 1) (2 ^ k) (by omega)
    omega
  have hsl := shl_lit (P := Try.prog) (t := 3) k k3
  generalize (2 : Int) ^ k = st at *
  have e1 := @roundS st n
  simp -implicitDefEqProofs only [F126, ad, ax, am, aM, aN, aQ, aR, av, ak, aJ, aK, aS, aT, ay, ap, aU, aV, aX, aY, ae, ac, aj, ag, z1z, z2z, z3z, z4z, aH, af, aD, aB, aC, aA, aE, aG, z5z, z6z, ah, z7z, z8z, au, h1, h2, pr_max, pr_min, hk, hsl, bG, bp_sub, bC (n := n + st) (by omega) (by omega), bC (n := n + st - 1) (by omega) (by omega), bp_quo (show st ≠ 0 by omega), quo_nn (show 0 ≤ n + st - 1 by omega), bC (n := (n + st - 1) / st) (by omega) (by omega), bp_mul]
  have : (n + st - 1) / st * st = roundS st n := rfl
  rw [this, bC (by omega) (by omega), hv]
  exact ⟨rfl, trivial⟩
end Go.Proofs.Ytgamnncehjcdiaa

namespace Go.Proofs.Ytgamnncehjcdiaa
open Go Ev Go.RowKit

theorem RgR.keep {w w' : World} {b o : Nat} {r : RgV} {cv wv ov : Value} (k : RgR w b o r cv wv ov) (hc : Chg [] w w') : RgR w' b o r cv wv ov := by
  have e : hp w' b = hp w b := hc.block b (by
    rcases Nat.lt_or_ge b w.heap.size with h | h
    · exact h
    · have : hp w b = none := by simp [hp]; omega
      have hu := k.c0
      rw [this] at hu; cases hu) (by simp)
  obtain ⟨F, hF⟩ := k.cT
  obtain ⟨G, hG⟩ := k.wT
  obtain ⟨H, hH⟩ := k.oT
  exact ⟨by rw [e]; exact k.c0, by rw [e]; exact k.c1, by rw [e]; exact k.c2, by rw [e]; exact k.c3, by rw [e]; exact k.c4, by rw [e]; exact k.c5, by rw [e]; exact k.c6,
    ⟨F, (good_intsT _).frame hF (ChgP.of0 hc none') fun _ _ h => h⟩, ⟨G, (good_words _).frame hG (ChgP.of0 hc none') fun _ _ h => h⟩, ⟨H, (cm _).frame hH (ChgP.of0 hc none') fun _ _ h => h⟩⟩
def newV (l : List Int) : Int := if l.length = 0 then -1 else l.getD (l.length - 1) 0
theorem c_mNewest {w : World} {b o : Nat} {r : RgV} {cv wv ov : Value} (R : RgR w b o r cv wv ov) (hl : r.chunks.length ≤ 1000000) : CallR Try.prog 128 [.pointer (some ⟨b, o, none⟩)] w fun v w' => v = .int .i64 (newV r.chunks) ∧ Chg [] w w' := by
  apply F128_ok
  obtain ⟨A, c, hcv, hR⟩ := ints_sh R.cT
  have R4 := R.c4
  rw [hcv] at R4
  have R4d : ldC (hp w.drew b) (o + 4) = some (.slice A r.chunks.length c) := R4
  by_cases h0 : r.chunks.length = 0
  · have e : ((r.chunks.length : Int) == 0) = true := by rw [h0]; rfl
    simp -implicitDefEqProofs only [F128, ad, ax, am, aM, aN, aQ, aR, av, ak, aJ, aK, aS, aT, ay, ap, aU, aV, aX, aY, ae, ac, aj, ag, z1z, z2z, z3z, z4z, aH, af, aD, aB, aC, aA, aE, aG, z5z, z6z, ah, z7z, z8z, au, af, fa_144_3, ce, R4, len_23, e]
    exact ⟨by rw [newV, if_pos h0], Chg.refl _ _⟩
  · have e : ((r.chunks.length : Int) == 0) = false := beq_eq_false_iff_ne.2 (by omega)
    have hn : (r.chunks.length : Int) - 1 = ((r.chunks.length - 1 : Nat) : Int) := by omega
    obtain ⟨q, q1, q2⟩ := (hR.drew).at (P := Try.prog) (c := c) (j := .i64) Try.underlying23 Try.underlying3 sz_3 (i := ((r.chunks.length - 1 : Nat) : Int)) (by omega) (by omega)
    rw [Int.toNat_natCast] at q2
    simp -implicitDefEqProofs only [F128, ad, ax, am, aM, aN, aQ, aR, av, ak, aJ, aK, aS, aT, ay, ap, aU, aV, aX, aY, ae, ac, aj, ag, z1z, z2z, z3z, z4z, aH, af, aD, aB, aC, aA, aE, aG, z5z, z6z, ah, z7z, z8z, au, af, fa_144_3, ce, R4, R4d, len_23, e, bp_sub, hn, bC (n := ((r.chunks.length - 1 : Nat) : Int)) (by omega) (by omega), q1, bj, q2]
    exact ⟨by rw [newV, if_neg h0], (Chg.refl _ _).drew⟩
def rfitsV (r : RgV) (words need : Int) : Bool := decide (0 < r.chunks.length) && fitsV words r.off need
theorem c_mFits {w : World} {b o : Nat} {r : RgV} {cv wv ov : Value} (R : RgR w b o r cv wv ov) (words need : Int) : CallR Try.prog 127 [.pointer (some ⟨b, o, none⟩), .int .i64 words, .int .i64 need] w fun v w' => v = .bool (rfitsV r words need) ∧ w' = w := by
  apply F127_ok
  obtain ⟨A, c, hcv, hR⟩ := ints_sh R.cT
  have R4 := R.c4
  rw [hcv] at R4
  by_cases h0 : (0 : Int) < r.chunks.length
  · simp -implicitDefEqProofs only [F127, ad, ax, am, aM, aN, aQ, aR, av, ak, aJ, aK, aS, aT, ay, ap, aU, aV, aX, aY, ae, ac, aj, ag, z1z, z2z, z3z, z4z, aH, af, aD, aB, aC, aA, aE, aG, z5z, z6z, ah, z7z, z8z, au, af, fa_144_3, fa_144_2, ce, bj, R4, R.c3, len_23, h0]
    refine (c_sFits words r.off need w).step ?_
    have h1 : 0 < r.chunks.length := by omega
    simp -implicitDefEqProofs only [ad, ax, am, aM, aN, aQ, aR, av, ak, aJ, aK, aS, aT, ay, ap, aU, aV, aX, aY, ae, ac, aj, ag, z1z, z2z, z3z, z4z, aH, af, aD, aB, aC, aA, aE, aG, z5z, z6z, ah, z7z, z8z, au, rfitsV, h1, z1z, Bool.true_and]
    exact ⟨trivial, trivial⟩
  · have h1 : ¬ 0 < r.chunks.length := by omega
    simp -implicitDefEqProofs only [F127, ad, ax, am, aM, aN, aQ, aR, av, ak, aJ, aK, aS, aT, ay, ap, aU, aV, aX, aY, ae, ac, aj, ag, z1z, z2z, z3z, z4z, aH, af, aD, aB, aC, aA, aE, aG, z5z, z6z, ah, z7z, z8z, au, af, fa_144_3, ce, R4, len_23, h0]
    exact ⟨by rw [rfitsV, decide_eq_false h1]; rfl, trivial⟩
structure HdR (w : World) (b o : Nat) (d : HdV) (nv : Value) : Prop where
  c0 : ldC (hp w b) (o + 0) = some (.int .i64 d.depth)
  c1 : ldC (hp w b) (o + 1) = some nv
  nT : ∃ F, namesT d.holds w F nv
theorem hd_at {w : World} {L : List HdV} {F : Fp} {x : Value} (h : handsT L w F x) {i : Nat} {d : HdV} (hr : L[i]? = some d) : ∃ b c, x = .slice (some ⟨b, 0, none⟩) L.length c ∧ ∃ nv, HdR w b (i * 2) d nv := by
  have get : ∀ k, k < 2 → (L.flatMap hdT)[i * 2 + k]? = (hdT d)[k]? := fun k hk => flatM_get hdT_len L i d hr k hk
  obtain ⟨b, c, v0, F0, e0, _, _, _, l0, t0, _⟩ := isRow.cell h (good_hdL L) (get 0 (by omega))
  obtain ⟨b1, c1, v1, F1, e1, _, _, _, l1, t1, _⟩ := isRow.cell h (good_hdL L) (get 1 (by omega))
  subst e0
  cases e1
  rw [t0.1] at l0
  exact ⟨b, c, rfl, v1, l0, l1, ⟨F1, t1⟩⟩
theorem names_sh {w : World} {L : List NmV} {s : Value} (h : ∃ F, namesT L w F s) : ∃ A c, s = .slice A L.length c ∧ RdV w A (L.flatMap nmC) := by
  obtain ⟨F, h⟩ := h
  obtain ⟨h1, _⟩ := flat_own h
  obtain ⟨A, c, e, r, _⟩ := rdV_of_own h1
  exact ⟨A, c, e, r⟩
end Go.Proofs.Ytgamnncehjcdiaa

namespace Go.Proofs.Ytgamnncehjcdiaa
open Go Ev Go.RowKit

def depthV (m : MdV) (n : Int) : Int := if 0 ≤ n ∧ n < m.hands.length then (match m.hands[n.toNat]? with | some d => d.depth | none => 0) else 0
set_option maxHeartbeats 1000000 in
theorem c_mDepth {w : World} {g : Nat} {m : MdV} {s r h : Value} (M : MdR w g m s r h) (n : Int) : CallR Try.prog 44 [.pointer (some ⟨g, 0, none⟩), .int .i64 n] w fun v w' => v = .int .i64 (depthV m n) ∧ w' = w := by
  apply F44_ok
  obtain ⟨A, c, hh⟩ := hands_sh M.hT
  have hl := M.hl
  rw [hh] at hl
  by_cases h0 : n < 0
  · simp -implicitDefEqProofs only [F44, ad, ax, am, aM, aN, aQ, aR, av, ak, aJ, aK, aS, aT, ay, ap, aU, aV, aX, aY, ae, ac, aj, ag, z1z, z2z, z3z, z4z, aH, af, aD, aB, aC, aA, aE, aG, z5z, z6z, ah, z7z, z8z, au, h0]
    exact ⟨by rw [depthV, if_neg (by omega)], trivial⟩
  by_cases h1 : (m.hands.length : Int) ≤ n
  · simp -implicitDefEqProofs only [F44, ad, ax, am, aM, aN, aQ, aR, av, ak, aJ, aK, aS, aT, ay, ap, aU, aV, aX, aY, ae, ac, aj, ag, z1z, z2z, z3z, z4z, aH, af, aD, aB, aC, aA, aE, aG, z5z, z6z, ah, z7z, z8z, au, h0, af, fa_132_4, ld_129, hl, len_129, aA, h1]
    exact ⟨by rw [depthV, if_neg (by omega)], trivial⟩
  obtain ⟨d, hd⟩ : ∃ d, m.hands[n.toNat]? = some d := ⟨_, List.getElem?_eq_getElem (by omega)⟩
  obtain ⟨F, hF⟩ := M.hT
  obtain ⟨b, c', hx, nv, D⟩ := hd_at hF hd
  rw [hh] at hx
  cases hx
  have ia := ia_129 (b := b) (p := 0) (n := m.hands.length) (c := c) (j := .i64) (i := n) (by omega) (by omega)
  rw [Nat.zero_add] at ia
  simp -implicitDefEqProofs only [F44, ad, ax, am, aM, aN, aQ, aR, av, ak, aJ, aK, aS, aT, ay, ap, aU, aV, aX, aY, ae, ac, aj, ag, z1z, z2z, z3z, z4z, aH, af, aD, aB, aC, aA, aE, aG, z5z, z6z, ah, z7z, z8z, au, h0, af, fa_132_4, ld_129, hl, len_129, aA, h1, ia, fa_137_0, bj, D.c0]
  exact ⟨by rw [depthV, if_pos (by omega), hd], trivial⟩
def mayV (m : MdV) (n : Int) (o : OpV) : Bool := decide (0 ≤ n) && (decide (n < m.hands.length) && mayO o)
set_option maxHeartbeats 1000000 in
theorem c_mMay {w : World} {g : Nat} {m : MdV} {s r h : Value} (M : MdR w g m s r h) (n : Int) (o : OpV) : CallR Try.prog 83 [.pointer (some ⟨g, 0, none⟩), .int .i64 n, .agg (opC o).toArray] w fun v w' => v = .bool (mayV m n o) ∧ Chg [] w w' := by
  apply F83_ok
  have hbox : hp (w.alloc (.cells (opC o).toArray 40)) w.heap.size = some (.cells (opC o).toArray 40) := by rw [bc, if_pos rfl]
  have hc0 : Chg [] w (w.alloc (.cells (opC o).toArray 40)) := (Chg.refl _ _).alloc _
  simp -implicitDefEqProofs only [F83, bE, bA]
  generalize w.alloc (.cells (opC o).toArray 40) = w0 at *
  have M0 := M.keep hc0
  obtain ⟨A, c, hh⟩ := hands_sh M0.hT
  have hl := M0.hl
  rw [hh] at hl
  by_cases h0 : 0 ≤ n
  · by_cases h1 : n < (m.hands.length : Int)
    · have lo := bJ (t := 40) (c := (opC o).toArray) ag_40 (show (Try.prog.info? 40).map (·.size) = some (opC o).toArray.size from sz_40) hbox
      simp -implicitDefEqProofs only [ad, ax, am, aM, aN, aQ, aR, av, ak, aJ, aK, aS, aT, ay, ap, aU, aV, aX, aY, ae, ac, aj, ag, z1z, z2z, z3z, z4z, aH, af, aD, aB, aC, aA, aE, aG, z5z, z6z, ah, z7z, z8z, au, aA, h0, af, fa_132_4, ld_129, hl, len_129, h1, lo]
      refine (c_opMay o w0).mono ?_
      rintro _ w1 ⟨rfl, c1⟩
      simp -implicitDefEqProofs only [ad, ax, am, aM, aN, aQ, aR, av, ak, aJ, aK, aS, aT, ay, ap, aU, aV, aX, aY, ae, ac, aj, ag, z1z, z2z, z3z, z4z, aH, af, aD, aB, aC, aA, aE, aG, z5z, z6z, ah, z7z, z8z, au, mayV, h0, h1, z1z, Bool.true_and]
      exact ⟨trivial, hc0.trans c1⟩
    · simp -implicitDefEqProofs only [ad, ax, am, aM, aN, aQ, aR, av, ak, aJ, aK, aS, aT, ay, ap, aU, aV, aX, aY, ae, ac, aj, ag, z1z, z2z, z3z, z4z, aH, af, aD, aB, aC, aA, aE, aG, z5z, z6z, ah, z7z, z8z, au, aA, h0, af, fa_132_4, ld_129, hl, len_129, h1]
      exact ⟨by rw [mayV, decide_eq_false h1]; simp, hc0⟩
  · simp -implicitDefEqProofs only [ad, ax, am, aM, aN, aQ, aR, av, ak, aJ, aK, aS, aT, ay, ap, aU, aV, aX, aY, ae, ac, aj, ag, z1z, z2z, z3z, z4z, aH, af, aD, aB, aC, aA, aE, aG, z5z, z6z, ah, z7z, z8z, au, aA, h0]
    exact ⟨by rw [mayV, decide_eq_false h0]; simp, hc0⟩
end Go.Proofs.Ytgamnncehjcdiaa

namespace Go.Proofs.Ytgamnncehjcdiaa
open Go Ev Go.RowKit

def codeV (words : Int) (d : HdV) (holds : Bool) (stale : Int) (o : OpV) (len : Int) : Int :=
  if o.1 = 2 then (if o.2.2.2.1 < 1 ∨ words < o.2.2.2.1 then 5 else stale)
  else if o.1 = 3 then (if d.depth = 15 then 8 else 0)
  else if o.1 = 4 then (if d.depth = 0 then 4 else 0)
  else if o.1 = 5 then (if d.depth = 0 then 4 else if holds then 0 else if d.holds.length = 8 then 8 else stale)
  else if 6 ≤ o.1 ∧ o.1 ≤ 9 then (if holds = false then 4 else if len ≤ o.2.2.2.1 then 5 else 0)
  else if o.1 = 10 ∨ o.1 = 12 then stale else 0
section
variable {W w : World} {g g6 g7 b k : Nat} {m : MdV} {s r hh nv : Value} {o : OpV} {h : HnV} {d : HdV} {holds : Bool} {stale : Int}
theorem l_ref2 (hc : Chg [] W w) : P84_2 w fun v w' => v = .int .i64 0 ∧ Chg [] W w' := by
  apply L84_2_ok
  exact ⟨rfl, hc⟩
set_option maxHeartbeats 1000000 in
theorem l_ref3 (hc : Chg [] W w) (h6 : hp w g6 = some (.cells (opC o).toArray 40)) (h7 : hp w g7 = some (.cells (hnC h).toArray 51)) (words : Int) (hk : o.1 ≠ 2 ∧ o.1 ≠ 3 ∧ o.1 ≠ 4 ∧ o.1 ≠ 5) {t : Bool} (ht : t = decide (6 ≤ o.1 ∧ o.1 ≤ 9)) :
    P84_3 (.pointer (some ⟨g6, 0, none⟩)) (.pointer (some ⟨g7, 0, none⟩)) (.bool holds) (.int .i64 stale) (.int .i64 o.1) (.bool t) w fun v w' => v = .int .i64 (codeV words d holds stale o h.2.2.2.2) ∧ Chg [] W w' := by
  apply L84_3_ok
  have e4 : (hnC h).toArray[0 + 4]? = some (.int .i64 h.2.2.2.2) := rfl
  have cv : codeV words d holds stale o h.2.2.2.2 = if 6 ≤ o.1 ∧ o.1 ≤ 9 then (if holds = false then 4 else if h.2.2.2.2 ≤ o.2.2.2.1 then 5 else 0) else if o.1 = 10 ∨ o.1 = 12 then stale else 0 := by
    rw [codeV, if_neg hk.1, if_neg hk.2.1, if_neg hk.2.2.1, if_neg hk.2.2.2]
  rw [cv]
  by_cases k69 : 6 ≤ o.1 ∧ o.1 ≤ 9
  · have ht' : t = true := by rw [ht]; exact decide_eq_true k69
    subst ht'
    rw [if_pos k69]
    cases holds with
    | false =>
      simp -implicitDefEqProofs only [L84_3, ad, ax, am, aM, aN, aQ, aR, av, ak, aJ, aK, aS, aT, ay, ap, aU, aV, aX, aY, ae, ac, aj, ag, z1z, z2z, z3z, z4z, aH, af, aD, aB, aC, aA, aE, aG, z5z, z6z, ah, z7z, z8z, au]
      exact ⟨by simp, hc⟩
    | true =>
      by_cases hn : h.2.2.2.2 ≤ o.2.2.2.1
      · simp -implicitDefEqProofs only [L84_3, ad, ax, am, aM, aN, aQ, aR, av, ak, aJ, aK, aS, aT, ay, ap, aU, aV, aX, aY, ae, ac, aj, ag, z1z, z2z, z3z, z4z, aH, af, aD, aB, aC, aA, aE, aG, z5z, z6z, ah, z7z, z8z, au, bT, fa_51_4, bj, h6, h7, op_3, e4, aA, hn]
        exact ⟨by simp, hc⟩
      · simp -implicitDefEqProofs only [L84_3, ad, ax, am, aM, aN, aQ, aR, av, ak, aJ, aK, aS, aT, ay, ap, aU, aV, aX, aY, ae, ac, aj, ag, z1z, z2z, z3z, z4z, aH, af, aD, aB, aC, aA, aE, aG, z5z, z6z, ah, z7z, z8z, au, bT, fa_51_4, bj, h6, h7, op_3, e4, aA, hn]
        simpa using l_ref2 hc
  · have ht' : t = false := by rw [ht]; exact decide_eq_false k69
    subst ht'
    rw [if_neg k69]
    have four : ∀ c : Bool, P84_4 (.int .i64 stale) (.bool c) w fun v w' => v = .int .i64 (if c = true then stale else 0) ∧ Chg [] W w' := by
      intro c
      apply L84_4_ok
      cases c with
      | true => simp -implicitDefEqProofs only [L84_4, ad, ax, am, aM, aN, aQ, aR, av, ak, aJ, aK, aS, aT, ay, ap, aU, aV, aX, aY, ae, ac, aj, ag, z1z, z2z, z3z, z4z, aH, af, aD, aB, aC, aA, aE, aG, z5z, z6z, ah, z7z, z8z, au]; exact ⟨by simp, hc⟩
      | false => simp -implicitDefEqProofs only [L84_4, ad, ax, am, aM, aN, aQ, aR, av, ak, aJ, aK, aS, aT, ay, ap, aU, aV, aX, aY, ae, ac, aj, ag, z1z, z2z, z3z, z4z, aH, af, aD, aB, aC, aA, aE, aG, z5z, z6z, ah, z7z, z8z, au]; simpa using l_ref2 hc
    by_cases k10 : o.1 = 10
    · have f := four true
      simp -implicitDefEqProofs only [L84_3, ad, ax, am, aM, aN, aQ, aR, av, ak, aJ, aK, aS, aT, ay, ap, aU, aV, aX, aY, ae, ac, aj, ag, z1z, z2z, z3z, z4z, aH, af, aD, aB, aC, aA, aE, aG, z5z, z6z, ah, z7z, z8z, au, k10, Int.reduceBEq]
      simpa [k10] using f
    · by_cases k12 : o.1 = 12
      · have f := four true
        simp -implicitDefEqProofs only [L84_3, ad, ax, am, aM, aN, aQ, aR, av, ak, aJ, aK, aS, aT, ay, ap, aU, aV, aX, aY, ae, ac, aj, ag, z1z, z2z, z3z, z4z, aH, af, aD, aB, aC, aA, aE, aG, z5z, z6z, ah, z7z, z8z, au, k12, Int.reduceBEq]
        simpa [k12] using f
      · have f := four false
        simp -implicitDefEqProofs only [L84_3, ad, ax, am, aM, aN, aQ, aR, av, ak, aJ, aK, aS, aT, ay, ap, aU, aV, aX, aY, ae, ac, aj, ag, z1z, z2z, z3z, z4z, aH, af, aD, aB, aC, aA, aE, aG, z5z, z6z, ah, z7z, z8z, au, eqf k10, eqf k12]
        simpa [k10, k12] using f
set_option maxHeartbeats 2000000 in
theorem l_ref1 (hc : Chg [] W w) (M : MdR w g m s r hh) (D : HdR w b k d nv) (h6 : hp w g6 = some (.cells (opC o).toArray 40)) (h7 : hp w g7 = some (.cells (hnC h).toArray 51)) :
    P84_1 (.pointer (some ⟨g, 0, none⟩)) (.pointer (some ⟨g6, 0, none⟩)) (.pointer (some ⟨g7, 0, none⟩)) (.pointer (some ⟨b, k, none⟩)) (.bool holds) (.int .i64 stale) w fun v w' => v = .int .i64 (codeV m.c.2.2.1 d holds stale o h.2.2.2.2) ∧ Chg [] W w' := by
  apply L84_1_ok
  have hw : ldC (hp w g) (0 + 0 + 2) = some (.int .i64 m.c.2.2.1) := M.c 2 (by omega)
  by_cases k2 : o.1 = 2
  · have cv : codeV m.c.2.2.1 d holds stale o h.2.2.2.2 = if o.2.2.2.1 < 1 ∨ m.c.2.2.1 < o.2.2.2.1 then 5 else stale := by rw [codeV, if_pos k2]
    rw [cv]
    have q2 : (o.1 == 2) = true := by rw [k2]; rfl
    by_cases n1 : o.2.2.2.1 < 1
    · simp -implicitDefEqProofs only [L84_1, ad, ax, am, aM, aN, aQ, aR, av, ak, aJ, aK, aS, aT, ay, ap, aU, aV, aX, aY, ae, ac, aj, ag, z1z, z2z, z3z, z4z, aH, af, aD, aB, aC, aA, aE, aG, z5z, z6z, ah, z7z, z8z, au, bq, bT, bj, h6, bD, op_3, q2, n1]
      exact ⟨by simp, hc.drew⟩
    · by_cases n2 : m.c.2.2.1 < o.2.2.2.1
      · simp -implicitDefEqProofs only [L84_1, ad, ax, am, aM, aN, aQ, aR, av, ak, aJ, aK, aS, aT, ay, ap, aU, aV, aX, aY, ae, ac, aj, ag, z1z, z2z, z3z, z4z, aH, af, aD, aB, aC, aA, aE, aG, z5z, z6z, ah, z7z, z8z, au, bq, bT, bj, h6, bD, op_3, q2, n1, af, fa_132_0, fa_74_2, hw, n2]
        exact ⟨by simp, hc.drew⟩
      · simp -implicitDefEqProofs only [L84_1, ad, ax, am, aM, aN, aQ, aR, av, ak, aJ, aK, aS, aT, ay, ap, aU, aV, aX, aY, ae, ac, aj, ag, z1z, z2z, z3z, z4z, aH, af, aD, aB, aC, aA, aE, aG, z5z, z6z, ah, z7z, z8z, au, bq, bT, bj, h6, bD, op_3, q2, n1, af, fa_132_0, fa_74_2, hw, n2]
        exact ⟨by simp, hc.drew⟩
  by_cases k3 : o.1 = 3
  · have cv : codeV m.c.2.2.1 d holds stale o h.2.2.2.2 = if d.depth = 15 then 8 else 0 := by rw [codeV, if_neg k2, if_pos k3]
    rw [cv]
    have q3 : (o.1 == 3) = true := by rw [k3]; rfl
    by_cases n1 : d.depth = 15
    · have e : (d.depth == 15) = true := by rw [n1]; rfl
      simp -implicitDefEqProofs only [L84_1, ad, ax, am, aM, aN, aQ, aR, av, ak, aJ, aK, aS, aT, ay, ap, aU, aV, aX, aY, ae, ac, aj, ag, z1z, z2z, z3z, z4z, aH, af, aD, aB, aC, aA, aE, aG, z5z, z6z, ah, z7z, z8z, au, bq, bj, h6, bD, eqf k2, q3, af, fa_137_0, D.c0, e]
      exact ⟨by simp [n1], hc⟩
    · simp -implicitDefEqProofs only [L84_1, ad, ax, am, aM, aN, aQ, aR, av, ak, aJ, aK, aS, aT, ay, ap, aU, aV, aX, aY, ae, ac, aj, ag, z1z, z2z, z3z, z4z, aH, af, aD, aB, aC, aA, aE, aG, z5z, z6z, ah, z7z, z8z, au, bq, bj, h6, bD, eqf k2, q3, af, fa_137_0, D.c0, eqf n1]
      simpa [n1] using l_ref2 hc
  by_cases k4 : o.1 = 4
  · have cv : codeV m.c.2.2.1 d holds stale o h.2.2.2.2 = if d.depth = 0 then 4 else 0 := by rw [codeV, if_neg k2, if_neg k3, if_pos k4]
    rw [cv]
    have q4 : (o.1 == 4) = true := by rw [k4]; rfl
    by_cases n1 : d.depth = 0
    · have e : (d.depth == 0) = true := by rw [n1]; rfl
      simp -implicitDefEqProofs only [L84_1, ad, ax, am, aM, aN, aQ, aR, av, ak, aJ, aK, aS, aT, ay, ap, aU, aV, aX, aY, ae, ac, aj, ag, z1z, z2z, z3z, z4z, aH, af, aD, aB, aC, aA, aE, aG, z5z, z6z, ah, z7z, z8z, au, bq, bj, h6, bD, eqf k2, eqf k3, q4, af, fa_137_0, D.c0, e]
      exact ⟨by simp [n1], hc⟩
    · simp -implicitDefEqProofs only [L84_1, ad, ax, am, aM, aN, aQ, aR, av, ak, aJ, aK, aS, aT, ay, ap, aU, aV, aX, aY, ae, ac, aj, ag, z1z, z2z, z3z, z4z, aH, af, aD, aB, aC, aA, aE, aG, z5z, z6z, ah, z7z, z8z, au, bq, bj, h6, bD, eqf k2, eqf k3, q4, af, fa_137_0, D.c0, eqf n1]
      simpa [n1] using l_ref2 hc
  by_cases k5 : o.1 = 5
  · have cv : codeV m.c.2.2.1 d holds stale o h.2.2.2.2 = if d.depth = 0 then 4 else if holds then 0 else if d.holds.length = 8 then 8 else stale := by rw [codeV, if_neg k2, if_neg k3, if_neg k4, if_pos k5]
    rw [cv]
    have q5 : (o.1 == 5) = true := by rw [k5]; rfl
    by_cases n1 : d.depth = 0
    · have e : (d.depth == 0) = true := by rw [n1]; rfl
      simp -implicitDefEqProofs only [L84_1, ad, ax, am, aM, aN, aQ, aR, av, ak, aJ, aK, aS, aT, ay, ap, aU, aV, aX, aY, ae, ac, aj, ag, z1z, z2z, z3z, z4z, aH, af, aD, aB, aC, aA, aE, aG, z5z, z6z, ah, z7z, z8z, au, bq, bj, h6, bD, eqf k2, eqf k3, eqf k4, q5, af, fa_137_0, D.c0, e]
      exact ⟨by simp [n1], hc⟩
    · cases holds with
      | true =>
        simp -implicitDefEqProofs only [L84_1, ad, ax, am, aM, aN, aQ, aR, av, ak, aJ, aK, aS, aT, ay, ap, aU, aV, aX, aY, ae, ac, aj, ag, z1z, z2z, z3z, z4z, aH, af, aD, aB, aC, aA, aE, aG, z5z, z6z, ah, z7z, z8z, au, bq, bj, h6, bD, eqf k2, eqf k3, eqf k4, q5, af, fa_137_0, D.c0, eqf n1]
        simpa [n1] using l_ref2 hc
      | false =>
        obtain ⟨A, c, hnv, _⟩ := names_sh D.nT
        have D1 := D.c1
        rw [hnv] at D1
        by_cases n8 : d.holds.length = 8
        · have e : ((d.holds.length : Int) == 8) = true := by rw [n8]; rfl
          simp -implicitDefEqProofs only [L84_1, ad, ax, am, aM, aN, aQ, aR, av, ak, aJ, aK, aS, aT, ay, ap, aU, aV, aX, aY, ae, ac, aj, ag, z1z, z2z, z3z, z4z, aH, af, aD, aB, aC, aA, aE, aG, z5z, z6z, ah, z7z, z8z, au, bq, bj, h6, bD, eqf k2, eqf k3, eqf k4, q5, af, fa_137_0, fa_137_1, ld_135, D.c0, D1, eqf n1, len_135, e]
          exact ⟨by simp [n1, n8], hc⟩
        · have e : ((d.holds.length : Int) == 8) = false := beq_eq_false_iff_ne.2 (by omega)
          simp -implicitDefEqProofs only [L84_1, ad, ax, am, aM, aN, aQ, aR, av, ak, aJ, aK, aS, aT, ay, ap, aU, aV, aX, aY, ae, ac, aj, ag, z1z, z2z, z3z, z4z, aH, af, aD, aB, aC, aA, aE, aG, z5z, z6z, ah, z7z, z8z, au, bq, bj, h6, bD, eqf k2, eqf k3, eqf k4, q5, af, fa_137_0, fa_137_1, ld_135, D.c0, D1, eqf n1, len_135, e]
          exact ⟨by simp [n1, n8], hc⟩
  have fin : ∀ t : Bool, t = decide (6 ≤ o.1 ∧ o.1 ≤ 9) → P84_3 (.pointer (some ⟨g6, 0, none⟩)) (.pointer (some ⟨g7, 0, none⟩)) (.bool holds) (.int .i64 stale) (.int .i64 o.1) (.bool t) w fun v w' => v = .int .i64 (codeV m.c.2.2.1 d holds stale o h.2.2.2.2) ∧ Chg [] W w' := fun t ht => l_ref3 hc h6 h7 _ ⟨k2, k3, k4, k5⟩ ht
  by_cases k6 : o.1 = 6
  · have q : (o.1 == 6) = true := by rw [k6]; rfl
    have f := fin true (by rw [k6]; rfl)
    simp -implicitDefEqProofs only [L84_1, ad, ax, am, aM, aN, aQ, aR, av, ak, aJ, aK, aS, aT, ay, ap, aU, aV, aX, aY, ae, ac, aj, ag, z1z, z2z, z3z, z4z, aH, af, aD, aB, aC, aA, aE, aG, z5z, z6z, ah, z7z, z8z, au, bq, bj, h6, bD, eqf k2, eqf k3, eqf k4, eqf k5, q]
    exact f
  by_cases k7 : o.1 = 7
  · have q : (o.1 == 7) = true := by rw [k7]; rfl
    have f := fin true (by rw [k7]; rfl)
    simp -implicitDefEqProofs only [L84_1, ad, ax, am, aM, aN, aQ, aR, av, ak, aJ, aK, aS, aT, ay, ap, aU, aV, aX, aY, ae, ac, aj, ag, z1z, z2z, z3z, z4z, aH, af, aD, aB, aC, aA, aE, aG, z5z, z6z, ah, z7z, z8z, au, bq, bj, h6, bD, eqf k2, eqf k3, eqf k4, eqf k5, eqf k6, q]
    exact f
  by_cases k8 : o.1 = 8
  · have q : (o.1 == 8) = true := by rw [k8]; rfl
    have f := fin true (by rw [k8]; rfl)
    simp -implicitDefEqProofs only [L84_1, ad, ax, am, aM, aN, aQ, aR, av, ak, aJ, aK, aS, aT, ay, ap, aU, aV, aX, aY, ae, ac, aj, ag, z1z, z2z, z3z, z4z, aH, af, aD, aB, aC, aA, aE, aG, z5z, z6z, ah, z7z, z8z, au, bq, bj, h6, bD, eqf k2, eqf k3, eqf k4, eqf k5, eqf k6, eqf k7, q]
    exact f
  have f := fin (o.1 == 9) (by
    by_cases k9 : o.1 = 9
    · rw [k9]; rfl
    · rw [eqf k9]; exact (decide_eq_false (by omega)).symm)
  simp -implicitDefEqProofs only [L84_1, ad, ax, am, aM, aN, aQ, aR, av, ak, aJ, aK, aS, aT, ay, ap, aU, aV, aX, aY, ae, ac, aj, ag, z1z, z2z, z3z, z4z, aH, af, aD, aB, aC, aA, aE, aG, z5z, z6z, ah, z7z, z8z, au, bq, bj, h6, bD, eqf k2, eqf k3, eqf k4, eqf k5, eqf k6, eqf k7, eqf k8]
  exact f
end
end Go.Proofs.Ytgamnncehjcdiaa

namespace Go.Proofs.Ytgamnncehjcdiaa
open Go Ev Go.RowKit

theorem HdR.keep {w w' : World} {b o : Nat} {d : HdV} {nv : Value} (k : HdR w b o d nv) (hc : Chg [] w w') : HdR w' b o d nv := by
  have e : hp w' b = hp w b := hc.block b (by
    rcases Nat.lt_or_ge b w.heap.size with h | h
    · exact h
    · have : hp w b = none := by simp [hp]; omega
      have hu := k.c0
      rw [this] at hu; cases hu) (by simp)
  obtain ⟨F, hF⟩ := k.nT
  exact ⟨by rw [e]; exact k.c0, by rw [e]; exact k.c1, ⟨F, (good_names _).frame hF (ChgP.of0 hc none') fun _ _ h => h⟩⟩
def holdsV (d : HdV) (h : HnV) : Bool := decide ((h.1, h.2.1) ∈ d.holds)
def staleV (m : MdV) (h : HnV) : Int := if isLv m (h.1, h.2.1) then 0 else 3
set_option maxHeartbeats 1000000 in
theorem l_ref0 {W w : World} {g g6 g7 g11 b k : Nat} {m : MdV} {s r hh nv : Value} {o : OpV} {h : HnV} {d : HdV} (hc : Chg [] W w) (M : MdR w g m s r hh) (D : HdR w b k d nv) (h6 : hp w g6 = some (.cells (opC o).toArray 40)) (h7 : hp w g7 = some (.cells (hnC h).toArray 51)) (h11 : hp w g11 = some (.cells (nmC (h.1, h.2.1)).toArray 141)) (hl : d.holds.length ≤ 1000000) :
    P84_0 (.pointer (some ⟨g, 0, none⟩)) (.pointer (some ⟨g6, 0, none⟩)) (.pointer (some ⟨g7, 0, none⟩)) (.pointer (some ⟨b, k, none⟩)) (.pointer (some ⟨g11, 0, none⟩)) w fun v w' => v = .int .i64 (codeV m.c.2.2.1 d (holdsV d h) (staleV m h) o h.2.2.2.2) ∧ Chg [] W w' := by
  apply L84_0_ok
  obtain ⟨A, c, hnv, hR⟩ := names_sh D.nT
  have D1 := D.c1
  rw [hnv] at D1
  have ld11 : ∀ w', hp w' g11 = some (.cells (nmC (h.1, h.2.1)).toArray 141) → ldv Try.prog 141 (.pointer (some ⟨g11, 0, none⟩)) w' = some (.agg (nmC (h.1, h.2.1)).toArray) := fun w' hw => bJ (t := 141) (c := (nmC (h.1, h.2.1)).toArray) ag_141 (show (Try.prog.info? 141).map (·.size) = some (nmC (h.1, h.2.1)).toArray.size from sz_141) hw
  have cd : Chg [] w w.drew := (Chg.refl _ _).drew
  simp -implicitDefEqProofs only [L84_0, ad, ax, am, aM, aN, aQ, aR, av, ak, aJ, aK, aS, aT, ay, ap, aU, aV, aX, aY, ae, ac, aj, ag, z1z, z2z, z3z, z4z, aH, af, aD, aB, aC, aA, aE, aG, z5z, z6z, ah, z7z, z8z, au, af, fa_137_1, ld_135, D1, ld11 w.drew h11]
  refine (c_nContains (c := c) (hR.keep cd.below) hl (h.1, h.2.1)).mono ?_
  rintro _ w1 ⟨rfl, c1⟩
  have c01 := cd.trans c1
  have h111 := c01.at h11 (by simp)
  simp -implicitDefEqProofs only [ld11 w1 h111, ad]
  refine (c_mIsLive (M.keep c01) (h.1, h.2.1)).mono ?_
  rintro _ w2 ⟨rfl, c2⟩
  have c02 := c01.trans c2
  have fin := fun stale => l_ref1 (W := W) (holds := holdsV d h) (stale := stale) (hc.trans c02) (M.keep c02) (D.keep c02) (c02.at h6 (by simp)) (c02.at h7 (by simp))
  cases hs : isLv m (h.1, h.2.1) with
  | true =>
    have f := fin 0
    have e : staleV m h = 0 := by rw [staleV, hs]; rfl
    simp -implicitDefEqProofs only [ad, ax, am, aM, aN, aQ, aR, av, ak, aJ, aK, aS, aT, ay, ap, aU, aV, aX, aY, ae, ac, aj, ag, z1z, z2z, z3z, z4z, aH, af, aD, aB, aC, aA, aE, aG, z5z, z6z, ah, z7z, z8z, au]
    rw [e]; exact f
  | false =>
    have f := fin 3
    have e : staleV m h = 3 := by rw [staleV, hs]; rfl
    simp -implicitDefEqProofs only [ad, ax, am, aM, aN, aQ, aR, av, ak, aJ, aK, aS, aT, ay, ap, aU, aV, aX, aY, ae, ac, aj, ag, z1z, z2z, z3z, z4z, aH, af, aD, aB, aC, aA, aE, aG, z5z, z6z, ah, z7z, z8z, au]
    rw [e]; exact f
def refusesV (m : MdV) (d : HdV) (o : OpV) (h : HnV) : Int := if ofK o.1 ≠ 0 ∧ knownV m h (ofK o.1) = false then 2 else codeV m.c.2.2.1 d (holdsV d h) (staleV m h) o h.2.2.2.2
structure Small (m : MdV) : Prop where
  r : m.rgs.length ≤ 1000000
  o : ∀ rg ∈ m.rgs, rg.objs.length ≤ 1000000
  h : ∀ d ∈ m.hands, d.holds.length ≤ 1000000
set_option maxHeartbeats 1000000 in
theorem c_mRefuses {w : World} {g : Nat} {m : MdV} {s r hh : Value} (M : MdR w g m s r hh) (sm : Small m) {n : Int} (n0 : 0 ≤ n) {d : HdV} (hd : m.hands[n.toNat]? = some d) (o : OpV) (h : HnV) :
    CallR Try.prog 84 [.pointer (some ⟨g, 0, none⟩), .int .i64 n, .agg (opC o).toArray, .agg (hnC h).toArray] w fun v w' => v = .int .i64 (refusesV m d o h) ∧ Chg [] w w' := by
  apply F84_ok
  simp -implicitDefEqProofs only [F84, bE, bA, bf]
  generalize hw : (w.alloc (.cells (opC o).toArray 40)).alloc _ = w0
  have hc0 : Chg [] w w0 := by rw [← hw]; exact ((Chg.refl _ _).alloc _).alloc _
  have a1 : hp w0 w.heap.size = some (.cells (opC o).toArray 40) := by rw [← hw, bc, bf, if_neg (by omega), bc, if_pos rfl]
  have a2 : hp w0 (w.heap.size + 1) = some (.cells (hnC h).toArray 51) := by rw [← hw, bc, bf, if_pos rfl]
  clear hw
  generalize w.heap.size = g6 at *
  simp -implicitDefEqProofs only [ad, ax, am, aM, aN, aQ, aR, av, ak, aJ, aK, aS, aT, ay, ap, aU, aV, aX, aY, ae, ac, aj, ag, z1z, z2z, z3z, z4z, aH, af, aD, aB, aC, aA, aE, aG, z5z, z6z, ah, z7z, z8z, au, bq, bj, a1, bD]
  refine (c_opOf o.1 w0).mono ?_
  rintro _ w1 ⟨rfl, k1⟩
  have ldh : ∀ w', hp w' (g6 + 1) = some (.cells (hnC h).toArray 51) → ldv Try.prog 51 (.pointer (some ⟨g6 + 1, 0, none⟩)) w' = some (.agg (hnC h).toArray) := fun w' hw => bJ (t := 51) (c := (hnC h).toArray) ag_51 (show (Try.prog.info? 51).map (·.size) = some (hnC h).toArray.size from sz_51) hw
  have b1 := k1.at a1 (by simp)
  have b2 := k1.at a2 (by simp)
  have c01 := hc0.trans k1
  have M1 := M.keep c01
  have hdm : d ∈ m.hands := List.mem_of_getElem? hd
  have hhl := (List.getElem?_eq_some_iff.1 hd).1
  have tail : ¬ (ofK o.1 ≠ 0 ∧ knownV m h (ofK o.1) = false) → ∀ w', Chg [] w1 w' → ∀ t11 : Nat, hp w' t11 = some (.cells (nmC (h.1, h.2.1)).toArray 141) → ∀ b nv, HdR w' b (n.toNat * 2) d nv →
      P84_0 (.pointer (some ⟨g, 0, none⟩)) (.pointer (some ⟨g6, 0, none⟩)) (.pointer (some ⟨g6 + 1, 0, none⟩)) (.pointer (some ⟨b, n.toNat * 2, none⟩)) (.pointer (some ⟨t11, 0, none⟩)) w' fun v w' => v = .int .i64 (refusesV m d o h) ∧ Chg [] w w' := by
    intro hno w' hc t11 ht b nv D
    rw [refusesV, if_neg hno]
    exact l_ref0 (c01.trans hc) (M1.keep hc) D (hc.at b1 (by simp)) (hc.at b2 (by simp)) ht (sm.h d hdm)
  obtain ⟨F0, hF0⟩ := M1.hT
  obtain ⟨b, c, hx, _⟩ := hd_at hF0 hd
  have tailS : ¬ (ofK o.1 ≠ 0 ∧ knownV m h (ofK o.1) = false) → ∀ w3, Chg [] w1 w3 → ∀ t11 : Nat, w1.heap.size ≤ t11 → hp w3 t11 = some (.cells #[.int .i64 0, .int .i64 0] 141) →
      effu Try.prog (Instr.storeAt 141 (.pointer (some ⟨t11, 0, none⟩)) (.agg (nmC (h.1, h.2.1)).toArray)) w3 fun w' =>
      P84_0 (.pointer (some ⟨g, 0, none⟩)) (.pointer (some ⟨g6, 0, none⟩)) (.pointer (some ⟨g6 + 1, 0, none⟩)) (.pointer (some ⟨b, n.toNat * 2, none⟩)) (.pointer (some ⟨t11, 0, none⟩)) w' fun v w' => v = .int .i64 (refusesV m d o h) ∧ Chg [] w w' := by
    intro hno w3 hc t11 hge ht
    rw [st_141 (by rfl) (by rfl) (by rw [ht]; rfl) (by rw [ht]; rfl), ht]
    simp -implicitDefEqProofs only [bM]
    have hc' : Chg [] w1 (put w3 t11 (nmC (h.1, h.2.1)).toArray 141) := hc.put (.inr hge) _ _
    obtain ⟨F1, hF1⟩ := (M1.keep hc').hT
    obtain ⟨b', c', hx', nv, D⟩ := hd_at hF1 hd
    rw [hx] at hx'
    cases hx'
    exact tail hno _ hc' t11 (bv (bz ht) _ _) _ nv D
  have ia := ia_129 (b := b) (p := 0) (n := m.hands.length) (c := c) (j := .i64) (i := n) (by omega) (by omega)
  rw [Nat.zero_add] at ia
  have hlh : ∀ w', Chg [] w1 w' → ldC (hp w' g) (0 + 9) = some (.slice (some ⟨b, 0, none⟩) m.hands.length c) := fun w' hc => by
    have := (M1.keep hc).hl
    rw [hx] at this
    exact this
  have nm : ∀ (w' : World) {K : Value → World → Prop}, (∀ w'', Chg [] w' w'' → K (.agg (nmC (h.1, h.2.1)).toArray) w'') → CallR Try.prog 86 [.agg (hnC h).toArray] w' K := fun w' K hk => (c_mNameOf h w').mono fun v w'' hv => by obtain ⟨rfl, hc⟩ := hv; exact hk w'' hc
  have vA : ∀ w2, Chg [] w1 w2 → Chg [] w1 w2.drew := fun w2 h => h.drew
  by_cases kz : ofK o.1 = 0
  · have hno : ¬ (ofK o.1 ≠ 0 ∧ knownV m h (ofK o.1) = false) := fun h => h.1 kz
    have e0 : ((0 : Int) != 0) = false := rfl
    have cd : Chg [] w1 w1.drew := (Chg.refl _ _).drew
    rw [kz]
    simp -implicitDefEqProofs only [ad, ax, am, aM, aN, aQ, aR, av, ak, aJ, aK, aS, aT, ay, ap, aU, aV, aX, aY, ae, ac, aj, ag, z1z, z2z, z3z, z4z, aH, af, aD, aB, aC, aA, aE, aG, z5z, z6z, ah, z7z, z8z, au, e0, af, fa_132_4, ld_129, hlh _ cd, hlh _ (Chg.refl _ _), ia, ldh w1.drew b2, ldh w1 b2, al_141]
    repeat' (with_reducible apply And.intro)
    all_goals first
      | (refine nm _ ?_
         intro w3 c3
         have c13 : Chg [] w1 w3 := (cd.alloc _).trans c3
         try simp -implicitDefEqProofs only [ad, ax, am, aM, aN, aQ, aR, av, ak, aJ, aK, aS, aT, ay, ap, aU, aV, aX, aY, ae, ac, aj, ag, z1z, z2z, z3z, z4z, aH, af, aD, aB, aC, aA, aE, aG, z5z, z6z, ah, z7z, z8z, au, af, fa_132_4, ld_129, hlh _ c13, ia, al_141]
         exact tailS hno w3 c13 _ (Nat.le_refl _) (c3.at (by rw [bc, if_pos rfl]) (by simp)))
      | (refine nm _ ?_
         intro w3 c3
         have c13 : Chg [] w1 w3 := cd.trans c3
         try simp -implicitDefEqProofs only [ad, ax, am, aM, aN, aQ, aR, av, ak, aJ, aK, aS, aT, ay, ap, aU, aV, aX, aY, ae, ac, aj, ag, z1z, z2z, z3z, z4z, aH, af, aD, aB, aC, aA, aE, aG, z5z, z6z, ah, z7z, z8z, au, af, fa_132_4, ld_129, hlh _ c13, ia, al_141]
         exact tailS hno _ (c13.alloc _) _ c13.size (by rw [bc, if_pos rfl]))
  · have e0 : (ofK o.1 != 0) = true := bne_iff_ne.2 kz
    simp -implicitDefEqProofs only [ad, ax, am, aM, aN, aQ, aR, av, ak, aJ, aK, aS, aT, ay, ap, aU, aV, aX, aY, ae, ac, aj, ag, z1z, z2z, z3z, z4z, aH, af, aD, aB, aC, aA, aE, aG, z5z, z6z, ah, z7z, z8z, au, e0, ldh w1 b2]
    refine (c_mKnown M1 h (ofK o.1) sm.r sm.o).mono ?_
    rintro _ w2 ⟨rfl, k2⟩
    cases hk : knownV m h (ofK o.1) with
    | false =>
      simp -implicitDefEqProofs only [ad, ax, am, aM, aN, aQ, aR, av, ak, aJ, aK, aS, aT, ay, ap, aU, aV, aX, aY, ae, ac, aj, ag, z1z, z2z, z3z, z4z, aH, af, aD, aB, aC, aA, aE, aG, z5z, z6z, ah, z7z, z8z, au]
      exact ⟨by rw [refusesV, if_pos ⟨kz, hk⟩], c01.trans k2⟩
    | true =>
      have hno : ¬ (ofK o.1 ≠ 0 ∧ knownV m h (ofK o.1) = false) := fun h => by rw [hk] at h; cases h.2
      have cd : Chg [] w1 w2.drew := k2.drew
      have b22 := k2.at b2 (by simp)
      simp -implicitDefEqProofs only [ad, ax, am, aM, aN, aQ, aR, av, ak, aJ, aK, aS, aT, ay, ap, aU, aV, aX, aY, ae, ac, aj, ag, z1z, z2z, z3z, z4z, aH, af, aD, aB, aC, aA, aE, aG, z5z, z6z, ah, z7z, z8z, au, af, fa_132_4, ld_129, hlh _ cd, hlh _ k2, ia, ldh w2.drew b22, ldh w2 b22, al_141]
      repeat' (with_reducible apply And.intro)
      all_goals first
        | (refine nm _ ?_
           intro w3 c3
           have c13 : Chg [] w1 w3 := (cd.alloc _).trans c3
           try simp -implicitDefEqProofs only [ad, ax, am, aM, aN, aQ, aR, av, ak, aJ, aK, aS, aT, ay, ap, aU, aV, aX, aY, ae, ac, aj, ag, z1z, z2z, z3z, z4z, aH, af, aD, aB, aC, aA, aE, aG, z5z, z6z, ah, z7z, z8z, au, af, fa_132_4, ld_129, hlh _ c13, ia, al_141]
           exact tailS hno w3 c13 _ k2.size (c3.at (by rw [bc, if_pos rfl]) (by simp)))
        | (refine nm _ ?_
           intro w3 c3
           have c13 : Chg [] w1 w3 := cd.trans c3
           try simp -implicitDefEqProofs only [ad, ax, am, aM, aN, aQ, aR, av, ak, aJ, aK, aS, aT, ay, ap, aU, aV, aX, aY, ae, ac, aj, ag, z1z, z2z, z3z, z4z, aH, af, aD, aB, aC, aA, aE, aG, z5z, z6z, ah, z7z, z8z, au, af, fa_132_4, ld_129, hlh _ c13, ia, al_141]
           exact tailS hno _ (c13.alloc _) _ c13.size (by rw [bc, if_pos rfl]))
end Go.Proofs.Ytgamnncehjcdiaa

namespace Go.Proofs.Ytgamnncehjcdiaa
open Go Ev
noncomputable def C112 : Code := (Try.f112.body).getD .skip
noncomputable def H112 : Hints := ⟨[], [], []⟩
def F112 (a0 a1 : Value) (w : World) (Q : Value → World → Prop) : Prop :=
  CallR Try.prog 115 [a0, a1] w fun t7 w =>
  wpB (bp Try.prog .geq 3 t7 (Go.Value.int Go.IntKind.i64 0)) fun t8 =>
  Q t8 w
theorem F112_ok {a0 a1 : Value} {w : World} {Q : Value → World → Prop} (h : F112 a0 a1 w Q) : CallR Try.prog 112 [a0, a1] w Q :=
  have e : evC Try.prog (entR 3 143) 112 9 H112 Q C112 [] (entryE 0 [a0, a1]) w (contT Try.prog (entR 3 143) 112 9 H112 Try.f112.results.toList Q []) = F112 a0 a1 w Q := by kernel_rfl
  bt (fn := Try.f112) mixed bn Try.func112 (c := C112) rfl H112 (Nat.le_of_ble_eq_true rfl) (e.mpr h)

noncomputable def C115 : Code := (Try.f115.body).getD .skip
noncomputable def H115 : Hints := ⟨[(2, [0, 1, 7, 8])], [], []⟩
noncomputable def T115_0 : List It := [.lp (nav [1, 0, 1, 4, 5] C115), .blk 0, .jn (nav [1, 1] C115)]
def P115_0 (x0 x1 x7 x8 : Value) (w : World) (Q : Value → World → Prop) : Prop := Part Try.prog 115 T115_0 [0, 1, 7, 8] [x0, x1, x7, x8] w Q
def F115 (a0 a1 : Value) (w : World) (Q : Value → World → Prop) : Prop :=
  wpB (pureRun Try.prog (Builtin.len_ #[23] 3 #[a0])) fun t7 =>
  P115_0 a0 a1 t7 (Go.Value.int Go.IntKind.i64 0) w Q
def L115_0 (x0 x1 x7 x8 : Value) (w : World) (Q : Value → World → Prop) : Prop :=
  wpB (bp Try.prog .lss 3 x8 x7) fun t9 =>
  cnd t9
  (wpB (pureRun Try.prog (Instr.indexAt 23 x0 x8)) fun t14 =>
  wpB (ldv Try.prog 3 t14 w) fun t15 =>
  wpB (be Try.prog .eql 3 (.tmp 11) (.tmp 15) x1 t15) fun t16 =>
  cnd t16
  (Q x8 w)
  (wpB (bp Try.prog .add 3 x8 (Go.Value.int Go.IntKind.i64 1)) fun t18 =>
  P115_0 x0 x1 x7 t18 w Q))
  (Q (Go.Value.int Go.IntKind.i64 (-1)) w)
theorem F115_ok {a0 a1 : Value} {w : World} {Q : Value → World → Prop} (h : F115 a0 a1 w Q) : CallR Try.prog 115 [a0, a1] w Q :=
  have e : evC Try.prog (entR 3 143) 115 19 H115 Q C115 [] (entryE 0 [a0, a1]) w (contT Try.prog (entR 3 143) 115 19 H115 Try.f115.results.toList Q []) = F115 a0 a1 w Q := by kernel_rfl
  bt (fn := Try.f115) mixed bn Try.func115 (c := C115) rfl H115 (Nat.le_of_ble_eq_true rfl) (e.mpr h)
theorem L115_0_ok {x0 x1 x7 x8 : Value} {w : World} {Q : Value → World → Prop} (h : L115_0 x0 x1 x7 x8 w Q) : P115_0 x0 x1 x7 x8 w Q :=
  have e : evC Try.prog (entR 3 143) 115 19 H115 Q (nav [1, 0, 1, 4, 5] C115) T115_0 (unpack [0, 1, 7, 8] [x0, x1, x7, x8]) w (contT Try.prog (entR 3 143) 115 19 H115 Try.f115.results.toList Q T115_0) = L115_0 x0 x1 x7 x8 w Q := by kernel_rfl
  part_lp (fn := Try.f115) mixed bn Try.func115 H115 (c := (nav [1, 0, 1, 4, 5] C115)) (t := [.blk 0, .jn (nav [1, 1] C115)]) (e.mpr h)

end Go.Proofs.Ytgamnncehjcdiaa

namespace Go.Proofs.Ytgamnncehjcdiaa
open Go Ev Go.RowKit

set_option maxHeartbeats 400000 in
theorem c_iIndex {w : World} {A : Option Addr} {c : Nat} {L : List Int} (hR : RdI .i64 w A L) (hl : L.length ≤ 1000000) (x : Int) : CallR Try.prog 115 [.slice A L.length c, .int .i64 x] w fun v w' => v = .int .i64 (ixOf L x) ∧ w' = w := by
  apply F115_ok
  simp -implicitDefEqProofs only [F115, ad, ax, am, aM, aN, aQ, aR, av, ak, aJ, aK, aS, aT, ay, ap, aU, aV, aX, aY, ae, ac, aj, ag, z1z, z2z, z3z, z4z, aH, af, aD, aB, aC, aA, aE, aG, z5z, z6z, ah, z7z, z8z, au, len_23]
  have main : ∀ (d i : Nat), (∀ (j : Nat) (y : Int), j < i → L[j]? = some y → y ≠ x) → i + d = L.length →
      P115_0 (.slice A L.length c) (.int .i64 x) (.int .i64 L.length) (.int .i64 i) w fun v w' => v = .int .i64 (ixOf L x) ∧ w' = w := by
    intro d
    induction d with
    | zero =>
      intro i hn hi
      apply L115_0_ok
      have : ¬ (i : Int) < L.length := by omega
      simp -implicitDefEqProofs only [L115_0, ad, ax, am, aM, aN, aQ, aR, av, ak, aJ, aK, aS, aT, ay, ap, aU, aV, aX, aY, ae, ac, aj, ag, z1z, z2z, z3z, z4z, aH, af, aD, aB, aC, aA, aE, aG, z5z, z6z, ah, z7z, z8z, au, this]
      rw [ixOf_none fun j y hj => hn j y (by have := (List.getElem?_eq_some_iff.1 hj).1; omega) hj]
      exact ⟨rfl, trivial⟩
    | succ d ih =>
      intro i hn hi
      apply L115_0_ok
      have hlt : (i : Int) < L.length := by omega
      have hil : i < L.length := by omega
      obtain ⟨q, q1, q2⟩ := hR.at (P := Try.prog) (c := c) (j := .i64) Try.underlying23 Try.underlying3 sz_3 (i := (i : Int)) (by omega) (by omega)
      obtain ⟨y, hy⟩ : ∃ y, L[i]? = some y := ⟨_, List.getElem?_eq_getElem hil⟩
      have hg : L.getD i 0 = y := by rw [List.getD_eq_getElem?_getD, hy]; rfl
      rw [Int.toNat_natCast, hg] at q2
      by_cases hxy : x = y
      · have e : (x == y) = true := by rw [hxy]; simp
        simp -implicitDefEqProofs only [L115_0, ad, ax, am, aM, aN, aQ, aR, av, ak, aJ, aK, aS, aT, ay, ap, aU, aV, aX, aY, ae, ac, aj, ag, z1z, z2z, z3z, z4z, aH, af, aD, aB, aC, aA, aE, aG, z5z, z6z, ah, z7z, z8z, au, hlt, q1, bj, q2, e]
        rw [ixOf_some hy hxy.symm hn]
        exact ⟨rfl, trivial⟩
      · simp -implicitDefEqProofs only [L115_0, ad, ax, am, aM, aN, aQ, aR, av, ak, aJ, aK, aS, aT, ay, ap, aU, aV, aX, aY, ae, ac, aj, ag, z1z, z2z, z3z, z4z, aH, af, aD, aB, aC, aA, aE, aG, z5z, z6z, ah, z7z, z8z, au, hlt, q1, bj, q2, eqf hxy, bG, bC (n := (i : Int) + 1) (by omega) (by omega)]
        have := ih (i + 1) (fun j z hj hz => by
          rcases Nat.lt_or_ge j i with h1 | h1
          · exact hn j z h1 hz
          · have : j = i := by omega
            subst this
            rw [hy] at hz; cases hz; exact fun e => hxy e.symm) (by omega)
        rw [Int.natCast_add i 1] at this
        exact this
  exact main L.length 0 (fun j r hj => by omega) (by omega)
end Go.Proofs.Ytgamnncehjcdiaa

namespace Go.Proofs.Ytgamnncehjcdiaa
open Go Ev Go.RowKit

theorem UpdP.none {F : Fp} (h : ∀ k, ¬ F k) (w : World) : UpdP F none' w w := ⟨ChgP.refl _ _, fun k hk => hk.elim⟩
theorem MdI.slotSet {w : World} {g : Nat} {m : MdV} {F : Fp} (h : MdI w g m F) {i : Nat} {p p' : NmV} (hp' : m.slots[i]? = some p) {k : Nat} (hk : k < 2) {x : Int} (he : nmC p' = (nmC p).set k (.int .i64 x)) :
    ∃ b c, ldC (hp w g) (0 + 7) = some (.slice (some ⟨b, 0, none⟩) m.slots.length c) ∧ okC (hp w b) (i * 2 + k + 1) = true ∧
      ∃ F', MdI (put w b ((getC (hp w b)).setIfInBounds (i * 2 + k) (.int .i64 x)) (getE (hp w b))) g { m with slots := m.slots.set i p' } F' ∧ UpdP F F' w (put w b ((getC (hp w b)).setIfInBounds (i * 2 + k) (.int .i64 x)) (getE (hp w b))) := by
  obtain ⟨v, Fk, hg, hng, hsub, hld, hS, hr, _⟩ := isAt.cell h (bY m) (k := 7) (P := slotsT m.slots) rfl
  obtain ⟨u, hu⟩ : ∃ u, (nmC p)[k]? = some u := ⟨_, List.getElem?_eq_getElem (by simpa [nmC] using hk)⟩
  have hP : ((m.slots.flatMap nmC).map isV)[i * 2 + k]? = some (isV u) := by
    rw [List.getElem?_map, flatM_get nmC_len m.slots i p hp' k hk, hu]; rfl
  obtain ⟨b, c, v0, Fk0, hx, _, _, _, _, hv0, _, hw⟩ := isRow.cell hS (good_ints (nmC_int m.slots)) hP
  obtain ⟨ok, F1, hrow, hupd⟩ := hw w none' (isV (.int .i64 x)) (.int .i64 x) (UpdP.none hv0.2 w) (good_int _ _) ⟨rfl, fun _ h => h⟩
  have hset : ((m.slots.flatMap nmC).map isV).set (i * 2 + k) (isV (.int .i64 x)) = ((m.slots.set i p').flatMap nmC).map isV := by
    rw [← List.map_set, flatM_set nmC_len hk he m.slots i hp']
  rw [hset] at hrow
  have hrow' : slotsT (m.slots.set i p') (put w b ((getC (hp w b)).setIfInBounds (i * 2 + k) (.int .i64 x)) (getE (hp w b))) F1 v := by
    rw [slotsT, List.length_set]; exact hrow
  obtain ⟨F', h1, h2⟩ := hr _ F1 (slotsT (m.slots.set i p')) hupd hrow'
  exact ⟨b, c, by rw [← hx]; exact hld, ok, F', h1, h2⟩
end Go.Proofs.Ytgamnncehjcdiaa

namespace Go.Proofs.Ytgamnncehjcdiaa
open Go Ev Go.RowKit

def backV (m : MdV) (n : Int) : Bool × MdV := if 0 ≤ n ∧ n < m.slots.length then (match m.slots[n.toNat]? with | some p => if p.1 = 2 then (true, { m with slots := m.slots.set n.toNat (0, p.2) }) else (false, m) | none => (false, m)) else (false, m)
set_option maxHeartbeats 1000000 in
theorem c_mBack {w : World} {g : Nat} {m : MdV} {F : Fp} (I : MdI w g m F) (n : Int) : CallR Try.prog 47 [.pointer (some ⟨g, 0, none⟩), .int .i64 n] w fun v w' => v = .bool (backV m n).1 ∧ ∃ F', MdI w' g (backV m n).2 F' ∧ UpdP F F' w w' := by
  apply F47_ok
  obtain ⟨s, r, h, M⟩ := I.rd
  simp -implicitDefEqProofs only [F47]
  refine (c_mSlot M n).step ?_
  obtain ⟨A, c, rfl, hR⟩ := slots_sh M.sT
  by_cases hn : 0 ≤ n ∧ n < m.slots.length
  · obtain ⟨p, hp'⟩ : ∃ p, m.slots[n.toNat]? = some p := ⟨_, List.getElem?_eq_getElem (by omega)⟩
    obtain ⟨b, c', hl, ok, F', h1, h2⟩ := I.slotSet hp' (p' := (0, p.2)) (k := 0) (x := 0) (by omega) rfl
    have hs := M.sl
    rw [hl] at hs
    cases hs
    have ia := ia_128 (b := b) (p := 0) (n := m.slots.length) (c := c) (j := .i64) (i := n) (by omega) (by omega)
    rw [Nat.zero_add] at ia
    obtain ⟨b', o', q1, q2, q3⟩ := slot_at (c := c) hR hp'
    have hcast : ((n.toNat : Nat) : Int) = n := by omega
    rw [hcast, ia] at q1
    cases q1
    have hb : backV m n = if p.1 = 2 then (true, { m with slots := m.slots.set n.toNat (0, p.2) }) else (false, m) := by rw [backV, if_pos hn, hp']
    by_cases p2 : p.1 = 2
    · have e : (p.1 != 2) = false := by rw [p2]; rfl
      simp -implicitDefEqProofs only [ad, ax, am, aM, aN, aQ, aR, av, ak, aJ, aK, aS, aT, ay, ap, aU, aV, aX, aY, ae, ac, aj, ag, z1z, z2z, z3z, z4z, aH, af, aD, aB, aC, aA, aE, aG, z5z, z6z, ah, z7z, z8z, au, hn, and_self, z1z, af, fa_132_2, ld_128, M.sl, ia, fa_150_0, bj, q2, e]
      rw [st_3 (o := n.toNat * 2 + 0) rfl rfl ok, hb, if_pos p2]
      exact ⟨rfl, F', h1, h2⟩
    · have e : (p.1 != 2) = true := bne_iff_ne.2 p2
      simp -implicitDefEqProofs only [ad, ax, am, aM, aN, aQ, aR, av, ak, aJ, aK, aS, aT, ay, ap, aU, aV, aX, aY, ae, ac, aj, ag, z1z, z2z, z3z, z4z, aH, af, aD, aB, aC, aA, aE, aG, z5z, z6z, ah, z7z, z8z, au, hn, and_self, z1z, af, fa_132_2, ld_128, M.sl, ia, fa_150_0, bj, q2, e]
      rw [hb, if_neg p2]
      exact ⟨rfl, F, I, UpdP.refl _ _⟩
  · simp -implicitDefEqProofs only [ad, ax, am, aM, aN, aQ, aR, av, ak, aJ, aK, aS, aT, ay, ap, aU, aV, aX, aY, ae, ac, aj, ag, z1z, z2z, z3z, z4z, aH, af, aD, aB, aC, aA, aE, aG, z5z, z6z, ah, z7z, z8z, au, hn, z2z]
    rw [backV, if_neg hn]
    exact ⟨rfl, F, I, UpdP.refl _ _⟩
end Go.Proofs.Ytgamnncehjcdiaa

namespace Go.Proofs.Ytgamnncehjcdiaa
open Go Ev Go.RowKit

theorem flatM_setP {α β : Type} {f : α → List β} {z : Nat} (h : ∀ x, (f x).length = z) {k : Nat} {p : β} (hk : k < z) {x x' : α} (hx : f x' = (f x).set k p) {L : List α} {i : Nat} (hi : L[i]? = some x) : (L.flatMap f).set (i * z + k) p = (L.set i x').flatMap f := flatM_set h hk hx L i hi
theorem MdI.rgCell {w : World} {g : Nat} {m : MdV} {F : Fp} (h : MdI w g m F) {i : Nat} {r : RgV} (hr : m.rgs[i]? = some r) {k : Nat} (hk : k < 7) {P : Th} (hP : (rgT r)[k]? = some P) :
    ∃ b c v Fk, ldC (hp w g) (0 + 8) = some (.slice (some ⟨b, 0, none⟩) m.rgs.length c) ∧ ¬ Fk b ∧ (∀ x, Fk x → F x) ∧ F b ∧ b ≠ g ∧ ldC (hp w b) (i * 7 + k) = some v ∧ P w Fk v ∧
      (∀ w1 F' P' r', UpdP Fk F' w w1 → P' w1 F' v → rgT r' = (rgT r).set k P' → ∃ F1, MdI w1 g { m with rgs := m.rgs.set i r' } F1 ∧ UpdP F F1 w w1) ∧
      (∀ w1 F' P' v' r', UpdP Fk F' w w1 → OwnT P' → P' w1 F' v' → rgT r' = (rgT r).set k P' → okC (hp w1 b) (i * 7 + k + 1) = true ∧ ∃ F1, MdI (put w1 b ((getC (hp w1 b)).setIfInBounds (i * 7 + k) v') (getE (hp w1 b))) g { m with rgs := m.rgs.set i r' } F1 ∧ UpdP F F1 w (put w1 b ((getC (hp w1 b)).setIfInBounds (i * 7 + k) v') (getE (hp w1 b)))) := by
  obtain ⟨rv, Fr, hg, hng, hsub, hld, hR, hres, _⟩ := isAt.cell h (bY m) (k := 8) (P := rgsT m.rgs) rfl
  have hP' : (m.rgs.flatMap rgT)[i * 7 + k]? = some P := (flatM_get rgT_len m.rgs i r hr k hk).trans hP
  obtain ⟨b, c, v, Fk, hx, hFb, hnb, hsub2, hld2, hv, h3, h4⟩ := isRow.cell hR (good_rgL m.rgs) hP'
  refine ⟨b, c, v, Fk, by rw [← hx]; exact hld, hnb, fun x hx => hsub x (hsub2 x hx), hsub b hFb, fun e => hng (by rw [← e]; exact hFb), hld2, hv, fun w1 F' P' r' u hp hr' => ?_, fun w1 F' P' v' r' u hg' hpp hr' => ?_⟩
  · obtain ⟨F1, hrow, hupd⟩ := h3 w1 F' P' u hp
    rw [flatM_setP rgT_len hk hr' hr] at hrow
    have hrow' : rgsT (m.rgs.set i r') w1 F1 rv := by rw [rgsT, List.length_set]; exact hrow
    obtain ⟨F2, e1, e2⟩ := hres w1 F1 (rgsT (m.rgs.set i r')) hupd hrow'
    exact ⟨F2, e1, e2⟩
  · obtain ⟨ok, F1, hrow, hupd⟩ := h4 w1 F' P' v' u hg' hpp
    rw [flatM_setP rgT_len hk hr' hr] at hrow
    have hrow' : rgsT (m.rgs.set i r') (put w1 b ((getC (hp w1 b)).setIfInBounds (i * 7 + k) v') (getE (hp w1 b))) F1 rv := by rw [rgsT, List.length_set]; exact hrow
    obtain ⟨F2, e1, e2⟩ := hres _ F1 (rgsT (m.rgs.set i r')) hupd hrow'
    exact ⟨ok, F2, e1, e2⟩
theorem MdI.hdCell {w : World} {g : Nat} {m : MdV} {F : Fp} (h : MdI w g m F) {i : Nat} {d : HdV} (hd : m.hands[i]? = some d) {k : Nat} (hk : k < 2) {P : Th} (hP : (hdT d)[k]? = some P) :
    ∃ b c v Fk, ldC (hp w g) (0 + 9) = some (.slice (some ⟨b, 0, none⟩) m.hands.length c) ∧ ¬ Fk b ∧ (∀ x, Fk x → F x) ∧ F b ∧ b ≠ g ∧ ldC (hp w b) (i * 2 + k) = some v ∧ P w Fk v ∧
      (∀ w1 F' P' v' d', UpdP Fk F' w w1 → OwnT P' → P' w1 F' v' → hdT d' = (hdT d).set k P' → okC (hp w1 b) (i * 2 + k + 1) = true ∧ ∃ F1, MdI (put w1 b ((getC (hp w1 b)).setIfInBounds (i * 2 + k) v') (getE (hp w1 b))) g { m with hands := m.hands.set i d' } F1 ∧ UpdP F F1 w (put w1 b ((getC (hp w1 b)).setIfInBounds (i * 2 + k) v') (getE (hp w1 b)))) := by
  obtain ⟨rv, Fr, hg, hng, hsub, hld, hR, hres, _⟩ := isAt.cell h (bY m) (k := 9) (P := handsT m.hands) rfl
  have hP' : (m.hands.flatMap hdT)[i * 2 + k]? = some P := (flatM_get hdT_len m.hands i d hd k hk).trans hP
  obtain ⟨b, c, v, Fk, hx, hFb, hnb, hsub2, hld2, hv, h3, h4⟩ := isRow.cell hR (good_hdL m.hands) hP'
  refine ⟨b, c, v, Fk, by rw [← hx]; exact hld, hnb, fun x hx => hsub x (hsub2 x hx), hsub b hFb, fun e => hng (by rw [← e]; exact hFb), hld2, hv, fun w1 F' P' v' d' u hg' hpp hr' => ?_⟩
  obtain ⟨ok, F1, hrow, hupd⟩ := h4 w1 F' P' v' u hg' hpp
  rw [flatM_setP hdT_len hk hr' hd] at hrow
  have hrow' : handsT (m.hands.set i d') (put w1 b ((getC (hp w1 b)).setIfInBounds (i * 2 + k) v') (getE (hp w1 b))) F1 rv := by rw [handsT, List.length_set]; exact hrow
  obtain ⟨F2, e1, e2⟩ := hres _ F1 (handsT (m.hands.set i d')) hupd hrow'
  exact ⟨ok, F2, e1, e2⟩
end Go.Proofs.Ytgamnncehjcdiaa

