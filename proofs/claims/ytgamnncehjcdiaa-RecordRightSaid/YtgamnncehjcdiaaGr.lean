/- The formulas of functions of the given program, by program (gen.py). -/
import Derived.Test.YtgamnncehjcdiaaEv8
import Derived.Test.YtgamnncehjcdiaaChecked
import Derived.Eval
namespace Go.Proofs.Ytgamnncehjcdiaa
open Go Ev
set_option linter.unusedVariables false
set_option maxRecDepth 100000
theorem mixed : Try.prog.follows .mixedOrders = true := Checked.mixed Try.checked
theorem entOk : EntOk Try.prog (entR 3 143) := entOk_of (by kernel_rfl)
/-! ### rundale/rundalelaw22.RecordRight: function 7 -/
noncomputable def C7 : Code := (Try.f7.body).getD .skip
noncomputable def H7 : Hints := ⟨[(11, [0, 3, 4, 5, 6, 7, 8]), (30, [3, 12, 13]), (33, [3, 12, 13, 14]), (40, [3, 12, 13, 14, 15, 16, 17, 18])], [(12, [0, 3, 4, 5, 6, 7, 8]), (36, [3, 12, 13, 14, 15, 16])], [(35, (.ask 7 10 (.ask 8 9 (.leaf [0, 1, 2, 3, 4, 5, 6, 7, 8, 9, 10, 11]) (.leaf [0, 1, 2, 4, 5, 6, 3, 7, 9, 8, 10, 11])) (.ask 8 9 (.leaf [0, 1, 2, 4, 5, 6, 3, 8, 9, 10, 7, 11]) (.leaf [0, 1, 2, 4, 5, 6, 3, 9, 8, 10, 7, 11])))), (42, (.leaf [0, 1, 2, 3, 4, 5, 6, 7, 8, 9, 10, 11, 12, 13, 14, 15, 16, 17]))]⟩
noncomputable def T7_0 : List It := [.lp (nav [1, 1, 1, 1, 1, 1, 1, 0, 1, 4, 5] C7), .blk 0, .jn (nav [1, 1, 1, 1, 1, 1, 1, 1] C7)]
noncomputable def T7_1 : List It := [.jn (nav [1, 1, 1, 1, 1, 1, 1, 0, 1, 4, 5, 1, 1] C7), .lp (nav [1, 1, 1, 1, 1, 1, 1, 0, 1, 4, 5] C7), .blk 0, .jn (nav [1, 1, 1, 1, 1, 1, 1, 1] C7)]
noncomputable def T7_2 : List It := [.lp (nav [1, 1, 1, 1, 1, 1, 1, 1, 1, 1, 0, 1, 4, 5] C7), .blk 3, .jn (nav [1, 1, 1, 1, 1, 1, 1, 1, 1, 1, 1] C7)]
noncomputable def T7_3 : List It := [.lp (nav [1, 1, 1, 1, 1, 1, 1, 1, 1, 1, 0, 1, 4, 5, 1, 0, 4, 1, 4, 5] C7), .blk 5, .blk 4, .jn (nav [1, 1, 1, 1, 1, 1, 1, 1, 1, 1, 0, 1, 4, 5, 1, 1] C7), .lp (nav [1, 1, 1, 1, 1, 1, 1, 1, 1, 1, 0, 1, 4, 5] C7), .blk 3, .jn (nav [1, 1, 1, 1, 1, 1, 1, 1, 1, 1, 1] C7)]
noncomputable def T7_4 : List It := [.jn (nav [1, 1, 1, 1, 1, 1, 1, 1, 1, 1, 0, 1, 4, 5, 1, 0, 4, 1, 4, 5, 1, 0, 4, 1] C7), .blk 6, .jn (nav [1, 1, 1, 1, 1, 1, 1, 1, 1, 1, 0, 1, 4, 5, 1, 0, 4, 1, 4, 5, 1, 1] C7), .lp (nav [1, 1, 1, 1, 1, 1, 1, 1, 1, 1, 0, 1, 4, 5, 1, 0, 4, 1, 4, 5] C7), .blk 5, .blk 4, .jn (nav [1, 1, 1, 1, 1, 1, 1, 1, 1, 1, 0, 1, 4, 5, 1, 1] C7), .lp (nav [1, 1, 1, 1, 1, 1, 1, 1, 1, 1, 0, 1, 4, 5] C7), .blk 3, .jn (nav [1, 1, 1, 1, 1, 1, 1, 1, 1, 1, 1] C7)]
noncomputable def T7_5 : List It := [.lp (nav [1, 1, 1, 1, 1, 1, 1, 1, 1, 1, 0, 1, 4, 5, 1, 0, 4, 1, 4, 5, 1, 0, 4, 1, 1, 1, 1, 4, 5] C7), .blk 7, .blk 6, .jn (nav [1, 1, 1, 1, 1, 1, 1, 1, 1, 1, 0, 1, 4, 5, 1, 0, 4, 1, 4, 5, 1, 1] C7), .lp (nav [1, 1, 1, 1, 1, 1, 1, 1, 1, 1, 0, 1, 4, 5, 1, 0, 4, 1, 4, 5] C7), .blk 5, .blk 4, .jn (nav [1, 1, 1, 1, 1, 1, 1, 1, 1, 1, 0, 1, 4, 5, 1, 1] C7), .lp (nav [1, 1, 1, 1, 1, 1, 1, 1, 1, 1, 0, 1, 4, 5] C7), .blk 3, .jn (nav [1, 1, 1, 1, 1, 1, 1, 1, 1, 1, 1] C7)]
/-- rundale/rundalelaw22.RecordRight, from a loop's head on -/
def P7_0 (x0 x3 x4 x5 x6 x7 x8 : Value) (w : World) (Q : Value → World → Prop) : Prop := Part Try.prog 7 T7_0 [0, 3, 4, 5, 6, 7, 8] [x0, x3, x4, x5, x6, x7, x8] w Q
/-- rundale/rundalelaw22.RecordRight, from a join on -/
def P7_1 (x0 x3 x4 x5 x6 x7 x8 : Value) (w : World) (Q : Value → World → Prop) : Prop := Part Try.prog 7 T7_1 [0, 3, 4, 5, 6, 7, 8] [x0, x3, x4, x5, x6, x7, x8] w Q
/-- rundale/rundalelaw22.RecordRight, from a loop's head on -/
def P7_2 (x3 x12 x13 : Value) (w : World) (Q : Value → World → Prop) : Prop := Part Try.prog 7 T7_2 [3, 12, 13] [x3, x12, x13] w Q
/-- rundale/rundalelaw22.RecordRight, from a loop's head on -/
def P7_3 (x3 x12 x13 x14 : Value) (w : World) (Q : Value → World → Prop) : Prop := Part Try.prog 7 T7_3 [3, 12, 13, 14] [x3, x12, x13, x14] w Q
/-- rundale/rundalelaw22.RecordRight, from a join on -/
def P7_4 (x3 x12 x13 x14 x15 x16 : Value) (w : World) (Q : Value → World → Prop) : Prop := Part Try.prog 7 T7_4 [3, 12, 13, 14, 15, 16] [x3, x12, x13, x14, x15, x16] w Q
/-- rundale/rundalelaw22.RecordRight, from a loop's head on -/
def P7_5 (x3 x12 x13 x14 x15 x16 x17 x18 : Value) (w : World) (Q : Value → World → Prop) : Prop := Part Try.prog 7 T7_5 [3, 12, 13, 14, 15, 16, 17, 18] [x3, x12, x13, x14, x15, x16, x17, x18] w Q
def F7 (a0 : Value) (w : World) (Q : Value → World → Prop) : Prop :=
  CallR Try.prog 23 [] w fun t19 w =>
  wpB (pureRun Try.prog (Op.unary .not t19)) fun t21 =>
  cnd t21
  (Q (Go.Value.bool false) w)
  (wpB (pureRun Try.prog (Builtin.len_ #[23] 3 #[a0])) fun t23 =>
  wpB (bp Try.prog .gtr 3 t23 (Go.Value.int Go.IntKind.i64 60)) fun t24 =>
  cnd t24
  (Q t19 w)
  (CallR Try.prog 24 [(Go.Value.int Go.IntKind.i64 3)] w fun t26 w =>
  wpB (be Try.prog .eql 43 (.tmp 27) (.const (Go.Value.pointer none)) t26 (Go.Value.pointer none)) fun t28 =>
  cnd t28
  (Q (Go.Value.bool false) w)
  (effv Try.prog (Instr.alloc 45 true (.tuple #[])) w fun t5 w =>
  effv Try.prog (Instr.alloc 45 true (.tuple #[])) w fun t6 w =>
  effv Try.prog (Instr.alloc 45 true (.tuple #[])) w fun t7 w =>
  P7_0 a0 t19 t26 t5 t6 t7 (Go.Value.int Go.IntKind.i64 0) w Q)))
def L7_0 (x0 x3 x4 x5 x6 x7 x8 : Value) (w : World) (Q : Value → World → Prop) : Prop :=
  wpB (pureRun Try.prog (Builtin.len_ #[23] 3 #[x0])) fun t31 =>
  wpB (bp Try.prog .lss 3 x8 t31) fun t32 =>
  cnd t32
  (wpB (pureRun Try.prog (Instr.indexAt 23 x0 x8)) fun t37 =>
  wpB (ldv Try.prog 3 t37 w) fun t38 =>
  CallR Try.prog 22 [t38, (Go.Value.int Go.IntKind.i64 3)] w fun t39 w =>
  CallR Try.prog 25 [x4, t39] w fun t51 w =>
  wpB (bp Try.prog .lss 3 t51 (Go.Value.int Go.IntKind.i64 0)) fun t52 =>
  cnd t52
  (wpB (pureRun Try.prog (Instr.indexAt 45 x7 t39)) fun t57 =>
  wpB (ldv Try.prog 3 t57 w) fun t58 =>
  wpB (pureRun Try.prog (Instr.build 40 #[(0, (Go.Value.int Go.IntKind.i64 11))])) fun t59 =>
  CallR Try.prog 26 [x4, t39, t58, t59, x8] w fun t61 w =>
  wpB (pureRun Try.prog (Instr.extract t61 0)) fun t62 =>
  wpB (pureRun Try.prog (Instr.extract t61 1)) fun t63 =>
  wpB (be Try.prog .neq 29 (.tmp 64) (.const (Go.Value.int Go.IntKind.i64 0)) t63 (Go.Value.int Go.IntKind.i64 0)) fun t65 =>
  cnd t65
  (Q (Go.Value.bool false) w)
  (wpB (pureRun Try.prog (Instr.indexAt 45 x5 t39)) fun t69 =>
  effu Try.prog (Instr.storeAt 3 t69 t62) w fun w =>
  wpB (pureRun Try.prog (Instr.indexAt 45 x6 t39)) fun t70 =>
  effu Try.prog (Instr.storeAt 3 t70 (Go.Value.int Go.IntKind.i64 0)) w fun w =>
  wpB (pureRun Try.prog (Instr.indexAt 45 x7 t39)) fun t72 =>
  wpB (ldv Try.prog 3 t72 w) fun t73 =>
  wpB (bp Try.prog .add 3 t73 (Go.Value.int Go.IntKind.i64 1)) fun t74 =>
  wpB (pureRun Try.prog (Instr.indexAt 45 x7 t39)) fun t75 =>
  effu Try.prog (Instr.storeAt 3 t75 t74) w fun w =>
  P7_1 x0 x3 x4 x5 x6 x7 x8 w Q))
  (wpB (pureRun Try.prog (Instr.indexAt 45 x6 t39)) fun t78 =>
  wpB (ldv Try.prog 3 t78 w) fun t79 =>
  wpB (be Try.prog .eql 3 (.tmp 79) (.const (Go.Value.int Go.IntKind.i64 0)) t79 (Go.Value.int Go.IntKind.i64 0)) fun t80 =>
  cnd t80
  (wpB (pureRun Try.prog (Instr.indexAt 45 x5 t39)) fun t83 =>
  wpB (ldv Try.prog 3 t83 w) fun t84 =>
  wpB (pureRun Try.prog (Instr.build 53 #[])) fun t86 =>
  CallR Try.prog 27 [x4, t84, x8, t86] w fun t87 w =>
  wpB (be Try.prog .neq 29 (.tmp 87) (.const (Go.Value.int Go.IntKind.i64 0)) t87 (Go.Value.int Go.IntKind.i64 0)) fun t88 =>
  cnd t88
  (Q (Go.Value.bool false) w)
  (wpB (pureRun Try.prog (Instr.indexAt 45 x6 t39)) fun t90 =>
  effu Try.prog (Instr.storeAt 3 t90 (Go.Value.int Go.IntKind.i64 1)) w fun w =>
  P7_1 x0 x3 x4 x5 x6 x7 x8 w Q))
  (wpB (pureRun Try.prog (Instr.indexAt 45 x5 t39)) fun t42 =>
  wpB (ldv Try.prog 3 t42 w) fun t43 =>
  wpB (pureRun Try.prog (Instr.build 53 #[])) fun t45 =>
  CallR Try.prog 28 [x4, t43, x8, t45] w fun t46 w =>
  wpB (be Try.prog .neq 29 (.tmp 46) (.const (Go.Value.int Go.IntKind.i64 0)) t46 (Go.Value.int Go.IntKind.i64 0)) fun t47 =>
  cnd t47
  (Q (Go.Value.bool false) w)
  (P7_1 x0 x3 x4 x5 x6 x7 x8 w Q))))
  (CallR Try.prog 29 [x4] w fun t92 w =>
  CallR Try.prog 30 [t92] w fun t94 w =>
  wpB (pureRun Try.prog (Op.unary .not t94)) fun t95 =>
  cnd t95
  (Q (Go.Value.bool false) w)
  (P7_2 x3 t92 (Go.Value.int Go.IntKind.i64 0) w Q))
def L7_1 (x0 x3 x4 x5 x6 x7 x8 : Value) (w : World) (Q : Value → World → Prop) : Prop :=
  wpB (bp Try.prog .add 3 x8 (Go.Value.int Go.IntKind.i64 1)) fun t34 =>
  P7_0 x0 x3 x4 x5 x6 x7 t34 w Q
def L7_2 (x3 x12 x13 : Value) (w : World) (Q : Value → World → Prop) : Prop :=
  wpB (pureRun Try.prog (Builtin.len_ #[54] 3 #[x12])) fun t98 =>
  wpB (bp Try.prog .lss 3 x13 t98) fun t99 =>
  cnd t99
  (P7_3 x3 x12 x13 (Go.Value.int Go.IntKind.i64 0) w Q)
  (Q x3 w)
def L7_3 (x3 x12 x13 x14 : Value) (w : World) (Q : Value → World → Prop) : Prop :=
  wpB (pureRun Try.prog (Builtin.len_ #[54] 3 #[x12])) fun t104 =>
  wpB (bp Try.prog .lss 3 x14 t104) fun t105 =>
  cnd t105
  (((wpB (pureRun Try.prog (Instr.indexAt 54 x12 x13)) fun t110 =>
  wpB (ldv Try.prog 58 t110 w.drew) fun t111 =>
  wpB (pureRun Try.prog (Instr.indexAt 54 x12 x14)) fun t114 =>
  wpB (ldv Try.prog 58 t114 w.drew) fun t115 =>
  effv Try.prog (Instr.alloc 58 true (.tuple #[])) w.drew fun t15 w =>
  effv Try.prog (Instr.alloc 58 true (.tuple #[])) w fun t16 w =>
  effu Try.prog (Instr.storeAt 58 t15 t111) w fun w =>
  effu Try.prog (Instr.storeAt 58 t16 t115) w fun w =>
  P7_4 x3 x12 x13 x14 t15 t16 w Q) ∧
  (wpB (pureRun Try.prog (Instr.indexAt 54 x12 x13)) fun t110_1 =>
  wpB (pureRun Try.prog (Instr.indexAt 54 x12 x14)) fun t114_1 =>
  wpB (ldv Try.prog 58 t110_1 w.drew) fun t111_1 =>
  wpB (ldv Try.prog 58 t114_1 w.drew) fun t115_1 =>
  effv Try.prog (Instr.alloc 58 true (.tuple #[])) w.drew fun t16_1 w =>
  effv Try.prog (Instr.alloc 58 true (.tuple #[])) w fun t15_1 w =>
  effu Try.prog (Instr.storeAt 58 t15_1 t111_1) w fun w =>
  effu Try.prog (Instr.storeAt 58 t16_1 t115_1) w fun w =>
  P7_4 x3 x12 x13 x14 t15_1 t16_1 w Q)) ∧
  ((wpB (pureRun Try.prog (Instr.indexAt 54 x12 x13)) fun t110_2 =>
  wpB (pureRun Try.prog (Instr.indexAt 54 x12 x14)) fun t114_2 =>
  wpB (ldv Try.prog 58 t110_2 w.drew) fun t111_2 =>
  effv Try.prog (Instr.alloc 58 true (.tuple #[])) w.drew fun t15_2 w =>
  effv Try.prog (Instr.alloc 58 true (.tuple #[])) w fun t16_2 w =>
  effu Try.prog (Instr.storeAt 58 t15_2 t111_2) w fun w =>
  wpB (ldv Try.prog 58 t114_2 w) fun t115_2 =>
  effu Try.prog (Instr.storeAt 58 t16_2 t115_2) w fun w =>
  P7_4 x3 x12 x13 x14 t15_2 t16_2 w Q) ∧
  (wpB (pureRun Try.prog (Instr.indexAt 54 x12 x13)) fun t110_3 =>
  wpB (pureRun Try.prog (Instr.indexAt 54 x12 x14)) fun t114_3 =>
  wpB (ldv Try.prog 58 t110_3 w.drew) fun t111_3 =>
  effv Try.prog (Instr.alloc 58 true (.tuple #[])) w.drew fun t16_3 w =>
  effv Try.prog (Instr.alloc 58 true (.tuple #[])) w fun t15_3 w =>
  effu Try.prog (Instr.storeAt 58 t15_3 t111_3) w fun w =>
  wpB (ldv Try.prog 58 t114_3 w) fun t115_3 =>
  effu Try.prog (Instr.storeAt 58 t16_3 t115_3) w fun w =>
  P7_4 x3 x12 x13 x14 t15_3 t16_3 w Q)))
  (wpB (bp Try.prog .add 3 x13 (Go.Value.int Go.IntKind.i64 1)) fun t101 =>
  P7_2 x3 x12 t101 w Q)
def L7_4 (x3 x12 x13 x14 x15 x16 : Value) (w : World) (Q : Value → World → Prop) : Prop :=
  wpB (pureRun Try.prog (Instr.fieldAt 58 x15 6)) fun t116 =>
  wpB (ldv Try.prog 3 t116 w) fun t117 =>
  wpB (bp Try.prog .geq 3 t117 (Go.Value.int Go.IntKind.i64 0)) fun t118 =>
  wpB (gd t118 true (pureRun Try.prog (Instr.fieldAt 58 x15 6))) fun t120 =>
  wpB (gd t118 true (ldv Try.prog 3 t120 w)) fun t121 =>
  wpB (gd t118 true (pureRun Try.prog (Instr.fieldAt 58 x16 3))) fun t122 =>
  wpB (gd t118 true (ldv Try.prog 3 t122 w)) fun t123 =>
  wpB (gd t118 true (bp Try.prog .lss 3 t121 t123)) fun t124 =>
  wpB (pickv t118 (some t124) (some (Go.Value.bool false))) fun t125 =>
  wpB (ldv Try.prog 58 x15 w) fun t126 =>
  wpB (ldv Try.prog 58 x16 w) fun t127 =>
  CallR Try.prog 31 [t126, t127] w fun t128 w =>
  wpB (be Try.prog .neq 4 (.tmp 128) (.tmp 129) t128 t125) fun t130 =>
  wpB (gd (gv t130 false (gv t130 false t125)) true (ldv Try.prog 58 x16 w)) fun t134 =>
  wpB (gd (gv t130 false (gv t130 false t125)) true (ldv Try.prog 58 x15 w)) fun t135 =>
  gE (gv t130 false (gv t130 false t125)) true (CallR Try.prog 31 [t134, t135] w) (fun t136 w =>
  wpB (gd (gv (gv t130 false (gv t130 false t125)) true t136) false (bp Try.prog .geq 3 (gv (gv (gv t130 false (gv t130 false t125)) true t136) false x13) (gv (gv (gv t130 false (gv t130 false t125)) true t136) false x14))) fun t140 =>
  wpB (gd (gv t130 false (gv t130 false t125)) true (pickv (gv (gv t130 false (gv t130 false t125)) true t136) (some (Go.Value.bool true)) (some t140))) fun t141 =>
  wpB (gd t130 false (pickv (gv t130 false (gv t130 false t125)) (some t141) (some (Go.Value.bool false)))) fun t142 =>
  wpB (pickv t130 (some (Go.Value.bool true)) (some t142)) fun t143 =>
  cnd t143
  (Q (Go.Value.bool false) w)
  (P7_5 x3 x12 x13 x14 x15 x16 t125 (Go.Value.int Go.IntKind.i64 0) w Q)) w
def L7_5 (x3 x12 x13 x14 x15 x16 x17 x18 : Value) (w : World) (Q : Value → World → Prop) : Prop :=
  wpB (pureRun Try.prog (Builtin.len_ #[54] 3 #[x12])) fun t146 =>
  wpB (bp Try.prog .lss 3 x18 t146) fun t147 =>
  cnd t147
  (wpB (gd x17 true (ldv Try.prog 58 x16 w.drew)) fun t152 =>
  wpB (gd x17 true (pureRun Try.prog (Instr.indexAt 54 (gv x17 true x12) (gv x17 true x18)))) fun t155 =>
  wpB (gd x17 true (ldv Try.prog 58 t155 w.drew)) fun t156 =>
  gE x17 true (CallR Try.prog 31 [t152, t156] w.drew) (fun t157 w =>
  wpB (pickv x17 (some t157) (some (Go.Value.bool false))) fun t158 =>
  wpB (gd t158 true (ldv Try.prog 58 x15 w)) fun t160 =>
  wpB (gd t158 true (pureRun Try.prog (Instr.indexAt 54 (gv t158 true x12) (gv t158 true x18)))) fun t163 =>
  wpB (gd t158 true (ldv Try.prog 58 t163 w)) fun t164 =>
  gE t158 true (CallR Try.prog 31 [t160, t164] w) (fun t165 w =>
  wpB (gd t158 true (pureRun Try.prog (Op.unary .not t165))) fun t166 =>
  wpB (pickv t158 (some t166) (some (Go.Value.bool false))) fun t167 =>
  cnd t167
  (Q (Go.Value.bool false) w)
  (wpB (bp Try.prog .add 3 x18 (Go.Value.int Go.IntKind.i64 1)) fun t149 =>
  P7_5 x3 x12 x13 x14 x15 x16 x17 t149 w Q)) w) w.drew)
  (wpB (bp Try.prog .add 3 x14 (Go.Value.int Go.IntKind.i64 1)) fun t107 =>
  P7_3 x3 x12 x13 t107 w Q)
theorem F7_ok {a0 : Value} {w : World} {Q : Value → World → Prop} (h : F7 a0 w Q) : CallR Try.prog 7 [a0] w Q :=
  have e : evC Try.prog (entR 3 143) 7 169 H7 Q C7 [] (entryE 0 [a0]) w (contT Try.prog (entR 3 143) 7 169 H7 Try.f7.results.toList Q []) = F7 a0 w Q := by kernel_rfl
  call_of (fn := Try.f7) mixed entOk Try.func7 (c := C7) rfl H7 (Nat.le_of_ble_eq_true rfl) (e.mpr h)
theorem L7_0_ok {x0 x3 x4 x5 x6 x7 x8 : Value} {w : World} {Q : Value → World → Prop} (h : L7_0 x0 x3 x4 x5 x6 x7 x8 w Q) : P7_0 x0 x3 x4 x5 x6 x7 x8 w Q :=
  have e : evC Try.prog (entR 3 143) 7 169 H7 Q (nav [1, 1, 1, 1, 1, 1, 1, 0, 1, 4, 5] C7) T7_0 (unpack [0, 3, 4, 5, 6, 7, 8] [x0, x3, x4, x5, x6, x7, x8]) w (contT Try.prog (entR 3 143) 7 169 H7 Try.f7.results.toList Q T7_0) = L7_0 x0 x3 x4 x5 x6 x7 x8 w Q := by kernel_rfl
  part_lp (fn := Try.f7) mixed entOk Try.func7 H7 (c := (nav [1, 1, 1, 1, 1, 1, 1, 0, 1, 4, 5] C7)) (t := [.blk 0, .jn (nav [1, 1, 1, 1, 1, 1, 1, 1] C7)]) (e.mpr h)
theorem L7_1_ok {x0 x3 x4 x5 x6 x7 x8 : Value} {w : World} {Q : Value → World → Prop} (h : L7_1 x0 x3 x4 x5 x6 x7 x8 w Q) : P7_1 x0 x3 x4 x5 x6 x7 x8 w Q :=
  have e : evC Try.prog (entR 3 143) 7 169 H7 Q (nav [1, 1, 1, 1, 1, 1, 1, 0, 1, 4, 5, 1, 1] C7) [.lp (nav [1, 1, 1, 1, 1, 1, 1, 0, 1, 4, 5] C7), .blk 0, .jn (nav [1, 1, 1, 1, 1, 1, 1, 1] C7)] (unpack [0, 3, 4, 5, 6, 7, 8] [x0, x3, x4, x5, x6, x7, x8]) w (contT Try.prog (entR 3 143) 7 169 H7 Try.f7.results.toList Q [.lp (nav [1, 1, 1, 1, 1, 1, 1, 0, 1, 4, 5] C7), .blk 0, .jn (nav [1, 1, 1, 1, 1, 1, 1, 1] C7)]) = L7_1 x0 x3 x4 x5 x6 x7 x8 w Q := by kernel_rfl
  part_jn (fn := Try.f7) mixed entOk Try.func7 H7 (c := (nav [1, 1, 1, 1, 1, 1, 1, 0, 1, 4, 5, 1, 1] C7)) (t := [.lp (nav [1, 1, 1, 1, 1, 1, 1, 0, 1, 4, 5] C7), .blk 0, .jn (nav [1, 1, 1, 1, 1, 1, 1, 1] C7)]) (e.mpr h)
theorem L7_2_ok {x3 x12 x13 : Value} {w : World} {Q : Value → World → Prop} (h : L7_2 x3 x12 x13 w Q) : P7_2 x3 x12 x13 w Q :=
  have e : evC Try.prog (entR 3 143) 7 169 H7 Q (nav [1, 1, 1, 1, 1, 1, 1, 1, 1, 1, 0, 1, 4, 5] C7) T7_2 (unpack [3, 12, 13] [x3, x12, x13]) w (contT Try.prog (entR 3 143) 7 169 H7 Try.f7.results.toList Q T7_2) = L7_2 x3 x12 x13 w Q := by kernel_rfl
  part_lp (fn := Try.f7) mixed entOk Try.func7 H7 (c := (nav [1, 1, 1, 1, 1, 1, 1, 1, 1, 1, 0, 1, 4, 5] C7)) (t := [.blk 3, .jn (nav [1, 1, 1, 1, 1, 1, 1, 1, 1, 1, 1] C7)]) (e.mpr h)
theorem L7_3_ok {x3 x12 x13 x14 : Value} {w : World} {Q : Value → World → Prop} (h : L7_3 x3 x12 x13 x14 w Q) : P7_3 x3 x12 x13 x14 w Q :=
  have e : evC Try.prog (entR 3 143) 7 169 H7 Q (nav [1, 1, 1, 1, 1, 1, 1, 1, 1, 1, 0, 1, 4, 5, 1, 0, 4, 1, 4, 5] C7) T7_3 (unpack [3, 12, 13, 14] [x3, x12, x13, x14]) w (contT Try.prog (entR 3 143) 7 169 H7 Try.f7.results.toList Q T7_3) = L7_3 x3 x12 x13 x14 w Q := by kernel_rfl
  part_lp (fn := Try.f7) mixed entOk Try.func7 H7 (c := (nav [1, 1, 1, 1, 1, 1, 1, 1, 1, 1, 0, 1, 4, 5, 1, 0, 4, 1, 4, 5] C7)) (t := [.blk 5, .blk 4, .jn (nav [1, 1, 1, 1, 1, 1, 1, 1, 1, 1, 0, 1, 4, 5, 1, 1] C7), .lp (nav [1, 1, 1, 1, 1, 1, 1, 1, 1, 1, 0, 1, 4, 5] C7), .blk 3, .jn (nav [1, 1, 1, 1, 1, 1, 1, 1, 1, 1, 1] C7)]) (e.mpr h)
theorem L7_4_ok {x3 x12 x13 x14 x15 x16 : Value} {w : World} {Q : Value → World → Prop} (h : L7_4 x3 x12 x13 x14 x15 x16 w Q) : P7_4 x3 x12 x13 x14 x15 x16 w Q :=
  have e : evC Try.prog (entR 3 143) 7 169 H7 Q (nav [1, 1, 1, 1, 1, 1, 1, 1, 1, 1, 0, 1, 4, 5, 1, 0, 4, 1, 4, 5, 1, 0, 4, 1] C7) [.blk 6, .jn (nav [1, 1, 1, 1, 1, 1, 1, 1, 1, 1, 0, 1, 4, 5, 1, 0, 4, 1, 4, 5, 1, 1] C7), .lp (nav [1, 1, 1, 1, 1, 1, 1, 1, 1, 1, 0, 1, 4, 5, 1, 0, 4, 1, 4, 5] C7), .blk 5, .blk 4, .jn (nav [1, 1, 1, 1, 1, 1, 1, 1, 1, 1, 0, 1, 4, 5, 1, 1] C7), .lp (nav [1, 1, 1, 1, 1, 1, 1, 1, 1, 1, 0, 1, 4, 5] C7), .blk 3, .jn (nav [1, 1, 1, 1, 1, 1, 1, 1, 1, 1, 1] C7)] (unpack [3, 12, 13, 14, 15, 16] [x3, x12, x13, x14, x15, x16]) w (contT Try.prog (entR 3 143) 7 169 H7 Try.f7.results.toList Q [.blk 6, .jn (nav [1, 1, 1, 1, 1, 1, 1, 1, 1, 1, 0, 1, 4, 5, 1, 0, 4, 1, 4, 5, 1, 1] C7), .lp (nav [1, 1, 1, 1, 1, 1, 1, 1, 1, 1, 0, 1, 4, 5, 1, 0, 4, 1, 4, 5] C7), .blk 5, .blk 4, .jn (nav [1, 1, 1, 1, 1, 1, 1, 1, 1, 1, 0, 1, 4, 5, 1, 1] C7), .lp (nav [1, 1, 1, 1, 1, 1, 1, 1, 1, 1, 0, 1, 4, 5] C7), .blk 3, .jn (nav [1, 1, 1, 1, 1, 1, 1, 1, 1, 1, 1] C7)]) = L7_4 x3 x12 x13 x14 x15 x16 w Q := by kernel_rfl
  part_jn (fn := Try.f7) mixed entOk Try.func7 H7 (c := (nav [1, 1, 1, 1, 1, 1, 1, 1, 1, 1, 0, 1, 4, 5, 1, 0, 4, 1, 4, 5, 1, 0, 4, 1] C7)) (t := [.blk 6, .jn (nav [1, 1, 1, 1, 1, 1, 1, 1, 1, 1, 0, 1, 4, 5, 1, 0, 4, 1, 4, 5, 1, 1] C7), .lp (nav [1, 1, 1, 1, 1, 1, 1, 1, 1, 1, 0, 1, 4, 5, 1, 0, 4, 1, 4, 5] C7), .blk 5, .blk 4, .jn (nav [1, 1, 1, 1, 1, 1, 1, 1, 1, 1, 0, 1, 4, 5, 1, 1] C7), .lp (nav [1, 1, 1, 1, 1, 1, 1, 1, 1, 1, 0, 1, 4, 5] C7), .blk 3, .jn (nav [1, 1, 1, 1, 1, 1, 1, 1, 1, 1, 1] C7)]) (e.mpr h)
theorem L7_5_ok {x3 x12 x13 x14 x15 x16 x17 x18 : Value} {w : World} {Q : Value → World → Prop} (h : L7_5 x3 x12 x13 x14 x15 x16 x17 x18 w Q) : P7_5 x3 x12 x13 x14 x15 x16 x17 x18 w Q :=
  have e : evC Try.prog (entR 3 143) 7 169 H7 Q (nav [1, 1, 1, 1, 1, 1, 1, 1, 1, 1, 0, 1, 4, 5, 1, 0, 4, 1, 4, 5, 1, 0, 4, 1, 1, 1, 1, 4, 5] C7) T7_5 (unpack [3, 12, 13, 14, 15, 16, 17, 18] [x3, x12, x13, x14, x15, x16, x17, x18]) w (contT Try.prog (entR 3 143) 7 169 H7 Try.f7.results.toList Q T7_5) = L7_5 x3 x12 x13 x14 x15 x16 x17 x18 w Q := by kernel_rfl
  part_lp (fn := Try.f7) mixed entOk Try.func7 H7 (c := (nav [1, 1, 1, 1, 1, 1, 1, 1, 1, 1, 0, 1, 4, 5, 1, 0, 4, 1, 4, 5, 1, 0, 4, 1, 1, 1, 1, 4, 5] C7)) (t := [.blk 7, .blk 6, .jn (nav [1, 1, 1, 1, 1, 1, 1, 1, 1, 1, 0, 1, 4, 5, 1, 0, 4, 1, 4, 5, 1, 1] C7), .lp (nav [1, 1, 1, 1, 1, 1, 1, 1, 1, 1, 0, 1, 4, 5, 1, 0, 4, 1, 4, 5] C7), .blk 5, .blk 4, .jn (nav [1, 1, 1, 1, 1, 1, 1, 1, 1, 1, 0, 1, 4, 5, 1, 1] C7), .lp (nav [1, 1, 1, 1, 1, 1, 1, 1, 1, 1, 0, 1, 4, 5] C7), .blk 3, .jn (nav [1, 1, 1, 1, 1, 1, 1, 1, 1, 1, 1] C7)]) (e.mpr h)

/-! ### rundale/rundalelaw22.RecordPlays: function 8 -/
noncomputable def C8 : Code := (Try.f8.body).getD .skip
noncomputable def H8 : Hints := ⟨[(12, [1, 5, 6, 7, 8, 9])], [(19, [1, 5, 6, 7, 8, 9, 10, 11]), (21, [1, 5, 6, 7, 8, 9, 75]), (24, [1, 5, 6, 7, 8, 9, 10, 11, 62, 76]), (31, [1, 5, 6, 7, 8, 9, 127]), (35, [1, 5, 6, 7, 8, 9]), (37, [1, 5, 6, 7, 8, 9, 158])], [(20, (.ask 10 5 (.leaf [0, 1, 2, 3, 6, 7, 8, 9, 4, 10, 5, 11, 12]) (.leaf [0, 1, 2, 3, 4, 5, 6, 7, 8, 9, 10, 11, 12]))), (30, (.ask 10 5 (.leaf [0, 1, 2, 3, 6, 7, 8, 9, 4, 10, 5, 11, 12]) (.leaf [0, 1, 2, 3, 4, 5, 6, 7, 8, 9, 10, 11, 12]))), (36, (.ask 13 9 (.leaf [0, 1, 3, 4, 2, 5, 6, 7, 8, 10, 11, 12, 13, 9, 14, 15, 16]) (.leaf [0, 1, 2, 3, 4, 5, 6, 7, 8, 9, 10, 11, 12, 13, 14, 15, 16])))]⟩
noncomputable def T8_0 : List It := [.lp (nav [1, 1, 1, 1, 1, 1, 1, 1, 0, 1, 4, 5] C8), .blk 0, .jn (nav [1, 1, 1, 1, 1, 1, 1, 1, 1] C8)]
noncomputable def T8_1 : List It := [.jn (nav [1, 1, 1, 1, 1, 1, 1, 1, 0, 1, 4, 5, 1, 0, 4, 1, 1, 1, 1] C8), .blk 1, .jn (nav [1, 1, 1, 1, 1, 1, 1, 1, 0, 1, 4, 5, 1, 1] C8), .lp (nav [1, 1, 1, 1, 1, 1, 1, 1, 0, 1, 4, 5] C8), .blk 0, .jn (nav [1, 1, 1, 1, 1, 1, 1, 1, 1] C8)]
noncomputable def T8_2 : List It := [.jn (nav [1, 1, 1, 1, 1, 1, 1, 1, 0, 1, 4, 5, 1, 0, 4, 1, 1, 1, 1, 0, 1, 4, 1] C8), .blk 2, .jn (nav [1, 1, 1, 1, 1, 1, 1, 1, 0, 1, 4, 5, 1, 0, 4, 1, 1, 1, 1, 1] C8), .blk 1, .jn (nav [1, 1, 1, 1, 1, 1, 1, 1, 0, 1, 4, 5, 1, 1] C8), .lp (nav [1, 1, 1, 1, 1, 1, 1, 1, 0, 1, 4, 5] C8), .blk 0, .jn (nav [1, 1, 1, 1, 1, 1, 1, 1, 1] C8)]
noncomputable def T8_3 : List It := [.jn (nav [1, 1, 1, 1, 1, 1, 1, 1, 0, 1, 4, 5, 1, 0, 4, 1, 1, 1, 1, 1] C8), .blk 1, .jn (nav [1, 1, 1, 1, 1, 1, 1, 1, 0, 1, 4, 5, 1, 1] C8), .lp (nav [1, 1, 1, 1, 1, 1, 1, 1, 0, 1, 4, 5] C8), .blk 0, .jn (nav [1, 1, 1, 1, 1, 1, 1, 1, 1] C8)]
noncomputable def T8_4 : List It := [.jn (nav [1, 1, 1, 1, 1, 1, 1, 1, 0, 1, 4, 5, 1, 0, 4, 1, 1, 1, 1, 0, 1, 4, 1, 3, 1, 2, 1] C8), .blk 2, .jn (nav [1, 1, 1, 1, 1, 1, 1, 1, 0, 1, 4, 5, 1, 0, 4, 1, 1, 1, 1, 1] C8), .blk 1, .jn (nav [1, 1, 1, 1, 1, 1, 1, 1, 0, 1, 4, 5, 1, 1] C8), .lp (nav [1, 1, 1, 1, 1, 1, 1, 1, 0, 1, 4, 5] C8), .blk 0, .jn (nav [1, 1, 1, 1, 1, 1, 1, 1, 1] C8)]
noncomputable def T8_5 : List It := [.jn (nav [1, 1, 1, 1, 1, 1, 1, 1, 0, 1, 4, 5, 1, 0, 4, 1, 1, 1, 1, 0, 1, 4, 1, 3, 1, 3, 1, 3, 1] C8), .blk 2, .jn (nav [1, 1, 1, 1, 1, 1, 1, 1, 0, 1, 4, 5, 1, 0, 4, 1, 1, 1, 1, 1] C8), .blk 1, .jn (nav [1, 1, 1, 1, 1, 1, 1, 1, 0, 1, 4, 5, 1, 1] C8), .lp (nav [1, 1, 1, 1, 1, 1, 1, 1, 0, 1, 4, 5] C8), .blk 0, .jn (nav [1, 1, 1, 1, 1, 1, 1, 1, 1] C8)]
noncomputable def T8_6 : List It := [.jn (nav [1, 1, 1, 1, 1, 1, 1, 1, 0, 1, 4, 5, 1, 0, 4, 1, 1, 1, 1, 1, 1, 1] C8), .blk 1, .jn (nav [1, 1, 1, 1, 1, 1, 1, 1, 0, 1, 4, 5, 1, 1] C8), .lp (nav [1, 1, 1, 1, 1, 1, 1, 1, 0, 1, 4, 5] C8), .blk 0, .jn (nav [1, 1, 1, 1, 1, 1, 1, 1, 1] C8)]
/-- rundale/rundalelaw22.RecordPlays, from a loop's head on -/
def P8_0 (x1 x5 x6 x7 x8 x9 : Value) (w : World) (Q : Value → World → Prop) : Prop := Part Try.prog 8 T8_0 [1, 5, 6, 7, 8, 9] [x1, x5, x6, x7, x8, x9] w Q
/-- rundale/rundalelaw22.RecordPlays, from a join on -/
def P8_1 (x1 x5 x6 x7 x8 x9 x10 x11 : Value) (w : World) (Q : Value → World → Prop) : Prop := Part Try.prog 8 T8_1 [1, 5, 6, 7, 8, 9, 10, 11] [x1, x5, x6, x7, x8, x9, x10, x11] w Q
/-- rundale/rundalelaw22.RecordPlays, from a join on -/
def P8_2 (x1 x5 x6 x7 x8 x9 x10 x11 x62 x76 : Value) (w : World) (Q : Value → World → Prop) : Prop := Part Try.prog 8 T8_2 [1, 5, 6, 7, 8, 9, 10, 11, 62, 76] [x1, x5, x6, x7, x8, x9, x10, x11, x62, x76] w Q
/-- rundale/rundalelaw22.RecordPlays, from a join on -/
def P8_3 (x1 x5 x6 x7 x8 x9 : Value) (w : World) (Q : Value → World → Prop) : Prop := Part Try.prog 8 T8_3 [1, 5, 6, 7, 8, 9] [x1, x5, x6, x7, x8, x9] w Q
/-- rundale/rundalelaw22.RecordPlays, from a join on -/
def P8_4 (x1 x5 x6 x7 x8 x9 x127 : Value) (w : World) (Q : Value → World → Prop) : Prop := Part Try.prog 8 T8_4 [1, 5, 6, 7, 8, 9, 127] [x1, x5, x6, x7, x8, x9, x127] w Q
/-- rundale/rundalelaw22.RecordPlays, from a join on -/
def P8_5 (x1 x5 x6 x7 x8 x9 x75 : Value) (w : World) (Q : Value → World → Prop) : Prop := Part Try.prog 8 T8_5 [1, 5, 6, 7, 8, 9, 75] [x1, x5, x6, x7, x8, x9, x75] w Q
/-- rundale/rundalelaw22.RecordPlays, from a join on -/
def P8_6 (x1 x5 x6 x7 x8 x9 x158 : Value) (w : World) (Q : Value → World → Prop) : Prop := Part Try.prog 8 T8_6 [1, 5, 6, 7, 8, 9, 158] [x1, x5, x6, x7, x8, x9, x158] w Q
def F8 (a0 a1 : Value) (w : World) (Q : Value → World → Prop) : Prop :=
  CallR Try.prog 23 [] w fun t18 w =>
  wpB (pureRun Try.prog (Op.unary .not t18)) fun t20 =>
  cnd t20
  (Q (Go.Value.bool false) w)
  (wpB (pureRun Try.prog (Builtin.len_ #[61] 3 #[a1])) fun t22 =>
  wpB (bp Try.prog .gtr 3 t22 (Go.Value.int Go.IntKind.i64 60)) fun t23 =>
  cnd t23
  (Q t18 w)
  (CallR Try.prog 24 [a0] w fun t26 w =>
  CallR Try.prog 32 [a0] w fun t28 w =>
  wpB (be Try.prog .eql 43 (.tmp 29) (.const (Go.Value.pointer none)) t26 (Go.Value.pointer none)) fun t30 =>
  cnd t30
  (Q (Go.Value.bool false) w)
  (P8_0 a1 t18 t26 t28 (Go.Value.int Go.IntKind.i64 0) (Go.Value.int Go.IntKind.i64 0) w Q)))
def L8_0 (x1 x5 x6 x7 x8 x9 : Value) (w : World) (Q : Value → World → Prop) : Prop :=
  wpB (pureRun Try.prog (Builtin.len_ #[61] 3 #[x1])) fun t33 =>
  wpB (bp Try.prog .lss 3 x9 t33) fun t34 =>
  cnd t34
  (wpB (pureRun Try.prog (Instr.indexAt 61 x1 x9)) fun t39 =>
  wpB (ldv Try.prog 65 t39 w) fun t40 =>
  effv Try.prog (Instr.alloc 65 true (.tuple #[])) w fun t10 w =>
  effu Try.prog (Instr.storeAt 65 t10 t40) w fun w =>
  wpB (pureRun Try.prog (Instr.fieldAt 65 t10 4)) fun t42 =>
  wpB (ldv Try.prog 3 t42 w) fun t43 =>
  CallR Try.prog 22 [t43, (Go.Value.int Go.IntKind.i64 6)] w fun t44 w =>
  wpB (bp Try.prog .add 3 x8 t44) fun t45 =>
  wpB (bp Try.prog .sub 3 t45 (Go.Value.int Go.IntKind.i64 1)) fun t46 =>
  wpB (pureRun Try.prog (Instr.fieldAt 65 t10 3)) fun t47 =>
  wpB (ldv Try.prog 3 t47 w) fun t48 =>
  CallR Try.prog 22 [t48, (Go.Value.int Go.IntKind.i64 12)] w fun t49 w =>
  wpB (bp Try.prog .sub 3 t49 (Go.Value.int Go.IntKind.i64 1)) fun t50 =>
  wpB (pureRun Try.prog (Instr.fieldAt 65 t10 1)) fun t51 =>
  wpB (ldv Try.prog 3 t51 w) fun t52 =>
  wpB (bp Try.prog .lss 3 t52 (Go.Value.int Go.IntKind.i64 0)) fun t53 =>
  cnd t53
  (wpB (nilv x7) fun t55 =>
  wpB (pureRun Try.prog (Instr.fieldAt 67 t55 2)) fun t56 =>
  wpB (ldv Try.prog 54 t56 w) fun t57 =>
  wpB (pureRun Try.prog (Builtin.len_ #[54] 3 #[t57])) fun t58 =>
  wpB (bp Try.prog .sub 3 t58 (Go.Value.int Go.IntKind.i64 1)) fun t59 =>
  P8_1 x1 x5 x6 x7 t46 x9 t10 t59 w Q)
  (P8_1 x1 x5 x6 x7 t46 x9 t10 t50 w Q))
  (Q x5 w)
def L8_1 (x1 x5 x6 x7 x8 x9 x10 x11 : Value) (w : World) (Q : Value → World → Prop) : Prop :=
  wpB (pureRun Try.prog (Instr.fieldAt 65 x10 0)) fun t60 =>
  wpB (ldv Try.prog 3 t60 w) fun t61 =>
  CallR Try.prog 22 [t61, (Go.Value.int Go.IntKind.i64 5)] w fun t62 w =>
  wpB (be Try.prog .eql 3 (.tmp 62) (.const (Go.Value.int Go.IntKind.i64 0)) t62 (Go.Value.int Go.IntKind.i64 0)) fun t77 =>
  cnd t77
  (P8_2 x1 x5 x6 x7 x8 x9 x10 x11 t62 t77 w Q)
  (wpB (be Try.prog .eql 3 (.tmp 62) (.const (Go.Value.int Go.IntKind.i64 1)) t62 (Go.Value.int Go.IntKind.i64 1)) fun t78 =>
  P8_2 x1 x5 x6 x7 x8 x9 x10 x11 t62 t78 w Q)
def L8_2 (x1 x5 x6 x7 x8 x9 x10 x11 x62 x76 : Value) (w : World) (Q : Value → World → Prop) : Prop :=
  cnd x76
  (wpB (pureRun Try.prog (Instr.fieldAt 65 x10 1)) fun t79 =>
  wpB (ldv Try.prog 3 t79 w) fun t80 =>
  CallR Try.prog 22 [t80, (Go.Value.int Go.IntKind.i64 6)] w fun t81 w =>
  wpB (bp Try.prog .sub 3 t81 (Go.Value.int Go.IntKind.i64 1)) fun t82 =>
  wpB (pureRun Try.prog (Instr.fieldAt 65 x10 2)) fun t86 =>
  wpB (ldv Try.prog 3 t86 w) fun t87 =>
  wpB (pureRun Try.prog (Instr.fieldAt 65 x10 5)) fun t88 =>
  wpB (ldv Try.prog 40 t88 w) fun t89 =>
  CallR Try.prog 26 [x6, t82, t87, t89, x8] w fun t91 w =>
  wpB (pureRun Try.prog (Instr.extract t91 0)) fun t92 =>
  wpB (pureRun Try.prog (Instr.extract t91 1)) fun t93 =>
  wpB (pureRun Try.prog (Instr.fieldAt 65 x10 2)) fun t97 =>
  wpB (ldv Try.prog 3 t97 w) fun t98 =>
  wpB (pureRun Try.prog (Instr.fieldAt 65 x10 5)) fun t99 =>
  wpB (ldv Try.prog 40 t99 w) fun t100 =>
  CallR Try.prog 33 [x7, t82, t98, t100, x8] w fun t102 w =>
  wpB (pureRun Try.prog (Instr.extract t102 0)) fun t103 =>
  wpB (pureRun Try.prog (Instr.extract t102 1)) fun t104 =>
  wpB (be Try.prog .neq 3 (.tmp 105) (.tmp 106) t92 t103) fun t107 =>
  wpB (gd t107 false (be Try.prog .neq 29 (.tmp 109) (.tmp 110) (gv t107 false t93) (gv t107 false t104))) fun t111 =>
  wpB (pickv t107 (some (Go.Value.bool true)) (some t111)) fun t112 =>
  cnd t112
  (Q (Go.Value.bool false) w)
  (P8_3 x1 x5 x6 x7 x8 x9 w Q))
  (wpB (be Try.prog .eql 3 (.tmp 62) (.const (Go.Value.int Go.IntKind.i64 2)) x62 (Go.Value.int Go.IntKind.i64 2)) fun t114 =>
  cnd t114
  ((wpB (pureRun Try.prog (Instr.fieldAt 65 x10 6)) fun t118 =>
  wpB (pureRun Try.prog (Instr.fieldAt 65 x10 6)) fun t124 =>
  wpB (ldv Try.prog 53 t118 w.drew) fun t119 =>
  wpB (ldv Try.prog 53 t124 w.drew) fun t125 =>
  CallR Try.prog 27 [x6, x11, x8, t119] w.drew fun t120 w =>
  CallR Try.prog 34 [x7, x11, x8, t125] w fun t126 w =>
  wpB (be Try.prog .neq 29 (.tmp 120) (.tmp 126) t120 t126) fun t127 =>
  P8_4 x1 x5 x6 x7 x8 x9 t127 w Q) ∧
  (wpB (pureRun Try.prog (Instr.fieldAt 65 x10 6)) fun t118_1 =>
  wpB (ldv Try.prog 53 t118_1 w.drew) fun t119_1 =>
  CallR Try.prog 27 [x6, x11, x8, t119_1] w.drew fun t120_1 w =>
  wpB (pureRun Try.prog (Instr.fieldAt 65 x10 6)) fun t124_1 =>
  wpB (ldv Try.prog 53 t124_1 w) fun t125_1 =>
  CallR Try.prog 34 [x7, x11, x8, t125_1] w fun t126_1 w =>
  wpB (be Try.prog .neq 29 (.tmp 120) (.tmp 126) t120_1 t126_1) fun t127_1 =>
  P8_4 x1 x5 x6 x7 x8 x9 t127_1 w Q))
  (wpB (be Try.prog .eql 3 (.tmp 62) (.const (Go.Value.int Go.IntKind.i64 3)) x62 (Go.Value.int Go.IntKind.i64 3)) fun t129 =>
  cnd t129
  (CallR Try.prog 35 [x6, x11, x8] w fun t133 w =>
  CallR Try.prog 36 [x7, x11, x8] w fun t137 w =>
  wpB (be Try.prog .neq 29 (.tmp 133) (.tmp 137) t133 t137) fun t138 =>
  cnd t138
  (Q (Go.Value.bool false) w)
  (P8_3 x1 x5 x6 x7 x8 x9 w Q))
  ((wpB (pureRun Try.prog (Instr.fieldAt 65 x10 6)) fun t66 =>
  wpB (pureRun Try.prog (Instr.fieldAt 65 x10 6)) fun t72 =>
  wpB (ldv Try.prog 53 t66 w.drew) fun t67 =>
  wpB (ldv Try.prog 53 t72 w.drew) fun t73 =>
  CallR Try.prog 28 [x6, x11, x8, t67] w.drew fun t68 w =>
  CallR Try.prog 37 [x7, x11, x8, t73] w fun t74 w =>
  wpB (be Try.prog .neq 29 (.tmp 68) (.tmp 74) t68 t74) fun t75 =>
  P8_5 x1 x5 x6 x7 x8 x9 t75 w Q) ∧
  (wpB (pureRun Try.prog (Instr.fieldAt 65 x10 6)) fun t66_1 =>
  wpB (ldv Try.prog 53 t66_1 w.drew) fun t67_1 =>
  CallR Try.prog 28 [x6, x11, x8, t67_1] w.drew fun t68_1 w =>
  wpB (pureRun Try.prog (Instr.fieldAt 65 x10 6)) fun t72_1 =>
  wpB (ldv Try.prog 53 t72_1 w) fun t73_1 =>
  CallR Try.prog 37 [x7, x11, x8, t73_1] w fun t74_1 w =>
  wpB (be Try.prog .neq 29 (.tmp 68) (.tmp 74) t68_1 t74_1) fun t75_1 =>
  P8_5 x1 x5 x6 x7 x8 x9 t75_1 w Q))))
def L8_3 (x1 x5 x6 x7 x8 x9 : Value) (w : World) (Q : Value → World → Prop) : Prop :=
  CallR Try.prog 22 [x9, (Go.Value.int Go.IntKind.i64 8)] w fun t140 w =>
  wpB (bp Try.prog .sub 3 t140 (Go.Value.int Go.IntKind.i64 2)) fun t141 =>
  (CallR Try.prog 25 [x6, t141] w.drew fun t144 w =>
  CallR Try.prog 38 [x7, t141] w fun t147 w =>
  wpB (be Try.prog .neq 3 (.tmp 144) (.tmp 147) t144 t147) fun t148 =>
  wpB (gd t148 false (nilv (gv t148 false x7))) fun t153 =>
  wpB (gd t148 false (pureRun Try.prog (Instr.fieldAt 67 t153 2))) fun t154 =>
  wpB (gd t148 false (ldv Try.prog 54 t154 w)) fun t155 =>
  gE t148 false (CallR Try.prog 29 [(gv t148 false x6)] w) (fun t151 w =>
  gE t148 false (CallR Try.prog 39 [t151, t155] w) (fun t156 w =>
  wpB (gd t148 false (pureRun Try.prog (Op.unary .not t156))) fun t157 =>
  wpB (pickv t148 (some (Go.Value.bool true)) (some t157)) fun t158 =>
  P8_6 x1 x5 x6 x7 x8 x9 t158 w Q) w) w) ∧
  (CallR Try.prog 25 [x6, t141] w.drew fun t144_1 w =>
  CallR Try.prog 38 [x7, t141] w fun t147_1 w =>
  wpB (be Try.prog .neq 3 (.tmp 144) (.tmp 147) t144_1 t147_1) fun t148_1 =>
  gE t148_1 false (CallR Try.prog 29 [(gv t148_1 false x6)] w) (fun t151_1 w =>
  wpB (gd t148_1 false (nilv (gv t148_1 false x7))) fun t153_1 =>
  wpB (gd t148_1 false (pureRun Try.prog (Instr.fieldAt 67 t153_1 2))) fun t154_1 =>
  wpB (gd t148_1 false (ldv Try.prog 54 t154_1 w)) fun t155_1 =>
  gE t148_1 false (CallR Try.prog 39 [t151_1, t155_1] w) (fun t156_1 w =>
  wpB (gd t148_1 false (pureRun Try.prog (Op.unary .not t156_1))) fun t157_1 =>
  wpB (pickv t148_1 (some (Go.Value.bool true)) (some t157_1)) fun t158_1 =>
  P8_6 x1 x5 x6 x7 x8 x9 t158_1 w Q) w) w)
def L8_4 (x1 x5 x6 x7 x8 x9 x127 : Value) (w : World) (Q : Value → World → Prop) : Prop :=
  cnd x127
  (Q (Go.Value.bool false) w)
  (P8_3 x1 x5 x6 x7 x8 x9 w Q)
def L8_5 (x1 x5 x6 x7 x8 x9 x75 : Value) (w : World) (Q : Value → World → Prop) : Prop :=
  cnd x75
  (Q (Go.Value.bool false) w)
  (P8_3 x1 x5 x6 x7 x8 x9 w Q)
def L8_6 (x1 x5 x6 x7 x8 x9 x158 : Value) (w : World) (Q : Value → World → Prop) : Prop :=
  cnd x158
  (Q (Go.Value.bool false) w)
  (wpB (bp Try.prog .add 3 x9 (Go.Value.int Go.IntKind.i64 1)) fun t36 =>
  P8_0 x1 x5 x6 x7 x8 t36 w Q)
theorem F8_ok {a0 a1 : Value} {w : World} {Q : Value → World → Prop} (h : F8 a0 a1 w Q) : CallR Try.prog 8 [a0, a1] w Q :=
  have e : evC Try.prog (entR 3 143) 8 160 H8 Q C8 [] (entryE 0 [a0, a1]) w (contT Try.prog (entR 3 143) 8 160 H8 Try.f8.results.toList Q []) = F8 a0 a1 w Q := by kernel_rfl
  call_of (fn := Try.f8) mixed entOk Try.func8 (c := C8) rfl H8 (Nat.le_of_ble_eq_true rfl) (e.mpr h)
theorem L8_0_ok {x1 x5 x6 x7 x8 x9 : Value} {w : World} {Q : Value → World → Prop} (h : L8_0 x1 x5 x6 x7 x8 x9 w Q) : P8_0 x1 x5 x6 x7 x8 x9 w Q :=
  have e : evC Try.prog (entR 3 143) 8 160 H8 Q (nav [1, 1, 1, 1, 1, 1, 1, 1, 0, 1, 4, 5] C8) T8_0 (unpack [1, 5, 6, 7, 8, 9] [x1, x5, x6, x7, x8, x9]) w (contT Try.prog (entR 3 143) 8 160 H8 Try.f8.results.toList Q T8_0) = L8_0 x1 x5 x6 x7 x8 x9 w Q := by kernel_rfl
  part_lp (fn := Try.f8) mixed entOk Try.func8 H8 (c := (nav [1, 1, 1, 1, 1, 1, 1, 1, 0, 1, 4, 5] C8)) (t := [.blk 0, .jn (nav [1, 1, 1, 1, 1, 1, 1, 1, 1] C8)]) (e.mpr h)
theorem L8_1_ok {x1 x5 x6 x7 x8 x9 x10 x11 : Value} {w : World} {Q : Value → World → Prop} (h : L8_1 x1 x5 x6 x7 x8 x9 x10 x11 w Q) : P8_1 x1 x5 x6 x7 x8 x9 x10 x11 w Q :=
  have e : evC Try.prog (entR 3 143) 8 160 H8 Q (nav [1, 1, 1, 1, 1, 1, 1, 1, 0, 1, 4, 5, 1, 0, 4, 1, 1, 1, 1] C8) [.blk 1, .jn (nav [1, 1, 1, 1, 1, 1, 1, 1, 0, 1, 4, 5, 1, 1] C8), .lp (nav [1, 1, 1, 1, 1, 1, 1, 1, 0, 1, 4, 5] C8), .blk 0, .jn (nav [1, 1, 1, 1, 1, 1, 1, 1, 1] C8)] (unpack [1, 5, 6, 7, 8, 9, 10, 11] [x1, x5, x6, x7, x8, x9, x10, x11]) w (contT Try.prog (entR 3 143) 8 160 H8 Try.f8.results.toList Q [.blk 1, .jn (nav [1, 1, 1, 1, 1, 1, 1, 1, 0, 1, 4, 5, 1, 1] C8), .lp (nav [1, 1, 1, 1, 1, 1, 1, 1, 0, 1, 4, 5] C8), .blk 0, .jn (nav [1, 1, 1, 1, 1, 1, 1, 1, 1] C8)]) = L8_1 x1 x5 x6 x7 x8 x9 x10 x11 w Q := by kernel_rfl
  part_jn (fn := Try.f8) mixed entOk Try.func8 H8 (c := (nav [1, 1, 1, 1, 1, 1, 1, 1, 0, 1, 4, 5, 1, 0, 4, 1, 1, 1, 1] C8)) (t := [.blk 1, .jn (nav [1, 1, 1, 1, 1, 1, 1, 1, 0, 1, 4, 5, 1, 1] C8), .lp (nav [1, 1, 1, 1, 1, 1, 1, 1, 0, 1, 4, 5] C8), .blk 0, .jn (nav [1, 1, 1, 1, 1, 1, 1, 1, 1] C8)]) (e.mpr h)
theorem L8_2_ok {x1 x5 x6 x7 x8 x9 x10 x11 x62 x76 : Value} {w : World} {Q : Value → World → Prop} (h : L8_2 x1 x5 x6 x7 x8 x9 x10 x11 x62 x76 w Q) : P8_2 x1 x5 x6 x7 x8 x9 x10 x11 x62 x76 w Q :=
  have e : evC Try.prog (entR 3 143) 8 160 H8 Q (nav [1, 1, 1, 1, 1, 1, 1, 1, 0, 1, 4, 5, 1, 0, 4, 1, 1, 1, 1, 0, 1, 4, 1] C8) [.blk 2, .jn (nav [1, 1, 1, 1, 1, 1, 1, 1, 0, 1, 4, 5, 1, 0, 4, 1, 1, 1, 1, 1] C8), .blk 1, .jn (nav [1, 1, 1, 1, 1, 1, 1, 1, 0, 1, 4, 5, 1, 1] C8), .lp (nav [1, 1, 1, 1, 1, 1, 1, 1, 0, 1, 4, 5] C8), .blk 0, .jn (nav [1, 1, 1, 1, 1, 1, 1, 1, 1] C8)] (unpack [1, 5, 6, 7, 8, 9, 10, 11, 62, 76] [x1, x5, x6, x7, x8, x9, x10, x11, x62, x76]) w (contT Try.prog (entR 3 143) 8 160 H8 Try.f8.results.toList Q [.blk 2, .jn (nav [1, 1, 1, 1, 1, 1, 1, 1, 0, 1, 4, 5, 1, 0, 4, 1, 1, 1, 1, 1] C8), .blk 1, .jn (nav [1, 1, 1, 1, 1, 1, 1, 1, 0, 1, 4, 5, 1, 1] C8), .lp (nav [1, 1, 1, 1, 1, 1, 1, 1, 0, 1, 4, 5] C8), .blk 0, .jn (nav [1, 1, 1, 1, 1, 1, 1, 1, 1] C8)]) = L8_2 x1 x5 x6 x7 x8 x9 x10 x11 x62 x76 w Q := by kernel_rfl
  part_jn (fn := Try.f8) mixed entOk Try.func8 H8 (c := (nav [1, 1, 1, 1, 1, 1, 1, 1, 0, 1, 4, 5, 1, 0, 4, 1, 1, 1, 1, 0, 1, 4, 1] C8)) (t := [.blk 2, .jn (nav [1, 1, 1, 1, 1, 1, 1, 1, 0, 1, 4, 5, 1, 0, 4, 1, 1, 1, 1, 1] C8), .blk 1, .jn (nav [1, 1, 1, 1, 1, 1, 1, 1, 0, 1, 4, 5, 1, 1] C8), .lp (nav [1, 1, 1, 1, 1, 1, 1, 1, 0, 1, 4, 5] C8), .blk 0, .jn (nav [1, 1, 1, 1, 1, 1, 1, 1, 1] C8)]) (e.mpr h)
theorem L8_3_ok {x1 x5 x6 x7 x8 x9 : Value} {w : World} {Q : Value → World → Prop} (h : L8_3 x1 x5 x6 x7 x8 x9 w Q) : P8_3 x1 x5 x6 x7 x8 x9 w Q :=
  have e : evC Try.prog (entR 3 143) 8 160 H8 Q (nav [1, 1, 1, 1, 1, 1, 1, 1, 0, 1, 4, 5, 1, 0, 4, 1, 1, 1, 1, 1] C8) [.blk 1, .jn (nav [1, 1, 1, 1, 1, 1, 1, 1, 0, 1, 4, 5, 1, 1] C8), .lp (nav [1, 1, 1, 1, 1, 1, 1, 1, 0, 1, 4, 5] C8), .blk 0, .jn (nav [1, 1, 1, 1, 1, 1, 1, 1, 1] C8)] (unpack [1, 5, 6, 7, 8, 9] [x1, x5, x6, x7, x8, x9]) w (contT Try.prog (entR 3 143) 8 160 H8 Try.f8.results.toList Q [.blk 1, .jn (nav [1, 1, 1, 1, 1, 1, 1, 1, 0, 1, 4, 5, 1, 1] C8), .lp (nav [1, 1, 1, 1, 1, 1, 1, 1, 0, 1, 4, 5] C8), .blk 0, .jn (nav [1, 1, 1, 1, 1, 1, 1, 1, 1] C8)]) = L8_3 x1 x5 x6 x7 x8 x9 w Q := by kernel_rfl
  part_jn (fn := Try.f8) mixed entOk Try.func8 H8 (c := (nav [1, 1, 1, 1, 1, 1, 1, 1, 0, 1, 4, 5, 1, 0, 4, 1, 1, 1, 1, 1] C8)) (t := [.blk 1, .jn (nav [1, 1, 1, 1, 1, 1, 1, 1, 0, 1, 4, 5, 1, 1] C8), .lp (nav [1, 1, 1, 1, 1, 1, 1, 1, 0, 1, 4, 5] C8), .blk 0, .jn (nav [1, 1, 1, 1, 1, 1, 1, 1, 1] C8)]) (e.mpr h)
theorem L8_4_ok {x1 x5 x6 x7 x8 x9 x127 : Value} {w : World} {Q : Value → World → Prop} (h : L8_4 x1 x5 x6 x7 x8 x9 x127 w Q) : P8_4 x1 x5 x6 x7 x8 x9 x127 w Q :=
  have e : evC Try.prog (entR 3 143) 8 160 H8 Q (nav [1, 1, 1, 1, 1, 1, 1, 1, 0, 1, 4, 5, 1, 0, 4, 1, 1, 1, 1, 0, 1, 4, 1, 3, 1, 2, 1] C8) [.blk 2, .jn (nav [1, 1, 1, 1, 1, 1, 1, 1, 0, 1, 4, 5, 1, 0, 4, 1, 1, 1, 1, 1] C8), .blk 1, .jn (nav [1, 1, 1, 1, 1, 1, 1, 1, 0, 1, 4, 5, 1, 1] C8), .lp (nav [1, 1, 1, 1, 1, 1, 1, 1, 0, 1, 4, 5] C8), .blk 0, .jn (nav [1, 1, 1, 1, 1, 1, 1, 1, 1] C8)] (unpack [1, 5, 6, 7, 8, 9, 127] [x1, x5, x6, x7, x8, x9, x127]) w (contT Try.prog (entR 3 143) 8 160 H8 Try.f8.results.toList Q [.blk 2, .jn (nav [1, 1, 1, 1, 1, 1, 1, 1, 0, 1, 4, 5, 1, 0, 4, 1, 1, 1, 1, 1] C8), .blk 1, .jn (nav [1, 1, 1, 1, 1, 1, 1, 1, 0, 1, 4, 5, 1, 1] C8), .lp (nav [1, 1, 1, 1, 1, 1, 1, 1, 0, 1, 4, 5] C8), .blk 0, .jn (nav [1, 1, 1, 1, 1, 1, 1, 1, 1] C8)]) = L8_4 x1 x5 x6 x7 x8 x9 x127 w Q := by kernel_rfl
  part_jn (fn := Try.f8) mixed entOk Try.func8 H8 (c := (nav [1, 1, 1, 1, 1, 1, 1, 1, 0, 1, 4, 5, 1, 0, 4, 1, 1, 1, 1, 0, 1, 4, 1, 3, 1, 2, 1] C8)) (t := [.blk 2, .jn (nav [1, 1, 1, 1, 1, 1, 1, 1, 0, 1, 4, 5, 1, 0, 4, 1, 1, 1, 1, 1] C8), .blk 1, .jn (nav [1, 1, 1, 1, 1, 1, 1, 1, 0, 1, 4, 5, 1, 1] C8), .lp (nav [1, 1, 1, 1, 1, 1, 1, 1, 0, 1, 4, 5] C8), .blk 0, .jn (nav [1, 1, 1, 1, 1, 1, 1, 1, 1] C8)]) (e.mpr h)
theorem L8_5_ok {x1 x5 x6 x7 x8 x9 x75 : Value} {w : World} {Q : Value → World → Prop} (h : L8_5 x1 x5 x6 x7 x8 x9 x75 w Q) : P8_5 x1 x5 x6 x7 x8 x9 x75 w Q :=
  have e : evC Try.prog (entR 3 143) 8 160 H8 Q (nav [1, 1, 1, 1, 1, 1, 1, 1, 0, 1, 4, 5, 1, 0, 4, 1, 1, 1, 1, 0, 1, 4, 1, 3, 1, 3, 1, 3, 1] C8) [.blk 2, .jn (nav [1, 1, 1, 1, 1, 1, 1, 1, 0, 1, 4, 5, 1, 0, 4, 1, 1, 1, 1, 1] C8), .blk 1, .jn (nav [1, 1, 1, 1, 1, 1, 1, 1, 0, 1, 4, 5, 1, 1] C8), .lp (nav [1, 1, 1, 1, 1, 1, 1, 1, 0, 1, 4, 5] C8), .blk 0, .jn (nav [1, 1, 1, 1, 1, 1, 1, 1, 1] C8)] (unpack [1, 5, 6, 7, 8, 9, 75] [x1, x5, x6, x7, x8, x9, x75]) w (contT Try.prog (entR 3 143) 8 160 H8 Try.f8.results.toList Q [.blk 2, .jn (nav [1, 1, 1, 1, 1, 1, 1, 1, 0, 1, 4, 5, 1, 0, 4, 1, 1, 1, 1, 1] C8), .blk 1, .jn (nav [1, 1, 1, 1, 1, 1, 1, 1, 0, 1, 4, 5, 1, 1] C8), .lp (nav [1, 1, 1, 1, 1, 1, 1, 1, 0, 1, 4, 5] C8), .blk 0, .jn (nav [1, 1, 1, 1, 1, 1, 1, 1, 1] C8)]) = L8_5 x1 x5 x6 x7 x8 x9 x75 w Q := by kernel_rfl
  part_jn (fn := Try.f8) mixed entOk Try.func8 H8 (c := (nav [1, 1, 1, 1, 1, 1, 1, 1, 0, 1, 4, 5, 1, 0, 4, 1, 1, 1, 1, 0, 1, 4, 1, 3, 1, 3, 1, 3, 1] C8)) (t := [.blk 2, .jn (nav [1, 1, 1, 1, 1, 1, 1, 1, 0, 1, 4, 5, 1, 0, 4, 1, 1, 1, 1, 1] C8), .blk 1, .jn (nav [1, 1, 1, 1, 1, 1, 1, 1, 0, 1, 4, 5, 1, 1] C8), .lp (nav [1, 1, 1, 1, 1, 1, 1, 1, 0, 1, 4, 5] C8), .blk 0, .jn (nav [1, 1, 1, 1, 1, 1, 1, 1, 1] C8)]) (e.mpr h)
theorem L8_6_ok {x1 x5 x6 x7 x8 x9 x158 : Value} {w : World} {Q : Value → World → Prop} (h : L8_6 x1 x5 x6 x7 x8 x9 x158 w Q) : P8_6 x1 x5 x6 x7 x8 x9 x158 w Q :=
  have e : evC Try.prog (entR 3 143) 8 160 H8 Q (nav [1, 1, 1, 1, 1, 1, 1, 1, 0, 1, 4, 5, 1, 0, 4, 1, 1, 1, 1, 1, 1, 1] C8) [.blk 1, .jn (nav [1, 1, 1, 1, 1, 1, 1, 1, 0, 1, 4, 5, 1, 1] C8), .lp (nav [1, 1, 1, 1, 1, 1, 1, 1, 0, 1, 4, 5] C8), .blk 0, .jn (nav [1, 1, 1, 1, 1, 1, 1, 1, 1] C8)] (unpack [1, 5, 6, 7, 8, 9, 158] [x1, x5, x6, x7, x8, x9, x158]) w (contT Try.prog (entR 3 143) 8 160 H8 Try.f8.results.toList Q [.blk 1, .jn (nav [1, 1, 1, 1, 1, 1, 1, 1, 0, 1, 4, 5, 1, 1] C8), .lp (nav [1, 1, 1, 1, 1, 1, 1, 1, 0, 1, 4, 5] C8), .blk 0, .jn (nav [1, 1, 1, 1, 1, 1, 1, 1, 1] C8)]) = L8_6 x1 x5 x6 x7 x8 x9 x158 w Q := by kernel_rfl
  part_jn (fn := Try.f8) mixed entOk Try.func8 H8 (c := (nav [1, 1, 1, 1, 1, 1, 1, 1, 0, 1, 4, 5, 1, 0, 4, 1, 1, 1, 1, 1, 1, 1] C8)) (t := [.blk 1, .jn (nav [1, 1, 1, 1, 1, 1, 1, 1, 0, 1, 4, 5, 1, 1] C8), .lp (nav [1, 1, 1, 1, 1, 1, 1, 1, 0, 1, 4, 5] C8), .blk 0, .jn (nav [1, 1, 1, 1, 1, 1, 1, 1, 1] C8)]) (e.mpr h)

/-! ### rundale/rundalelaw22.RecordRefuses: function 9 -/
noncomputable def C9 : Code := (Try.f9.body).getD .skip
noncomputable def H9 : Hints := ⟨[], [(18, [7, 8, 9, 10, 11, 15, 16, 17, 18, 19, 20, 21, 22, 23, 24])], [(17, (.ask 16 11 (.leaf [0, 1, 2, 3, 4, 5, 6, 7, 8, 9, 10, 14, 15, 16, 11, 12, 13, 17, 18, 19]) (.leaf [0, 1, 2, 3, 4, 5, 6, 7, 8, 9, 10, 11, 12, 13, 14, 15, 16, 17, 18, 19])))]⟩
noncomputable def T9_0 : List It := [.jn (nav [1, 1, 1, 1, 1, 1, 1, 1, 1, 1, 1, 1, 1, 1, 1, 1] C9)]
/-- rundale/rundalelaw22.RecordRefuses, from a join on -/
def P9_0 (x7 x8 x9 x10 x11 x15 x16 x17 x18 x19 x20 x21 x22 x23 x24 : Value) (w : World) (Q : Value → World → Prop) : Prop := Part Try.prog 9 T9_0 [7, 8, 9, 10, 11, 15, 16, 17, 18, 19, 20, 21, 22, 23, 24] [x7, x8, x9, x10, x11, x15, x16, x17, x18, x19, x20, x21, x22, x23, x24] w Q
def F9 (a0 a1 a2 : Value) (w : World) (Q : Value → World → Prop) : Prop :=
  CallR Try.prog 23 [] w fun t27 w =>
  wpB (pureRun Try.prog (Op.unary .not t27)) fun t29 =>
  cnd t29
  (Q (Go.Value.bool false) w)
  (CallR Try.prog 24 [(Go.Value.int Go.IntKind.i64 2)] w fun t30 w =>
  wpB (be Try.prog .eql 43 (.tmp 31) (.const (Go.Value.pointer none)) t30 (Go.Value.pointer none)) fun t32 =>
  cnd t32
  (Q (Go.Value.bool false) w)
  (CallR Try.prog 22 [a1, (Go.Value.int Go.IntKind.i64 1000)] w fun t34 w =>
  wpB (bp Try.prog .add 3 (Go.Value.int Go.IntKind.i64 1) t34) fun t35 =>
  wpB (pureRun Try.prog (Instr.build 40 #[(0, (Go.Value.int Go.IntKind.i64 3))])) fun t38 =>
  CallR Try.prog 26 [t30, (Go.Value.int Go.IntKind.i64 1), (Go.Value.int Go.IntKind.i64 7), t38, t35] w fun t40 w =>
  wpB (pureRun Try.prog (Instr.extract t40 0)) fun t41 =>
  wpB (pureRun Try.prog (Instr.extract t40 1)) fun t42 =>
  CallR Try.prog 29 [t30] w fun t44 w =>
  CallR Try.prog 22 [a0, (Go.Value.int Go.IntKind.i64 1000)] w fun t46 w =>
  wpB (bp Try.prog .add 3 (Go.Value.int Go.IntKind.i64 2) t46) fun t47 =>
  CallR Try.prog 22 [a2, (Go.Value.int Go.IntKind.i64 1000)] w fun t49 w =>
  wpB (bp Try.prog .add 3 (Go.Value.int Go.IntKind.i64 1) t49) fun t50 =>
  wpB (pureRun Try.prog (Instr.build 40 #[])) fun t54 =>
  CallR Try.prog 26 [t30, t47, (Go.Value.int Go.IntKind.i64 0), t54, t35] w fun t56 w =>
  wpB (pureRun Try.prog (Instr.extract t56 0)) fun t57 =>
  wpB (pureRun Try.prog (Instr.extract t56 1)) fun t58 =>
  wpB (pureRun Try.prog (Instr.build 40 #[])) fun t61 =>
  CallR Try.prog 26 [t30, (Go.Value.int Go.IntKind.i64 1), (Go.Value.int Go.IntKind.i64 8), t61, t35] w fun t63 w =>
  wpB (pureRun Try.prog (Instr.extract t63 0)) fun t64 =>
  wpB (pureRun Try.prog (Instr.extract t63 1)) fun t65 =>
  wpB (pureRun Try.prog (Instr.build 40 #[])) fun t68 =>
  wpB (bp Try.prog .sub 3 t35 (Go.Value.int Go.IntKind.i64 1)) fun t70 =>
  CallR Try.prog 26 [t30, (Go.Value.int Go.IntKind.i64 0), (Go.Value.int Go.IntKind.i64 0), t68, t70] w fun t71 w =>
  wpB (pureRun Try.prog (Instr.extract t71 0)) fun t72 =>
  wpB (pureRun Try.prog (Instr.extract t71 1)) fun t73 =>
  wpB (pureRun Try.prog (Op.unary .neg t47)) fun t77 =>
  wpB (pureRun Try.prog (Instr.build 40 #[])) fun t78 =>
  CallR Try.prog 26 [t30, t77, (Go.Value.int Go.IntKind.i64 0), t78, t35] w fun t80 w =>
  wpB (pureRun Try.prog (Instr.extract t80 0)) fun t81 =>
  wpB (pureRun Try.prog (Instr.extract t80 1)) fun t82 =>
  CallR Try.prog 35 [t30, t41, t35] w fun t86 w =>
  wpB (be Try.prog .eql 29 (.tmp 86) (.const (Go.Value.int Go.IntKind.i64 1)) t86 (Go.Value.int Go.IntKind.i64 1)) fun t87 =>
  wpB (gd t87 true (pureRun Try.prog (Instr.build 53 #[]))) fun t92 =>
  gE t87 true (CallR Try.prog 28 [(gv t87 true t30), (gv t87 true t41), (gv t87 true t35), t92] w) (fun t93 w =>
  wpB (gd t87 true (be Try.prog .eql 29 (.tmp 93) (.const (Go.Value.int Go.IntKind.i64 1)) t93 (Go.Value.int Go.IntKind.i64 1))) fun t94 =>
  wpB (pickv t87 (some t94) (some (Go.Value.bool false))) fun t95 =>
  wpB (gd t95 true (pureRun Try.prog (Instr.build 53 #[]))) fun t100 =>
  gE t95 true (CallR Try.prog 27 [(gv t95 true t30), (gv t95 true t50), (gv t95 true t35), t100] w) (fun t101 w =>
  wpB (gd t95 true (be Try.prog .eql 29 (.tmp 101) (.const (Go.Value.int Go.IntKind.i64 1)) t101 (Go.Value.int Go.IntKind.i64 1))) fun t102 =>
  wpB (pickv t95 (some t102) (some (Go.Value.bool false))) fun t103 =>
  wpB (gd t103 true (pureRun Try.prog (Op.unary .neg (gv t103 true t50)))) fun t107 =>
  wpB (gd t103 true (pureRun Try.prog (Instr.build 53 #[]))) fun t109 =>
  gE t103 true (CallR Try.prog 27 [(gv t103 true t30), t107, (gv t103 true t35), t109] w) (fun t110 w =>
  wpB (gd t103 true (be Try.prog .eql 29 (.tmp 110) (.const (Go.Value.int Go.IntKind.i64 1)) t110 (Go.Value.int Go.IntKind.i64 1))) fun t111 =>
  wpB (pickv t103 (some t111) (some (Go.Value.bool false))) fun t112 =>
  wpB (gd t112 true (bp Try.prog .sub 3 (gv t112 true t35) (Go.Value.int Go.IntKind.i64 1))) fun t117 =>
  wpB (gd t112 true (pureRun Try.prog (Instr.build 53 #[]))) fun t118 =>
  gE t112 true (CallR Try.prog 27 [(gv t112 true t30), (gv t112 true t41), t117, t118] w) (fun t119 w =>
  wpB (gd t112 true (be Try.prog .eql 29 (.tmp 119) (.const (Go.Value.int Go.IntKind.i64 1)) t119 (Go.Value.int Go.IntKind.i64 1))) fun t120 =>
  wpB (pickv t112 (some t120) (some (Go.Value.bool false))) fun t121 =>
  (wpB (pureRun Try.prog (Builtin.len_ #[54] 3 #[t44])) fun t123 =>
  wpB (be Try.prog .eql 3 (.tmp 123) (.const (Go.Value.int Go.IntKind.i64 1)) t123 (Go.Value.int Go.IntKind.i64 1)) fun t124 =>
  gE t124 true (CallR Try.prog 29 [(gv t124 true t30)] w.drew) (fun t127 w =>
  wpB (gd t124 true (pureRun Try.prog (Builtin.len_ #[54] 3 #[t127]))) fun t128 =>
  wpB (gd t124 true (be Try.prog .eql 3 (.tmp 128) (.const (Go.Value.int Go.IntKind.i64 1)) t128 (Go.Value.int Go.IntKind.i64 1))) fun t129 =>
  wpB (pickv t124 (some t129) (some (Go.Value.bool false))) fun t130 =>
  wpB (gd t130 true (pureRun Try.prog (Instr.indexAt 54 (gv t130 true t44) (Go.Value.int Go.IntKind.i64 0)))) fun t137 =>
  wpB (gd t130 true (ldv Try.prog 58 t137 w)) fun t138 =>
  gE t130 true (CallR Try.prog 29 [(gv t130 true t30)] w) (fun t133 w =>
  wpB (gd t130 true (pureRun Try.prog (Instr.indexAt 54 t133 (Go.Value.int Go.IntKind.i64 0)))) fun t134 =>
  wpB (gd t130 true (ldv Try.prog 58 t134 w)) fun t135 =>
  wpB (gd t130 true (be Try.prog .eql 58 (.tmp 135) (.tmp 138) t135 t138)) fun t139 =>
  wpB (pickv t130 (some t139) (some (Go.Value.bool false))) fun t140 =>
  P9_0 t27 t30 t35 t41 t42 t57 t58 t64 t65 t72 t73 t81 t82 t121 t140 w Q) w) w.drew) ∧
  (wpB (pureRun Try.prog (Builtin.len_ #[54] 3 #[t44])) fun t123_1 =>
  wpB (be Try.prog .eql 3 (.tmp 123) (.const (Go.Value.int Go.IntKind.i64 1)) t123_1 (Go.Value.int Go.IntKind.i64 1)) fun t124_1 =>
  gE t124_1 true (CallR Try.prog 29 [(gv t124_1 true t30)] w.drew) (fun t127_1 w =>
  wpB (gd t124_1 true (pureRun Try.prog (Builtin.len_ #[54] 3 #[t127_1]))) fun t128_1 =>
  wpB (gd t124_1 true (be Try.prog .eql 3 (.tmp 128) (.const (Go.Value.int Go.IntKind.i64 1)) t128_1 (Go.Value.int Go.IntKind.i64 1))) fun t129_1 =>
  wpB (pickv t124_1 (some t129_1) (some (Go.Value.bool false))) fun t130_1 =>
  gE t130_1 true (CallR Try.prog 29 [(gv t130_1 true t30)] w) (fun t133_1 w =>
  wpB (gd t130_1 true (pureRun Try.prog (Instr.indexAt 54 t133_1 (Go.Value.int Go.IntKind.i64 0)))) fun t134_1 =>
  wpB (gd t130_1 true (ldv Try.prog 58 t134_1 w)) fun t135_1 =>
  wpB (gd t130_1 true (pureRun Try.prog (Instr.indexAt 54 (gv t130_1 true t44) (Go.Value.int Go.IntKind.i64 0)))) fun t137_1 =>
  wpB (gd t130_1 true (ldv Try.prog 58 t137_1 w)) fun t138_1 =>
  wpB (gd t130_1 true (be Try.prog .eql 58 (.tmp 135) (.tmp 138) t135_1 t138_1)) fun t139_1 =>
  wpB (pickv t130_1 (some t139_1) (some (Go.Value.bool false))) fun t140_1 =>
  P9_0 t27 t30 t35 t41 t42 t57 t58 t64 t65 t72 t73 t81 t82 t121 t140_1 w Q) w) w.drew)) w) w) w) w))
def L9_0 (x7 x8 x9 x10 x11 x15 x16 x17 x18 x19 x20 x21 x22 x23 x24 : Value) (w : World) (Q : Value → World → Prop) : Prop :=
  wpB (pureRun Try.prog (Instr.build 53 #[(2, (Go.Value.int Go.IntKind.i64 3))])) fun t144 =>
  CallR Try.prog 27 [x8, x10, x9, t144] w fun t145 w =>
  wpB (be Try.prog .eql 29 (.tmp 145) (.const (Go.Value.int Go.IntKind.i64 0)) t145 (Go.Value.int Go.IntKind.i64 0)) fun t146 =>
  wpB (gd t146 true (pureRun Try.prog (Instr.build 53 #[]))) fun t151 =>
  gE t146 true (CallR Try.prog 27 [(gv t146 true x8), (gv t146 true x10), (gv t146 true x9), t151] w) (fun t152 w =>
  wpB (gd t146 true (be Try.prog .eql 29 (.tmp 152) (.const (Go.Value.int Go.IntKind.i64 1)) t152 (Go.Value.int Go.IntKind.i64 1))) fun t153 =>
  wpB (pickv t146 (some t153) (some (Go.Value.bool false))) fun t154 =>
  wpB (gd t154 true (bp Try.prog .add 3 (gv t154 true x9) (Go.Value.int Go.IntKind.i64 1))) fun t159 =>
  wpB (gd t154 true (pureRun Try.prog (Instr.build 53 #[(2, (Go.Value.int Go.IntKind.i64 4))]))) fun t160 =>
  gE t154 true (CallR Try.prog 28 [(gv t154 true x8), (gv t154 true x10), t159, t160] w) (fun t161 w =>
  wpB (gd t154 true (be Try.prog .eql 29 (.tmp 161) (.const (Go.Value.int Go.IntKind.i64 0)) t161 (Go.Value.int Go.IntKind.i64 0))) fun t162 =>
  wpB (pickv t154 (some t162) (some (Go.Value.bool false))) fun t163 =>
  wpB (gd t163 true (bp Try.prog .add 3 (gv t163 true x9) (Go.Value.int Go.IntKind.i64 1))) fun t168 =>
  wpB (gd t163 true (pureRun Try.prog (Instr.build 53 #[]))) fun t169 =>
  gE t163 true (CallR Try.prog 28 [(gv t163 true x8), (gv t163 true x10), t168, t169] w) (fun t170 w =>
  wpB (gd t163 true (be Try.prog .eql 29 (.tmp 170) (.const (Go.Value.int Go.IntKind.i64 1)) t170 (Go.Value.int Go.IntKind.i64 1))) fun t171 =>
  wpB (pickv t163 (some t171) (some (Go.Value.bool false))) fun t172 =>
  wpB (gd t172 true (bp Try.prog .add 3 (gv t172 true x9) (Go.Value.int Go.IntKind.i64 1))) fun t177 =>
  gE t172 true (CallR Try.prog 35 [(gv t172 true x8), (gv t172 true x10), t177] w) (fun t178 w =>
  wpB (gd t172 true (be Try.prog .eql 29 (.tmp 178) (.const (Go.Value.int Go.IntKind.i64 1)) t178 (Go.Value.int Go.IntKind.i64 1))) fun t179 =>
  wpB (pickv t172 (some t179) (some (Go.Value.bool false))) fun t180 =>
  CallR Try.prog 29 [x8] w fun t182 w =>
  wpB (gd x7 true (be Try.prog .eql 29 (.tmp 185) (.const (Go.Value.int Go.IntKind.i64 0)) (gv x7 true x11) (Go.Value.int Go.IntKind.i64 0))) fun t186 =>
  wpB (pickv x7 (some t186) (some (Go.Value.bool false))) fun t187 =>
  wpB (gd t187 true (be Try.prog .eql 3 (.tmp 189) (.const (Go.Value.int Go.IntKind.i64 0)) (gv t187 true x15) (Go.Value.int Go.IntKind.i64 0))) fun t190 =>
  wpB (pickv t187 (some t190) (some (Go.Value.bool false))) fun t191 =>
  wpB (gd t191 true (be Try.prog .eql 29 (.tmp 193) (.const (Go.Value.int Go.IntKind.i64 1)) (gv t191 true x16) (Go.Value.int Go.IntKind.i64 1))) fun t194 =>
  wpB (pickv t191 (some t194) (some (Go.Value.bool false))) fun t195 =>
  wpB (gd t195 true (be Try.prog .eql 3 (.tmp 197) (.const (Go.Value.int Go.IntKind.i64 0)) (gv t195 true x17) (Go.Value.int Go.IntKind.i64 0))) fun t198 =>
  wpB (pickv t195 (some t198) (some (Go.Value.bool false))) fun t199 =>
  wpB (gd t199 true (be Try.prog .eql 29 (.tmp 201) (.const (Go.Value.int Go.IntKind.i64 1)) (gv t199 true x18) (Go.Value.int Go.IntKind.i64 1))) fun t202 =>
  wpB (pickv t199 (some t202) (some (Go.Value.bool false))) fun t203 =>
  wpB (gd t203 true (be Try.prog .eql 3 (.tmp 205) (.const (Go.Value.int Go.IntKind.i64 0)) (gv t203 true x19) (Go.Value.int Go.IntKind.i64 0))) fun t206 =>
  wpB (pickv t203 (some t206) (some (Go.Value.bool false))) fun t207 =>
  wpB (gd t207 true (be Try.prog .eql 29 (.tmp 209) (.const (Go.Value.int Go.IntKind.i64 1)) (gv t207 true x20) (Go.Value.int Go.IntKind.i64 1))) fun t210 =>
  wpB (pickv t207 (some t210) (some (Go.Value.bool false))) fun t211 =>
  wpB (gd t211 true (be Try.prog .eql 3 (.tmp 213) (.const (Go.Value.int Go.IntKind.i64 0)) (gv t211 true x21) (Go.Value.int Go.IntKind.i64 0))) fun t214 =>
  wpB (pickv t211 (some t214) (some (Go.Value.bool false))) fun t215 =>
  wpB (gd t215 true (be Try.prog .eql 29 (.tmp 217) (.const (Go.Value.int Go.IntKind.i64 1)) (gv t215 true x22) (Go.Value.int Go.IntKind.i64 1))) fun t218 =>
  wpB (pickv t215 (some t218) (some (Go.Value.bool false))) fun t219 =>
  wpB (pickv t219 (some (gv t219 true x23)) (some (Go.Value.bool false))) fun t222 =>
  wpB (pickv t222 (some (gv t222 true x24)) (some (Go.Value.bool false))) fun t225 =>
  wpB (pickv t225 (some (gv t225 true t180)) (some (Go.Value.bool false))) fun t228 =>
  wpB (gd t228 true (pureRun Try.prog (Builtin.len_ #[54] 3 #[(gv t228 true t182)]))) fun t231 =>
  wpB (gd t228 true (be Try.prog .eql 3 (.tmp 231) (.const (Go.Value.int Go.IntKind.i64 1)) t231 (Go.Value.int Go.IntKind.i64 1))) fun t232 =>
  wpB (pickv t228 (some t232) (some (Go.Value.bool false))) fun t233 =>
  wpB (gd t233 true (pureRun Try.prog (Instr.indexAt 54 (gv t233 true t182) (Go.Value.int Go.IntKind.i64 0)))) fun t236 =>
  wpB (gd t233 true (pureRun Try.prog (Instr.fieldAt 58 t236 7))) fun t237 =>
  wpB (gd t233 true (pureRun Try.prog (Instr.fieldAt 53 t237 2))) fun t238 =>
  wpB (gd t233 true (ldv Try.prog 3 t238 w)) fun t239 =>
  wpB (gd t233 true (be Try.prog .eql 3 (.tmp 239) (.const (Go.Value.int Go.IntKind.i64 4)) t239 (Go.Value.int Go.IntKind.i64 4))) fun t240 =>
  wpB (pickv t233 (some t240) (some (Go.Value.bool false))) fun t241 =>
  wpB (gd t241 true (pureRun Try.prog (Instr.indexAt 54 (gv t241 true t182) (Go.Value.int Go.IntKind.i64 0)))) fun t244 =>
  wpB (gd t241 true (pureRun Try.prog (Instr.fieldAt 58 t244 4))) fun t245 =>
  wpB (gd t241 true (ldv Try.prog 3 t245 w)) fun t246 =>
  wpB (gd t241 true (be Try.prog .eql 3 (.tmp 246) (.tmp 247) t246 (gv t241 true x9))) fun t248 =>
  wpB (pickv t241 (some t248) (some (Go.Value.bool false))) fun t249 =>
  wpB (gd t249 true (pureRun Try.prog (Instr.indexAt 54 (gv t249 true t182) (Go.Value.int Go.IntKind.i64 0)))) fun t252 =>
  wpB (gd t249 true (pureRun Try.prog (Instr.fieldAt 58 t252 6))) fun t253 =>
  wpB (gd t249 true (ldv Try.prog 3 t253 w)) fun t254 =>
  wpB (gd t249 true (bp Try.prog .add 3 (gv t249 true x9) (Go.Value.int Go.IntKind.i64 1))) fun t256 =>
  wpB (gd t249 true (be Try.prog .eql 3 (.tmp 254) (.tmp 256) t254 t256)) fun t257 =>
  wpB (pickv t249 (some t257) (some (Go.Value.bool false))) fun t258 =>
  gE t258 true (CallR Try.prog 25 [(gv t258 true x8), (Go.Value.int Go.IntKind.i64 1)] w) (fun t261 w =>
  wpB (gd t258 true (be Try.prog .eql 3 (.tmp 261) (.const (Go.Value.int Go.IntKind.i64 (-1))) t261 (Go.Value.int Go.IntKind.i64 (-1)))) fun t262 =>
  wpB (pickv t258 (some t262) (some (Go.Value.bool false))) fun t263 =>
  gE t263 true (CallR Try.prog 25 [(gv t263 true x8), (Go.Value.int Go.IntKind.i64 0)] w) (fun t266 w =>
  wpB (gd t263 true (be Try.prog .eql 3 (.tmp 266) (.const (Go.Value.int Go.IntKind.i64 (-1))) t266 (Go.Value.int Go.IntKind.i64 (-1)))) fun t267 =>
  wpB (pickv t263 (some t267) (some (Go.Value.bool false))) fun t268 =>
  Q t268 w) w) w) w) w) w) w
theorem F9_ok {a0 a1 a2 : Value} {w : World} {Q : Value → World → Prop} (h : F9 a0 a1 a2 w Q) : CallR Try.prog 9 [a0, a1, a2] w Q :=
  have e : evC Try.prog (entR 3 143) 9 269 H9 Q C9 [] (entryE 0 [a0, a1, a2]) w (contT Try.prog (entR 3 143) 9 269 H9 Try.f9.results.toList Q []) = F9 a0 a1 a2 w Q := by kernel_rfl
  call_of (fn := Try.f9) mixed entOk Try.func9 (c := C9) rfl H9 (Nat.le_of_ble_eq_true rfl) (e.mpr h)
theorem L9_0_ok {x7 x8 x9 x10 x11 x15 x16 x17 x18 x19 x20 x21 x22 x23 x24 : Value} {w : World} {Q : Value → World → Prop} (h : L9_0 x7 x8 x9 x10 x11 x15 x16 x17 x18 x19 x20 x21 x22 x23 x24 w Q) : P9_0 x7 x8 x9 x10 x11 x15 x16 x17 x18 x19 x20 x21 x22 x23 x24 w Q :=
  have e : evC Try.prog (entR 3 143) 9 269 H9 Q (nav [1, 1, 1, 1, 1, 1, 1, 1, 1, 1, 1, 1, 1, 1, 1, 1] C9) [] (unpack [7, 8, 9, 10, 11, 15, 16, 17, 18, 19, 20, 21, 22, 23, 24] [x7, x8, x9, x10, x11, x15, x16, x17, x18, x19, x20, x21, x22, x23, x24]) w (contT Try.prog (entR 3 143) 9 269 H9 Try.f9.results.toList Q []) = L9_0 x7 x8 x9 x10 x11 x15 x16 x17 x18 x19 x20 x21 x22 x23 x24 w Q := by kernel_rfl
  part_jn (fn := Try.f9) mixed entOk Try.func9 H9 (c := (nav [1, 1, 1, 1, 1, 1, 1, 1, 1, 1, 1, 1, 1, 1, 1, 1] C9)) (t := []) (e.mpr h)

/-! ### rundale/rundalelaw22.first: function 23 -/
noncomputable def C23 : Code := (Try.f23.body).getD .skip
noncomputable def H23 : Hints := ⟨[], [], []⟩
def F23 (w : World) (Q : Value → World → Prop) : Prop :=
  CallR Try.prog 24 [(Go.Value.int Go.IntKind.i64 2)] w fun t7 w =>
  wpB (be Try.prog .eql 43 (.tmp 8) (.const (Go.Value.pointer none)) t7 (Go.Value.pointer none)) fun t9 =>
  cnd t9
  (Q (Go.Value.bool false) w)
  (wpB (pureRun Try.prog (Instr.build 40 #[(0, (Go.Value.int Go.IntKind.i64 3))])) fun t12 =>
  CallR Try.prog 26 [t7, (Go.Value.int Go.IntKind.i64 0), (Go.Value.int Go.IntKind.i64 0), t12, (Go.Value.int Go.IntKind.i64 3)] w fun t13 w =>
  wpB (pureRun Try.prog (Instr.extract t13 0)) fun t14 =>
  wpB (pureRun Try.prog (Instr.extract t13 1)) fun t15 =>
  wpB (pureRun Try.prog (Instr.build 53 #[])) fun t18 =>
  CallR Try.prog 27 [t7, t14, (Go.Value.int Go.IntKind.i64 5), t18] w fun t19 w =>
  wpB (pureRun Try.prog (Instr.build 53 #[])) fun t22 =>
  CallR Try.prog 28 [t7, t14, (Go.Value.int Go.IntKind.i64 5), t22] w fun t23 w =>
  CallR Try.prog 29 [t7] w fun t25 w =>
  wpB (be Try.prog .eql 29 (.tmp 26) (.const (Go.Value.int Go.IntKind.i64 0)) t15 (Go.Value.int Go.IntKind.i64 0)) fun t27 =>
  wpB (gd t27 true (be Try.prog .eql 29 (.tmp 29) (.const (Go.Value.int Go.IntKind.i64 0)) (gv t27 true t19) (Go.Value.int Go.IntKind.i64 0))) fun t30 =>
  wpB (pickv t27 (some t30) (some (Go.Value.bool false))) fun t31 =>
  wpB (gd t31 true (be Try.prog .eql 29 (.tmp 33) (.const (Go.Value.int Go.IntKind.i64 0)) (gv t31 true t23) (Go.Value.int Go.IntKind.i64 0))) fun t34 =>
  wpB (pickv t31 (some t34) (some (Go.Value.bool false))) fun t35 =>
  wpB (gd t35 true (pureRun Try.prog (Builtin.len_ #[54] 3 #[(gv t35 true t25)]))) fun t38 =>
  wpB (gd t35 true (be Try.prog .eql 3 (.tmp 38) (.const (Go.Value.int Go.IntKind.i64 1)) t38 (Go.Value.int Go.IntKind.i64 1))) fun t39 =>
  wpB (pickv t35 (some t39) (some (Go.Value.bool false))) fun t40 =>
  wpB (gd t40 true (pureRun Try.prog (Instr.indexAt 54 (gv t40 true t25) (Go.Value.int Go.IntKind.i64 0)))) fun t43 =>
  wpB (gd t40 true (pureRun Try.prog (Instr.fieldAt 58 t43 3))) fun t44 =>
  wpB (gd t40 true (ldv Try.prog 3 t44 w)) fun t45 =>
  wpB (gd t40 true (be Try.prog .eql 3 (.tmp 45) (.const (Go.Value.int Go.IntKind.i64 3)) t45 (Go.Value.int Go.IntKind.i64 3))) fun t46 =>
  wpB (pickv t40 (some t46) (some (Go.Value.bool false))) fun t47 =>
  wpB (gd t47 true (pureRun Try.prog (Instr.indexAt 54 (gv t47 true t25) (Go.Value.int Go.IntKind.i64 0)))) fun t50 =>
  wpB (gd t47 true (pureRun Try.prog (Instr.fieldAt 58 t50 4))) fun t51 =>
  wpB (gd t47 true (ldv Try.prog 3 t51 w)) fun t52 =>
  wpB (gd t47 true (be Try.prog .eql 3 (.tmp 52) (.const (Go.Value.int Go.IntKind.i64 5)) t52 (Go.Value.int Go.IntKind.i64 5))) fun t53 =>
  wpB (pickv t47 (some t53) (some (Go.Value.bool false))) fun t54 =>
  wpB (gd t54 true (pureRun Try.prog (Instr.indexAt 54 (gv t54 true t25) (Go.Value.int Go.IntKind.i64 0)))) fun t57 =>
  wpB (gd t54 true (pureRun Try.prog (Instr.fieldAt 58 t57 5))) fun t58 =>
  wpB (gd t54 true (ldv Try.prog 3 t58 w)) fun t59 =>
  wpB (gd t54 true (be Try.prog .eql 3 (.tmp 59) (.const (Go.Value.int Go.IntKind.i64 (-1))) t59 (Go.Value.int Go.IntKind.i64 (-1)))) fun t60 =>
  wpB (pickv t54 (some t60) (some (Go.Value.bool false))) fun t61 =>
  wpB (gd t61 true (pureRun Try.prog (Instr.indexAt 54 (gv t61 true t25) (Go.Value.int Go.IntKind.i64 0)))) fun t64 =>
  wpB (gd t61 true (pureRun Try.prog (Instr.fieldAt 58 t64 6))) fun t65 =>
  wpB (gd t61 true (ldv Try.prog 3 t65 w)) fun t66 =>
  wpB (gd t61 true (be Try.prog .eql 3 (.tmp 66) (.const (Go.Value.int Go.IntKind.i64 5)) t66 (Go.Value.int Go.IntKind.i64 5))) fun t67 =>
  wpB (pickv t61 (some t67) (some (Go.Value.bool false))) fun t68 =>
  gE t68 true (CallR Try.prog 30 [(gv t68 true t25)] w) (fun t71 w =>
  wpB (pickv t68 (some t71) (some (Go.Value.bool false))) fun t72 =>
  Q t72 w) w)
theorem F23_ok {w : World} {Q : Value → World → Prop} (h : F23  w Q) : CallR Try.prog 23 [] w Q :=
  have e : evC Try.prog (entR 3 143) 23 73 H23 Q C23 [] (entryE 0 []) w (contT Try.prog (entR 3 143) 23 73 H23 Try.f23.results.toList Q []) = F23  w Q := by kernel_rfl
  call_of (fn := Try.f23) mixed entOk Try.func23 (c := C23) rfl H23 (Nat.le_of_ble_eq_true rfl) (e.mpr h)

/-! ### rundale/record.New: function 24 -/
noncomputable def C24 : Code := (Try.f24.body).getD .skip
noncomputable def H24 : Hints := ⟨[], [], []⟩
def F24 (a0 : Value) (w : World) (Q : Value → World → Prop) : Prop :=
  effv Try.prog (Instr.buildSlice 23 1 #[(0, (Go.Value.int Go.IntKind.i64 (-1)))]) w fun t3 w =>
  wpB (pureRun Try.prog (Builtin.max_ #[3, 3] 3 #[a0, (Go.Value.int Go.IntKind.i64 1)])) fun t5 =>
  wpB (pureRun Try.prog (Builtin.min_ #[3, 3] 3 #[t5, (Go.Value.int Go.IntKind.i64 64)])) fun t6 =>
  CallR Try.prog 72 [t3, t6] w fun t7 w =>
  wpB (pureRun Try.prog (Instr.build 121 #[(1, t7)])) fun t8 =>
  effv Try.prog (Instr.box 121 t8) w fun t9 w =>
  Q t9 w
theorem F24_ok {a0 : Value} {w : World} {Q : Value → World → Prop} (h : F24 a0 w Q) : CallR Try.prog 24 [a0] w Q :=
  have e : evC Try.prog (entR 3 143) 24 10 H24 Q C24 [] (entryE 0 [a0]) w (contT Try.prog (entR 3 143) 24 10 H24 Try.f24.results.toList Q []) = F24 a0 w Q := by kernel_rfl
  call_of (fn := Try.f24) mixed entOk Try.func24 (c := C24) rfl H24 (Nat.le_of_ble_eq_true rfl) (e.mpr h)

/-! ### (*rundale/record.Record).Open: function 25 -/
noncomputable def C25 : Code := (Try.f25.body).getD .skip
noncomputable def H25 : Hints := ⟨[], [], []⟩
def F25 (a0 a1 : Value) (w : World) (Q : Value → World → Prop) : Prop :=
  wpB (bp Try.prog .lss 3 a1 (Go.Value.int Go.IntKind.i64 0)) fun t6 =>
  wpB (gd t6 false (nilv (gv t6 false a0))) fun t10 =>
  wpB (gd t6 false (pureRun Try.prog (Instr.fieldAt 121 t10 1))) fun t11 =>
  wpB (gd t6 false (ldv Try.prog 23 t11 w)) fun t12 =>
  wpB (gd t6 false (pureRun Try.prog (Builtin.len_ #[23] 3 #[t12]))) fun t13 =>
  wpB (gd t6 false (bp Try.prog .geq 3 (gv t6 false a1) t13)) fun t14 =>
  wpB (pickv t6 (some (Go.Value.bool true)) (some t14)) fun t15 =>
  cnd t15
  (Q (Go.Value.int Go.IntKind.i64 (-1)) w)
  (wpB (nilv a0) fun t17 =>
  wpB (pureRun Try.prog (Instr.fieldAt 121 t17 1)) fun t18 =>
  wpB (ldv Try.prog 23 t18 w) fun t19 =>
  wpB (pureRun Try.prog (Instr.indexAt 23 t19 a1)) fun t21 =>
  wpB (ldv Try.prog 3 t21 w) fun t22 =>
  Q t22 w)
theorem F25_ok {a0 a1 : Value} {w : World} {Q : Value → World → Prop} (h : F25 a0 a1 w Q) : CallR Try.prog 25 [a0, a1] w Q :=
  have e : evC Try.prog (entR 3 143) 25 23 H25 Q C25 [] (entryE 0 [a0, a1]) w (contT Try.prog (entR 3 143) 25 23 H25 Try.f25.results.toList Q []) = F25 a0 a1 w Q := by kernel_rfl
  call_of (fn := Try.f25) mixed entOk Try.func25 (c := C25) rfl H25 (Nat.le_of_ble_eq_true rfl) (e.mpr h)

/-! ### (*rundale/record.Record).Begin: function 26 -/
noncomputable def C26 : Code := (Try.f26.body).getD .skip
noncomputable def H26 : Hints := ⟨[], [], [(5, (.leaf [0, 1, 2, 3, 4, 5, 6, 7, 8, 9, 10, 11, 12, 13, 14]))]⟩
def F26 (a0 a1 a2 a3 a4 : Value) (w : World) (Q : Value → World → Prop) : Prop :=
  effv Try.prog (Instr.box 40 a3) w fun t8 w =>
  wpB (bp Try.prog .lss 3 a1 (Go.Value.int Go.IntKind.i64 0)) fun t14 =>
  wpB (gd t14 false (nilv (gv t14 false a0))) fun t18 =>
  wpB (gd t14 false (pureRun Try.prog (Instr.fieldAt 121 t18 1))) fun t19 =>
  wpB (gd t14 false (ldv Try.prog 23 t19 w)) fun t20 =>
  wpB (gd t14 false (pureRun Try.prog (Builtin.len_ #[23] 3 #[t20]))) fun t21 =>
  wpB (gd t14 false (bp Try.prog .geq 3 (gv t14 false a1) t21)) fun t22 =>
  wpB (pickv t14 (some (Go.Value.bool true)) (some t22)) fun t23 =>
  wpB (gd t23 false (nilv (gv t23 false a0))) fun t26 =>
  wpB (gd t23 false (pureRun Try.prog (Instr.fieldAt 121 t26 1))) fun t27 =>
  wpB (gd t23 false (ldv Try.prog 23 t27 w)) fun t28 =>
  wpB (gd t23 false (pureRun Try.prog (Instr.indexAt 23 t28 (gv t23 false a1)))) fun t30 =>
  wpB (gd t23 false (ldv Try.prog 3 t30 w)) fun t31 =>
  wpB (gd t23 false (bp Try.prog .geq 3 t31 (Go.Value.int Go.IntKind.i64 0))) fun t32 =>
  wpB (pickv t23 (some (Go.Value.bool true)) (some t32)) fun t33 =>
  gE t33 false (CallR Try.prog 73 [(gv t33 false a0), (gv t33 false a4)] w) (fun t37 w =>
  wpB (gd t33 false (pureRun Try.prog (Op.unary .not t37))) fun t38 =>
  wpB (pickv t33 (some (Go.Value.bool true)) (some t38)) fun t39 =>
  cnd t39
  (Q (.tuple #[(Go.Value.int Go.IntKind.i64 0), (Go.Value.int Go.IntKind.i64 1)]) w)
  (wpB (nilv a0) fun t41 =>
  wpB (pureRun Try.prog (Instr.fieldAt 121 t41 0)) fun t42 =>
  wpB (ldv Try.prog 54 t42 w) fun t43 =>
  wpB (pureRun Try.prog (Builtin.len_ #[54] 3 #[t43])) fun t44 =>
  wpB (nilv a0) fun t46 =>
  wpB (pureRun Try.prog (Instr.fieldAt 121 t46 1)) fun t47 =>
  wpB (ldv Try.prog 23 t47 w) fun t48 =>
  wpB (pureRun Try.prog (Instr.indexAt 23 t48 a1)) fun t51 =>
  effu Try.prog (Instr.storeAt 3 t51 t44) w fun w =>
  wpB (nilv a0) fun t54 =>
  wpB (pureRun Try.prog (Instr.fieldAt 121 t54 0)) fun t55 =>
  wpB (ldv Try.prog 54 t55 w.drew) fun t56 =>
  wpB (ldv Try.prog 40 t8 w.drew) fun t59 =>
  wpB (pureRun Try.prog (Instr.build 58 #[(0, a1), (1, a2), (2, t59), (3, a4), (4, (Go.Value.int Go.IntKind.i64 (-1))), (5, (Go.Value.int Go.IntKind.i64 (-1))), (6, (Go.Value.int Go.IntKind.i64 (-1)))])) fun t61 =>
  effv Try.prog (Instr.buildSlice 54 1 #[(0, t61)]) w.drew fun t62 w =>
  effv Try.prog (Builtin.append_ #[54, 54] 54 #[t56, t62]) w fun t63 w =>
  wpB (nilv a0) fun t64 =>
  wpB (pureRun Try.prog (Instr.fieldAt 121 t64 0)) fun t65 =>
  effu Try.prog (Instr.storeAt 54 t65 t63) w fun w =>
  Q (.tuple #[t44, (Go.Value.int Go.IntKind.i64 0)]) w)) w
theorem F26_ok {a0 a1 a2 a3 a4 : Value} {w : World} {Q : Value → World → Prop} (h : F26 a0 a1 a2 a3 a4 w Q) : CallR Try.prog 26 [a0, a1, a2, a3, a4] w Q :=
  have e : evC Try.prog (entR 3 143) 26 67 H26 Q C26 [] (entryE 0 [a0, a1, a2, a3, a4]) w (contT Try.prog (entR 3 143) 26 67 H26 Try.f26.results.toList Q []) = F26 a0 a1 a2 a3 a4 w Q := by kernel_rfl
  call_of (fn := Try.f26) mixed entOk Try.func26 (c := C26) rfl H26 (Nat.le_of_ble_eq_true rfl) (e.mpr h)

/-! ### (*rundale/record.Record).Point: function 27 -/
noncomputable def C27 : Code := (Try.f27.body).getD .skip
noncomputable def H27 : Hints := ⟨[], [(5, [])], [(4, (.ask 3 6 (.leaf [0, 1, 2, 3, 4, 5, 6, 7, 8, 9]) (.leaf [0, 1, 2, 4, 5, 6, 3, 7, 8, 9])))]⟩
noncomputable def T27_0 : List It := [.jn (nav [1, 1, 1, 1] C27)]
/-- (*rundale/record.Record).Point, from a join on -/
def P27_0 (w : World) (Q : Value → World → Prop) : Prop := Part Try.prog 27 T27_0 [] [] w Q
def F27 (a0 a1 a2 a3 : Value) (w : World) (Q : Value → World → Prop) : Prop :=
  effv Try.prog (Instr.box 53 a3) w fun t7 w =>
  CallR Try.prog 74 [a0, a1] w fun t12 w =>
  wpB (be Try.prog .eql 122 (.tmp 13) (.const (Go.Value.pointer none)) t12 (Go.Value.pointer none)) fun t14 =>
  wpB (gd t14 false (nilv (gv t14 false t12))) fun t17 =>
  wpB (gd t14 false (pureRun Try.prog (Instr.fieldAt 58 t17 4))) fun t18 =>
  wpB (gd t14 false (ldv Try.prog 3 t18 w)) fun t19 =>
  wpB (gd t14 false (bp Try.prog .geq 3 t19 (Go.Value.int Go.IntKind.i64 0))) fun t20 =>
  wpB (pickv t14 (some (Go.Value.bool true)) (some t20)) fun t21 =>
  gE t21 false (CallR Try.prog 73 [(gv t21 false a0), (gv t21 false a2)] w) (fun t25 w =>
  wpB (gd t21 false (pureRun Try.prog (Op.unary .not t25))) fun t26 =>
  wpB (pickv t21 (some (Go.Value.bool true)) (some t26)) fun t27 =>
  cnd t27
  (Q (Go.Value.int Go.IntKind.i64 1) w)
  ((wpB (ldv Try.prog 53 t7 w.drew) fun t31 =>
  wpB (nilv t12) fun t32 =>
  wpB (pureRun Try.prog (Instr.fieldAt 58 t32 4)) fun t33 =>
  effu Try.prog (Instr.storeAt 3 t33 a2) w.drew fun w =>
  wpB (nilv t12) fun t34 =>
  wpB (pureRun Try.prog (Instr.fieldAt 58 t34 7)) fun t35 =>
  effu Try.prog (Instr.storeAt 53 t35 t31) w fun w =>
  P27_0 w Q) ∧
  (wpB (nilv t12) fun t32_1 =>
  wpB (pureRun Try.prog (Instr.fieldAt 58 t32_1 4)) fun t33_1 =>
  effu Try.prog (Instr.storeAt 3 t33_1 a2) w.drew fun w =>
  wpB (ldv Try.prog 53 t7 w) fun t31_1 =>
  wpB (nilv t12) fun t34_1 =>
  wpB (pureRun Try.prog (Instr.fieldAt 58 t34_1 7)) fun t35_1 =>
  effu Try.prog (Instr.storeAt 53 t35_1 t31_1) w fun w =>
  P27_0 w Q))) w
def L27_0 (w : World) (Q : Value → World → Prop) : Prop :=
  Q (Go.Value.int Go.IntKind.i64 0) w
theorem F27_ok {a0 a1 a2 a3 : Value} {w : World} {Q : Value → World → Prop} (h : F27 a0 a1 a2 a3 w Q) : CallR Try.prog 27 [a0, a1, a2, a3] w Q :=
  have e : evC Try.prog (entR 3 143) 27 36 H27 Q C27 [] (entryE 0 [a0, a1, a2, a3]) w (contT Try.prog (entR 3 143) 27 36 H27 Try.f27.results.toList Q []) = F27 a0 a1 a2 a3 w Q := by kernel_rfl
  call_of (fn := Try.f27) mixed entOk Try.func27 (c := C27) rfl H27 (Nat.le_of_ble_eq_true rfl) (e.mpr h)
theorem L27_0_ok {w : World} {Q : Value → World → Prop} (h : L27_0  w Q) : P27_0  w Q :=
  have e : evC Try.prog (entR 3 143) 27 36 H27 Q (nav [1, 1, 1, 1] C27) [] (unpack [] []) w (contT Try.prog (entR 3 143) 27 36 H27 Try.f27.results.toList Q []) = L27_0  w Q := by kernel_rfl
  part_jn (fn := Try.f27) mixed entOk Try.func27 H27 (c := (nav [1, 1, 1, 1] C27)) (t := []) (e.mpr h)

/-! ### (*rundale/record.Record).End: function 28 -/
noncomputable def C28 : Code := (Try.f28.body).getD .skip
noncomputable def H28 : Hints := ⟨[], [(5, [0, 9])], [(4, (.ask 3 6 (.leaf [0, 1, 2, 3, 4, 5, 6, 7, 8, 9]) (.leaf [0, 1, 2, 4, 5, 6, 3, 7, 8, 9]))), (5, (.leaf [0, 1, 2, 3, 4, 5, 6, 7, 8, 9]))]⟩
noncomputable def T28_0 : List It := [.jn (nav [1, 1, 1, 1] C28)]
/-- (*rundale/record.Record).End, from a join on -/
def P28_0 (x0 x9 : Value) (w : World) (Q : Value → World → Prop) : Prop := Part Try.prog 28 T28_0 [0, 9] [x0, x9] w Q
def F28 (a0 a1 a2 a3 : Value) (w : World) (Q : Value → World → Prop) : Prop :=
  effv Try.prog (Instr.box 53 a3) w fun t7 w =>
  CallR Try.prog 74 [a0, a1] w fun t12 w =>
  wpB (be Try.prog .eql 122 (.tmp 13) (.const (Go.Value.pointer none)) t12 (Go.Value.pointer none)) fun t14 =>
  wpB (gd t14 false (nilv (gv t14 false t12))) fun t17 =>
  wpB (gd t14 false (pureRun Try.prog (Instr.fieldAt 58 t17 4))) fun t18 =>
  wpB (gd t14 false (ldv Try.prog 3 t18 w)) fun t19 =>
  wpB (gd t14 false (bp Try.prog .lss 3 t19 (Go.Value.int Go.IntKind.i64 0))) fun t20 =>
  wpB (pickv t14 (some (Go.Value.bool true)) (some t20)) fun t21 =>
  gE t21 false (CallR Try.prog 73 [(gv t21 false a0), (gv t21 false a2)] w) (fun t25 w =>
  wpB (gd t21 false (pureRun Try.prog (Op.unary .not t25))) fun t26 =>
  wpB (pickv t21 (some (Go.Value.bool true)) (some t26)) fun t27 =>
  cnd t27
  (Q (Go.Value.int Go.IntKind.i64 1) w)
  ((wpB (ldv Try.prog 53 t7 w.drew) fun t31 =>
  wpB (nilv t12) fun t32 =>
  wpB (pureRun Try.prog (Instr.fieldAt 58 t32 6)) fun t33 =>
  effu Try.prog (Instr.storeAt 3 t33 a2) w.drew fun w =>
  wpB (nilv t12) fun t34 =>
  wpB (pureRun Try.prog (Instr.fieldAt 58 t34 7)) fun t35 =>
  effu Try.prog (Instr.storeAt 53 t35 t31) w fun w =>
  P28_0 a0 t12 w Q) ∧
  (wpB (nilv t12) fun t32_1 =>
  wpB (pureRun Try.prog (Instr.fieldAt 58 t32_1 6)) fun t33_1 =>
  effu Try.prog (Instr.storeAt 3 t33_1 a2) w.drew fun w =>
  wpB (ldv Try.prog 53 t7 w) fun t31_1 =>
  wpB (nilv t12) fun t34_1 =>
  wpB (pureRun Try.prog (Instr.fieldAt 58 t34_1 7)) fun t35_1 =>
  effu Try.prog (Instr.storeAt 53 t35_1 t31_1) w fun w =>
  P28_0 a0 t12 w Q))) w
def L28_0 (x0 x9 : Value) (w : World) (Q : Value → World → Prop) : Prop :=
  wpB (nilv x0) fun t37 =>
  wpB (pureRun Try.prog (Instr.fieldAt 121 t37 1)) fun t38 =>
  wpB (ldv Try.prog 23 t38 w.drew) fun t39 =>
  wpB (nilv x9) fun t41 =>
  wpB (pureRun Try.prog (Instr.fieldAt 58 t41 0)) fun t42 =>
  wpB (ldv Try.prog 3 t42 w.drew) fun t43 =>
  wpB (pureRun Try.prog (Instr.indexAt 23 t39 t43)) fun t44 =>
  effu Try.prog (Instr.storeAt 3 t44 (Go.Value.int Go.IntKind.i64 (-1))) w.drew fun w =>
  Q (Go.Value.int Go.IntKind.i64 0) w
theorem F28_ok {a0 a1 a2 a3 : Value} {w : World} {Q : Value → World → Prop} (h : F28 a0 a1 a2 a3 w Q) : CallR Try.prog 28 [a0, a1, a2, a3] w Q :=
  have e : evC Try.prog (entR 3 143) 28 45 H28 Q C28 [] (entryE 0 [a0, a1, a2, a3]) w (contT Try.prog (entR 3 143) 28 45 H28 Try.f28.results.toList Q []) = F28 a0 a1 a2 a3 w Q := by kernel_rfl
  call_of (fn := Try.f28) mixed entOk Try.func28 (c := C28) rfl H28 (Nat.le_of_ble_eq_true rfl) (e.mpr h)
theorem L28_0_ok {x0 x9 : Value} {w : World} {Q : Value → World → Prop} (h : L28_0 x0 x9 w Q) : P28_0 x0 x9 w Q :=
  have e : evC Try.prog (entR 3 143) 28 45 H28 Q (nav [1, 1, 1, 1] C28) [] (unpack [0, 9] [x0, x9]) w (contT Try.prog (entR 3 143) 28 45 H28 Try.f28.results.toList Q []) = L28_0 x0 x9 w Q := by kernel_rfl
  part_jn (fn := Try.f28) mixed entOk Try.func28 H28 (c := (nav [1, 1, 1, 1] C28)) (t := []) (e.mpr h)

/-! ### (*rundale/record.Record).List: function 29 -/
noncomputable def C29 : Code := (Try.f29.body).getD .skip
noncomputable def H29 : Hints := ⟨[], [], []⟩
def F29 (a0 : Value) (w : World) (Q : Value → World → Prop) : Prop :=
  wpB (nilv a0) fun t4 =>
  wpB (pureRun Try.prog (Instr.fieldAt 121 t4 0)) fun t5 =>
  wpB (ldv Try.prog 54 t5 w) fun t6 =>
  CallR Try.prog 75 [t6] w fun t7 w =>
  Q t7 w
theorem F29_ok {a0 : Value} {w : World} {Q : Value → World → Prop} (h : F29 a0 w Q) : CallR Try.prog 29 [a0] w Q :=
  have e : evC Try.prog (entR 3 143) 29 8 H29 Q C29 [] (entryE 0 [a0]) w (contT Try.prog (entR 3 143) 29 8 H29 Try.f29.results.toList Q []) = F29 a0 w Q := by kernel_rfl
  call_of (fn := Try.f29) mixed entOk Try.func29 (c := C29) rfl H29 (Nat.le_of_ble_eq_true rfl) (e.mpr h)

/-! ### rundale/record.May: function 30 -/
noncomputable def C30 : Code := (Try.f30.body).getD .skip
noncomputable def H30 : Hints := ⟨[(2, [0, 6, 7, 8]), (7, [0, 4, 6, 7, 8, 31, 32])], [], [(4, (.leaf [0, 1, 2, 3, 4, 5, 6, 7, 8, 9, 10, 11, 12, 13, 14, 15, 16, 17])), (9, (.leaf [0, 1, 2, 3, 4, 5, 6, 7, 8, 9, 10, 11, 12, 13, 14, 15, 16, 17, 18, 19, 20, 21, 22, 23, 24, 25, 26, 27, 28, 29, 30, 31, 32, 33, 34]))]⟩
noncomputable def T30_0 : List It := [.lp (nav [1, 0, 1, 4, 5] C30), .blk 0, .jn (nav [1, 1] C30)]
noncomputable def T30_1 : List It := [.lp (nav [1, 0, 1, 4, 5, 1, 1, 0, 4, 1, 1, 1, 4, 5] C30), .blk 2, .blk 1, .jn (nav [1, 0, 1, 4, 5, 1, 1, 1] C30), .lp (nav [1, 0, 1, 4, 5] C30), .blk 0, .jn (nav [1, 1] C30)]
/-- rundale/record.May, from a loop's head on -/
def P30_0 (x0 x6 x7 x8 : Value) (w : World) (Q : Value → World → Prop) : Prop := Part Try.prog 30 T30_0 [0, 6, 7, 8] [x0, x6, x7, x8] w Q
/-- rundale/record.May, from a loop's head on -/
def P30_1 (x0 x4 x6 x7 x8 x31 x32 : Value) (w : World) (Q : Value → World → Prop) : Prop := Part Try.prog 30 T30_1 [0, 4, 6, 7, 8, 31, 32] [x0, x4, x6, x7, x8, x31, x32] w Q
def F30 (a0 : Value) (w : World) (Q : Value → World → Prop) : Prop :=
  wpB (pureRun Try.prog (Builtin.len_ #[54] 3 #[a0])) fun t7 =>
  P30_0 a0 a0 t7 (Go.Value.int Go.IntKind.i64 0) w Q
def L30_0 (x0 x6 x7 x8 : Value) (w : World) (Q : Value → World → Prop) : Prop :=
  wpB (bp Try.prog .lss 3 x8 x7) fun t9 =>
  cnd t9
  (wpB (pureRun Try.prog (Instr.indexAt 54 x6 x8)) fun t11 =>
  wpB (ldv Try.prog 58 t11 w) fun t12 =>
  effv Try.prog (Instr.alloc 58 true (.tuple #[])) w fun t4 w =>
  effu Try.prog (Instr.storeAt 58 t4 t12) w fun w =>
  wpB (ldv Try.prog 58 t4 w.drew) fun t13 =>
  CallR Try.prog 76 [t13] w.drew fun t14 w =>
  wpB (pureRun Try.prog (Op.unary .not t14)) fun t15 =>
  wpB (gd t15 false (bp Try.prog .gtr 3 (gv t15 false x8) (Go.Value.int Go.IntKind.i64 0))) fun t18 =>
  wpB (gd (gv t15 false t18) true (pureRun Try.prog (Instr.fieldAt 58 t4 3))) fun t20 =>
  wpB (gd (gv t15 false t18) true (ldv Try.prog 3 t20 w)) fun t21 =>
  wpB (gd (gv t15 false t18) true (bp Try.prog .sub 3 (gv (gv t15 false t18) true x8) (Go.Value.int Go.IntKind.i64 1))) fun t24 =>
  wpB (gd (gv t15 false t18) true (pureRun Try.prog (Instr.indexAt 54 (gv (gv t15 false t18) true x0) t24))) fun t25 =>
  wpB (gd (gv t15 false t18) true (pureRun Try.prog (Instr.fieldAt 58 t25 3))) fun t26 =>
  wpB (gd (gv t15 false t18) true (ldv Try.prog 3 t26 w)) fun t27 =>
  wpB (gd (gv t15 false t18) true (bp Try.prog .leq 3 t21 t27)) fun t28 =>
  wpB (gd t15 false (pickv (gv t15 false t18) (some t28) (some (Go.Value.bool false)))) fun t29 =>
  wpB (pickv t15 (some (Go.Value.bool true)) (some t29)) fun t30 =>
  cnd t30
  (Q (Go.Value.bool false) w)
  (P30_1 x0 t4 x6 x7 x8 x8 (Go.Value.int Go.IntKind.i64 0) w Q))
  (Q (Go.Value.bool true) w)
def L30_1 (x0 x4 x6 x7 x8 x31 x32 : Value) (w : World) (Q : Value → World → Prop) : Prop :=
  wpB (bp Try.prog .lss 3 x32 x31) fun t33 =>
  cnd t33
  (wpB (pureRun Try.prog (Instr.indexAt 54 x0 x32)) fun t37 =>
  wpB (pureRun Try.prog (Instr.fieldAt 58 t37 0)) fun t38 =>
  wpB (ldv Try.prog 3 t38 w.drew) fun t39 =>
  wpB (pureRun Try.prog (Instr.fieldAt 58 x4 0)) fun t40 =>
  wpB (ldv Try.prog 3 t40 w.drew) fun t41 =>
  wpB (be Try.prog .eql 3 (.tmp 39) (.tmp 41) t39 t41) fun t42 =>
  wpB (gd t42 true (pureRun Try.prog (Instr.indexAt 54 (gv t42 true x0) (gv t42 true x32)))) fun t46 =>
  wpB (gd t42 true (ldv Try.prog 58 t46 w.drew)) fun t47 =>
  wpB (gd t42 true (ldv Try.prog 58 x4 w.drew)) fun t48 =>
  gE t42 true (CallR Try.prog 31 [t47, t48] w.drew) (fun t49 w =>
  wpB (gd t42 true (pureRun Try.prog (Op.unary .not t49))) fun t50 =>
  wpB (gd (gv t42 true t50) false (pureRun Try.prog (Instr.fieldAt 58 x4 1))) fun t52 =>
  wpB (gd (gv t42 true t50) false (ldv Try.prog 3 t52 w)) fun t53 =>
  wpB (gd (gv t42 true t50) false (pureRun Try.prog (Instr.indexAt 54 (gv (gv t42 true t50) false x0) (gv (gv t42 true t50) false x32)))) fun t56 =>
  wpB (gd (gv t42 true t50) false (pureRun Try.prog (Instr.fieldAt 58 t56 1))) fun t57 =>
  wpB (gd (gv t42 true t50) false (ldv Try.prog 3 t57 w)) fun t58 =>
  wpB (gd (gv t42 true t50) false (bp Try.prog .leq 3 t53 t58)) fun t59 =>
  wpB (gd t42 true (pickv (gv t42 true t50) (some (Go.Value.bool true)) (some t59))) fun t60 =>
  wpB (pickv t42 (some t60) (some (Go.Value.bool false))) fun t61 =>
  wpB (gd t61 false (pureRun Try.prog (Instr.indexAt 54 (gv t61 false x0) (gv t61 false x32)))) fun t65 =>
  wpB (gd t61 false (ldv Try.prog 58 t65 w)) fun t66 =>
  wpB (gd t61 false (ldv Try.prog 58 x4 w)) fun t67 =>
  gE t61 false (CallR Try.prog 77 [t66, t67] w) (fun t68 w =>
  wpB (pickv t61 (some (Go.Value.bool true)) (some t68)) fun t69 =>
  cnd t69
  (Q (Go.Value.bool false) w)
  (wpB (bp Try.prog .add 3 x32 (Go.Value.int Go.IntKind.i64 1)) fun t70 =>
  P30_1 x0 x4 x6 x7 x8 x31 t70 w Q)) w) w.drew)
  (wpB (bp Try.prog .add 3 x8 (Go.Value.int Go.IntKind.i64 1)) fun t71 =>
  P30_0 x0 x6 x7 t71 w Q)
theorem F30_ok {a0 : Value} {w : World} {Q : Value → World → Prop} (h : F30 a0 w Q) : CallR Try.prog 30 [a0] w Q :=
  have e : evC Try.prog (entR 3 143) 30 72 H30 Q C30 [] (entryE 0 [a0]) w (contT Try.prog (entR 3 143) 30 72 H30 Try.f30.results.toList Q []) = F30 a0 w Q := by kernel_rfl
  call_of (fn := Try.f30) mixed entOk Try.func30 (c := C30) rfl H30 (Nat.le_of_ble_eq_true rfl) (e.mpr h)
theorem L30_0_ok {x0 x6 x7 x8 : Value} {w : World} {Q : Value → World → Prop} (h : L30_0 x0 x6 x7 x8 w Q) : P30_0 x0 x6 x7 x8 w Q :=
  have e : evC Try.prog (entR 3 143) 30 72 H30 Q (nav [1, 0, 1, 4, 5] C30) T30_0 (unpack [0, 6, 7, 8] [x0, x6, x7, x8]) w (contT Try.prog (entR 3 143) 30 72 H30 Try.f30.results.toList Q T30_0) = L30_0 x0 x6 x7 x8 w Q := by kernel_rfl
  part_lp (fn := Try.f30) mixed entOk Try.func30 H30 (c := (nav [1, 0, 1, 4, 5] C30)) (t := [.blk 0, .jn (nav [1, 1] C30)]) (e.mpr h)
theorem L30_1_ok {x0 x4 x6 x7 x8 x31 x32 : Value} {w : World} {Q : Value → World → Prop} (h : L30_1 x0 x4 x6 x7 x8 x31 x32 w Q) : P30_1 x0 x4 x6 x7 x8 x31 x32 w Q :=
  have e : evC Try.prog (entR 3 143) 30 72 H30 Q (nav [1, 0, 1, 4, 5, 1, 1, 0, 4, 1, 1, 1, 4, 5] C30) T30_1 (unpack [0, 4, 6, 7, 8, 31, 32] [x0, x4, x6, x7, x8, x31, x32]) w (contT Try.prog (entR 3 143) 30 72 H30 Try.f30.results.toList Q T30_1) = L30_1 x0 x4 x6 x7 x8 x31 x32 w Q := by kernel_rfl
  part_lp (fn := Try.f30) mixed entOk Try.func30 H30 (c := (nav [1, 0, 1, 4, 5, 1, 1, 0, 4, 1, 1, 1, 4, 5] C30)) (t := [.blk 2, .blk 1, .jn (nav [1, 0, 1, 4, 5, 1, 1, 1] C30), .lp (nav [1, 0, 1, 4, 5] C30), .blk 0, .jn (nav [1, 1] C30)]) (e.mpr h)

/-! ### rundale/record.Ahead: function 31 -/
noncomputable def C31 : Code := (Try.f31.body).getD .skip
noncomputable def H31 : Hints := ⟨[], [], []⟩
def F31 (a0 a1 : Value) (w : World) (Q : Value → World → Prop) : Prop :=
  effv Try.prog (Instr.box 58 a0) w fun t2 w =>
  effv Try.prog (Instr.box 58 a1) w fun t3 w =>
  wpB (pureRun Try.prog (Instr.fieldAt 58 t2 6)) fun t5 =>
  wpB (ldv Try.prog 3 t5 w) fun t6 =>
  wpB (bp Try.prog .geq 3 t6 (Go.Value.int Go.IntKind.i64 0)) fun t7 =>
  wpB (gd t7 true (pureRun Try.prog (Instr.fieldAt 58 t2 6))) fun t9 =>
  wpB (gd t7 true (ldv Try.prog 3 t9 w)) fun t10 =>
  wpB (gd t7 true (pureRun Try.prog (Instr.fieldAt 58 t3 3))) fun t11 =>
  wpB (gd t7 true (ldv Try.prog 3 t11 w)) fun t12 =>
  wpB (gd t7 true (bp Try.prog .lss 3 t10 t12)) fun t13 =>
  wpB (pickv t7 (some t13) (some (Go.Value.bool false))) fun t14 =>
  Q t14 w
theorem F31_ok {a0 a1 : Value} {w : World} {Q : Value → World → Prop} (h : F31 a0 a1 w Q) : CallR Try.prog 31 [a0, a1] w Q :=
  have e : evC Try.prog (entR 3 143) 31 15 H31 Q C31 [] (entryE 0 [a0, a1]) w (contT Try.prog (entR 3 143) 31 15 H31 Try.f31.results.toList Q []) = F31 a0 a1 w Q := by kernel_rfl
  call_of (fn := Try.f31) mixed entOk Try.func31 (c := C31) rfl H31 (Nat.le_of_ble_eq_true rfl) (e.mpr h)

/-! ### rundale/rundaleref18.NewRecord: function 32 -/
noncomputable def C32 : Code := (Try.f32.body).getD .skip
noncomputable def H32 : Hints := ⟨[], [], []⟩
def F32 (a0 : Value) (w : World) (Q : Value → World → Prop) : Prop :=
  wpB (pureRun Try.prog (Builtin.max_ #[3, 3] 3 #[a0, (Go.Value.int Go.IntKind.i64 1)])) fun t4 =>
  wpB (pureRun Try.prog (Builtin.min_ #[3, 3] 3 #[t4, (Go.Value.int Go.IntKind.i64 64)])) fun t5 =>
  wpB (pureRun Try.prog (Instr.build 67 #[(0, t5)])) fun t6 =>
  effv Try.prog (Instr.box 67 t6) w fun t7 w =>
  Q t7 w
theorem F32_ok {a0 : Value} {w : World} {Q : Value → World → Prop} (h : F32 a0 w Q) : CallR Try.prog 32 [a0] w Q :=
  have e : evC Try.prog (entR 3 143) 32 8 H32 Q C32 [] (entryE 0 [a0]) w (contT Try.prog (entR 3 143) 32 8 H32 Try.f32.results.toList Q []) = F32 a0 w Q := by kernel_rfl
  call_of (fn := Try.f32) mixed entOk Try.func32 (c := C32) rfl H32 (Nat.le_of_ble_eq_true rfl) (e.mpr h)

/-! ### (*rundale/rundaleref18.Record).Begin: function 33 -/
noncomputable def C33 : Code := (Try.f33.body).getD .skip
noncomputable def H33 : Hints := ⟨[], [], [(4, (.leaf [0, 1, 2, 3, 4, 5, 6, 7, 8, 9, 10, 11, 12, 13, 14]))]⟩
def F33 (a0 a1 a2 a3 a4 : Value) (w : World) (Q : Value → World → Prop) : Prop :=
  effv Try.prog (Instr.box 40 a3) w fun t8 w =>
  wpB (bp Try.prog .lss 3 a1 (Go.Value.int Go.IntKind.i64 0)) fun t13 =>
  wpB (gd t13 false (nilv (gv t13 false a0))) fun t17 =>
  wpB (gd t13 false (pureRun Try.prog (Instr.fieldAt 67 t17 0))) fun t18 =>
  wpB (gd t13 false (ldv Try.prog 3 t18 w)) fun t19 =>
  wpB (gd t13 false (bp Try.prog .geq 3 (gv t13 false a1) t19)) fun t20 =>
  wpB (pickv t13 (some (Go.Value.bool true)) (some t20)) fun t21 =>
  gE t21 false (CallR Try.prog 38 [(gv t21 false a0), (gv t21 false a1)] w) (fun t25 w =>
  wpB (gd t21 false (bp Try.prog .geq 3 t25 (Go.Value.int Go.IntKind.i64 0))) fun t26 =>
  wpB (pickv t21 (some (Go.Value.bool true)) (some t26)) fun t27 =>
  wpB (gd t27 false (nilv (gv t27 false a0))) fun t31 =>
  wpB (gd t27 false (pureRun Try.prog (Instr.fieldAt 67 t31 1))) fun t32 =>
  wpB (gd t27 false (ldv Try.prog 3 t32 w)) fun t33 =>
  wpB (gd t27 false (bp Try.prog .lss 3 (gv t27 false a4) t33)) fun t34 =>
  wpB (pickv t27 (some (Go.Value.bool true)) (some t34)) fun t35 =>
  cnd t35
  (Q (.tuple #[(Go.Value.int Go.IntKind.i64 0), (Go.Value.int Go.IntKind.i64 1)]) w)
  (wpB (nilv a0) fun t38 =>
  wpB (pureRun Try.prog (Instr.fieldAt 67 t38 1)) fun t39 =>
  effu Try.prog (Instr.storeAt 3 t39 a4) w fun w =>
  wpB (nilv a0) fun t42 =>
  wpB (pureRun Try.prog (Instr.fieldAt 67 t42 2)) fun t43 =>
  wpB (ldv Try.prog 54 t43 w.drew) fun t44 =>
  wpB (ldv Try.prog 40 t8 w.drew) fun t47 =>
  wpB (pureRun Try.prog (Instr.build 58 #[(0, a1), (1, a2), (2, t47), (3, a4), (4, (Go.Value.int Go.IntKind.i64 (-1))), (5, (Go.Value.int Go.IntKind.i64 (-1))), (6, (Go.Value.int Go.IntKind.i64 (-1)))])) fun t49 =>
  effv Try.prog (Instr.buildSlice 54 1 #[(0, t49)]) w.drew fun t50 w =>
  effv Try.prog (Builtin.append_ #[54, 54] 54 #[t44, t50]) w fun t51 w =>
  wpB (nilv a0) fun t52 =>
  wpB (pureRun Try.prog (Instr.fieldAt 67 t52 2)) fun t53 =>
  effu Try.prog (Instr.storeAt 54 t53 t51) w fun w =>
  wpB (nilv a0) fun t55 =>
  wpB (pureRun Try.prog (Instr.fieldAt 67 t55 2)) fun t56 =>
  wpB (ldv Try.prog 54 t56 w) fun t57 =>
  wpB (pureRun Try.prog (Builtin.len_ #[54] 3 #[t57])) fun t58 =>
  wpB (bp Try.prog .sub 3 t58 (Go.Value.int Go.IntKind.i64 1)) fun t59 =>
  Q (.tuple #[t59, (Go.Value.int Go.IntKind.i64 0)]) w)) w
theorem F33_ok {a0 a1 a2 a3 a4 : Value} {w : World} {Q : Value → World → Prop} (h : F33 a0 a1 a2 a3 a4 w Q) : CallR Try.prog 33 [a0, a1, a2, a3, a4] w Q :=
  have e : evC Try.prog (entR 3 143) 33 60 H33 Q C33 [] (entryE 0 [a0, a1, a2, a3, a4]) w (contT Try.prog (entR 3 143) 33 60 H33 Try.f33.results.toList Q []) = F33 a0 a1 a2 a3 a4 w Q := by kernel_rfl
  call_of (fn := Try.f33) mixed entOk Try.func33 (c := C33) rfl H33 (Nat.le_of_ble_eq_true rfl) (e.mpr h)

/-! ### (*rundale/rundaleref18.Record).Point: function 34 -/
noncomputable def C34 : Code := (Try.f34.body).getD .skip
noncomputable def H34 : Hints := ⟨[], [(5, [])], [(4, (.ask 11 14 (.leaf [0, 1, 2, 3, 4, 5, 6, 7, 8, 9, 10, 11, 12, 13, 14, 15, 16, 17]) (.leaf [0, 1, 2, 4, 5, 6, 7, 9, 10, 3, 8, 12, 13, 14, 11, 15, 16, 17])))]⟩
noncomputable def T34_0 : List It := [.jn (nav [1, 1, 1, 1] C34)]
/-- (*rundale/rundaleref18.Record).Point, from a join on -/
def P34_0 (w : World) (Q : Value → World → Prop) : Prop := Part Try.prog 34 T34_0 [] [] w Q
def F34 (a0 a1 a2 a3 : Value) (w : World) (Q : Value → World → Prop) : Prop :=
  effv Try.prog (Instr.box 53 a3) w fun t7 w =>
  CallR Try.prog 78 [a0, a1, a2] w fun t12 w =>
  wpB (pureRun Try.prog (Op.unary .not t12)) fun t13 =>
  wpB (gd t13 false (nilv (gv t13 false a0))) fun t16 =>
  wpB (gd t13 false (pureRun Try.prog (Instr.fieldAt 67 t16 2))) fun t17 =>
  wpB (gd t13 false (ldv Try.prog 54 t17 w)) fun t18 =>
  wpB (gd t13 false (pureRun Try.prog (Instr.indexAt 54 t18 (gv t13 false a1)))) fun t20 =>
  wpB (gd t13 false (pureRun Try.prog (Instr.fieldAt 58 t20 4))) fun t21 =>
  wpB (gd t13 false (ldv Try.prog 3 t21 w)) fun t22 =>
  wpB (gd t13 false (bp Try.prog .geq 3 t22 (Go.Value.int Go.IntKind.i64 0))) fun t23 =>
  wpB (pickv t13 (some (Go.Value.bool true)) (some t23)) fun t24 =>
  cnd t24
  (Q (Go.Value.int Go.IntKind.i64 1) w)
  (wpB (nilv a0) fun t27 =>
  wpB (pureRun Try.prog (Instr.fieldAt 67 t27 1)) fun t28 =>
  effu Try.prog (Instr.storeAt 3 t28 a2) w fun w =>
  (wpB (nilv a0) fun t30 =>
  wpB (pureRun Try.prog (Instr.fieldAt 67 t30 2)) fun t31 =>
  wpB (ldv Try.prog 54 t31 w.drew) fun t32 =>
  wpB (nilv a0) fun t35 =>
  wpB (pureRun Try.prog (Instr.fieldAt 67 t35 2)) fun t36 =>
  wpB (ldv Try.prog 54 t36 w.drew) fun t37 =>
  wpB (ldv Try.prog 53 t7 w.drew) fun t40 =>
  wpB (pureRun Try.prog (Instr.indexAt 54 t32 a1)) fun t41 =>
  wpB (pureRun Try.prog (Instr.fieldAt 58 t41 4)) fun t42 =>
  effu Try.prog (Instr.storeAt 3 t42 a2) w.drew fun w =>
  wpB (pureRun Try.prog (Instr.indexAt 54 t37 a1)) fun t43 =>
  wpB (pureRun Try.prog (Instr.fieldAt 58 t43 7)) fun t44 =>
  effu Try.prog (Instr.storeAt 53 t44 t40) w fun w =>
  P34_0 w Q) ∧
  (wpB (nilv a0) fun t30_1 =>
  wpB (pureRun Try.prog (Instr.fieldAt 67 t30_1 2)) fun t31_1 =>
  wpB (nilv a0) fun t35_1 =>
  wpB (pureRun Try.prog (Instr.fieldAt 67 t35_1 2)) fun t36_1 =>
  wpB (ldv Try.prog 54 t31_1 w.drew) fun t32_1 =>
  wpB (ldv Try.prog 54 t36_1 w.drew) fun t37_1 =>
  wpB (pureRun Try.prog (Instr.indexAt 54 t32_1 a1)) fun t41_1 =>
  wpB (pureRun Try.prog (Instr.fieldAt 58 t41_1 4)) fun t42_1 =>
  effu Try.prog (Instr.storeAt 3 t42_1 a2) w.drew fun w =>
  wpB (ldv Try.prog 53 t7 w) fun t40_1 =>
  wpB (pureRun Try.prog (Instr.indexAt 54 t37_1 a1)) fun t43_1 =>
  wpB (pureRun Try.prog (Instr.fieldAt 58 t43_1 7)) fun t44_1 =>
  effu Try.prog (Instr.storeAt 53 t44_1 t40_1) w fun w =>
  P34_0 w Q))
def L34_0 (w : World) (Q : Value → World → Prop) : Prop :=
  Q (Go.Value.int Go.IntKind.i64 0) w
theorem F34_ok {a0 a1 a2 a3 : Value} {w : World} {Q : Value → World → Prop} (h : F34 a0 a1 a2 a3 w Q) : CallR Try.prog 34 [a0, a1, a2, a3] w Q :=
  have e : evC Try.prog (entR 3 143) 34 45 H34 Q C34 [] (entryE 0 [a0, a1, a2, a3]) w (contT Try.prog (entR 3 143) 34 45 H34 Try.f34.results.toList Q []) = F34 a0 a1 a2 a3 w Q := by kernel_rfl
  call_of (fn := Try.f34) mixed entOk Try.func34 (c := C34) rfl H34 (Nat.le_of_ble_eq_true rfl) (e.mpr h)
theorem L34_0_ok {w : World} {Q : Value → World → Prop} (h : L34_0  w Q) : P34_0  w Q :=
  have e : evC Try.prog (entR 3 143) 34 45 H34 Q (nav [1, 1, 1, 1] C34) [] (unpack [] []) w (contT Try.prog (entR 3 143) 34 45 H34 Try.f34.results.toList Q []) = L34_0  w Q := by kernel_rfl
  part_jn (fn := Try.f34) mixed entOk Try.func34 H34 (c := (nav [1, 1, 1, 1] C34)) (t := []) (e.mpr h)

/-! ### (*rundale/record.Record).Back: function 35 -/
noncomputable def C35 : Code := (Try.f35.body).getD .skip
noncomputable def H35 : Hints := ⟨[], [], []⟩
def F35 (a0 a1 a2 : Value) (w : World) (Q : Value → World → Prop) : Prop :=
  CallR Try.prog 74 [a0, a1] w fun t10 w =>
  wpB (be Try.prog .eql 122 (.tmp 11) (.const (Go.Value.pointer none)) t10 (Go.Value.pointer none)) fun t12 =>
  wpB (gd t12 false (nilv (gv t12 false t10))) fun t15 =>
  wpB (gd t12 false (pureRun Try.prog (Instr.fieldAt 58 t15 4))) fun t16 =>
  wpB (gd t12 false (ldv Try.prog 3 t16 w)) fun t17 =>
  wpB (gd t12 false (bp Try.prog .lss 3 t17 (Go.Value.int Go.IntKind.i64 0))) fun t18 =>
  wpB (pickv t12 (some (Go.Value.bool true)) (some t18)) fun t19 =>
  wpB (gd t19 false (nilv (gv t19 false t10))) fun t22 =>
  wpB (gd t19 false (pureRun Try.prog (Instr.fieldAt 58 t22 5))) fun t23 =>
  wpB (gd t19 false (ldv Try.prog 3 t23 w)) fun t24 =>
  wpB (gd t19 false (bp Try.prog .geq 3 t24 (Go.Value.int Go.IntKind.i64 0))) fun t25 =>
  wpB (pickv t19 (some (Go.Value.bool true)) (some t25)) fun t26 =>
  gE t26 false (CallR Try.prog 73 [(gv t26 false a0), (gv t26 false a2)] w) (fun t30 w =>
  wpB (gd t26 false (pureRun Try.prog (Op.unary .not t30))) fun t31 =>
  wpB (pickv t26 (some (Go.Value.bool true)) (some t31)) fun t32 =>
  cnd t32
  (Q (Go.Value.int Go.IntKind.i64 1) w)
  (wpB (nilv t10) fun t35 =>
  wpB (pureRun Try.prog (Instr.fieldAt 58 t35 5)) fun t36 =>
  effu Try.prog (Instr.storeAt 3 t36 a2) w fun w =>
  Q (Go.Value.int Go.IntKind.i64 0) w)) w
theorem F35_ok {a0 a1 a2 : Value} {w : World} {Q : Value → World → Prop} (h : F35 a0 a1 a2 w Q) : CallR Try.prog 35 [a0, a1, a2] w Q :=
  have e : evC Try.prog (entR 3 143) 35 37 H35 Q C35 [] (entryE 0 [a0, a1, a2]) w (contT Try.prog (entR 3 143) 35 37 H35 Try.f35.results.toList Q []) = F35 a0 a1 a2 w Q := by kernel_rfl
  call_of (fn := Try.f35) mixed entOk Try.func35 (c := C35) rfl H35 (Nat.le_of_ble_eq_true rfl) (e.mpr h)

/-! ### (*rundale/rundaleref18.Record).Back: function 36 -/
noncomputable def C36 : Code := (Try.f36.body).getD .skip
noncomputable def H36 : Hints := ⟨[], [], []⟩
def F36 (a0 a1 a2 : Value) (w : World) (Q : Value → World → Prop) : Prop :=
  CallR Try.prog 78 [a0, a1, a2] w fun t10 w =>
  wpB (pureRun Try.prog (Op.unary .not t10)) fun t11 =>
  wpB (gd t11 false (nilv (gv t11 false a0))) fun t14 =>
  wpB (gd t11 false (pureRun Try.prog (Instr.fieldAt 67 t14 2))) fun t15 =>
  wpB (gd t11 false (ldv Try.prog 54 t15 w)) fun t16 =>
  wpB (gd t11 false (pureRun Try.prog (Instr.indexAt 54 t16 (gv t11 false a1)))) fun t18 =>
  wpB (gd t11 false (pureRun Try.prog (Instr.fieldAt 58 t18 4))) fun t19 =>
  wpB (gd t11 false (ldv Try.prog 3 t19 w)) fun t20 =>
  wpB (gd t11 false (bp Try.prog .lss 3 t20 (Go.Value.int Go.IntKind.i64 0))) fun t21 =>
  wpB (pickv t11 (some (Go.Value.bool true)) (some t21)) fun t22 =>
  wpB (gd t22 false (nilv (gv t22 false a0))) fun t25 =>
  wpB (gd t22 false (pureRun Try.prog (Instr.fieldAt 67 t25 2))) fun t26 =>
  wpB (gd t22 false (ldv Try.prog 54 t26 w)) fun t27 =>
  wpB (gd t22 false (pureRun Try.prog (Instr.indexAt 54 t27 (gv t22 false a1)))) fun t29 =>
  wpB (gd t22 false (pureRun Try.prog (Instr.fieldAt 58 t29 5))) fun t30 =>
  wpB (gd t22 false (ldv Try.prog 3 t30 w)) fun t31 =>
  wpB (gd t22 false (bp Try.prog .geq 3 t31 (Go.Value.int Go.IntKind.i64 0))) fun t32 =>
  wpB (pickv t22 (some (Go.Value.bool true)) (some t32)) fun t33 =>
  cnd t33
  (Q (Go.Value.int Go.IntKind.i64 1) w)
  (wpB (nilv a0) fun t36 =>
  wpB (pureRun Try.prog (Instr.fieldAt 67 t36 1)) fun t37 =>
  effu Try.prog (Instr.storeAt 3 t37 a2) w fun w =>
  wpB (nilv a0) fun t39 =>
  wpB (pureRun Try.prog (Instr.fieldAt 67 t39 2)) fun t40 =>
  wpB (ldv Try.prog 54 t40 w) fun t41 =>
  wpB (pureRun Try.prog (Instr.indexAt 54 t41 a1)) fun t44 =>
  wpB (pureRun Try.prog (Instr.fieldAt 58 t44 5)) fun t45 =>
  effu Try.prog (Instr.storeAt 3 t45 a2) w fun w =>
  Q (Go.Value.int Go.IntKind.i64 0) w)
theorem F36_ok {a0 a1 a2 : Value} {w : World} {Q : Value → World → Prop} (h : F36 a0 a1 a2 w Q) : CallR Try.prog 36 [a0, a1, a2] w Q :=
  have e : evC Try.prog (entR 3 143) 36 46 H36 Q C36 [] (entryE 0 [a0, a1, a2]) w (contT Try.prog (entR 3 143) 36 46 H36 Try.f36.results.toList Q []) = F36 a0 a1 a2 w Q := by kernel_rfl
  call_of (fn := Try.f36) mixed entOk Try.func36 (c := C36) rfl H36 (Nat.le_of_ble_eq_true rfl) (e.mpr h)

/-! ### (*rundale/rundaleref18.Record).End: function 37 -/
noncomputable def C37 : Code := (Try.f37.body).getD .skip
noncomputable def H37 : Hints := ⟨[], [(5, [])], [(4, (.ask 11 14 (.leaf [0, 1, 2, 3, 4, 5, 6, 7, 8, 9, 10, 11, 12, 13, 14, 15, 16, 17]) (.leaf [0, 1, 2, 4, 5, 6, 7, 9, 10, 3, 8, 12, 13, 14, 11, 15, 16, 17])))]⟩
noncomputable def T37_0 : List It := [.jn (nav [1, 1, 1, 1] C37)]
/-- (*rundale/rundaleref18.Record).End, from a join on -/
def P37_0 (w : World) (Q : Value → World → Prop) : Prop := Part Try.prog 37 T37_0 [] [] w Q
def F37 (a0 a1 a2 a3 : Value) (w : World) (Q : Value → World → Prop) : Prop :=
  effv Try.prog (Instr.box 53 a3) w fun t7 w =>
  CallR Try.prog 78 [a0, a1, a2] w fun t12 w =>
  wpB (pureRun Try.prog (Op.unary .not t12)) fun t13 =>
  wpB (gd t13 false (nilv (gv t13 false a0))) fun t16 =>
  wpB (gd t13 false (pureRun Try.prog (Instr.fieldAt 67 t16 2))) fun t17 =>
  wpB (gd t13 false (ldv Try.prog 54 t17 w)) fun t18 =>
  wpB (gd t13 false (pureRun Try.prog (Instr.indexAt 54 t18 (gv t13 false a1)))) fun t20 =>
  wpB (gd t13 false (pureRun Try.prog (Instr.fieldAt 58 t20 4))) fun t21 =>
  wpB (gd t13 false (ldv Try.prog 3 t21 w)) fun t22 =>
  wpB (gd t13 false (bp Try.prog .lss 3 t22 (Go.Value.int Go.IntKind.i64 0))) fun t23 =>
  wpB (pickv t13 (some (Go.Value.bool true)) (some t23)) fun t24 =>
  cnd t24
  (Q (Go.Value.int Go.IntKind.i64 1) w)
  (wpB (nilv a0) fun t27 =>
  wpB (pureRun Try.prog (Instr.fieldAt 67 t27 1)) fun t28 =>
  effu Try.prog (Instr.storeAt 3 t28 a2) w fun w =>
  (wpB (nilv a0) fun t30 =>
  wpB (pureRun Try.prog (Instr.fieldAt 67 t30 2)) fun t31 =>
  wpB (ldv Try.prog 54 t31 w.drew) fun t32 =>
  wpB (nilv a0) fun t35 =>
  wpB (pureRun Try.prog (Instr.fieldAt 67 t35 2)) fun t36 =>
  wpB (ldv Try.prog 54 t36 w.drew) fun t37 =>
  wpB (ldv Try.prog 53 t7 w.drew) fun t40 =>
  wpB (pureRun Try.prog (Instr.indexAt 54 t32 a1)) fun t41 =>
  wpB (pureRun Try.prog (Instr.fieldAt 58 t41 6)) fun t42 =>
  effu Try.prog (Instr.storeAt 3 t42 a2) w.drew fun w =>
  wpB (pureRun Try.prog (Instr.indexAt 54 t37 a1)) fun t43 =>
  wpB (pureRun Try.prog (Instr.fieldAt 58 t43 7)) fun t44 =>
  effu Try.prog (Instr.storeAt 53 t44 t40) w fun w =>
  P37_0 w Q) ∧
  (wpB (nilv a0) fun t30_1 =>
  wpB (pureRun Try.prog (Instr.fieldAt 67 t30_1 2)) fun t31_1 =>
  wpB (nilv a0) fun t35_1 =>
  wpB (pureRun Try.prog (Instr.fieldAt 67 t35_1 2)) fun t36_1 =>
  wpB (ldv Try.prog 54 t31_1 w.drew) fun t32_1 =>
  wpB (ldv Try.prog 54 t36_1 w.drew) fun t37_1 =>
  wpB (pureRun Try.prog (Instr.indexAt 54 t32_1 a1)) fun t41_1 =>
  wpB (pureRun Try.prog (Instr.fieldAt 58 t41_1 6)) fun t42_1 =>
  effu Try.prog (Instr.storeAt 3 t42_1 a2) w.drew fun w =>
  wpB (ldv Try.prog 53 t7 w) fun t40_1 =>
  wpB (pureRun Try.prog (Instr.indexAt 54 t37_1 a1)) fun t43_1 =>
  wpB (pureRun Try.prog (Instr.fieldAt 58 t43_1 7)) fun t44_1 =>
  effu Try.prog (Instr.storeAt 53 t44_1 t40_1) w fun w =>
  P37_0 w Q))
def L37_0 (w : World) (Q : Value → World → Prop) : Prop :=
  Q (Go.Value.int Go.IntKind.i64 0) w
theorem F37_ok {a0 a1 a2 a3 : Value} {w : World} {Q : Value → World → Prop} (h : F37 a0 a1 a2 a3 w Q) : CallR Try.prog 37 [a0, a1, a2, a3] w Q :=
  have e : evC Try.prog (entR 3 143) 37 45 H37 Q C37 [] (entryE 0 [a0, a1, a2, a3]) w (contT Try.prog (entR 3 143) 37 45 H37 Try.f37.results.toList Q []) = F37 a0 a1 a2 a3 w Q := by kernel_rfl
  call_of (fn := Try.f37) mixed entOk Try.func37 (c := C37) rfl H37 (Nat.le_of_ble_eq_true rfl) (e.mpr h)
theorem L37_0_ok {w : World} {Q : Value → World → Prop} (h : L37_0  w Q) : P37_0  w Q :=
  have e : evC Try.prog (entR 3 143) 37 45 H37 Q (nav [1, 1, 1, 1] C37) [] (unpack [] []) w (contT Try.prog (entR 3 143) 37 45 H37 Try.f37.results.toList Q []) = L37_0  w Q := by kernel_rfl
  part_jn (fn := Try.f37) mixed entOk Try.func37 H37 (c := (nav [1, 1, 1, 1] C37)) (t := []) (e.mpr h)

/-! ### (*rundale/rundaleref18.Record).Open: function 38 -/
noncomputable def C38 : Code := (Try.f38.body).getD .skip
noncomputable def H38 : Hints := ⟨[(2, [0, 1, 5])], [], []⟩
noncomputable def T38_0 : List It := [.lp (nav [1, 0, 1, 4, 5] C38), .blk 0, .jn (nav [1, 1] C38)]
/-- (*rundale/rundaleref18.Record).Open, from a loop's head on -/
def P38_0 (x0 x1 x5 : Value) (w : World) (Q : Value → World → Prop) : Prop := Part Try.prog 38 T38_0 [0, 1, 5] [x0, x1, x5] w Q
def F38 (a0 a1 : Value) (w : World) (Q : Value → World → Prop) : Prop :=
  P38_0 a0 a1 (Go.Value.int Go.IntKind.i64 0) w Q
def L38_0 (x0 x1 x5 : Value) (w : World) (Q : Value → World → Prop) : Prop :=
  wpB (nilv x0) fun t8 =>
  wpB (pureRun Try.prog (Instr.fieldAt 67 t8 2)) fun t9 =>
  wpB (ldv Try.prog 54 t9 w) fun t10 =>
  wpB (pureRun Try.prog (Builtin.len_ #[54] 3 #[t10])) fun t11 =>
  wpB (bp Try.prog .lss 3 x5 t11) fun t12 =>
  cnd t12
  (wpB (nilv x0) fun t16 =>
  wpB (pureRun Try.prog (Instr.fieldAt 67 t16 2)) fun t17 =>
  wpB (ldv Try.prog 54 t17 w) fun t18 =>
  wpB (pureRun Try.prog (Instr.indexAt 54 t18 x5)) fun t20 =>
  wpB (pureRun Try.prog (Instr.fieldAt 58 t20 0)) fun t21 =>
  wpB (ldv Try.prog 3 t21 w) fun t22 =>
  wpB (be Try.prog .eql 3 (.tmp 22) (.tmp 23) t22 x1) fun t24 =>
  wpB (gd t24 true (nilv (gv t24 true x0))) fun t27 =>
  wpB (gd t24 true (pureRun Try.prog (Instr.fieldAt 67 t27 2))) fun t28 =>
  wpB (gd t24 true (ldv Try.prog 54 t28 w)) fun t29 =>
  wpB (gd t24 true (pureRun Try.prog (Instr.indexAt 54 t29 (gv t24 true x5)))) fun t31 =>
  wpB (gd t24 true (pureRun Try.prog (Instr.fieldAt 58 t31 6))) fun t32 =>
  wpB (gd t24 true (ldv Try.prog 3 t32 w)) fun t33 =>
  wpB (gd t24 true (bp Try.prog .lss 3 t33 (Go.Value.int Go.IntKind.i64 0))) fun t34 =>
  wpB (pickv t24 (some t34) (some (Go.Value.bool false))) fun t35 =>
  cnd t35
  (Q x5 w)
  (wpB (bp Try.prog .add 3 x5 (Go.Value.int Go.IntKind.i64 1)) fun t14 =>
  P38_0 x0 x1 t14 w Q))
  (Q (Go.Value.int Go.IntKind.i64 (-1)) w)
theorem F38_ok {a0 a1 : Value} {w : World} {Q : Value → World → Prop} (h : F38 a0 a1 w Q) : CallR Try.prog 38 [a0, a1] w Q :=
  have e : evC Try.prog (entR 3 143) 38 37 H38 Q C38 [] (entryE 0 [a0, a1]) w (contT Try.prog (entR 3 143) 38 37 H38 Try.f38.results.toList Q []) = F38 a0 a1 w Q := by kernel_rfl
  call_of (fn := Try.f38) mixed entOk Try.func38 (c := C38) rfl H38 (Nat.le_of_ble_eq_true rfl) (e.mpr h)
theorem L38_0_ok {x0 x1 x5 : Value} {w : World} {Q : Value → World → Prop} (h : L38_0 x0 x1 x5 w Q) : P38_0 x0 x1 x5 w Q :=
  have e : evC Try.prog (entR 3 143) 38 37 H38 Q (nav [1, 0, 1, 4, 5] C38) T38_0 (unpack [0, 1, 5] [x0, x1, x5]) w (contT Try.prog (entR 3 143) 38 37 H38 Try.f38.results.toList Q T38_0) = L38_0 x0 x1 x5 w Q := by kernel_rfl
  part_lp (fn := Try.f38) mixed entOk Try.func38 H38 (c := (nav [1, 0, 1, 4, 5] C38)) (t := [.blk 0, .jn (nav [1, 1] C38)]) (e.mpr h)

/-! ### rundale/rundalelaw22.same: function 39 -/
noncomputable def C39 : Code := (Try.f39.body).getD .skip
noncomputable def H39 : Hints := ⟨[(4, [0, 1, 5])], [], [(6, (.leaf [0, 1, 2, 3, 4, 5, 6, 7, 8]))]⟩
noncomputable def T39_0 : List It := [.lp (nav [1, 1, 0, 1, 4, 5] C39), .blk 0, .jn (nav [1, 1, 1] C39)]
/-- rundale/rundalelaw22.same, from a loop's head on -/
def P39_0 (x0 x1 x5 : Value) (w : World) (Q : Value → World → Prop) : Prop := Part Try.prog 39 T39_0 [0, 1, 5] [x0, x1, x5] w Q
def F39 (a0 a1 : Value) (w : World) (Q : Value → World → Prop) : Prop :=
  wpB (pureRun Try.prog (Builtin.len_ #[54] 3 #[a0])) fun t7 =>
  wpB (pureRun Try.prog (Builtin.len_ #[54] 3 #[a1])) fun t9 =>
  wpB (be Try.prog .neq 3 (.tmp 7) (.tmp 9) t7 t9) fun t10 =>
  cnd t10
  (Q (Go.Value.bool false) w)
  (P39_0 a0 a1 (Go.Value.int Go.IntKind.i64 0) w Q)
def L39_0 (x0 x1 x5 : Value) (w : World) (Q : Value → World → Prop) : Prop :=
  wpB (pureRun Try.prog (Builtin.len_ #[54] 3 #[x0])) fun t13 =>
  wpB (bp Try.prog .lss 3 x5 t13) fun t14 =>
  cnd t14
  (wpB (pureRun Try.prog (Instr.indexAt 54 x0 x5)) fun t19 =>
  wpB (ldv Try.prog 58 t19 w.drew) fun t20 =>
  wpB (pureRun Try.prog (Instr.indexAt 54 x1 x5)) fun t23 =>
  wpB (ldv Try.prog 58 t23 w.drew) fun t24 =>
  wpB (be Try.prog .neq 58 (.tmp 20) (.tmp 24) t20 t24) fun t25 =>
  cnd t25
  (Q (Go.Value.bool false) w.drew)
  (wpB (bp Try.prog .add 3 x5 (Go.Value.int Go.IntKind.i64 1)) fun t16 =>
  P39_0 x0 x1 t16 w.drew Q))
  (Q (Go.Value.bool true) w)
theorem F39_ok {a0 a1 : Value} {w : World} {Q : Value → World → Prop} (h : F39 a0 a1 w Q) : CallR Try.prog 39 [a0, a1] w Q :=
  have e : evC Try.prog (entR 3 143) 39 26 H39 Q C39 [] (entryE 0 [a0, a1]) w (contT Try.prog (entR 3 143) 39 26 H39 Try.f39.results.toList Q []) = F39 a0 a1 w Q := by kernel_rfl
  call_of (fn := Try.f39) mixed entOk Try.func39 (c := C39) rfl H39 (Nat.le_of_ble_eq_true rfl) (e.mpr h)
theorem L39_0_ok {x0 x1 x5 : Value} {w : World} {Q : Value → World → Prop} (h : L39_0 x0 x1 x5 w Q) : P39_0 x0 x1 x5 w Q :=
  have e : evC Try.prog (entR 3 143) 39 26 H39 Q (nav [1, 1, 0, 1, 4, 5] C39) T39_0 (unpack [0, 1, 5] [x0, x1, x5]) w (contT Try.prog (entR 3 143) 39 26 H39 Try.f39.results.toList Q T39_0) = L39_0 x0 x1 x5 w Q := by kernel_rfl
  part_lp (fn := Try.f39) mixed entOk Try.func39 H39 (c := (nav [1, 1, 0, 1, 4, 5] C39)) (t := [.blk 0, .jn (nav [1, 1, 1] C39)]) (e.mpr h)

/-! ### slices.Repeat[[]int,int]: function 72 -/
noncomputable def C72 : Code := (Try.f72.body).getD .skip
noncomputable def H72 : Hints := ⟨[(8, [7, 8])], [(3, [0, 1]), (6, [0, 6])], [(9, (.leaf [0, 1, 2, 3, 4, 5, 6, 7, 8, 9]))]⟩
noncomputable def T72_0 : List It := [.jn (nav [1, 1] C72)]
noncomputable def T72_1 : List It := [.jn (nav [1, 1, 1, 1] C72)]
noncomputable def T72_2 : List It := [.lp (nav [1, 1, 1, 1, 1, 1, 0, 4, 5] C72), .blk 0, .jn (nav [1, 1, 1, 1, 1, 1, 1] C72)]
/-- slices.Repeat[[]int,int], from a join on -/
def P72_0 (x0 x1 : Value) (w : World) (Q : Value → World → Prop) : Prop := Part Try.prog 72 T72_0 [0, 1] [x0, x1] w Q
/-- slices.Repeat[[]int,int], from a join on -/
def P72_1 (x0 x6 : Value) (w : World) (Q : Value → World → Prop) : Prop := Part Try.prog 72 T72_1 [0, 6] [x0, x6] w Q
/-- slices.Repeat[[]int,int], from a loop's head on -/
def P72_2 (x7 x8 : Value) (w : World) (Q : Value → World → Prop) : Prop := Part Try.prog 72 T72_2 [7, 8] [x7, x8] w Q
def F72 (a0 a1 : Value) (w : World) (Q : Value → World → Prop) : Prop :=
  wpB (bp Try.prog .lss 3 a1 (Go.Value.int Go.IntKind.i64 0)) fun t10 =>
  cnd t10
  (wpB (pureRun Try.prog (Instr.makeInterface 9 (Go.Value.string { data := #[99, 97, 110, 110, 111, 116, 32, 98, 101, 32, 110, 101, 103, 97, 116, 105, 118, 101] }))) fun t11 =>
  False)
  (P72_0 a0 a1 w Q)
def L72_0 (x0 x1 : Value) (w : World) (Q : Value → World → Prop) : Prop :=
  wpB (pureRun Try.prog (Builtin.len_ #[23] 3 #[x0])) fun t14 =>
  wpB (pureRun Try.prog (convert 3 172 t14)) fun t15 =>
  wpB (pureRun Try.prog (convert 3 172 x1)) fun t17 =>
  CallR Try.prog 111 [t15, t17] w fun t18 w =>
  wpB (pureRun Try.prog (Instr.extract t18 0)) fun t19 =>
  wpB (pureRun Try.prog (Instr.extract t18 1)) fun t20 =>
  wpB (bp Try.prog .gtr 172 t19 (Go.Value.int Go.IntKind.u64 0)) fun t22 =>
  wpB (gd t22 false (bp Try.prog .gtr 172 (gv t22 false t20) (Go.Value.int Go.IntKind.u64 9223372036854775807))) fun t25 =>
  wpB (pickv t22 (some (Go.Value.bool true)) (some t25)) fun t26 =>
  cnd t26
  (wpB (pureRun Try.prog (Instr.makeInterface 9 (Go.Value.string { data := #[116, 104, 101, 32, 114, 101, 115, 117, 108, 116, 32, 111, 102, 32, 40, 108, 101, 110, 40, 120, 41, 32, 42, 32, 99, 111, 117, 110, 116, 41, 32, 111, 118, 101, 114, 102, 108, 111, 119, 115] }))) fun t27 =>
  False)
  (P72_1 x0 t20 w Q)
def L72_1 (x0 x6 : Value) (w : World) (Q : Value → World → Prop) : Prop :=
  wpB (pureRun Try.prog (convert 172 3 x6)) fun t29 =>
  effv Try.prog (Instr.makeSlice 23 t29 t29) w fun t30 w =>
  effv Try.prog (Builtin.copy_ #[23, 23] 3 #[t30, x0]) w fun t33 w =>
  P72_2 t30 t33 w Q
def L72_2 (x7 x8 : Value) (w : World) (Q : Value → World → Prop) : Prop :=
  wpB (pureRun Try.prog (Builtin.len_ #[23] 3 #[x7])) fun t36 =>
  wpB (bp Try.prog .lss 3 x8 t36) fun t37 =>
  cnd t37
  (wpB (pureRun Try.prog (Instr.sliceAt 23 x7 (some x8) none none)) fun t41 =>
  wpB (pureRun Try.prog (Instr.sliceAt 23 x7 none (some x8) none)) fun t44 =>
  effv Try.prog (Builtin.copy_ #[23, 23] 3 #[t41, t44]) w.drew fun t45 w =>
  wpB (bp Try.prog .add 3 x8 t45) fun t46 =>
  P72_2 x7 t46 w Q)
  (Q x7 w)
theorem F72_ok {a0 a1 : Value} {w : World} {Q : Value → World → Prop} (h : F72 a0 a1 w Q) : CallR Try.prog 72 [a0, a1] w Q :=
  have e : evC Try.prog (entR 3 143) 72 48 H72 Q C72 [] (entryE 0 [a0, a1]) w (contT Try.prog (entR 3 143) 72 48 H72 Try.f72.results.toList Q []) = F72 a0 a1 w Q := by kernel_rfl
  call_of (fn := Try.f72) mixed entOk Try.func72 (c := C72) rfl H72 (Nat.le_of_ble_eq_true rfl) (e.mpr h)
theorem L72_0_ok {x0 x1 : Value} {w : World} {Q : Value → World → Prop} (h : L72_0 x0 x1 w Q) : P72_0 x0 x1 w Q :=
  have e : evC Try.prog (entR 3 143) 72 48 H72 Q (nav [1, 1] C72) [] (unpack [0, 1] [x0, x1]) w (contT Try.prog (entR 3 143) 72 48 H72 Try.f72.results.toList Q []) = L72_0 x0 x1 w Q := by kernel_rfl
  part_jn (fn := Try.f72) mixed entOk Try.func72 H72 (c := (nav [1, 1] C72)) (t := []) (e.mpr h)
theorem L72_1_ok {x0 x6 : Value} {w : World} {Q : Value → World → Prop} (h : L72_1 x0 x6 w Q) : P72_1 x0 x6 w Q :=
  have e : evC Try.prog (entR 3 143) 72 48 H72 Q (nav [1, 1, 1, 1] C72) [] (unpack [0, 6] [x0, x6]) w (contT Try.prog (entR 3 143) 72 48 H72 Try.f72.results.toList Q []) = L72_1 x0 x6 w Q := by kernel_rfl
  part_jn (fn := Try.f72) mixed entOk Try.func72 H72 (c := (nav [1, 1, 1, 1] C72)) (t := []) (e.mpr h)
theorem L72_2_ok {x7 x8 : Value} {w : World} {Q : Value → World → Prop} (h : L72_2 x7 x8 w Q) : P72_2 x7 x8 w Q :=
  have e : evC Try.prog (entR 3 143) 72 48 H72 Q (nav [1, 1, 1, 1, 1, 1, 0, 4, 5] C72) T72_2 (unpack [7, 8] [x7, x8]) w (contT Try.prog (entR 3 143) 72 48 H72 Try.f72.results.toList Q T72_2) = L72_2 x7 x8 w Q := by kernel_rfl
  part_lp (fn := Try.f72) mixed entOk Try.func72 H72 (c := (nav [1, 1, 1, 1, 1, 1, 0, 4, 5] C72)) (t := [.blk 0, .jn (nav [1, 1, 1, 1, 1, 1, 1] C72)]) (e.mpr h)

/-! ### (*rundale/record.Record).step: function 73 -/
noncomputable def C73 : Code := (Try.f73.body).getD .skip
noncomputable def H73 : Hints := ⟨[], [], []⟩
def F73 (a0 a1 : Value) (w : World) (Q : Value → World → Prop) : Prop :=
  wpB (nilv a0) fun t7 =>
  wpB (pureRun Try.prog (Instr.fieldAt 121 t7 2)) fun t8 =>
  wpB (ldv Try.prog 3 t8 w) fun t9 =>
  wpB (bp Try.prog .lss 3 a1 t9) fun t10 =>
  cnd t10
  (Q (Go.Value.bool false) w)
  (wpB (nilv a0) fun t13 =>
  wpB (pureRun Try.prog (Instr.fieldAt 121 t13 2)) fun t14 =>
  effu Try.prog (Instr.storeAt 3 t14 a1) w fun w =>
  Q (Go.Value.bool true) w)
theorem F73_ok {a0 a1 : Value} {w : World} {Q : Value → World → Prop} (h : F73 a0 a1 w Q) : CallR Try.prog 73 [a0, a1] w Q :=
  have e : evC Try.prog (entR 3 143) 73 15 H73 Q C73 [] (entryE 0 [a0, a1]) w (contT Try.prog (entR 3 143) 73 15 H73 Try.f73.results.toList Q []) = F73 a0 a1 w Q := by kernel_rfl
  call_of (fn := Try.f73) mixed entOk Try.func73 (c := C73) rfl H73 (Nat.le_of_ble_eq_true rfl) (e.mpr h)

/-! ### (*rundale/record.Record).span: function 74 -/
noncomputable def C74 : Code := (Try.f74.body).getD .skip
noncomputable def H74 : Hints := ⟨[], [], []⟩
def F74 (a0 a1 : Value) (w : World) (Q : Value → World → Prop) : Prop :=
  wpB (bp Try.prog .lss 3 a1 (Go.Value.int Go.IntKind.i64 0)) fun t6 =>
  wpB (gd t6 false (nilv (gv t6 false a0))) fun t10 =>
  wpB (gd t6 false (pureRun Try.prog (Instr.fieldAt 121 t10 0))) fun t11 =>
  wpB (gd t6 false (ldv Try.prog 54 t11 w)) fun t12 =>
  wpB (gd t6 false (pureRun Try.prog (Builtin.len_ #[54] 3 #[t12]))) fun t13 =>
  wpB (gd t6 false (bp Try.prog .geq 3 (gv t6 false a1) t13)) fun t14 =>
  wpB (pickv t6 (some (Go.Value.bool true)) (some t14)) fun t15 =>
  wpB (gd t15 false (nilv (gv t15 false a0))) fun t18 =>
  wpB (gd t15 false (pureRun Try.prog (Instr.fieldAt 121 t18 0))) fun t19 =>
  wpB (gd t15 false (ldv Try.prog 54 t19 w)) fun t20 =>
  wpB (gd t15 false (pureRun Try.prog (Instr.indexAt 54 t20 (gv t15 false a1)))) fun t22 =>
  wpB (gd t15 false (pureRun Try.prog (Instr.fieldAt 58 t22 6))) fun t23 =>
  wpB (gd t15 false (ldv Try.prog 3 t23 w)) fun t24 =>
  wpB (gd t15 false (bp Try.prog .geq 3 t24 (Go.Value.int Go.IntKind.i64 0))) fun t25 =>
  wpB (pickv t15 (some (Go.Value.bool true)) (some t25)) fun t26 =>
  cnd t26
  (Q (Go.Value.pointer none) w)
  (wpB (nilv a0) fun t28 =>
  wpB (pureRun Try.prog (Instr.fieldAt 121 t28 0)) fun t29 =>
  wpB (ldv Try.prog 54 t29 w) fun t30 =>
  wpB (pureRun Try.prog (Instr.indexAt 54 t30 a1)) fun t32 =>
  Q t32 w)
theorem F74_ok {a0 a1 : Value} {w : World} {Q : Value → World → Prop} (h : F74 a0 a1 w Q) : CallR Try.prog 74 [a0, a1] w Q :=
  have e : evC Try.prog (entR 3 143) 74 33 H74 Q C74 [] (entryE 0 [a0, a1]) w (contT Try.prog (entR 3 143) 74 33 H74 Try.f74.results.toList Q []) = F74 a0 a1 w Q := by kernel_rfl
  call_of (fn := Try.f74) mixed entOk Try.func74 (c := C74) rfl H74 (Nat.le_of_ble_eq_true rfl) (e.mpr h)

/-! ### slices.Clone[[]rundale/api.Span,rundale/api.Span]: function 75 -/
noncomputable def C75 : Code := (Try.f75.body).getD .skip
noncomputable def H75 : Hints := ⟨[], [], []⟩
def F75 (a0 : Value) (w : World) (Q : Value → World → Prop) : Prop :=
  wpB (be Try.prog .eql 54 (.tmp 3) (.const (Go.Value.slice none 0 0)) a0 (Go.Value.slice none 0 0)) fun t4 =>
  cnd t4
  (Q (Go.Value.slice none 0 0) w)
  (effv Try.prog (Instr.buildSlice 54 0 #[]) w fun t5 w =>
  effv Try.prog (Builtin.append_ #[54, 54] 54 #[t5, a0]) w fun t7 w =>
  Q t7 w)
theorem F75_ok {a0 : Value} {w : World} {Q : Value → World → Prop} (h : F75 a0 w Q) : CallR Try.prog 75 [a0] w Q :=
  have e : evC Try.prog (entR 3 143) 75 8 H75 Q C75 [] (entryE 0 [a0]) w (contT Try.prog (entR 3 143) 75 8 H75 Try.f75.results.toList Q []) = F75 a0 w Q := by kernel_rfl
  call_of (fn := Try.f75) mixed entOk Try.func75 (c := C75) rfl H75 (Nat.le_of_ble_eq_true rfl) (e.mpr h)

/-! ### rundale/record.right: function 76 -/
noncomputable def C76 : Code := (Try.f76.body).getD .skip
noncomputable def H76 : Hints := ⟨[], [], []⟩
def F76 (a0 : Value) (w : World) (Q : Value → World → Prop) : Prop :=
  effv Try.prog (Instr.box 58 a0) w fun t1 w =>
  wpB (pureRun Try.prog (Instr.fieldAt 58 t1 0)) fun t3 =>
  wpB (ldv Try.prog 3 t3 w) fun t4 =>
  wpB (bp Try.prog .lss 3 t4 (Go.Value.int Go.IntKind.i64 0)) fun t5 =>
  wpB (gd t5 false (pureRun Try.prog (Instr.fieldAt 58 t1 0))) fun t7 =>
  wpB (gd t5 false (ldv Try.prog 3 t7 w)) fun t8 =>
  wpB (gd t5 false (bp Try.prog .geq 3 t8 (Go.Value.int Go.IntKind.i64 64))) fun t9 =>
  wpB (pickv t5 (some (Go.Value.bool true)) (some t9)) fun t10 =>
  wpB (gd t10 false (pureRun Try.prog (Instr.fieldAt 58 t1 3))) fun t12 =>
  wpB (gd t10 false (ldv Try.prog 3 t12 w)) fun t13 =>
  wpB (gd t10 false (bp Try.prog .lss 3 t13 (Go.Value.int Go.IntKind.i64 0))) fun t14 =>
  wpB (pickv t10 (some (Go.Value.bool true)) (some t14)) fun t15 =>
  wpB (gd t15 false (pureRun Try.prog (Instr.fieldAt 58 t1 4))) fun t17 =>
  wpB (gd t15 false (ldv Try.prog 3 t17 w)) fun t18 =>
  wpB (gd t15 false (be Try.prog .neq 3 (.tmp 18) (.const (Go.Value.int Go.IntKind.i64 (-1))) t18 (Go.Value.int Go.IntKind.i64 (-1)))) fun t19 =>
  wpB (gd (gv t15 false t19) true (pureRun Try.prog (Instr.fieldAt 58 t1 4))) fun t21 =>
  wpB (gd (gv t15 false t19) true (ldv Try.prog 3 t21 w)) fun t22 =>
  wpB (gd (gv t15 false t19) true (pureRun Try.prog (Instr.fieldAt 58 t1 3))) fun t23 =>
  wpB (gd (gv t15 false t19) true (ldv Try.prog 3 t23 w)) fun t24 =>
  wpB (gd (gv t15 false t19) true (bp Try.prog .lss 3 t22 t24)) fun t25 =>
  wpB (gd t15 false (pickv (gv t15 false t19) (some t25) (some (Go.Value.bool false)))) fun t26 =>
  wpB (pickv t15 (some (Go.Value.bool true)) (some t26)) fun t27 =>
  cnd t27
  (Q (Go.Value.bool false) w)
  (wpB (pureRun Try.prog (Instr.fieldAt 58 t1 5)) fun t28 =>
  wpB (ldv Try.prog 3 t28 w) fun t29 =>
  wpB (be Try.prog .neq 3 (.tmp 29) (.const (Go.Value.int Go.IntKind.i64 (-1))) t29 (Go.Value.int Go.IntKind.i64 (-1))) fun t30 =>
  wpB (gd t30 true (pureRun Try.prog (Instr.fieldAt 58 t1 4))) fun t32 =>
  wpB (gd t30 true (ldv Try.prog 3 t32 w)) fun t33 =>
  wpB (gd t30 true (be Try.prog .eql 3 (.tmp 33) (.const (Go.Value.int Go.IntKind.i64 (-1))) t33 (Go.Value.int Go.IntKind.i64 (-1)))) fun t34 =>
  wpB (gd (gv t30 true t34) false (pureRun Try.prog (Instr.fieldAt 58 t1 5))) fun t36 =>
  wpB (gd (gv t30 true t34) false (ldv Try.prog 3 t36 w)) fun t37 =>
  wpB (gd (gv t30 true t34) false (pureRun Try.prog (Instr.fieldAt 58 t1 4))) fun t38 =>
  wpB (gd (gv t30 true t34) false (ldv Try.prog 3 t38 w)) fun t39 =>
  wpB (gd (gv t30 true t34) false (bp Try.prog .leq 3 t37 t39)) fun t40 =>
  wpB (gd t30 true (pickv (gv t30 true t34) (some (Go.Value.bool true)) (some t40))) fun t41 =>
  wpB (pickv t30 (some t41) (some (Go.Value.bool false))) fun t42 =>
  cnd t42
  (Q (Go.Value.bool false) w)
  (wpB (pureRun Try.prog (Instr.fieldAt 58 t1 6)) fun t43 =>
  wpB (ldv Try.prog 3 t43 w) fun t44 =>
  wpB (be Try.prog .eql 3 (.tmp 44) (.const (Go.Value.int Go.IntKind.i64 (-1))) t44 (Go.Value.int Go.IntKind.i64 (-1))) fun t45 =>
  wpB (gd t45 false (pureRun Try.prog (Instr.fieldAt 58 t1 4))) fun t47 =>
  wpB (gd t45 false (ldv Try.prog 3 t47 w)) fun t48 =>
  wpB (gd t45 false (be Try.prog .neq 3 (.tmp 48) (.const (Go.Value.int Go.IntKind.i64 (-1))) t48 (Go.Value.int Go.IntKind.i64 (-1)))) fun t49 =>
  wpB (gd (gv t45 false t49) true (pureRun Try.prog (Instr.fieldAt 58 t1 6))) fun t51 =>
  wpB (gd (gv t45 false t49) true (ldv Try.prog 3 t51 w)) fun t52 =>
  wpB (gd (gv t45 false t49) true (pureRun Try.prog (Instr.fieldAt 58 t1 3))) fun t53 =>
  wpB (gd (gv t45 false t49) true (ldv Try.prog 3 t53 w)) fun t54 =>
  wpB (gd (gv t45 false t49) true (pureRun Try.prog (Instr.fieldAt 58 t1 4))) fun t55 =>
  wpB (gd (gv t45 false t49) true (ldv Try.prog 3 t55 w)) fun t56 =>
  wpB (gd (gv t45 false t49) true (pureRun Try.prog (Instr.fieldAt 58 t1 5))) fun t57 =>
  wpB (gd (gv t45 false t49) true (ldv Try.prog 3 t57 w)) fun t58 =>
  wpB (gd (gv t45 false t49) true (pureRun Try.prog (Builtin.max_ #[3, 3, 3] 3 #[t54, t56, t58]))) fun t59 =>
  wpB (gd (gv t45 false t49) true (bp Try.prog .geq 3 t52 t59)) fun t60 =>
  wpB (gd t45 false (pickv (gv t45 false t49) (some t60) (some (Go.Value.bool false)))) fun t61 =>
  wpB (pickv t45 (some (Go.Value.bool true)) (some t61)) fun t62 =>
  Q t62 w))
theorem F76_ok {a0 : Value} {w : World} {Q : Value → World → Prop} (h : F76 a0 w Q) : CallR Try.prog 76 [a0] w Q :=
  have e : evC Try.prog (entR 3 143) 76 63 H76 Q C76 [] (entryE 0 [a0]) w (contT Try.prog (entR 3 143) 76 63 H76 Try.f76.results.toList Q []) = F76 a0 w Q := by kernel_rfl
  call_of (fn := Try.f76) mixed entOk Try.func76 (c := C76) rfl H76 (Nat.le_of_ble_eq_true rfl) (e.mpr h)

/-! ### rundale/record.shared: function 77 -/
noncomputable def C77 : Code := (Try.f77.body).getD .skip
noncomputable def H77 : Hints := ⟨[(3, [5, 25, 26, 27])], [], []⟩
noncomputable def T77_0 : List It := [.lp (nav [1, 1, 0, 1, 4, 5] C77), .blk 0, .jn (nav [1, 1, 1] C77)]
/-- rundale/record.shared, from a loop's head on -/
def P77_0 (x5 x25 x26 x27 : Value) (w : World) (Q : Value → World → Prop) : Prop := Part Try.prog 77 T77_0 [5, 25, 26, 27] [x5, x25, x26, x27] w Q
def F77 (a0 a1 : Value) (w : World) (Q : Value → World → Prop) : Prop :=
  effv Try.prog (Instr.box 58 a0) w fun t2 w =>
  effv Try.prog (Instr.box 58 a1) w fun t3 w =>
  wpB (pureRun Try.prog (Instr.fieldAt 58 t2 3)) fun t8 =>
  wpB (ldv Try.prog 3 t8 w) fun t9 =>
  wpB (pureRun Try.prog (Instr.fieldAt 58 t2 4)) fun t10 =>
  wpB (ldv Try.prog 3 t10 w) fun t11 =>
  wpB (pureRun Try.prog (Instr.fieldAt 58 t2 5)) fun t12 =>
  wpB (ldv Try.prog 3 t12 w) fun t13 =>
  wpB (pureRun Try.prog (Instr.fieldAt 58 t2 6)) fun t14 =>
  wpB (ldv Try.prog 3 t14 w) fun t15 =>
  effv Try.prog (Instr.buildSlice 23 4 #[(0, t9), (1, t11), (2, t13), (3, t15)]) w fun t16 w =>
  wpB (pureRun Try.prog (Instr.fieldAt 58 t3 3)) fun t17 =>
  wpB (ldv Try.prog 3 t17 w) fun t18 =>
  wpB (pureRun Try.prog (Instr.fieldAt 58 t3 4)) fun t19 =>
  wpB (ldv Try.prog 3 t19 w) fun t20 =>
  wpB (pureRun Try.prog (Instr.fieldAt 58 t3 5)) fun t21 =>
  wpB (ldv Try.prog 3 t21 w) fun t22 =>
  wpB (pureRun Try.prog (Instr.fieldAt 58 t3 6)) fun t23 =>
  wpB (ldv Try.prog 3 t23 w) fun t24 =>
  effv Try.prog (Instr.buildSlice 23 4 #[(0, t18), (1, t20), (2, t22), (3, t24)]) w fun t25 w =>
  wpB (pureRun Try.prog (Builtin.len_ #[23] 3 #[t25])) fun t26 =>
  P77_0 t16 t25 t26 (Go.Value.int Go.IntKind.i64 0) w Q
def L77_0 (x5 x25 x26 x27 : Value) (w : World) (Q : Value → World → Prop) : Prop :=
  wpB (bp Try.prog .lss 3 x27 x26) fun t28 =>
  cnd t28
  (wpB (pureRun Try.prog (Instr.indexAt 23 x25 x27)) fun t29 =>
  wpB (ldv Try.prog 3 t29 w) fun t30 =>
  wpB (be Try.prog .neq 3 (.tmp 31) (.const (Go.Value.int Go.IntKind.i64 (-1))) t30 (Go.Value.int Go.IntKind.i64 (-1))) fun t32 =>
  gE t32 true (CallR Try.prog 112 [(gv t32 true x5), (gv t32 true t30)] w) (fun t36 w =>
  wpB (pickv t32 (some t36) (some (Go.Value.bool false))) fun t37 =>
  cnd t37
  (Q (Go.Value.bool true) w)
  (wpB (bp Try.prog .add 3 x27 (Go.Value.int Go.IntKind.i64 1)) fun t38 =>
  P77_0 x5 x25 x26 t38 w Q)) w)
  (Q (Go.Value.bool false) w)
theorem F77_ok {a0 a1 : Value} {w : World} {Q : Value → World → Prop} (h : F77 a0 a1 w Q) : CallR Try.prog 77 [a0, a1] w Q :=
  have e : evC Try.prog (entR 3 143) 77 39 H77 Q C77 [] (entryE 0 [a0, a1]) w (contT Try.prog (entR 3 143) 77 39 H77 Try.f77.results.toList Q []) = F77 a0 a1 w Q := by kernel_rfl
  call_of (fn := Try.f77) mixed entOk Try.func77 (c := C77) rfl H77 (Nat.le_of_ble_eq_true rfl) (e.mpr h)
theorem L77_0_ok {x5 x25 x26 x27 : Value} {w : World} {Q : Value → World → Prop} (h : L77_0 x5 x25 x26 x27 w Q) : P77_0 x5 x25 x26 x27 w Q :=
  have e : evC Try.prog (entR 3 143) 77 39 H77 Q (nav [1, 1, 0, 1, 4, 5] C77) T77_0 (unpack [5, 25, 26, 27] [x5, x25, x26, x27]) w (contT Try.prog (entR 3 143) 77 39 H77 Try.f77.results.toList Q T77_0) = L77_0 x5 x25 x26 x27 w Q := by kernel_rfl
  part_lp (fn := Try.f77) mixed entOk Try.func77 H77 (c := (nav [1, 1, 0, 1, 4, 5] C77)) (t := [.blk 0, .jn (nav [1, 1, 1] C77)]) (e.mpr h)

/-! ### (*rundale/rundaleref18.Record).open: function 78 -/
noncomputable def C78 : Code := (Try.f78.body).getD .skip
noncomputable def H78 : Hints := ⟨[], [], []⟩
def F78 (a0 a1 a2 : Value) (w : World) (Q : Value → World → Prop) : Prop :=
  wpB (bp Try.prog .geq 3 a1 (Go.Value.int Go.IntKind.i64 0)) fun t8 =>
  wpB (gd t8 true (nilv (gv t8 true a0))) fun t12 =>
  wpB (gd t8 true (pureRun Try.prog (Instr.fieldAt 67 t12 2))) fun t13 =>
  wpB (gd t8 true (ldv Try.prog 54 t13 w)) fun t14 =>
  wpB (gd t8 true (pureRun Try.prog (Builtin.len_ #[54] 3 #[t14]))) fun t15 =>
  wpB (gd t8 true (bp Try.prog .lss 3 (gv t8 true a1) t15)) fun t16 =>
  wpB (pickv t8 (some t16) (some (Go.Value.bool false))) fun t17 =>
  wpB (gd t17 true (nilv (gv t17 true a0))) fun t20 =>
  wpB (gd t17 true (pureRun Try.prog (Instr.fieldAt 67 t20 2))) fun t21 =>
  wpB (gd t17 true (ldv Try.prog 54 t21 w)) fun t22 =>
  wpB (gd t17 true (pureRun Try.prog (Instr.indexAt 54 t22 (gv t17 true a1)))) fun t24 =>
  wpB (gd t17 true (pureRun Try.prog (Instr.fieldAt 58 t24 6))) fun t25 =>
  wpB (gd t17 true (ldv Try.prog 3 t25 w)) fun t26 =>
  wpB (gd t17 true (bp Try.prog .lss 3 t26 (Go.Value.int Go.IntKind.i64 0))) fun t27 =>
  wpB (pickv t17 (some t27) (some (Go.Value.bool false))) fun t28 =>
  wpB (gd t28 true (nilv (gv t28 true a0))) fun t32 =>
  wpB (gd t28 true (pureRun Try.prog (Instr.fieldAt 67 t32 1))) fun t33 =>
  wpB (gd t28 true (ldv Try.prog 3 t33 w)) fun t34 =>
  wpB (gd t28 true (bp Try.prog .geq 3 (gv t28 true a2) t34)) fun t35 =>
  wpB (pickv t28 (some t35) (some (Go.Value.bool false))) fun t36 =>
  Q t36 w
theorem F78_ok {a0 a1 a2 : Value} {w : World} {Q : Value → World → Prop} (h : F78 a0 a1 a2 w Q) : CallR Try.prog 78 [a0, a1, a2] w Q :=
  have e : evC Try.prog (entR 3 143) 78 37 H78 Q C78 [] (entryE 0 [a0, a1, a2]) w (contT Try.prog (entR 3 143) 78 37 H78 Try.f78.results.toList Q []) = F78 a0 a1 a2 w Q := by kernel_rfl
  call_of (fn := Try.f78) mixed entOk Try.func78 (c := C78) rfl H78 (Nat.le_of_ble_eq_true rfl) (e.mpr h)

/-! ### math/bits.Mul: function 111 -/
noncomputable def C111 : Code := (Try.f111.body).getD .skip
noncomputable def H111 : Hints := ⟨[], [], []⟩
def F111 (a0 a1 : Value) (w : World) (Q : Value → World → Prop) : Prop :=
  cnd (Go.Value.bool false)
  (wpB (pureRun Try.prog (convert 172 190 a0)) fun t12 =>
  wpB (pureRun Try.prog (convert 172 190 a1)) fun t14 =>
  CallR Try.prog 132 [t12, t14] w fun t15 w =>
  wpB (pureRun Try.prog (Instr.extract t15 0)) fun t16 =>
  wpB (pureRun Try.prog (Instr.extract t15 1)) fun t17 =>
  wpB (pureRun Try.prog (convert 190 172 t16)) fun t19 =>
  wpB (pureRun Try.prog (convert 190 172 t17)) fun t21 =>
  Q (.tuple #[t19, t21]) w)
  (CallR Try.prog 133 [a0, a1] w fun t25 w =>
  wpB (pureRun Try.prog (Instr.extract t25 0)) fun t26 =>
  wpB (pureRun Try.prog (Instr.extract t25 1)) fun t27 =>
  Q (.tuple #[t26, t27]) w)
theorem F111_ok {a0 a1 : Value} {w : World} {Q : Value → World → Prop} (h : F111 a0 a1 w Q) : CallR Try.prog 111 [a0, a1] w Q :=
  have e : evC Try.prog (entR 3 143) 111 30 H111 Q C111 [] (entryE 0 [a0, a1]) w (contT Try.prog (entR 3 143) 111 30 H111 Try.f111.results.toList Q []) = F111 a0 a1 w Q := by kernel_rfl
  call_of (fn := Try.f111) mixed entOk Try.func111 (c := C111) rfl H111 (Nat.le_of_ble_eq_true rfl) (e.mpr h)

/-! ### slices.Contains[[]int,int]: function 112 -/
noncomputable def C112 : Code := (Try.f112.body).getD .skip
noncomputable def H112 : Hints := ⟨[], [], []⟩
def F112 (a0 a1 : Value) (w : World) (Q : Value → World → Prop) : Prop :=
  CallR Try.prog 115 [a0, a1] w fun t7 w =>
  wpB (bp Try.prog .geq 3 t7 (Go.Value.int Go.IntKind.i64 0)) fun t8 =>
  Q t8 w
theorem F112_ok {a0 a1 : Value} {w : World} {Q : Value → World → Prop} (h : F112 a0 a1 w Q) : CallR Try.prog 112 [a0, a1] w Q :=
  have e : evC Try.prog (entR 3 143) 112 9 H112 Q C112 [] (entryE 0 [a0, a1]) w (contT Try.prog (entR 3 143) 112 9 H112 Try.f112.results.toList Q []) = F112 a0 a1 w Q := by kernel_rfl
  call_of (fn := Try.f112) mixed entOk Try.func112 (c := C112) rfl H112 (Nat.le_of_ble_eq_true rfl) (e.mpr h)

/-! ### slices.Index[[]int,int]: function 115 -/
noncomputable def C115 : Code := (Try.f115.body).getD .skip
noncomputable def H115 : Hints := ⟨[(2, [0, 1, 7, 8])], [], []⟩
noncomputable def T115_0 : List It := [.lp (nav [1, 0, 1, 4, 5] C115), .blk 0, .jn (nav [1, 1] C115)]
/-- slices.Index[[]int,int], from a loop's head on -/
def P115_0 (x0 x1 x7 x8 : Value) (w : World) (Q : Value → World → Prop) : Prop := Part Try.prog 115 T115_0 [0, 1, 7, 8] [x0, x1, x7, x8] w Q
def F115 (a0 a1 : Value) (w : World) (Q : Value → World → Prop) : Prop :=
  wpB (pureRun Try.prog (Builtin.len_ #[23] 3 #[a0])) fun t7 =>
  P115_0 a0 a1 t7 (Go.Value.int Go.IntKind.i64 0) w Q
def L115_0 (x0 x1 x7 x8 : Value) (w : World) (Q : Value → World → Prop) : Prop :=
  wpB (bp Try.prog .lss 3 x8 x7) fun t9 =>
  cnd t9
  (wpB (pureRun Try.prog (Instr.indexAt 23 x0 x8)) fun t14 =>
  wpB (ldv Try.prog 3 t14 w) fun t15 =>
  wpB (be Try.prog .eql 3 (.tmp 11) (.tmp 15) x1 t15) fun t16 =>
  cnd t16
  (Q x8 w)
  (wpB (bp Try.prog .add 3 x8 (Go.Value.int Go.IntKind.i64 1)) fun t18 =>
  P115_0 x0 x1 x7 t18 w Q))
  (Q (Go.Value.int Go.IntKind.i64 (-1)) w)
theorem F115_ok {a0 a1 : Value} {w : World} {Q : Value → World → Prop} (h : F115 a0 a1 w Q) : CallR Try.prog 115 [a0, a1] w Q :=
  have e : evC Try.prog (entR 3 143) 115 19 H115 Q C115 [] (entryE 0 [a0, a1]) w (contT Try.prog (entR 3 143) 115 19 H115 Try.f115.results.toList Q []) = F115 a0 a1 w Q := by kernel_rfl
  call_of (fn := Try.f115) mixed entOk Try.func115 (c := C115) rfl H115 (Nat.le_of_ble_eq_true rfl) (e.mpr h)
theorem L115_0_ok {x0 x1 x7 x8 : Value} {w : World} {Q : Value → World → Prop} (h : L115_0 x0 x1 x7 x8 w Q) : P115_0 x0 x1 x7 x8 w Q :=
  have e : evC Try.prog (entR 3 143) 115 19 H115 Q (nav [1, 0, 1, 4, 5] C115) T115_0 (unpack [0, 1, 7, 8] [x0, x1, x7, x8]) w (contT Try.prog (entR 3 143) 115 19 H115 Try.f115.results.toList Q T115_0) = L115_0 x0 x1 x7 x8 w Q := by kernel_rfl
  part_lp (fn := Try.f115) mixed entOk Try.func115 H115 (c := (nav [1, 0, 1, 4, 5] C115)) (t := [.blk 0, .jn (nav [1, 1] C115)]) (e.mpr h)

/-! ### math/bits.Mul32: function 132 -/
noncomputable def C132 : Code := (Try.f132.body).getD .skip
noncomputable def H132 : Hints := ⟨[], [], []⟩
def F132 (a0 a1 : Value) (w : World) (Q : Value → World → Prop) : Prop :=
  wpB (pureRun Try.prog (convert 190 38 a0)) fun t8 =>
  wpB (pureRun Try.prog (convert 190 38 a1)) fun t10 =>
  wpB (bp Try.prog .mul 38 t8 t10) fun t11 =>
  wpB (bp Try.prog .shr 38 t11 (Go.Value.int Go.IntKind.u64 32)) fun t13 =>
  wpB (pureRun Try.prog (convert 38 190 t13)) fun t14 =>
  wpB (pureRun Try.prog (convert 38 190 t11)) fun t16 =>
  Q (.tuple #[t14, t16]) w
theorem F132_ok {a0 a1 : Value} {w : World} {Q : Value → World → Prop} (h : F132 a0 a1 w Q) : CallR Try.prog 132 [a0, a1] w Q :=
  have e : evC Try.prog (entR 3 143) 132 17 H132 Q C132 [] (entryE 0 [a0, a1]) w (contT Try.prog (entR 3 143) 132 17 H132 Try.f132.results.toList Q []) = F132 a0 a1 w Q := by kernel_rfl
  call_of (fn := Try.f132) mixed entOk Try.func132 (c := C132) rfl H132 (Nat.le_of_ble_eq_true rfl) (e.mpr h)

/-! ### math/bits.Mul64: function 133 -/
noncomputable def C133 : Code := (Try.f133.body).getD .skip
noncomputable def H133 : Hints := ⟨[], [], []⟩
def F133 (a0 a1 : Value) (w : World) (Q : Value → World → Prop) : Prop :=
  wpB (bp Try.prog .and 38 a0 (Go.Value.int Go.IntKind.u64 4294967295)) fun t15 =>
  wpB (bp Try.prog .shr 38 a0 (Go.Value.int Go.IntKind.u64 32)) fun t17 =>
  wpB (bp Try.prog .and 38 a1 (Go.Value.int Go.IntKind.u64 4294967295)) fun t19 =>
  wpB (bp Try.prog .shr 38 a1 (Go.Value.int Go.IntKind.u64 32)) fun t21 =>
  wpB (bp Try.prog .mul 38 t15 t19) fun t24 =>
  wpB (bp Try.prog .mul 38 t17 t19) fun t27 =>
  wpB (bp Try.prog .shr 38 t24 (Go.Value.int Go.IntKind.u64 32)) fun t29 =>
  wpB (bp Try.prog .add 38 t27 t29) fun t30 =>
  wpB (bp Try.prog .and 38 t30 (Go.Value.int Go.IntKind.u64 4294967295)) fun t32 =>
  wpB (bp Try.prog .shr 38 t30 (Go.Value.int Go.IntKind.u64 32)) fun t34 =>
  wpB (bp Try.prog .mul 38 t15 t21) fun t38 =>
  wpB (bp Try.prog .add 38 t32 t38) fun t39 =>
  wpB (bp Try.prog .mul 38 t17 t21) fun t42 =>
  wpB (bp Try.prog .add 38 t42 t34) fun t44 =>
  wpB (bp Try.prog .shr 38 t39 (Go.Value.int Go.IntKind.u64 32)) fun t46 =>
  wpB (bp Try.prog .add 38 t44 t46) fun t47 =>
  wpB (bp Try.prog .mul 38 a0 a1) fun t50 =>
  Q (.tuple #[t47, t50]) w
theorem F133_ok {a0 a1 : Value} {w : World} {Q : Value → World → Prop} (h : F133 a0 a1 w Q) : CallR Try.prog 133 [a0, a1] w Q :=
  have e : evC Try.prog (entR 3 143) 133 51 H133 Q C133 [] (entryE 0 [a0, a1]) w (contT Try.prog (entR 3 143) 133 51 H133 Try.f133.results.toList Q []) = F133 a0 a1 w Q := by kernel_rfl
  call_of (fn := Try.f133) mixed entOk Try.func133 (c := C133) rfl H133 (Nat.le_of_ble_eq_true rfl) (e.mpr h)
end Go.Proofs.Ytgamnncehjcdiaa
