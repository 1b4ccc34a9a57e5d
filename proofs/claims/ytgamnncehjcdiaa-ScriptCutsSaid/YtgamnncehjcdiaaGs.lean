/- The formulas of functions of the given program, by program (gen.py). -/
import Derived.Test.YtgamnncehjcdiaaEv8
import Derived.Test.YtgamnncehjcdiaaChecked
import Derived.Eval
namespace Go.Proofs.Ytgamnncehjcdiaa
open Go Ev
set_option linter.unusedVariables false
set_option maxRecDepth 100000
theorem mixed : Try.prog.follows .mixedOrders = true := Checked.mixed Try.checked
theorem entOk : EntOk Try.prog (entR 3 143) := entOk_of (by kernel_rfl)
/-! ### rundale/rundalelaw20.ScriptPuts: function 3 -/
noncomputable def C3 : Code := (Try.f3.body).getD .skip
noncomputable def H3 : Hints := ⟨[(6, [1, 3, 4, 5])], [(14, [1, 3, 6, 9, 74])], [(13, (.ask 5 7 (.ask 13 12 (.leaf [0, 1, 2, 3, 4, 6, 5, 7, 8, 9, 10, 11, 13, 12, 14, 15, 16]) (.leaf [0, 1, 2, 3, 4, 5, 6, 7, 8, 9, 10, 11, 12, 13, 14, 15, 16])) (.ask 13 12 (.leaf [0, 1, 2, 3, 4, 6, 7, 5, 8, 9, 10, 11, 13, 12, 14, 15, 16]) (.leaf [0, 1, 2, 3, 4, 6, 7, 5, 8, 9, 10, 11, 12, 13, 14, 15, 16])))), (15, (.ask 7 6 (.leaf [0, 1, 2, 3, 4, 5, 7, 6, 8, 9, 10, 11]) (.leaf [0, 1, 2, 3, 4, 5, 6, 7, 8, 9, 10, 11])))]⟩
noncomputable def T3_0 : List It := [.lp (nav [1, 1, 1, 1, 0, 1, 4, 5] C3), .blk 0, .jn (nav [1, 1, 1, 1, 1] C3)]
noncomputable def T3_1 : List It := [.jn (nav [1, 1, 1, 1, 1, 1, 1, 1, 0, 1] C3), .jn (nav [1, 1, 1, 1, 1, 1, 1, 1, 1] C3)]
/-- rundale/rundalelaw20.ScriptPuts, from a loop's head on -/
def P3_0 (x1 x3 x4 x5 : Value) (w : World) (Q : Value → World → Prop) : Prop := Part Try.prog 3 T3_0 [1, 3, 4, 5] [x1, x3, x4, x5] w Q
/-- rundale/rundalelaw20.ScriptPuts, from a join on -/
def P3_1 (x1 x3 x6 x9 x74 : Value) (w : World) (Q : Value → World → Prop) : Prop := Part Try.prog 3 T3_1 [1, 3, 6, 9, 74] [x1, x3, x6, x9, x74] w Q
def F3 (a0 : Value) (w : World) (Q : Value → World → Prop) : Prop :=
  effv Try.prog (Instr.box 25 a0) w fun t1 w =>
  CallR Try.prog 14 [] w fun t10 w =>
  wpB (pureRun Try.prog (Op.unary .not t10)) fun t12 =>
  cnd t12
  (Q (Go.Value.bool false) w)
  (P3_0 t1 t10 (Go.Value.int Go.IntKind.i64 0) (Go.Value.int Go.IntKind.i64 0) w Q)
def L3_0 (x1 x3 x4 x5 : Value) (w : World) (Q : Value → World → Prop) : Prop :=
  wpB (pureRun Try.prog (Instr.fieldAt 25 x1 0)) fun t14 =>
  wpB (ldv Try.prog 22 t14 w) fun t15 =>
  wpB (pureRun Try.prog (Builtin.len_ #[22] 3 #[t15])) fun t16 =>
  wpB (bp Try.prog .lss 3 x5 t16) fun t17 =>
  wpB (gd t17 true (bp Try.prog .leq 3 (gv t17 true x4) (Go.Value.int Go.IntKind.i64 300))) fun t20 =>
  wpB (pickv t17 (some t20) (some (Go.Value.bool false))) fun t21 =>
  cnd t21
  (wpB (pureRun Try.prog (Instr.fieldAt 25 x1 0)) fun t25 =>
  wpB (ldv Try.prog 22 t25 w) fun t26 =>
  wpB (pureRun Try.prog (Instr.indexAt 22 t26 x5)) fun t28 =>
  wpB (ldv Try.prog 27 t28 w) fun t29 =>
  wpB (pureRun Try.prog (Builtin.len_ #[27] 3 #[t29])) fun t30 =>
  wpB (pureRun Try.prog (Builtin.min_ #[3, 3] 3 #[t30, (Go.Value.int Go.IntKind.i64 1001)])) fun t31 =>
  wpB (bp Try.prog .add 3 x4 t31) fun t32 =>
  wpB (bp Try.prog .add 3 x5 (Go.Value.int Go.IntKind.i64 1)) fun t23 =>
  P3_0 x1 x3 t32 t23 w Q)
  (wpB (pureRun Try.prog (Instr.fieldAt 25 x1 0)) fun t33 =>
  wpB (ldv Try.prog 22 t33 w) fun t34 =>
  wpB (pureRun Try.prog (Builtin.len_ #[22] 3 #[t34])) fun t35 =>
  wpB (bp Try.prog .gtr 3 t35 (Go.Value.int Go.IntKind.i64 70)) fun t36 =>
  wpB (gd t36 false (bp Try.prog .gtr 3 (gv t36 false x4) (Go.Value.int Go.IntKind.i64 300))) fun t39 =>
  wpB (pickv t36 (some (Go.Value.bool true)) (some t39)) fun t40 =>
  wpB (gd t40 false (pureRun Try.prog (Instr.fieldAt 25 x1 1))) fun t42 =>
  wpB (gd t40 false (ldv Try.prog 23 t42 w)) fun t43 =>
  wpB (gd t40 false (pureRun Try.prog (Builtin.len_ #[23] 3 #[t43]))) fun t44 =>
  wpB (gd t40 false (bp Try.prog .gtr 3 t44 (Go.Value.int Go.IntKind.i64 300))) fun t45 =>
  wpB (pickv t40 (some (Go.Value.bool true)) (some t45)) fun t46 =>
  cnd t46
  (Q x3 w)
  (wpB (ldv Try.prog 25 x1 w) fun t49 =>
  CallR Try.prog 15 [t49] w fun t50 w =>
  wpB (pureRun Try.prog (Instr.extract t50 0)) fun t51 =>
  wpB (pureRun Try.prog (Instr.extract t50 1)) fun t52 =>
  wpB (ldv Try.prog 25 x1 w) fun t54 =>
  CallR Try.prog 16 [t54] w fun t55 w =>
  wpB (pureRun Try.prog (Instr.extract t55 0)) fun t56 =>
  wpB (pureRun Try.prog (Instr.extract t55 1)) fun t57 =>
  ((wpB (be Try.prog .neq 29 (.tmp 58) (.tmp 59) t52 t57) fun t60 =>
  gE t60 false (effv Try.prog (convert 28 9 (gv t60 false t51)) w.drew) (fun t63 w =>
  gE t60 false (effv Try.prog (convert 28 9 (gv t60 false t56)) w) (fun t65 w =>
  wpB (gd t60 false (be Try.prog .neq 9 (.tmp 63) (.tmp 65) t63 t65)) fun t66 =>
  wpB (pickv t60 (some (Go.Value.bool true)) (some t66)) fun t67 =>
  wpB (gd t67 false (ldv Try.prog 25 x1 w)) fun t69 =>
  wpB (gd t67 false (ldv Try.prog 25 x1 w)) fun t71 =>
  gE t67 false (CallR Try.prog 17 [t69] w) (fun t70 w =>
  gE t67 false (CallR Try.prog 18 [t71] w) (fun t72 w =>
  wpB (gd t67 false (be Try.prog .neq 4 (.tmp 70) (.tmp 72) t70 t72)) fun t73 =>
  wpB (pickv t67 (some (Go.Value.bool true)) (some t73)) fun t74 =>
  P3_1 x1 x3 t51 t57 t74 w Q) w) w) w) w.drew) ∧
  (wpB (be Try.prog .neq 29 (.tmp 58) (.tmp 59) t52 t57) fun t60_1 =>
  gE t60_1 false (effv Try.prog (convert 28 9 (gv t60_1 false t51)) w.drew) (fun t63_1 w =>
  gE t60_1 false (effv Try.prog (convert 28 9 (gv t60_1 false t56)) w) (fun t65_1 w =>
  wpB (gd t60_1 false (be Try.prog .neq 9 (.tmp 63) (.tmp 65) t63_1 t65_1)) fun t66_1 =>
  wpB (pickv t60_1 (some (Go.Value.bool true)) (some t66_1)) fun t67_1 =>
  wpB (gd t67_1 false (ldv Try.prog 25 x1 w)) fun t69_1 =>
  gE t67_1 false (CallR Try.prog 17 [t69_1] w) (fun t70_1 w =>
  wpB (gd t67_1 false (ldv Try.prog 25 x1 w)) fun t71_1 =>
  gE t67_1 false (CallR Try.prog 18 [t71_1] w) (fun t72_1 w =>
  wpB (gd t67_1 false (be Try.prog .neq 4 (.tmp 70) (.tmp 72) t70_1 t72_1)) fun t73_1 =>
  wpB (pickv t67_1 (some (Go.Value.bool true)) (some t73_1)) fun t74_1 =>
  P3_1 x1 x3 t51 t57 t74_1 w Q) w) w) w) w.drew)) ∧
  ((wpB (be Try.prog .neq 29 (.tmp 58) (.tmp 59) t52 t57) fun t60_2 =>
  gE t60_2 false (effv Try.prog (convert 28 9 (gv t60_2 false t56)) w.drew) (fun t65_2 w =>
  gE t60_2 false (effv Try.prog (convert 28 9 (gv t60_2 false t51)) w) (fun t63_2 w =>
  wpB (gd t60_2 false (be Try.prog .neq 9 (.tmp 63) (.tmp 65) t63_2 t65_2)) fun t66_2 =>
  wpB (pickv t60_2 (some (Go.Value.bool true)) (some t66_2)) fun t67_2 =>
  wpB (gd t67_2 false (ldv Try.prog 25 x1 w)) fun t69_2 =>
  wpB (gd t67_2 false (ldv Try.prog 25 x1 w)) fun t71_2 =>
  gE t67_2 false (CallR Try.prog 17 [t69_2] w) (fun t70_2 w =>
  gE t67_2 false (CallR Try.prog 18 [t71_2] w) (fun t72_2 w =>
  wpB (gd t67_2 false (be Try.prog .neq 4 (.tmp 70) (.tmp 72) t70_2 t72_2)) fun t73_2 =>
  wpB (pickv t67_2 (some (Go.Value.bool true)) (some t73_2)) fun t74_2 =>
  P3_1 x1 x3 t51 t57 t74_2 w Q) w) w) w) w.drew) ∧
  (wpB (be Try.prog .neq 29 (.tmp 58) (.tmp 59) t52 t57) fun t60_3 =>
  gE t60_3 false (effv Try.prog (convert 28 9 (gv t60_3 false t56)) w.drew) (fun t65_3 w =>
  gE t60_3 false (effv Try.prog (convert 28 9 (gv t60_3 false t51)) w) (fun t63_3 w =>
  wpB (gd t60_3 false (be Try.prog .neq 9 (.tmp 63) (.tmp 65) t63_3 t65_3)) fun t66_3 =>
  wpB (pickv t60_3 (some (Go.Value.bool true)) (some t66_3)) fun t67_3 =>
  wpB (gd t67_3 false (ldv Try.prog 25 x1 w)) fun t69_3 =>
  gE t67_3 false (CallR Try.prog 17 [t69_3] w) (fun t70_3 w =>
  wpB (gd t67_3 false (ldv Try.prog 25 x1 w)) fun t71_3 =>
  gE t67_3 false (CallR Try.prog 18 [t71_3] w) (fun t72_3 w =>
  wpB (gd t67_3 false (be Try.prog .neq 4 (.tmp 70) (.tmp 72) t70_3 t72_3)) fun t73_3 =>
  wpB (pickv t67_3 (some (Go.Value.bool true)) (some t73_3)) fun t74_3 =>
  P3_1 x1 x3 t51 t57 t74_3 w Q) w) w) w) w.drew))))
def L3_1 (x1 x3 x6 x9 x74 : Value) (w : World) (Q : Value → World → Prop) : Prop :=
  cnd x74
  (Q (Go.Value.bool false) w)
  ((wpB (gd x3 true (be Try.prog .neq 29 (.tmp 77) (.const (Go.Value.int Go.IntKind.i64 0)) (gv x3 true x9) (Go.Value.int Go.IntKind.i64 0))) fun t78 =>
  wpB (gd (gv x3 true t78) false (ldv Try.prog 25 x1 w.drew)) fun t82 =>
  gE (gv x3 true t78) false (CallR Try.prog 20 [(gv (gv x3 true t78) false x6)] w.drew) (fun t81 w =>
  gE (gv x3 true t78) false (CallR Try.prog 19 [t81, t82] w) (fun t83 w =>
  wpB (gd x3 true (pickv (gv x3 true t78) (some (Go.Value.bool true)) (some t83))) fun t84 =>
  wpB (pickv x3 (some t84) (some (Go.Value.bool false))) fun t85 =>
  Q t85 w) w) w.drew) ∧
  (wpB (gd x3 true (be Try.prog .neq 29 (.tmp 77) (.const (Go.Value.int Go.IntKind.i64 0)) (gv x3 true x9) (Go.Value.int Go.IntKind.i64 0))) fun t78_1 =>
  gE (gv x3 true t78_1) false (CallR Try.prog 20 [(gv (gv x3 true t78_1) false x6)] w.drew) (fun t81_1 w =>
  wpB (gd (gv x3 true t78_1) false (ldv Try.prog 25 x1 w)) fun t82_1 =>
  gE (gv x3 true t78_1) false (CallR Try.prog 19 [t81_1, t82_1] w) (fun t83_1 w =>
  wpB (gd x3 true (pickv (gv x3 true t78_1) (some (Go.Value.bool true)) (some t83_1))) fun t84_1 =>
  wpB (pickv x3 (some t84_1) (some (Go.Value.bool false))) fun t85_1 =>
  Q t85_1 w) w) w.drew))
theorem F3_ok {a0 : Value} {w : World} {Q : Value → World → Prop} (h : F3 a0 w Q) : CallR Try.prog 3 [a0] w Q :=
  have e : evC Try.prog (entR 3 143) 3 86 H3 Q C3 [] (entryE 0 [a0]) w (contT Try.prog (entR 3 143) 3 86 H3 Try.f3.results.toList Q []) = F3 a0 w Q := by kernel_rfl
  call_of (fn := Try.f3) mixed entOk Try.func3 (c := C3) rfl H3 (Nat.le_of_ble_eq_true rfl) (e.mpr h)
theorem L3_0_ok {x1 x3 x4 x5 : Value} {w : World} {Q : Value → World → Prop} (h : L3_0 x1 x3 x4 x5 w Q) : P3_0 x1 x3 x4 x5 w Q :=
  have e : evC Try.prog (entR 3 143) 3 86 H3 Q (nav [1, 1, 1, 1, 0, 1, 4, 5] C3) T3_0 (unpack [1, 3, 4, 5] [x1, x3, x4, x5]) w (contT Try.prog (entR 3 143) 3 86 H3 Try.f3.results.toList Q T3_0) = L3_0 x1 x3 x4 x5 w Q := by kernel_rfl
  part_lp (fn := Try.f3) mixed entOk Try.func3 H3 (c := (nav [1, 1, 1, 1, 0, 1, 4, 5] C3)) (t := [.blk 0, .jn (nav [1, 1, 1, 1, 1] C3)]) (e.mpr h)
theorem L3_1_ok {x1 x3 x6 x9 x74 : Value} {w : World} {Q : Value → World → Prop} (h : L3_1 x1 x3 x6 x9 x74 w Q) : P3_1 x1 x3 x6 x9 x74 w Q :=
  have e : evC Try.prog (entR 3 143) 3 86 H3 Q (nav [1, 1, 1, 1, 1, 1, 1, 1, 0, 1] C3) [.jn (nav [1, 1, 1, 1, 1, 1, 1, 1, 1] C3)] (unpack [1, 3, 6, 9, 74] [x1, x3, x6, x9, x74]) w (contT Try.prog (entR 3 143) 3 86 H3 Try.f3.results.toList Q [.jn (nav [1, 1, 1, 1, 1, 1, 1, 1, 1] C3)]) = L3_1 x1 x3 x6 x9 x74 w Q := by kernel_rfl
  part_jn (fn := Try.f3) mixed entOk Try.func3 H3 (c := (nav [1, 1, 1, 1, 1, 1, 1, 1, 0, 1] C3)) (t := [.jn (nav [1, 1, 1, 1, 1, 1, 1, 1, 1] C3)]) (e.mpr h)

/-! ### rundale/rundalelaw20.ScriptBack: function 4 -/
noncomputable def C4 : Code := (Try.f4.body).getD .skip
noncomputable def H4 : Hints := ⟨[], [], [(13, (.ask 7 9 (.ask 23 19 (.ask 23 21 (.ask 24 19 (.ask 24 21 (.ask 19 21 (.ask 19 25 (.ask 21 25 (.leaf [0, 1, 2, 3, 4, 5, 6, 8, 7, 9, 10, 11, 12, 13, 14, 15, 16, 17, 18, 20, 23, 24, 19, 21, 22, 25, 26, 27, 28]) (.leaf [0, 1, 2, 3, 4, 5, 6, 8, 7, 9, 10, 11, 12, 13, 14, 15, 16, 17, 18, 20, 23, 24, 19, 25, 21, 22, 26, 27, 28])) (.leaf [0, 1, 2, 3, 4, 5, 6, 8, 7, 9, 10, 11, 12, 13, 14, 15, 16, 17, 18, 20, 23, 24, 25, 19, 21, 22, 26, 27, 28])) (.ask 21 25 (.ask 19 25 (.leaf [0, 1, 2, 3, 4, 5, 6, 8, 7, 9, 10, 11, 12, 13, 14, 15, 16, 17, 18, 20, 23, 24, 21, 19, 22, 25, 26, 27, 28]) (.leaf [0, 1, 2, 3, 4, 5, 6, 8, 7, 9, 10, 11, 12, 13, 14, 15, 16, 17, 18, 20, 23, 24, 21, 25, 19, 22, 26, 27, 28])) (.leaf [0, 1, 2, 3, 4, 5, 6, 8, 7, 9, 10, 11, 12, 13, 14, 15, 16, 17, 18, 20, 23, 24, 25, 21, 19, 22, 26, 27, 28]))) (.ask 19 25 (.leaf [0, 1, 2, 3, 4, 5, 6, 8, 7, 9, 10, 11, 12, 13, 14, 15, 16, 17, 18, 20, 23, 21, 24, 19, 22, 25, 26, 27, 28]) (.leaf [0, 1, 2, 3, 4, 5, 6, 8, 7, 9, 10, 11, 12, 13, 14, 15, 16, 17, 18, 20, 23, 21, 24, 25, 19, 22, 26, 27, 28]))) (.ask 19 21 (.ask 24 21 (.ask 21 25 (.leaf [0, 1, 2, 3, 4, 5, 6, 8, 7, 9, 10, 11, 12, 13, 14, 15, 16, 17, 18, 20, 23, 19, 24, 21, 22, 25, 26, 27, 28]) (.leaf [0, 1, 2, 3, 4, 5, 6, 8, 7, 9, 10, 11, 12, 13, 14, 15, 16, 17, 18, 20, 23, 19, 24, 25, 21, 22, 26, 27, 28])) (.leaf [0, 1, 2, 3, 4, 5, 6, 8, 7, 9, 10, 11, 12, 13, 14, 15, 16, 17, 18, 20, 23, 19, 21, 22, 24, 25, 26, 27, 28])) (.leaf [0, 1, 2, 3, 4, 5, 6, 8, 7, 9, 10, 11, 12, 13, 14, 15, 16, 17, 18, 20, 23, 21, 19, 22, 24, 25, 26, 27, 28]))) (.ask 24 21 (.ask 19 25 (.leaf [0, 1, 2, 3, 4, 5, 6, 8, 7, 9, 10, 11, 12, 13, 14, 15, 16, 17, 18, 20, 24, 21, 23, 19, 22, 25, 26, 27, 28]) (.leaf [0, 1, 2, 3, 4, 5, 6, 8, 7, 9, 10, 11, 12, 13, 14, 15, 16, 17, 18, 20, 24, 21, 23, 25, 19, 22, 26, 27, 28])) (.ask 24 19 (.ask 19 25 (.leaf [0, 1, 2, 3, 4, 5, 6, 8, 7, 9, 10, 11, 12, 13, 14, 15, 16, 17, 18, 20, 21, 23, 24, 19, 22, 25, 26, 27, 28]) (.leaf [0, 1, 2, 3, 4, 5, 6, 8, 7, 9, 10, 11, 12, 13, 14, 15, 16, 17, 18, 20, 21, 23, 24, 25, 19, 22, 26, 27, 28])) (.leaf [0, 1, 2, 3, 4, 5, 6, 8, 7, 9, 10, 11, 12, 13, 14, 15, 16, 17, 18, 20, 21, 23, 19, 22, 24, 25, 26, 27, 28])))) (.ask 24 19 (.ask 24 21 (.ask 19 21 (.ask 23 21 (.ask 21 25 (.leaf [0, 1, 2, 3, 4, 5, 6, 8, 7, 9, 10, 11, 12, 13, 14, 15, 16, 17, 18, 20, 24, 19, 23, 21, 22, 25, 26, 27, 28]) (.leaf [0, 1, 2, 3, 4, 5, 6, 8, 7, 9, 10, 11, 12, 13, 14, 15, 16, 17, 18, 20, 24, 19, 23, 25, 21, 22, 26, 27, 28])) (.leaf [0, 1, 2, 3, 4, 5, 6, 8, 7, 9, 10, 11, 12, 13, 14, 15, 16, 17, 18, 20, 24, 19, 21, 22, 23, 25, 26, 27, 28])) (.leaf [0, 1, 2, 3, 4, 5, 6, 8, 7, 9, 10, 11, 12, 13, 14, 15, 16, 17, 18, 20, 24, 21, 19, 22, 23, 25, 26, 27, 28])) (.leaf [0, 1, 2, 3, 4, 5, 6, 8, 7, 9, 10, 11, 12, 13, 14, 15, 16, 17, 18, 20, 21, 24, 19, 22, 23, 25, 26, 27, 28])) (.ask 19 21 (.ask 23 21 (.ask 24 21 (.ask 21 25 (.leaf [0, 1, 2, 3, 4, 5, 6, 8, 7, 9, 10, 11, 12, 13, 14, 15, 16, 17, 18, 20, 19, 23, 24, 21, 22, 25, 26, 27, 28]) (.leaf [0, 1, 2, 3, 4, 5, 6, 8, 7, 9, 10, 11, 12, 13, 14, 15, 16, 17, 18, 20, 19, 23, 24, 25, 21, 22, 26, 27, 28])) (.leaf [0, 1, 2, 3, 4, 5, 6, 8, 7, 9, 10, 11, 12, 13, 14, 15, 16, 17, 18, 20, 19, 23, 21, 22, 24, 25, 26, 27, 28])) (.ask 24 21 (.leaf [0, 1, 2, 3, 4, 5, 6, 8, 7, 9, 10, 11, 12, 13, 14, 15, 16, 17, 18, 20, 19, 24, 21, 22, 23, 25, 26, 27, 28]) (.leaf [0, 1, 2, 3, 4, 5, 6, 7, 8, 9, 10, 11, 12, 13, 14, 15, 16, 17, 18, 19, 20, 21, 22, 23, 24, 25, 26, 27, 28]))) (.leaf [0, 1, 2, 3, 4, 5, 6, 8, 7, 9, 10, 11, 12, 13, 14, 15, 16, 17, 18, 20, 21, 19, 22, 23, 24, 25, 26, 27, 28])))) (.ask 23 19 (.ask 23 21 (.ask 24 19 (.ask 24 21 (.ask 19 21 (.ask 19 25 (.ask 21 25 (.leaf [0, 1, 2, 3, 4, 5, 6, 8, 9, 7, 10, 11, 12, 13, 14, 15, 16, 17, 18, 20, 23, 24, 19, 21, 22, 25, 26, 27, 28]) (.leaf [0, 1, 2, 3, 4, 5, 6, 8, 9, 7, 10, 11, 12, 13, 14, 15, 16, 17, 18, 20, 23, 24, 19, 25, 21, 22, 26, 27, 28])) (.leaf [0, 1, 2, 3, 4, 5, 6, 8, 9, 7, 10, 11, 12, 13, 14, 15, 16, 17, 18, 20, 23, 24, 25, 19, 21, 22, 26, 27, 28])) (.ask 21 25 (.ask 19 25 (.leaf [0, 1, 2, 3, 4, 5, 6, 8, 9, 7, 10, 11, 12, 13, 14, 15, 16, 17, 18, 20, 23, 24, 21, 19, 22, 25, 26, 27, 28]) (.leaf [0, 1, 2, 3, 4, 5, 6, 8, 9, 7, 10, 11, 12, 13, 14, 15, 16, 17, 18, 20, 23, 24, 21, 25, 19, 22, 26, 27, 28])) (.leaf [0, 1, 2, 3, 4, 5, 6, 8, 9, 7, 10, 11, 12, 13, 14, 15, 16, 17, 18, 20, 23, 24, 25, 21, 19, 22, 26, 27, 28]))) (.ask 19 25 (.leaf [0, 1, 2, 3, 4, 5, 6, 8, 9, 7, 10, 11, 12, 13, 14, 15, 16, 17, 18, 20, 23, 21, 24, 19, 22, 25, 26, 27, 28]) (.leaf [0, 1, 2, 3, 4, 5, 6, 8, 9, 7, 10, 11, 12, 13, 14, 15, 16, 17, 18, 20, 23, 21, 24, 25, 19, 22, 26, 27, 28]))) (.ask 19 21 (.ask 24 21 (.ask 21 25 (.leaf [0, 1, 2, 3, 4, 5, 6, 8, 9, 7, 10, 11, 12, 13, 14, 15, 16, 17, 18, 20, 23, 19, 24, 21, 22, 25, 26, 27, 28]) (.leaf [0, 1, 2, 3, 4, 5, 6, 8, 9, 7, 10, 11, 12, 13, 14, 15, 16, 17, 18, 20, 23, 19, 24, 25, 21, 22, 26, 27, 28])) (.leaf [0, 1, 2, 3, 4, 5, 6, 8, 9, 7, 10, 11, 12, 13, 14, 15, 16, 17, 18, 20, 23, 19, 21, 22, 24, 25, 26, 27, 28])) (.leaf [0, 1, 2, 3, 4, 5, 6, 8, 9, 7, 10, 11, 12, 13, 14, 15, 16, 17, 18, 20, 23, 21, 19, 22, 24, 25, 26, 27, 28]))) (.ask 24 21 (.ask 19 25 (.leaf [0, 1, 2, 3, 4, 5, 6, 8, 9, 7, 10, 11, 12, 13, 14, 15, 16, 17, 18, 20, 24, 21, 23, 19, 22, 25, 26, 27, 28]) (.leaf [0, 1, 2, 3, 4, 5, 6, 8, 9, 7, 10, 11, 12, 13, 14, 15, 16, 17, 18, 20, 24, 21, 23, 25, 19, 22, 26, 27, 28])) (.ask 24 19 (.ask 19 25 (.leaf [0, 1, 2, 3, 4, 5, 6, 8, 9, 7, 10, 11, 12, 13, 14, 15, 16, 17, 18, 20, 21, 23, 24, 19, 22, 25, 26, 27, 28]) (.leaf [0, 1, 2, 3, 4, 5, 6, 8, 9, 7, 10, 11, 12, 13, 14, 15, 16, 17, 18, 20, 21, 23, 24, 25, 19, 22, 26, 27, 28])) (.leaf [0, 1, 2, 3, 4, 5, 6, 8, 9, 7, 10, 11, 12, 13, 14, 15, 16, 17, 18, 20, 21, 23, 19, 22, 24, 25, 26, 27, 28])))) (.ask 24 19 (.ask 24 21 (.ask 19 21 (.ask 23 21 (.ask 21 25 (.leaf [0, 1, 2, 3, 4, 5, 6, 8, 9, 7, 10, 11, 12, 13, 14, 15, 16, 17, 18, 20, 24, 19, 23, 21, 22, 25, 26, 27, 28]) (.leaf [0, 1, 2, 3, 4, 5, 6, 8, 9, 7, 10, 11, 12, 13, 14, 15, 16, 17, 18, 20, 24, 19, 23, 25, 21, 22, 26, 27, 28])) (.leaf [0, 1, 2, 3, 4, 5, 6, 8, 9, 7, 10, 11, 12, 13, 14, 15, 16, 17, 18, 20, 24, 19, 21, 22, 23, 25, 26, 27, 28])) (.leaf [0, 1, 2, 3, 4, 5, 6, 8, 9, 7, 10, 11, 12, 13, 14, 15, 16, 17, 18, 20, 24, 21, 19, 22, 23, 25, 26, 27, 28])) (.leaf [0, 1, 2, 3, 4, 5, 6, 8, 9, 7, 10, 11, 12, 13, 14, 15, 16, 17, 18, 20, 21, 24, 19, 22, 23, 25, 26, 27, 28])) (.ask 19 21 (.ask 23 21 (.ask 24 21 (.ask 21 25 (.leaf [0, 1, 2, 3, 4, 5, 6, 8, 9, 7, 10, 11, 12, 13, 14, 15, 16, 17, 18, 20, 19, 23, 24, 21, 22, 25, 26, 27, 28]) (.leaf [0, 1, 2, 3, 4, 5, 6, 8, 9, 7, 10, 11, 12, 13, 14, 15, 16, 17, 18, 20, 19, 23, 24, 25, 21, 22, 26, 27, 28])) (.leaf [0, 1, 2, 3, 4, 5, 6, 8, 9, 7, 10, 11, 12, 13, 14, 15, 16, 17, 18, 20, 19, 23, 21, 22, 24, 25, 26, 27, 28])) (.ask 24 21 (.leaf [0, 1, 2, 3, 4, 5, 6, 8, 9, 7, 10, 11, 12, 13, 14, 15, 16, 17, 18, 20, 19, 24, 21, 22, 23, 25, 26, 27, 28]) (.leaf [0, 1, 2, 3, 4, 5, 6, 8, 9, 7, 10, 11, 12, 13, 14, 15, 16, 17, 18, 20, 19, 21, 22, 23, 24, 25, 26, 27, 28]))) (.leaf [0, 1, 2, 3, 4, 5, 6, 8, 9, 7, 10, 11, 12, 13, 14, 15, 16, 17, 18, 20, 21, 19, 22, 23, 24, 25, 26, 27, 28]))))))]⟩
def F4 (a0 a1 a2 a3 a4 : Value) (w : World) (Q : Value → World → Prop) : Prop :=
  CallR Try.prog 14 [] w fun t21 w =>
  wpB (pureRun Try.prog (Op.unary .not t21)) fun t23 =>
  cnd t23
  (Q (Go.Value.bool false) w)
  (wpB (pureRun Try.prog (Builtin.len_ #[23] 3 #[a0])) fun t25 =>
  wpB (bp Try.prog .gtr 3 t25 (Go.Value.int Go.IntKind.i64 200)) fun t26 =>
  wpB (gd t26 false (pureRun Try.prog (Builtin.len_ #[23] 3 #[(gv t26 false a1)]))) fun t29 =>
  wpB (gd t26 false (bp Try.prog .gtr 3 t29 (Go.Value.int Go.IntKind.i64 200))) fun t30 =>
  wpB (pickv t26 (some (Go.Value.bool true)) (some t30)) fun t31 =>
  wpB (gd t31 false (pureRun Try.prog (Builtin.len_ #[23] 3 #[(gv t31 false a2)]))) fun t34 =>
  wpB (gd t31 false (bp Try.prog .gtr 3 t34 (Go.Value.int Go.IntKind.i64 200))) fun t35 =>
  wpB (pickv t31 (some (Go.Value.bool true)) (some t35)) fun t36 =>
  wpB (gd t36 false (pureRun Try.prog (Builtin.len_ #[23] 3 #[(gv t36 false a3)]))) fun t39 =>
  wpB (gd t36 false (bp Try.prog .gtr 3 t39 (Go.Value.int Go.IntKind.i64 200))) fun t40 =>
  wpB (pickv t36 (some (Go.Value.bool true)) (some t40)) fun t41 =>
  cnd t41
  (Q t21 w)
  (CallR Try.prog 21 [a0, a1, a4] w fun t46 w =>
  CallR Try.prog 21 [a2, a3, a4] w fun t50 w =>
  effv Try.prog (Instr.alloc 25 true (.tuple #[])) w fun t12 w =>
  effv Try.prog (Instr.alloc 25 true (.tuple #[])) w fun t13 w =>
  effu Try.prog (Instr.storeAt 25 t12 t46) w fun w =>
  effu Try.prog (Instr.storeAt 25 t13 t50) w fun w =>
  wpB (ldv Try.prog 25 t12 w) fun t52 =>
  CallR Try.prog 15 [t52] w fun t53 w =>
  wpB (pureRun Try.prog (Instr.extract t53 0)) fun t54 =>
  wpB (pureRun Try.prog (Instr.extract t53 1)) fun t55 =>
  wpB (ldv Try.prog 25 t13 w) fun t57 =>
  CallR Try.prog 15 [t57] w fun t58 w =>
  wpB (pureRun Try.prog (Instr.extract t58 0)) fun t59 =>
  wpB (pureRun Try.prog (Instr.extract t58 1)) fun t60 =>
  wpB (be Try.prog .neq 29 (.tmp 61) (.const (Go.Value.int Go.IntKind.i64 0)) t55 (Go.Value.int Go.IntKind.i64 0)) fun t62 =>
  wpB (gd t62 false (be Try.prog .neq 29 (.tmp 64) (.const (Go.Value.int Go.IntKind.i64 0)) (gv t62 false t60) (Go.Value.int Go.IntKind.i64 0))) fun t65 =>
  wpB (pickv t62 (some (Go.Value.bool true)) (some t65)) fun t66 =>
  cnd t66
  (Q (Go.Value.bool false) w)
  (CallR Try.prog 20 [t54] w fun t68 w =>
  effv Try.prog (Instr.alloc 25 true (.tuple #[])) w fun t18 w =>
  effu Try.prog (Instr.storeAt 25 t18 t68) w fun w =>
  wpB (ldv Try.prog 25 t18 w) fun t70 =>
  CallR Try.prog 15 [t70] w fun t71 w =>
  wpB (pureRun Try.prog (Instr.extract t71 0)) fun t72 =>
  wpB (pureRun Try.prog (Instr.extract t71 1)) fun t73 =>
  ((((((((wpB (gd t21 true (be Try.prog .eql 29 (.tmp 76) (.const (Go.Value.int Go.IntKind.i64 0)) (gv t21 true t73) (Go.Value.int Go.IntKind.i64 0))) fun t77 =>
  wpB (pickv t21 (some t77) (some (Go.Value.bool false))) fun t78 =>
  gE t78 true (effv Try.prog (convert 28 9 (gv t78 true t72)) w.drew) (fun t81 w =>
  gE t78 true (effv Try.prog (convert 28 9 (gv t78 true t54)) w) (fun t83 w =>
  wpB (gd t78 true (be Try.prog .eql 9 (.tmp 81) (.tmp 83) t81 t83)) fun t84 =>
  wpB (pickv t78 (some t84) (some (Go.Value.bool false))) fun t85 =>
  wpB (gd t85 true (ldv Try.prog 25 t18 w)) fun t87 =>
  wpB (gd t85 true (ldv Try.prog 25 t12 w)) fun t88 =>
  gE t85 true (CallR Try.prog 19 [t87, t88] w) (fun t89 w =>
  wpB (pickv t85 (some t89) (some (Go.Value.bool false))) fun t90 =>
  wpB (gd t90 true (ldv Try.prog 25 t12 w)) fun t97 =>
  wpB (gd t90 true (ldv Try.prog 25 t13 w)) fun t98 =>
  gE t90 true (effv Try.prog (convert 28 9 (gv t90 true t54)) w) (fun t93 w =>
  gE t90 true (effv Try.prog (convert 28 9 (gv t90 true t59)) w) (fun t95 w =>
  wpB (gd t90 true (be Try.prog .eql 9 (.tmp 93) (.tmp 95) t93 t95)) fun t96 =>
  gE t90 true (CallR Try.prog 19 [t97, t98] w) (fun t99 w =>
  wpB (gd t90 true (be Try.prog .eql 4 (.tmp 96) (.tmp 99) t96 t99)) fun t100 =>
  wpB (pickv t90 (some t100) (some (Go.Value.bool false))) fun t101 =>
  Q t101 w) w) w) w) w) w) w.drew) ∧
  (wpB (gd t21 true (be Try.prog .eql 29 (.tmp 76) (.const (Go.Value.int Go.IntKind.i64 0)) (gv t21 true t73) (Go.Value.int Go.IntKind.i64 0))) fun t77_1 =>
  wpB (pickv t21 (some t77_1) (some (Go.Value.bool false))) fun t78_1 =>
  gE t78_1 true (effv Try.prog (convert 28 9 (gv t78_1 true t72)) w.drew) (fun t81_1 w =>
  gE t78_1 true (effv Try.prog (convert 28 9 (gv t78_1 true t54)) w) (fun t83_1 w =>
  wpB (gd t78_1 true (be Try.prog .eql 9 (.tmp 81) (.tmp 83) t81_1 t83_1)) fun t84_1 =>
  wpB (pickv t78_1 (some t84_1) (some (Go.Value.bool false))) fun t85_1 =>
  wpB (gd t85_1 true (ldv Try.prog 25 t18 w)) fun t87_1 =>
  wpB (gd t85_1 true (ldv Try.prog 25 t12 w)) fun t88_1 =>
  gE t85_1 true (CallR Try.prog 19 [t87_1, t88_1] w) (fun t89_1 w =>
  wpB (pickv t85_1 (some t89_1) (some (Go.Value.bool false))) fun t90_1 =>
  wpB (gd t90_1 true (ldv Try.prog 25 t12 w)) fun t97_1 =>
  wpB (gd t90_1 true (ldv Try.prog 25 t13 w)) fun t98_1 =>
  gE t90_1 true (effv Try.prog (convert 28 9 (gv t90_1 true t54)) w) (fun t93_1 w =>
  gE t90_1 true (CallR Try.prog 19 [t97_1, t98_1] w) (fun t99_1 w =>
  gE t90_1 true (effv Try.prog (convert 28 9 (gv t90_1 true t59)) w) (fun t95_1 w =>
  wpB (gd t90_1 true (be Try.prog .eql 9 (.tmp 93) (.tmp 95) t93_1 t95_1)) fun t96_1 =>
  wpB (gd t90_1 true (be Try.prog .eql 4 (.tmp 96) (.tmp 99) t96_1 t99_1)) fun t100_1 =>
  wpB (pickv t90_1 (some t100_1) (some (Go.Value.bool false))) fun t101_1 =>
  Q t101_1 w) w) w) w) w) w) w.drew)) ∧
  (wpB (gd t21 true (be Try.prog .eql 29 (.tmp 76) (.const (Go.Value.int Go.IntKind.i64 0)) (gv t21 true t73) (Go.Value.int Go.IntKind.i64 0))) fun t77_2 =>
  wpB (pickv t21 (some t77_2) (some (Go.Value.bool false))) fun t78_2 =>
  gE t78_2 true (effv Try.prog (convert 28 9 (gv t78_2 true t72)) w.drew) (fun t81_2 w =>
  gE t78_2 true (effv Try.prog (convert 28 9 (gv t78_2 true t54)) w) (fun t83_2 w =>
  wpB (gd t78_2 true (be Try.prog .eql 9 (.tmp 81) (.tmp 83) t81_2 t83_2)) fun t84_2 =>
  wpB (pickv t78_2 (some t84_2) (some (Go.Value.bool false))) fun t85_2 =>
  wpB (gd t85_2 true (ldv Try.prog 25 t18 w)) fun t87_2 =>
  wpB (gd t85_2 true (ldv Try.prog 25 t12 w)) fun t88_2 =>
  gE t85_2 true (CallR Try.prog 19 [t87_2, t88_2] w) (fun t89_2 w =>
  wpB (pickv t85_2 (some t89_2) (some (Go.Value.bool false))) fun t90_2 =>
  wpB (gd t90_2 true (ldv Try.prog 25 t12 w)) fun t97_2 =>
  wpB (gd t90_2 true (ldv Try.prog 25 t13 w)) fun t98_2 =>
  gE t90_2 true (CallR Try.prog 19 [t97_2, t98_2] w) (fun t99_2 w =>
  gE t90_2 true (effv Try.prog (convert 28 9 (gv t90_2 true t54)) w) (fun t93_2 w =>
  gE t90_2 true (effv Try.prog (convert 28 9 (gv t90_2 true t59)) w) (fun t95_2 w =>
  wpB (gd t90_2 true (be Try.prog .eql 9 (.tmp 93) (.tmp 95) t93_2 t95_2)) fun t96_2 =>
  wpB (gd t90_2 true (be Try.prog .eql 4 (.tmp 96) (.tmp 99) t96_2 t99_2)) fun t100_2 =>
  wpB (pickv t90_2 (some t100_2) (some (Go.Value.bool false))) fun t101_2 =>
  Q t101_2 w) w) w) w) w) w) w.drew)) ∧
  (((wpB (gd t21 true (be Try.prog .eql 29 (.tmp 76) (.const (Go.Value.int Go.IntKind.i64 0)) (gv t21 true t73) (Go.Value.int Go.IntKind.i64 0))) fun t77_3 =>
  wpB (pickv t21 (some t77_3) (some (Go.Value.bool false))) fun t78_3 =>
  gE t78_3 true (effv Try.prog (convert 28 9 (gv t78_3 true t72)) w.drew) (fun t81_3 w =>
  gE t78_3 true (effv Try.prog (convert 28 9 (gv t78_3 true t54)) w) (fun t83_3 w =>
  wpB (gd t78_3 true (be Try.prog .eql 9 (.tmp 81) (.tmp 83) t81_3 t83_3)) fun t84_3 =>
  wpB (pickv t78_3 (some t84_3) (some (Go.Value.bool false))) fun t85_3 =>
  wpB (gd t85_3 true (ldv Try.prog 25 t18 w)) fun t87_3 =>
  wpB (gd t85_3 true (ldv Try.prog 25 t12 w)) fun t88_3 =>
  gE t85_3 true (CallR Try.prog 19 [t87_3, t88_3] w) (fun t89_3 w =>
  wpB (pickv t85_3 (some t89_3) (some (Go.Value.bool false))) fun t90_3 =>
  wpB (gd t90_3 true (ldv Try.prog 25 t12 w)) fun t97_3 =>
  wpB (gd t90_3 true (ldv Try.prog 25 t13 w)) fun t98_3 =>
  gE t90_3 true (effv Try.prog (convert 28 9 (gv t90_3 true t59)) w) (fun t95_3 w =>
  gE t90_3 true (effv Try.prog (convert 28 9 (gv t90_3 true t54)) w) (fun t93_3 w =>
  wpB (gd t90_3 true (be Try.prog .eql 9 (.tmp 93) (.tmp 95) t93_3 t95_3)) fun t96_3 =>
  gE t90_3 true (CallR Try.prog 19 [t97_3, t98_3] w) (fun t99_3 w =>
  wpB (gd t90_3 true (be Try.prog .eql 4 (.tmp 96) (.tmp 99) t96_3 t99_3)) fun t100_3 =>
  wpB (pickv t90_3 (some t100_3) (some (Go.Value.bool false))) fun t101_3 =>
  Q t101_3 w) w) w) w) w) w) w.drew) ∧
  (wpB (gd t21 true (be Try.prog .eql 29 (.tmp 76) (.const (Go.Value.int Go.IntKind.i64 0)) (gv t21 true t73) (Go.Value.int Go.IntKind.i64 0))) fun t77_4 =>
  wpB (pickv t21 (some t77_4) (some (Go.Value.bool false))) fun t78_4 =>
  gE t78_4 true (effv Try.prog (convert 28 9 (gv t78_4 true t72)) w.drew) (fun t81_4 w =>
  gE t78_4 true (effv Try.prog (convert 28 9 (gv t78_4 true t54)) w) (fun t83_4 w =>
  wpB (gd t78_4 true (be Try.prog .eql 9 (.tmp 81) (.tmp 83) t81_4 t83_4)) fun t84_4 =>
  wpB (pickv t78_4 (some t84_4) (some (Go.Value.bool false))) fun t85_4 =>
  wpB (gd t85_4 true (ldv Try.prog 25 t18 w)) fun t87_4 =>
  wpB (gd t85_4 true (ldv Try.prog 25 t12 w)) fun t88_4 =>
  gE t85_4 true (CallR Try.prog 19 [t87_4, t88_4] w) (fun t89_4 w =>
  wpB (pickv t85_4 (some t89_4) (some (Go.Value.bool false))) fun t90_4 =>
  wpB (gd t90_4 true (ldv Try.prog 25 t12 w)) fun t97_4 =>
  wpB (gd t90_4 true (ldv Try.prog 25 t13 w)) fun t98_4 =>
  gE t90_4 true (effv Try.prog (convert 28 9 (gv t90_4 true t59)) w) (fun t95_4 w =>
  gE t90_4 true (CallR Try.prog 19 [t97_4, t98_4] w) (fun t99_4 w =>
  gE t90_4 true (effv Try.prog (convert 28 9 (gv t90_4 true t54)) w) (fun t93_4 w =>
  wpB (gd t90_4 true (be Try.prog .eql 9 (.tmp 93) (.tmp 95) t93_4 t95_4)) fun t96_4 =>
  wpB (gd t90_4 true (be Try.prog .eql 4 (.tmp 96) (.tmp 99) t96_4 t99_4)) fun t100_4 =>
  wpB (pickv t90_4 (some t100_4) (some (Go.Value.bool false))) fun t101_4 =>
  Q t101_4 w) w) w) w) w) w) w.drew)) ∧
  (wpB (gd t21 true (be Try.prog .eql 29 (.tmp 76) (.const (Go.Value.int Go.IntKind.i64 0)) (gv t21 true t73) (Go.Value.int Go.IntKind.i64 0))) fun t77_5 =>
  wpB (pickv t21 (some t77_5) (some (Go.Value.bool false))) fun t78_5 =>
  gE t78_5 true (effv Try.prog (convert 28 9 (gv t78_5 true t72)) w.drew) (fun t81_5 w =>
  gE t78_5 true (effv Try.prog (convert 28 9 (gv t78_5 true t54)) w) (fun t83_5 w =>
  wpB (gd t78_5 true (be Try.prog .eql 9 (.tmp 81) (.tmp 83) t81_5 t83_5)) fun t84_5 =>
  wpB (pickv t78_5 (some t84_5) (some (Go.Value.bool false))) fun t85_5 =>
  wpB (gd t85_5 true (ldv Try.prog 25 t18 w)) fun t87_5 =>
  wpB (gd t85_5 true (ldv Try.prog 25 t12 w)) fun t88_5 =>
  gE t85_5 true (CallR Try.prog 19 [t87_5, t88_5] w) (fun t89_5 w =>
  wpB (pickv t85_5 (some t89_5) (some (Go.Value.bool false))) fun t90_5 =>
  wpB (gd t90_5 true (ldv Try.prog 25 t12 w)) fun t97_5 =>
  wpB (gd t90_5 true (ldv Try.prog 25 t13 w)) fun t98_5 =>
  gE t90_5 true (CallR Try.prog 19 [t97_5, t98_5] w) (fun t99_5 w =>
  gE t90_5 true (effv Try.prog (convert 28 9 (gv t90_5 true t59)) w) (fun t95_5 w =>
  gE t90_5 true (effv Try.prog (convert 28 9 (gv t90_5 true t54)) w) (fun t93_5 w =>
  wpB (gd t90_5 true (be Try.prog .eql 9 (.tmp 93) (.tmp 95) t93_5 t95_5)) fun t96_5 =>
  wpB (gd t90_5 true (be Try.prog .eql 4 (.tmp 96) (.tmp 99) t96_5 t99_5)) fun t100_5 =>
  wpB (pickv t90_5 (some t100_5) (some (Go.Value.bool false))) fun t101_5 =>
  Q t101_5 w) w) w) w) w) w) w.drew))) ∧
  ((wpB (gd t21 true (be Try.prog .eql 29 (.tmp 76) (.const (Go.Value.int Go.IntKind.i64 0)) (gv t21 true t73) (Go.Value.int Go.IntKind.i64 0))) fun t77_6 =>
  wpB (pickv t21 (some t77_6) (some (Go.Value.bool false))) fun t78_6 =>
  gE t78_6 true (effv Try.prog (convert 28 9 (gv t78_6 true t72)) w.drew) (fun t81_6 w =>
  gE t78_6 true (effv Try.prog (convert 28 9 (gv t78_6 true t54)) w) (fun t83_6 w =>
  wpB (gd t78_6 true (be Try.prog .eql 9 (.tmp 81) (.tmp 83) t81_6 t83_6)) fun t84_6 =>
  wpB (pickv t78_6 (some t84_6) (some (Go.Value.bool false))) fun t85_6 =>
  wpB (gd t85_6 true (ldv Try.prog 25 t18 w)) fun t87_6 =>
  wpB (gd t85_6 true (ldv Try.prog 25 t12 w)) fun t88_6 =>
  gE t85_6 true (CallR Try.prog 19 [t87_6, t88_6] w) (fun t89_6 w =>
  wpB (pickv t85_6 (some t89_6) (some (Go.Value.bool false))) fun t90_6 =>
  wpB (gd t90_6 true (ldv Try.prog 25 t12 w)) fun t97_6 =>
  gE t90_6 true (effv Try.prog (convert 28 9 (gv t90_6 true t59)) w) (fun t95_6 w =>
  wpB (gd t90_6 true (ldv Try.prog 25 t13 w)) fun t98_6 =>
  gE t90_6 true (effv Try.prog (convert 28 9 (gv t90_6 true t54)) w) (fun t93_6 w =>
  wpB (gd t90_6 true (be Try.prog .eql 9 (.tmp 93) (.tmp 95) t93_6 t95_6)) fun t96_6 =>
  gE t90_6 true (CallR Try.prog 19 [t97_6, t98_6] w) (fun t99_6 w =>
  wpB (gd t90_6 true (be Try.prog .eql 4 (.tmp 96) (.tmp 99) t96_6 t99_6)) fun t100_6 =>
  wpB (pickv t90_6 (some t100_6) (some (Go.Value.bool false))) fun t101_6 =>
  Q t101_6 w) w) w) w) w) w) w.drew) ∧
  (wpB (gd t21 true (be Try.prog .eql 29 (.tmp 76) (.const (Go.Value.int Go.IntKind.i64 0)) (gv t21 true t73) (Go.Value.int Go.IntKind.i64 0))) fun t77_7 =>
  wpB (pickv t21 (some t77_7) (some (Go.Value.bool false))) fun t78_7 =>
  gE t78_7 true (effv Try.prog (convert 28 9 (gv t78_7 true t72)) w.drew) (fun t81_7 w =>
  gE t78_7 true (effv Try.prog (convert 28 9 (gv t78_7 true t54)) w) (fun t83_7 w =>
  wpB (gd t78_7 true (be Try.prog .eql 9 (.tmp 81) (.tmp 83) t81_7 t83_7)) fun t84_7 =>
  wpB (pickv t78_7 (some t84_7) (some (Go.Value.bool false))) fun t85_7 =>
  wpB (gd t85_7 true (ldv Try.prog 25 t18 w)) fun t87_7 =>
  wpB (gd t85_7 true (ldv Try.prog 25 t12 w)) fun t88_7 =>
  gE t85_7 true (CallR Try.prog 19 [t87_7, t88_7] w) (fun t89_7 w =>
  wpB (pickv t85_7 (some t89_7) (some (Go.Value.bool false))) fun t90_7 =>
  wpB (gd t90_7 true (ldv Try.prog 25 t12 w)) fun t97_7 =>
  gE t90_7 true (effv Try.prog (convert 28 9 (gv t90_7 true t59)) w) (fun t95_7 w =>
  wpB (gd t90_7 true (ldv Try.prog 25 t13 w)) fun t98_7 =>
  gE t90_7 true (CallR Try.prog 19 [t97_7, t98_7] w) (fun t99_7 w =>
  gE t90_7 true (effv Try.prog (convert 28 9 (gv t90_7 true t54)) w) (fun t93_7 w =>
  wpB (gd t90_7 true (be Try.prog .eql 9 (.tmp 93) (.tmp 95) t93_7 t95_7)) fun t96_7 =>
  wpB (gd t90_7 true (be Try.prog .eql 4 (.tmp 96) (.tmp 99) t96_7 t99_7)) fun t100_7 =>
  wpB (pickv t90_7 (some t100_7) (some (Go.Value.bool false))) fun t101_7 =>
  Q t101_7 w) w) w) w) w) w) w.drew))) ∧
  ((((wpB (gd t21 true (be Try.prog .eql 29 (.tmp 76) (.const (Go.Value.int Go.IntKind.i64 0)) (gv t21 true t73) (Go.Value.int Go.IntKind.i64 0))) fun t77_8 =>
  wpB (pickv t21 (some t77_8) (some (Go.Value.bool false))) fun t78_8 =>
  gE t78_8 true (effv Try.prog (convert 28 9 (gv t78_8 true t72)) w.drew) (fun t81_8 w =>
  gE t78_8 true (effv Try.prog (convert 28 9 (gv t78_8 true t54)) w) (fun t83_8 w =>
  wpB (gd t78_8 true (be Try.prog .eql 9 (.tmp 81) (.tmp 83) t81_8 t83_8)) fun t84_8 =>
  wpB (pickv t78_8 (some t84_8) (some (Go.Value.bool false))) fun t85_8 =>
  wpB (gd t85_8 true (ldv Try.prog 25 t18 w)) fun t87_8 =>
  wpB (gd t85_8 true (ldv Try.prog 25 t12 w)) fun t88_8 =>
  gE t85_8 true (CallR Try.prog 19 [t87_8, t88_8] w) (fun t89_8 w =>
  wpB (pickv t85_8 (some t89_8) (some (Go.Value.bool false))) fun t90_8 =>
  wpB (gd t90_8 true (ldv Try.prog 25 t12 w)) fun t97_8 =>
  gE t90_8 true (effv Try.prog (convert 28 9 (gv t90_8 true t54)) w) (fun t93_8 w =>
  wpB (gd t90_8 true (ldv Try.prog 25 t13 w)) fun t98_8 =>
  gE t90_8 true (effv Try.prog (convert 28 9 (gv t90_8 true t59)) w) (fun t95_8 w =>
  wpB (gd t90_8 true (be Try.prog .eql 9 (.tmp 93) (.tmp 95) t93_8 t95_8)) fun t96_8 =>
  gE t90_8 true (CallR Try.prog 19 [t97_8, t98_8] w) (fun t99_8 w =>
  wpB (gd t90_8 true (be Try.prog .eql 4 (.tmp 96) (.tmp 99) t96_8 t99_8)) fun t100_8 =>
  wpB (pickv t90_8 (some t100_8) (some (Go.Value.bool false))) fun t101_8 =>
  Q t101_8 w) w) w) w) w) w) w.drew) ∧
  (wpB (gd t21 true (be Try.prog .eql 29 (.tmp 76) (.const (Go.Value.int Go.IntKind.i64 0)) (gv t21 true t73) (Go.Value.int Go.IntKind.i64 0))) fun t77_9 =>
  wpB (pickv t21 (some t77_9) (some (Go.Value.bool false))) fun t78_9 =>
  gE t78_9 true (effv Try.prog (convert 28 9 (gv t78_9 true t72)) w.drew) (fun t81_9 w =>
  gE t78_9 true (effv Try.prog (convert 28 9 (gv t78_9 true t54)) w) (fun t83_9 w =>
  wpB (gd t78_9 true (be Try.prog .eql 9 (.tmp 81) (.tmp 83) t81_9 t83_9)) fun t84_9 =>
  wpB (pickv t78_9 (some t84_9) (some (Go.Value.bool false))) fun t85_9 =>
  wpB (gd t85_9 true (ldv Try.prog 25 t18 w)) fun t87_9 =>
  wpB (gd t85_9 true (ldv Try.prog 25 t12 w)) fun t88_9 =>
  gE t85_9 true (CallR Try.prog 19 [t87_9, t88_9] w) (fun t89_9 w =>
  wpB (pickv t85_9 (some t89_9) (some (Go.Value.bool false))) fun t90_9 =>
  wpB (gd t90_9 true (ldv Try.prog 25 t12 w)) fun t97_9 =>
  gE t90_9 true (effv Try.prog (convert 28 9 (gv t90_9 true t54)) w) (fun t93_9 w =>
  wpB (gd t90_9 true (ldv Try.prog 25 t13 w)) fun t98_9 =>
  gE t90_9 true (CallR Try.prog 19 [t97_9, t98_9] w) (fun t99_9 w =>
  gE t90_9 true (effv Try.prog (convert 28 9 (gv t90_9 true t59)) w) (fun t95_9 w =>
  wpB (gd t90_9 true (be Try.prog .eql 9 (.tmp 93) (.tmp 95) t93_9 t95_9)) fun t96_9 =>
  wpB (gd t90_9 true (be Try.prog .eql 4 (.tmp 96) (.tmp 99) t96_9 t99_9)) fun t100_9 =>
  wpB (pickv t90_9 (some t100_9) (some (Go.Value.bool false))) fun t101_9 =>
  Q t101_9 w) w) w) w) w) w) w.drew)) ∧
  (wpB (gd t21 true (be Try.prog .eql 29 (.tmp 76) (.const (Go.Value.int Go.IntKind.i64 0)) (gv t21 true t73) (Go.Value.int Go.IntKind.i64 0))) fun t77_10 =>
  wpB (pickv t21 (some t77_10) (some (Go.Value.bool false))) fun t78_10 =>
  gE t78_10 true (effv Try.prog (convert 28 9 (gv t78_10 true t72)) w.drew) (fun t81_10 w =>
  gE t78_10 true (effv Try.prog (convert 28 9 (gv t78_10 true t54)) w) (fun t83_10 w =>
  wpB (gd t78_10 true (be Try.prog .eql 9 (.tmp 81) (.tmp 83) t81_10 t83_10)) fun t84_10 =>
  wpB (pickv t78_10 (some t84_10) (some (Go.Value.bool false))) fun t85_10 =>
  wpB (gd t85_10 true (ldv Try.prog 25 t18 w)) fun t87_10 =>
  wpB (gd t85_10 true (ldv Try.prog 25 t12 w)) fun t88_10 =>
  gE t85_10 true (CallR Try.prog 19 [t87_10, t88_10] w) (fun t89_10 w =>
  wpB (pickv t85_10 (some t89_10) (some (Go.Value.bool false))) fun t90_10 =>
  wpB (gd t90_10 true (ldv Try.prog 25 t12 w)) fun t97_10 =>
  gE t90_10 true (effv Try.prog (convert 28 9 (gv t90_10 true t54)) w) (fun t93_10 w =>
  gE t90_10 true (effv Try.prog (convert 28 9 (gv t90_10 true t59)) w) (fun t95_10 w =>
  wpB (gd t90_10 true (be Try.prog .eql 9 (.tmp 93) (.tmp 95) t93_10 t95_10)) fun t96_10 =>
  wpB (gd t90_10 true (ldv Try.prog 25 t13 w)) fun t98_10 =>
  gE t90_10 true (CallR Try.prog 19 [t97_10, t98_10] w) (fun t99_10 w =>
  wpB (gd t90_10 true (be Try.prog .eql 4 (.tmp 96) (.tmp 99) t96_10 t99_10)) fun t100_10 =>
  wpB (pickv t90_10 (some t100_10) (some (Go.Value.bool false))) fun t101_10 =>
  Q t101_10 w) w) w) w) w) w) w.drew)) ∧
  (wpB (gd t21 true (be Try.prog .eql 29 (.tmp 76) (.const (Go.Value.int Go.IntKind.i64 0)) (gv t21 true t73) (Go.Value.int Go.IntKind.i64 0))) fun t77_11 =>
  wpB (pickv t21 (some t77_11) (some (Go.Value.bool false))) fun t78_11 =>
  gE t78_11 true (effv Try.prog (convert 28 9 (gv t78_11 true t72)) w.drew) (fun t81_11 w =>
  gE t78_11 true (effv Try.prog (convert 28 9 (gv t78_11 true t54)) w) (fun t83_11 w =>
  wpB (gd t78_11 true (be Try.prog .eql 9 (.tmp 81) (.tmp 83) t81_11 t83_11)) fun t84_11 =>
  wpB (pickv t78_11 (some t84_11) (some (Go.Value.bool false))) fun t85_11 =>
  wpB (gd t85_11 true (ldv Try.prog 25 t18 w)) fun t87_11 =>
  wpB (gd t85_11 true (ldv Try.prog 25 t12 w)) fun t88_11 =>
  gE t85_11 true (CallR Try.prog 19 [t87_11, t88_11] w) (fun t89_11 w =>
  wpB (pickv t85_11 (some t89_11) (some (Go.Value.bool false))) fun t90_11 =>
  wpB (gd t90_11 true (ldv Try.prog 25 t12 w)) fun t97_11 =>
  gE t90_11 true (effv Try.prog (convert 28 9 (gv t90_11 true t59)) w) (fun t95_11 w =>
  gE t90_11 true (effv Try.prog (convert 28 9 (gv t90_11 true t54)) w) (fun t93_11 w =>
  wpB (gd t90_11 true (be Try.prog .eql 9 (.tmp 93) (.tmp 95) t93_11 t95_11)) fun t96_11 =>
  wpB (gd t90_11 true (ldv Try.prog 25 t13 w)) fun t98_11 =>
  gE t90_11 true (CallR Try.prog 19 [t97_11, t98_11] w) (fun t99_11 w =>
  wpB (gd t90_11 true (be Try.prog .eql 4 (.tmp 96) (.tmp 99) t96_11 t99_11)) fun t100_11 =>
  wpB (pickv t90_11 (some t100_11) (some (Go.Value.bool false))) fun t101_11 =>
  Q t101_11 w) w) w) w) w) w) w.drew))) ∧
  (((wpB (gd t21 true (be Try.prog .eql 29 (.tmp 76) (.const (Go.Value.int Go.IntKind.i64 0)) (gv t21 true t73) (Go.Value.int Go.IntKind.i64 0))) fun t77_12 =>
  wpB (pickv t21 (some t77_12) (some (Go.Value.bool false))) fun t78_12 =>
  gE t78_12 true (effv Try.prog (convert 28 9 (gv t78_12 true t72)) w.drew) (fun t81_12 w =>
  gE t78_12 true (effv Try.prog (convert 28 9 (gv t78_12 true t54)) w) (fun t83_12 w =>
  wpB (gd t78_12 true (be Try.prog .eql 9 (.tmp 81) (.tmp 83) t81_12 t83_12)) fun t84_12 =>
  wpB (pickv t78_12 (some t84_12) (some (Go.Value.bool false))) fun t85_12 =>
  wpB (gd t85_12 true (ldv Try.prog 25 t18 w)) fun t87_12 =>
  wpB (gd t85_12 true (ldv Try.prog 25 t12 w)) fun t88_12 =>
  gE t85_12 true (CallR Try.prog 19 [t87_12, t88_12] w) (fun t89_12 w =>
  wpB (pickv t85_12 (some t89_12) (some (Go.Value.bool false))) fun t90_12 =>
  wpB (gd t90_12 true (ldv Try.prog 25 t13 w)) fun t98_12 =>
  gE t90_12 true (effv Try.prog (convert 28 9 (gv t90_12 true t59)) w) (fun t95_12 w =>
  wpB (gd t90_12 true (ldv Try.prog 25 t12 w)) fun t97_12 =>
  gE t90_12 true (effv Try.prog (convert 28 9 (gv t90_12 true t54)) w) (fun t93_12 w =>
  wpB (gd t90_12 true (be Try.prog .eql 9 (.tmp 93) (.tmp 95) t93_12 t95_12)) fun t96_12 =>
  gE t90_12 true (CallR Try.prog 19 [t97_12, t98_12] w) (fun t99_12 w =>
  wpB (gd t90_12 true (be Try.prog .eql 4 (.tmp 96) (.tmp 99) t96_12 t99_12)) fun t100_12 =>
  wpB (pickv t90_12 (some t100_12) (some (Go.Value.bool false))) fun t101_12 =>
  Q t101_12 w) w) w) w) w) w) w.drew) ∧
  (wpB (gd t21 true (be Try.prog .eql 29 (.tmp 76) (.const (Go.Value.int Go.IntKind.i64 0)) (gv t21 true t73) (Go.Value.int Go.IntKind.i64 0))) fun t77_13 =>
  wpB (pickv t21 (some t77_13) (some (Go.Value.bool false))) fun t78_13 =>
  gE t78_13 true (effv Try.prog (convert 28 9 (gv t78_13 true t72)) w.drew) (fun t81_13 w =>
  gE t78_13 true (effv Try.prog (convert 28 9 (gv t78_13 true t54)) w) (fun t83_13 w =>
  wpB (gd t78_13 true (be Try.prog .eql 9 (.tmp 81) (.tmp 83) t81_13 t83_13)) fun t84_13 =>
  wpB (pickv t78_13 (some t84_13) (some (Go.Value.bool false))) fun t85_13 =>
  wpB (gd t85_13 true (ldv Try.prog 25 t18 w)) fun t87_13 =>
  wpB (gd t85_13 true (ldv Try.prog 25 t12 w)) fun t88_13 =>
  gE t85_13 true (CallR Try.prog 19 [t87_13, t88_13] w) (fun t89_13 w =>
  wpB (pickv t85_13 (some t89_13) (some (Go.Value.bool false))) fun t90_13 =>
  wpB (gd t90_13 true (ldv Try.prog 25 t13 w)) fun t98_13 =>
  gE t90_13 true (effv Try.prog (convert 28 9 (gv t90_13 true t59)) w) (fun t95_13 w =>
  wpB (gd t90_13 true (ldv Try.prog 25 t12 w)) fun t97_13 =>
  gE t90_13 true (CallR Try.prog 19 [t97_13, t98_13] w) (fun t99_13 w =>
  gE t90_13 true (effv Try.prog (convert 28 9 (gv t90_13 true t54)) w) (fun t93_13 w =>
  wpB (gd t90_13 true (be Try.prog .eql 9 (.tmp 93) (.tmp 95) t93_13 t95_13)) fun t96_13 =>
  wpB (gd t90_13 true (be Try.prog .eql 4 (.tmp 96) (.tmp 99) t96_13 t99_13)) fun t100_13 =>
  wpB (pickv t90_13 (some t100_13) (some (Go.Value.bool false))) fun t101_13 =>
  Q t101_13 w) w) w) w) w) w) w.drew)) ∧
  (((wpB (gd t21 true (be Try.prog .eql 29 (.tmp 76) (.const (Go.Value.int Go.IntKind.i64 0)) (gv t21 true t73) (Go.Value.int Go.IntKind.i64 0))) fun t77_14 =>
  wpB (pickv t21 (some t77_14) (some (Go.Value.bool false))) fun t78_14 =>
  gE t78_14 true (effv Try.prog (convert 28 9 (gv t78_14 true t72)) w.drew) (fun t81_14 w =>
  gE t78_14 true (effv Try.prog (convert 28 9 (gv t78_14 true t54)) w) (fun t83_14 w =>
  wpB (gd t78_14 true (be Try.prog .eql 9 (.tmp 81) (.tmp 83) t81_14 t83_14)) fun t84_14 =>
  wpB (pickv t78_14 (some t84_14) (some (Go.Value.bool false))) fun t85_14 =>
  wpB (gd t85_14 true (ldv Try.prog 25 t18 w)) fun t87_14 =>
  wpB (gd t85_14 true (ldv Try.prog 25 t12 w)) fun t88_14 =>
  gE t85_14 true (CallR Try.prog 19 [t87_14, t88_14] w) (fun t89_14 w =>
  wpB (pickv t85_14 (some t89_14) (some (Go.Value.bool false))) fun t90_14 =>
  gE t90_14 true (effv Try.prog (convert 28 9 (gv t90_14 true t59)) w) (fun t95_14 w =>
  wpB (gd t90_14 true (ldv Try.prog 25 t12 w)) fun t97_14 =>
  wpB (gd t90_14 true (ldv Try.prog 25 t13 w)) fun t98_14 =>
  gE t90_14 true (effv Try.prog (convert 28 9 (gv t90_14 true t54)) w) (fun t93_14 w =>
  wpB (gd t90_14 true (be Try.prog .eql 9 (.tmp 93) (.tmp 95) t93_14 t95_14)) fun t96_14 =>
  gE t90_14 true (CallR Try.prog 19 [t97_14, t98_14] w) (fun t99_14 w =>
  wpB (gd t90_14 true (be Try.prog .eql 4 (.tmp 96) (.tmp 99) t96_14 t99_14)) fun t100_14 =>
  wpB (pickv t90_14 (some t100_14) (some (Go.Value.bool false))) fun t101_14 =>
  Q t101_14 w) w) w) w) w) w) w.drew) ∧
  (wpB (gd t21 true (be Try.prog .eql 29 (.tmp 76) (.const (Go.Value.int Go.IntKind.i64 0)) (gv t21 true t73) (Go.Value.int Go.IntKind.i64 0))) fun t77_15 =>
  wpB (pickv t21 (some t77_15) (some (Go.Value.bool false))) fun t78_15 =>
  gE t78_15 true (effv Try.prog (convert 28 9 (gv t78_15 true t72)) w.drew) (fun t81_15 w =>
  gE t78_15 true (effv Try.prog (convert 28 9 (gv t78_15 true t54)) w) (fun t83_15 w =>
  wpB (gd t78_15 true (be Try.prog .eql 9 (.tmp 81) (.tmp 83) t81_15 t83_15)) fun t84_15 =>
  wpB (pickv t78_15 (some t84_15) (some (Go.Value.bool false))) fun t85_15 =>
  wpB (gd t85_15 true (ldv Try.prog 25 t18 w)) fun t87_15 =>
  wpB (gd t85_15 true (ldv Try.prog 25 t12 w)) fun t88_15 =>
  gE t85_15 true (CallR Try.prog 19 [t87_15, t88_15] w) (fun t89_15 w =>
  wpB (pickv t85_15 (some t89_15) (some (Go.Value.bool false))) fun t90_15 =>
  gE t90_15 true (effv Try.prog (convert 28 9 (gv t90_15 true t59)) w) (fun t95_15 w =>
  wpB (gd t90_15 true (ldv Try.prog 25 t12 w)) fun t97_15 =>
  wpB (gd t90_15 true (ldv Try.prog 25 t13 w)) fun t98_15 =>
  gE t90_15 true (CallR Try.prog 19 [t97_15, t98_15] w) (fun t99_15 w =>
  gE t90_15 true (effv Try.prog (convert 28 9 (gv t90_15 true t54)) w) (fun t93_15 w =>
  wpB (gd t90_15 true (be Try.prog .eql 9 (.tmp 93) (.tmp 95) t93_15 t95_15)) fun t96_15 =>
  wpB (gd t90_15 true (be Try.prog .eql 4 (.tmp 96) (.tmp 99) t96_15 t99_15)) fun t100_15 =>
  wpB (pickv t90_15 (some t100_15) (some (Go.Value.bool false))) fun t101_15 =>
  Q t101_15 w) w) w) w) w) w) w.drew)) ∧
  (wpB (gd t21 true (be Try.prog .eql 29 (.tmp 76) (.const (Go.Value.int Go.IntKind.i64 0)) (gv t21 true t73) (Go.Value.int Go.IntKind.i64 0))) fun t77_16 =>
  wpB (pickv t21 (some t77_16) (some (Go.Value.bool false))) fun t78_16 =>
  gE t78_16 true (effv Try.prog (convert 28 9 (gv t78_16 true t72)) w.drew) (fun t81_16 w =>
  gE t78_16 true (effv Try.prog (convert 28 9 (gv t78_16 true t54)) w) (fun t83_16 w =>
  wpB (gd t78_16 true (be Try.prog .eql 9 (.tmp 81) (.tmp 83) t81_16 t83_16)) fun t84_16 =>
  wpB (pickv t78_16 (some t84_16) (some (Go.Value.bool false))) fun t85_16 =>
  wpB (gd t85_16 true (ldv Try.prog 25 t18 w)) fun t87_16 =>
  wpB (gd t85_16 true (ldv Try.prog 25 t12 w)) fun t88_16 =>
  gE t85_16 true (CallR Try.prog 19 [t87_16, t88_16] w) (fun t89_16 w =>
  wpB (pickv t85_16 (some t89_16) (some (Go.Value.bool false))) fun t90_16 =>
  gE t90_16 true (effv Try.prog (convert 28 9 (gv t90_16 true t59)) w) (fun t95_16 w =>
  wpB (gd t90_16 true (ldv Try.prog 25 t12 w)) fun t97_16 =>
  gE t90_16 true (effv Try.prog (convert 28 9 (gv t90_16 true t54)) w) (fun t93_16 w =>
  wpB (gd t90_16 true (be Try.prog .eql 9 (.tmp 93) (.tmp 95) t93_16 t95_16)) fun t96_16 =>
  wpB (gd t90_16 true (ldv Try.prog 25 t13 w)) fun t98_16 =>
  gE t90_16 true (CallR Try.prog 19 [t97_16, t98_16] w) (fun t99_16 w =>
  wpB (gd t90_16 true (be Try.prog .eql 4 (.tmp 96) (.tmp 99) t96_16 t99_16)) fun t100_16 =>
  wpB (pickv t90_16 (some t100_16) (some (Go.Value.bool false))) fun t101_16 =>
  Q t101_16 w) w) w) w) w) w) w.drew)))) ∧
  ((((((wpB (gd t21 true (be Try.prog .eql 29 (.tmp 76) (.const (Go.Value.int Go.IntKind.i64 0)) (gv t21 true t73) (Go.Value.int Go.IntKind.i64 0))) fun t77_17 =>
  wpB (pickv t21 (some t77_17) (some (Go.Value.bool false))) fun t78_17 =>
  gE t78_17 true (effv Try.prog (convert 28 9 (gv t78_17 true t72)) w.drew) (fun t81_17 w =>
  gE t78_17 true (effv Try.prog (convert 28 9 (gv t78_17 true t54)) w) (fun t83_17 w =>
  wpB (gd t78_17 true (be Try.prog .eql 9 (.tmp 81) (.tmp 83) t81_17 t83_17)) fun t84_17 =>
  wpB (pickv t78_17 (some t84_17) (some (Go.Value.bool false))) fun t85_17 =>
  wpB (gd t85_17 true (ldv Try.prog 25 t18 w)) fun t87_17 =>
  wpB (gd t85_17 true (ldv Try.prog 25 t12 w)) fun t88_17 =>
  gE t85_17 true (CallR Try.prog 19 [t87_17, t88_17] w) (fun t89_17 w =>
  wpB (pickv t85_17 (some t89_17) (some (Go.Value.bool false))) fun t90_17 =>
  wpB (gd t90_17 true (ldv Try.prog 25 t13 w)) fun t98_17 =>
  gE t90_17 true (effv Try.prog (convert 28 9 (gv t90_17 true t54)) w) (fun t93_17 w =>
  wpB (gd t90_17 true (ldv Try.prog 25 t12 w)) fun t97_17 =>
  gE t90_17 true (effv Try.prog (convert 28 9 (gv t90_17 true t59)) w) (fun t95_17 w =>
  wpB (gd t90_17 true (be Try.prog .eql 9 (.tmp 93) (.tmp 95) t93_17 t95_17)) fun t96_17 =>
  gE t90_17 true (CallR Try.prog 19 [t97_17, t98_17] w) (fun t99_17 w =>
  wpB (gd t90_17 true (be Try.prog .eql 4 (.tmp 96) (.tmp 99) t96_17 t99_17)) fun t100_17 =>
  wpB (pickv t90_17 (some t100_17) (some (Go.Value.bool false))) fun t101_17 =>
  Q t101_17 w) w) w) w) w) w) w.drew) ∧
  (wpB (gd t21 true (be Try.prog .eql 29 (.tmp 76) (.const (Go.Value.int Go.IntKind.i64 0)) (gv t21 true t73) (Go.Value.int Go.IntKind.i64 0))) fun t77_18 =>
  wpB (pickv t21 (some t77_18) (some (Go.Value.bool false))) fun t78_18 =>
  gE t78_18 true (effv Try.prog (convert 28 9 (gv t78_18 true t72)) w.drew) (fun t81_18 w =>
  gE t78_18 true (effv Try.prog (convert 28 9 (gv t78_18 true t54)) w) (fun t83_18 w =>
  wpB (gd t78_18 true (be Try.prog .eql 9 (.tmp 81) (.tmp 83) t81_18 t83_18)) fun t84_18 =>
  wpB (pickv t78_18 (some t84_18) (some (Go.Value.bool false))) fun t85_18 =>
  wpB (gd t85_18 true (ldv Try.prog 25 t18 w)) fun t87_18 =>
  wpB (gd t85_18 true (ldv Try.prog 25 t12 w)) fun t88_18 =>
  gE t85_18 true (CallR Try.prog 19 [t87_18, t88_18] w) (fun t89_18 w =>
  wpB (pickv t85_18 (some t89_18) (some (Go.Value.bool false))) fun t90_18 =>
  wpB (gd t90_18 true (ldv Try.prog 25 t13 w)) fun t98_18 =>
  gE t90_18 true (effv Try.prog (convert 28 9 (gv t90_18 true t54)) w) (fun t93_18 w =>
  wpB (gd t90_18 true (ldv Try.prog 25 t12 w)) fun t97_18 =>
  gE t90_18 true (CallR Try.prog 19 [t97_18, t98_18] w) (fun t99_18 w =>
  gE t90_18 true (effv Try.prog (convert 28 9 (gv t90_18 true t59)) w) (fun t95_18 w =>
  wpB (gd t90_18 true (be Try.prog .eql 9 (.tmp 93) (.tmp 95) t93_18 t95_18)) fun t96_18 =>
  wpB (gd t90_18 true (be Try.prog .eql 4 (.tmp 96) (.tmp 99) t96_18 t99_18)) fun t100_18 =>
  wpB (pickv t90_18 (some t100_18) (some (Go.Value.bool false))) fun t101_18 =>
  Q t101_18 w) w) w) w) w) w) w.drew)) ∧
  (wpB (gd t21 true (be Try.prog .eql 29 (.tmp 76) (.const (Go.Value.int Go.IntKind.i64 0)) (gv t21 true t73) (Go.Value.int Go.IntKind.i64 0))) fun t77_19 =>
  wpB (pickv t21 (some t77_19) (some (Go.Value.bool false))) fun t78_19 =>
  gE t78_19 true (effv Try.prog (convert 28 9 (gv t78_19 true t72)) w.drew) (fun t81_19 w =>
  gE t78_19 true (effv Try.prog (convert 28 9 (gv t78_19 true t54)) w) (fun t83_19 w =>
  wpB (gd t78_19 true (be Try.prog .eql 9 (.tmp 81) (.tmp 83) t81_19 t83_19)) fun t84_19 =>
  wpB (pickv t78_19 (some t84_19) (some (Go.Value.bool false))) fun t85_19 =>
  wpB (gd t85_19 true (ldv Try.prog 25 t18 w)) fun t87_19 =>
  wpB (gd t85_19 true (ldv Try.prog 25 t12 w)) fun t88_19 =>
  gE t85_19 true (CallR Try.prog 19 [t87_19, t88_19] w) (fun t89_19 w =>
  wpB (pickv t85_19 (some t89_19) (some (Go.Value.bool false))) fun t90_19 =>
  wpB (gd t90_19 true (ldv Try.prog 25 t13 w)) fun t98_19 =>
  gE t90_19 true (effv Try.prog (convert 28 9 (gv t90_19 true t54)) w) (fun t93_19 w =>
  gE t90_19 true (effv Try.prog (convert 28 9 (gv t90_19 true t59)) w) (fun t95_19 w =>
  wpB (gd t90_19 true (be Try.prog .eql 9 (.tmp 93) (.tmp 95) t93_19 t95_19)) fun t96_19 =>
  wpB (gd t90_19 true (ldv Try.prog 25 t12 w)) fun t97_19 =>
  gE t90_19 true (CallR Try.prog 19 [t97_19, t98_19] w) (fun t99_19 w =>
  wpB (gd t90_19 true (be Try.prog .eql 4 (.tmp 96) (.tmp 99) t96_19 t99_19)) fun t100_19 =>
  wpB (pickv t90_19 (some t100_19) (some (Go.Value.bool false))) fun t101_19 =>
  Q t101_19 w) w) w) w) w) w) w.drew)) ∧
  (wpB (gd t21 true (be Try.prog .eql 29 (.tmp 76) (.const (Go.Value.int Go.IntKind.i64 0)) (gv t21 true t73) (Go.Value.int Go.IntKind.i64 0))) fun t77_20 =>
  wpB (pickv t21 (some t77_20) (some (Go.Value.bool false))) fun t78_20 =>
  gE t78_20 true (effv Try.prog (convert 28 9 (gv t78_20 true t72)) w.drew) (fun t81_20 w =>
  gE t78_20 true (effv Try.prog (convert 28 9 (gv t78_20 true t54)) w) (fun t83_20 w =>
  wpB (gd t78_20 true (be Try.prog .eql 9 (.tmp 81) (.tmp 83) t81_20 t83_20)) fun t84_20 =>
  wpB (pickv t78_20 (some t84_20) (some (Go.Value.bool false))) fun t85_20 =>
  wpB (gd t85_20 true (ldv Try.prog 25 t18 w)) fun t87_20 =>
  wpB (gd t85_20 true (ldv Try.prog 25 t12 w)) fun t88_20 =>
  gE t85_20 true (CallR Try.prog 19 [t87_20, t88_20] w) (fun t89_20 w =>
  wpB (pickv t85_20 (some t89_20) (some (Go.Value.bool false))) fun t90_20 =>
  wpB (gd t90_20 true (ldv Try.prog 25 t13 w)) fun t98_20 =>
  gE t90_20 true (effv Try.prog (convert 28 9 (gv t90_20 true t59)) w) (fun t95_20 w =>
  gE t90_20 true (effv Try.prog (convert 28 9 (gv t90_20 true t54)) w) (fun t93_20 w =>
  wpB (gd t90_20 true (be Try.prog .eql 9 (.tmp 93) (.tmp 95) t93_20 t95_20)) fun t96_20 =>
  wpB (gd t90_20 true (ldv Try.prog 25 t12 w)) fun t97_20 =>
  gE t90_20 true (CallR Try.prog 19 [t97_20, t98_20] w) (fun t99_20 w =>
  wpB (gd t90_20 true (be Try.prog .eql 4 (.tmp 96) (.tmp 99) t96_20 t99_20)) fun t100_20 =>
  wpB (pickv t90_20 (some t100_20) (some (Go.Value.bool false))) fun t101_20 =>
  Q t101_20 w) w) w) w) w) w) w.drew)) ∧
  (wpB (gd t21 true (be Try.prog .eql 29 (.tmp 76) (.const (Go.Value.int Go.IntKind.i64 0)) (gv t21 true t73) (Go.Value.int Go.IntKind.i64 0))) fun t77_21 =>
  wpB (pickv t21 (some t77_21) (some (Go.Value.bool false))) fun t78_21 =>
  gE t78_21 true (effv Try.prog (convert 28 9 (gv t78_21 true t72)) w.drew) (fun t81_21 w =>
  gE t78_21 true (effv Try.prog (convert 28 9 (gv t78_21 true t54)) w) (fun t83_21 w =>
  wpB (gd t78_21 true (be Try.prog .eql 9 (.tmp 81) (.tmp 83) t81_21 t83_21)) fun t84_21 =>
  wpB (pickv t78_21 (some t84_21) (some (Go.Value.bool false))) fun t85_21 =>
  wpB (gd t85_21 true (ldv Try.prog 25 t18 w)) fun t87_21 =>
  wpB (gd t85_21 true (ldv Try.prog 25 t12 w)) fun t88_21 =>
  gE t85_21 true (CallR Try.prog 19 [t87_21, t88_21] w) (fun t89_21 w =>
  wpB (pickv t85_21 (some t89_21) (some (Go.Value.bool false))) fun t90_21 =>
  gE t90_21 true (effv Try.prog (convert 28 9 (gv t90_21 true t59)) w) (fun t95_21 w =>
  wpB (gd t90_21 true (ldv Try.prog 25 t13 w)) fun t98_21 =>
  gE t90_21 true (effv Try.prog (convert 28 9 (gv t90_21 true t54)) w) (fun t93_21 w =>
  wpB (gd t90_21 true (be Try.prog .eql 9 (.tmp 93) (.tmp 95) t93_21 t95_21)) fun t96_21 =>
  wpB (gd t90_21 true (ldv Try.prog 25 t12 w)) fun t97_21 =>
  gE t90_21 true (CallR Try.prog 19 [t97_21, t98_21] w) (fun t99_21 w =>
  wpB (gd t90_21 true (be Try.prog .eql 4 (.tmp 96) (.tmp 99) t96_21 t99_21)) fun t100_21 =>
  wpB (pickv t90_21 (some t100_21) (some (Go.Value.bool false))) fun t101_21 =>
  Q t101_21 w) w) w) w) w) w) w.drew)) ∧
  (((((wpB (gd t21 true (be Try.prog .eql 29 (.tmp 76) (.const (Go.Value.int Go.IntKind.i64 0)) (gv t21 true t73) (Go.Value.int Go.IntKind.i64 0))) fun t77_22 =>
  wpB (pickv t21 (some t77_22) (some (Go.Value.bool false))) fun t78_22 =>
  gE t78_22 true (effv Try.prog (convert 28 9 (gv t78_22 true t72)) w.drew) (fun t81_22 w =>
  gE t78_22 true (effv Try.prog (convert 28 9 (gv t78_22 true t54)) w) (fun t83_22 w =>
  wpB (gd t78_22 true (be Try.prog .eql 9 (.tmp 81) (.tmp 83) t81_22 t83_22)) fun t84_22 =>
  wpB (pickv t78_22 (some t84_22) (some (Go.Value.bool false))) fun t85_22 =>
  wpB (gd t85_22 true (ldv Try.prog 25 t18 w)) fun t87_22 =>
  wpB (gd t85_22 true (ldv Try.prog 25 t12 w)) fun t88_22 =>
  gE t85_22 true (CallR Try.prog 19 [t87_22, t88_22] w) (fun t89_22 w =>
  wpB (pickv t85_22 (some t89_22) (some (Go.Value.bool false))) fun t90_22 =>
  gE t90_22 true (effv Try.prog (convert 28 9 (gv t90_22 true t54)) w) (fun t93_22 w =>
  wpB (gd t90_22 true (ldv Try.prog 25 t12 w)) fun t97_22 =>
  wpB (gd t90_22 true (ldv Try.prog 25 t13 w)) fun t98_22 =>
  gE t90_22 true (effv Try.prog (convert 28 9 (gv t90_22 true t59)) w) (fun t95_22 w =>
  wpB (gd t90_22 true (be Try.prog .eql 9 (.tmp 93) (.tmp 95) t93_22 t95_22)) fun t96_22 =>
  gE t90_22 true (CallR Try.prog 19 [t97_22, t98_22] w) (fun t99_22 w =>
  wpB (gd t90_22 true (be Try.prog .eql 4 (.tmp 96) (.tmp 99) t96_22 t99_22)) fun t100_22 =>
  wpB (pickv t90_22 (some t100_22) (some (Go.Value.bool false))) fun t101_22 =>
  Q t101_22 w) w) w) w) w) w) w.drew) ∧
  (wpB (gd t21 true (be Try.prog .eql 29 (.tmp 76) (.const (Go.Value.int Go.IntKind.i64 0)) (gv t21 true t73) (Go.Value.int Go.IntKind.i64 0))) fun t77_23 =>
  wpB (pickv t21 (some t77_23) (some (Go.Value.bool false))) fun t78_23 =>
  gE t78_23 true (effv Try.prog (convert 28 9 (gv t78_23 true t72)) w.drew) (fun t81_23 w =>
  gE t78_23 true (effv Try.prog (convert 28 9 (gv t78_23 true t54)) w) (fun t83_23 w =>
  wpB (gd t78_23 true (be Try.prog .eql 9 (.tmp 81) (.tmp 83) t81_23 t83_23)) fun t84_23 =>
  wpB (pickv t78_23 (some t84_23) (some (Go.Value.bool false))) fun t85_23 =>
  wpB (gd t85_23 true (ldv Try.prog 25 t18 w)) fun t87_23 =>
  wpB (gd t85_23 true (ldv Try.prog 25 t12 w)) fun t88_23 =>
  gE t85_23 true (CallR Try.prog 19 [t87_23, t88_23] w) (fun t89_23 w =>
  wpB (pickv t85_23 (some t89_23) (some (Go.Value.bool false))) fun t90_23 =>
  gE t90_23 true (effv Try.prog (convert 28 9 (gv t90_23 true t54)) w) (fun t93_23 w =>
  wpB (gd t90_23 true (ldv Try.prog 25 t12 w)) fun t97_23 =>
  wpB (gd t90_23 true (ldv Try.prog 25 t13 w)) fun t98_23 =>
  gE t90_23 true (CallR Try.prog 19 [t97_23, t98_23] w) (fun t99_23 w =>
  gE t90_23 true (effv Try.prog (convert 28 9 (gv t90_23 true t59)) w) (fun t95_23 w =>
  wpB (gd t90_23 true (be Try.prog .eql 9 (.tmp 93) (.tmp 95) t93_23 t95_23)) fun t96_23 =>
  wpB (gd t90_23 true (be Try.prog .eql 4 (.tmp 96) (.tmp 99) t96_23 t99_23)) fun t100_23 =>
  wpB (pickv t90_23 (some t100_23) (some (Go.Value.bool false))) fun t101_23 =>
  Q t101_23 w) w) w) w) w) w) w.drew)) ∧
  (wpB (gd t21 true (be Try.prog .eql 29 (.tmp 76) (.const (Go.Value.int Go.IntKind.i64 0)) (gv t21 true t73) (Go.Value.int Go.IntKind.i64 0))) fun t77_24 =>
  wpB (pickv t21 (some t77_24) (some (Go.Value.bool false))) fun t78_24 =>
  gE t78_24 true (effv Try.prog (convert 28 9 (gv t78_24 true t72)) w.drew) (fun t81_24 w =>
  gE t78_24 true (effv Try.prog (convert 28 9 (gv t78_24 true t54)) w) (fun t83_24 w =>
  wpB (gd t78_24 true (be Try.prog .eql 9 (.tmp 81) (.tmp 83) t81_24 t83_24)) fun t84_24 =>
  wpB (pickv t78_24 (some t84_24) (some (Go.Value.bool false))) fun t85_24 =>
  wpB (gd t85_24 true (ldv Try.prog 25 t18 w)) fun t87_24 =>
  wpB (gd t85_24 true (ldv Try.prog 25 t12 w)) fun t88_24 =>
  gE t85_24 true (CallR Try.prog 19 [t87_24, t88_24] w) (fun t89_24 w =>
  wpB (pickv t85_24 (some t89_24) (some (Go.Value.bool false))) fun t90_24 =>
  gE t90_24 true (effv Try.prog (convert 28 9 (gv t90_24 true t54)) w) (fun t93_24 w =>
  wpB (gd t90_24 true (ldv Try.prog 25 t12 w)) fun t97_24 =>
  gE t90_24 true (effv Try.prog (convert 28 9 (gv t90_24 true t59)) w) (fun t95_24 w =>
  wpB (gd t90_24 true (be Try.prog .eql 9 (.tmp 93) (.tmp 95) t93_24 t95_24)) fun t96_24 =>
  wpB (gd t90_24 true (ldv Try.prog 25 t13 w)) fun t98_24 =>
  gE t90_24 true (CallR Try.prog 19 [t97_24, t98_24] w) (fun t99_24 w =>
  wpB (gd t90_24 true (be Try.prog .eql 4 (.tmp 96) (.tmp 99) t96_24 t99_24)) fun t100_24 =>
  wpB (pickv t90_24 (some t100_24) (some (Go.Value.bool false))) fun t101_24 =>
  Q t101_24 w) w) w) w) w) w) w.drew)) ∧
  ((wpB (gd t21 true (be Try.prog .eql 29 (.tmp 76) (.const (Go.Value.int Go.IntKind.i64 0)) (gv t21 true t73) (Go.Value.int Go.IntKind.i64 0))) fun t77_25 =>
  wpB (pickv t21 (some t77_25) (some (Go.Value.bool false))) fun t78_25 =>
  gE t78_25 true (effv Try.prog (convert 28 9 (gv t78_25 true t72)) w.drew) (fun t81_25 w =>
  gE t78_25 true (effv Try.prog (convert 28 9 (gv t78_25 true t54)) w) (fun t83_25 w =>
  wpB (gd t78_25 true (be Try.prog .eql 9 (.tmp 81) (.tmp 83) t81_25 t83_25)) fun t84_25 =>
  wpB (pickv t78_25 (some t84_25) (some (Go.Value.bool false))) fun t85_25 =>
  wpB (gd t85_25 true (ldv Try.prog 25 t18 w)) fun t87_25 =>
  wpB (gd t85_25 true (ldv Try.prog 25 t12 w)) fun t88_25 =>
  gE t85_25 true (CallR Try.prog 19 [t87_25, t88_25] w) (fun t89_25 w =>
  wpB (pickv t85_25 (some t89_25) (some (Go.Value.bool false))) fun t90_25 =>
  gE t90_25 true (effv Try.prog (convert 28 9 (gv t90_25 true t54)) w) (fun t93_25 w =>
  wpB (gd t90_25 true (ldv Try.prog 25 t13 w)) fun t98_25 =>
  gE t90_25 true (effv Try.prog (convert 28 9 (gv t90_25 true t59)) w) (fun t95_25 w =>
  wpB (gd t90_25 true (be Try.prog .eql 9 (.tmp 93) (.tmp 95) t93_25 t95_25)) fun t96_25 =>
  wpB (gd t90_25 true (ldv Try.prog 25 t12 w)) fun t97_25 =>
  gE t90_25 true (CallR Try.prog 19 [t97_25, t98_25] w) (fun t99_25 w =>
  wpB (gd t90_25 true (be Try.prog .eql 4 (.tmp 96) (.tmp 99) t96_25 t99_25)) fun t100_25 =>
  wpB (pickv t90_25 (some t100_25) (some (Go.Value.bool false))) fun t101_25 =>
  Q t101_25 w) w) w) w) w) w) w.drew) ∧
  (wpB (gd t21 true (be Try.prog .eql 29 (.tmp 76) (.const (Go.Value.int Go.IntKind.i64 0)) (gv t21 true t73) (Go.Value.int Go.IntKind.i64 0))) fun t77_26 =>
  wpB (pickv t21 (some t77_26) (some (Go.Value.bool false))) fun t78_26 =>
  gE t78_26 true (effv Try.prog (convert 28 9 (gv t78_26 true t72)) w.drew) (fun t81_26 w =>
  gE t78_26 true (effv Try.prog (convert 28 9 (gv t78_26 true t54)) w) (fun t83_26 w =>
  wpB (gd t78_26 true (be Try.prog .eql 9 (.tmp 81) (.tmp 83) t81_26 t83_26)) fun t84_26 =>
  wpB (pickv t78_26 (some t84_26) (some (Go.Value.bool false))) fun t85_26 =>
  wpB (gd t85_26 true (ldv Try.prog 25 t18 w)) fun t87_26 =>
  wpB (gd t85_26 true (ldv Try.prog 25 t12 w)) fun t88_26 =>
  gE t85_26 true (CallR Try.prog 19 [t87_26, t88_26] w) (fun t89_26 w =>
  wpB (pickv t85_26 (some t89_26) (some (Go.Value.bool false))) fun t90_26 =>
  gE t90_26 true (effv Try.prog (convert 28 9 (gv t90_26 true t54)) w) (fun t93_26 w =>
  gE t90_26 true (effv Try.prog (convert 28 9 (gv t90_26 true t59)) w) (fun t95_26 w =>
  wpB (gd t90_26 true (be Try.prog .eql 9 (.tmp 93) (.tmp 95) t93_26 t95_26)) fun t96_26 =>
  wpB (gd t90_26 true (ldv Try.prog 25 t12 w)) fun t97_26 =>
  wpB (gd t90_26 true (ldv Try.prog 25 t13 w)) fun t98_26 =>
  gE t90_26 true (CallR Try.prog 19 [t97_26, t98_26] w) (fun t99_26 w =>
  wpB (gd t90_26 true (be Try.prog .eql 4 (.tmp 96) (.tmp 99) t96_26 t99_26)) fun t100_26 =>
  wpB (pickv t90_26 (some t100_26) (some (Go.Value.bool false))) fun t101_26 =>
  Q t101_26 w) w) w) w) w) w) w.drew))) ∧
  (wpB (gd t21 true (be Try.prog .eql 29 (.tmp 76) (.const (Go.Value.int Go.IntKind.i64 0)) (gv t21 true t73) (Go.Value.int Go.IntKind.i64 0))) fun t77_27 =>
  wpB (pickv t21 (some t77_27) (some (Go.Value.bool false))) fun t78_27 =>
  gE t78_27 true (effv Try.prog (convert 28 9 (gv t78_27 true t72)) w.drew) (fun t81_27 w =>
  gE t78_27 true (effv Try.prog (convert 28 9 (gv t78_27 true t54)) w) (fun t83_27 w =>
  wpB (gd t78_27 true (be Try.prog .eql 9 (.tmp 81) (.tmp 83) t81_27 t83_27)) fun t84_27 =>
  wpB (pickv t78_27 (some t84_27) (some (Go.Value.bool false))) fun t85_27 =>
  wpB (gd t85_27 true (ldv Try.prog 25 t18 w)) fun t87_27 =>
  wpB (gd t85_27 true (ldv Try.prog 25 t12 w)) fun t88_27 =>
  gE t85_27 true (CallR Try.prog 19 [t87_27, t88_27] w) (fun t89_27 w =>
  wpB (pickv t85_27 (some t89_27) (some (Go.Value.bool false))) fun t90_27 =>
  gE t90_27 true (effv Try.prog (convert 28 9 (gv t90_27 true t59)) w) (fun t95_27 w =>
  gE t90_27 true (effv Try.prog (convert 28 9 (gv t90_27 true t54)) w) (fun t93_27 w =>
  wpB (gd t90_27 true (be Try.prog .eql 9 (.tmp 93) (.tmp 95) t93_27 t95_27)) fun t96_27 =>
  wpB (gd t90_27 true (ldv Try.prog 25 t12 w)) fun t97_27 =>
  wpB (gd t90_27 true (ldv Try.prog 25 t13 w)) fun t98_27 =>
  gE t90_27 true (CallR Try.prog 19 [t97_27, t98_27] w) (fun t99_27 w =>
  wpB (gd t90_27 true (be Try.prog .eql 4 (.tmp 96) (.tmp 99) t96_27 t99_27)) fun t100_27 =>
  wpB (pickv t90_27 (some t100_27) (some (Go.Value.bool false))) fun t101_27 =>
  Q t101_27 w) w) w) w) w) w) w.drew)))) ∧
  ((((((((wpB (gd t21 true (be Try.prog .eql 29 (.tmp 76) (.const (Go.Value.int Go.IntKind.i64 0)) (gv t21 true t73) (Go.Value.int Go.IntKind.i64 0))) fun t77_28 =>
  wpB (pickv t21 (some t77_28) (some (Go.Value.bool false))) fun t78_28 =>
  gE t78_28 true (effv Try.prog (convert 28 9 (gv t78_28 true t54)) w.drew) (fun t83_28 w =>
  gE t78_28 true (effv Try.prog (convert 28 9 (gv t78_28 true t72)) w) (fun t81_28 w =>
  wpB (gd t78_28 true (be Try.prog .eql 9 (.tmp 81) (.tmp 83) t81_28 t83_28)) fun t84_28 =>
  wpB (pickv t78_28 (some t84_28) (some (Go.Value.bool false))) fun t85_28 =>
  wpB (gd t85_28 true (ldv Try.prog 25 t18 w)) fun t87_28 =>
  wpB (gd t85_28 true (ldv Try.prog 25 t12 w)) fun t88_28 =>
  gE t85_28 true (CallR Try.prog 19 [t87_28, t88_28] w) (fun t89_28 w =>
  wpB (pickv t85_28 (some t89_28) (some (Go.Value.bool false))) fun t90_28 =>
  wpB (gd t90_28 true (ldv Try.prog 25 t12 w)) fun t97_28 =>
  wpB (gd t90_28 true (ldv Try.prog 25 t13 w)) fun t98_28 =>
  gE t90_28 true (effv Try.prog (convert 28 9 (gv t90_28 true t54)) w) (fun t93_28 w =>
  gE t90_28 true (effv Try.prog (convert 28 9 (gv t90_28 true t59)) w) (fun t95_28 w =>
  wpB (gd t90_28 true (be Try.prog .eql 9 (.tmp 93) (.tmp 95) t93_28 t95_28)) fun t96_28 =>
  gE t90_28 true (CallR Try.prog 19 [t97_28, t98_28] w) (fun t99_28 w =>
  wpB (gd t90_28 true (be Try.prog .eql 4 (.tmp 96) (.tmp 99) t96_28 t99_28)) fun t100_28 =>
  wpB (pickv t90_28 (some t100_28) (some (Go.Value.bool false))) fun t101_28 =>
  Q t101_28 w) w) w) w) w) w) w.drew) ∧
  (wpB (gd t21 true (be Try.prog .eql 29 (.tmp 76) (.const (Go.Value.int Go.IntKind.i64 0)) (gv t21 true t73) (Go.Value.int Go.IntKind.i64 0))) fun t77_29 =>
  wpB (pickv t21 (some t77_29) (some (Go.Value.bool false))) fun t78_29 =>
  gE t78_29 true (effv Try.prog (convert 28 9 (gv t78_29 true t54)) w.drew) (fun t83_29 w =>
  gE t78_29 true (effv Try.prog (convert 28 9 (gv t78_29 true t72)) w) (fun t81_29 w =>
  wpB (gd t78_29 true (be Try.prog .eql 9 (.tmp 81) (.tmp 83) t81_29 t83_29)) fun t84_29 =>
  wpB (pickv t78_29 (some t84_29) (some (Go.Value.bool false))) fun t85_29 =>
  wpB (gd t85_29 true (ldv Try.prog 25 t18 w)) fun t87_29 =>
  wpB (gd t85_29 true (ldv Try.prog 25 t12 w)) fun t88_29 =>
  gE t85_29 true (CallR Try.prog 19 [t87_29, t88_29] w) (fun t89_29 w =>
  wpB (pickv t85_29 (some t89_29) (some (Go.Value.bool false))) fun t90_29 =>
  wpB (gd t90_29 true (ldv Try.prog 25 t12 w)) fun t97_29 =>
  wpB (gd t90_29 true (ldv Try.prog 25 t13 w)) fun t98_29 =>
  gE t90_29 true (effv Try.prog (convert 28 9 (gv t90_29 true t54)) w) (fun t93_29 w =>
  gE t90_29 true (CallR Try.prog 19 [t97_29, t98_29] w) (fun t99_29 w =>
  gE t90_29 true (effv Try.prog (convert 28 9 (gv t90_29 true t59)) w) (fun t95_29 w =>
  wpB (gd t90_29 true (be Try.prog .eql 9 (.tmp 93) (.tmp 95) t93_29 t95_29)) fun t96_29 =>
  wpB (gd t90_29 true (be Try.prog .eql 4 (.tmp 96) (.tmp 99) t96_29 t99_29)) fun t100_29 =>
  wpB (pickv t90_29 (some t100_29) (some (Go.Value.bool false))) fun t101_29 =>
  Q t101_29 w) w) w) w) w) w) w.drew)) ∧
  (wpB (gd t21 true (be Try.prog .eql 29 (.tmp 76) (.const (Go.Value.int Go.IntKind.i64 0)) (gv t21 true t73) (Go.Value.int Go.IntKind.i64 0))) fun t77_30 =>
  wpB (pickv t21 (some t77_30) (some (Go.Value.bool false))) fun t78_30 =>
  gE t78_30 true (effv Try.prog (convert 28 9 (gv t78_30 true t54)) w.drew) (fun t83_30 w =>
  gE t78_30 true (effv Try.prog (convert 28 9 (gv t78_30 true t72)) w) (fun t81_30 w =>
  wpB (gd t78_30 true (be Try.prog .eql 9 (.tmp 81) (.tmp 83) t81_30 t83_30)) fun t84_30 =>
  wpB (pickv t78_30 (some t84_30) (some (Go.Value.bool false))) fun t85_30 =>
  wpB (gd t85_30 true (ldv Try.prog 25 t18 w)) fun t87_30 =>
  wpB (gd t85_30 true (ldv Try.prog 25 t12 w)) fun t88_30 =>
  gE t85_30 true (CallR Try.prog 19 [t87_30, t88_30] w) (fun t89_30 w =>
  wpB (pickv t85_30 (some t89_30) (some (Go.Value.bool false))) fun t90_30 =>
  wpB (gd t90_30 true (ldv Try.prog 25 t12 w)) fun t97_30 =>
  wpB (gd t90_30 true (ldv Try.prog 25 t13 w)) fun t98_30 =>
  gE t90_30 true (CallR Try.prog 19 [t97_30, t98_30] w) (fun t99_30 w =>
  gE t90_30 true (effv Try.prog (convert 28 9 (gv t90_30 true t54)) w) (fun t93_30 w =>
  gE t90_30 true (effv Try.prog (convert 28 9 (gv t90_30 true t59)) w) (fun t95_30 w =>
  wpB (gd t90_30 true (be Try.prog .eql 9 (.tmp 93) (.tmp 95) t93_30 t95_30)) fun t96_30 =>
  wpB (gd t90_30 true (be Try.prog .eql 4 (.tmp 96) (.tmp 99) t96_30 t99_30)) fun t100_30 =>
  wpB (pickv t90_30 (some t100_30) (some (Go.Value.bool false))) fun t101_30 =>
  Q t101_30 w) w) w) w) w) w) w.drew)) ∧
  (((wpB (gd t21 true (be Try.prog .eql 29 (.tmp 76) (.const (Go.Value.int Go.IntKind.i64 0)) (gv t21 true t73) (Go.Value.int Go.IntKind.i64 0))) fun t77_31 =>
  wpB (pickv t21 (some t77_31) (some (Go.Value.bool false))) fun t78_31 =>
  gE t78_31 true (effv Try.prog (convert 28 9 (gv t78_31 true t54)) w.drew) (fun t83_31 w =>
  gE t78_31 true (effv Try.prog (convert 28 9 (gv t78_31 true t72)) w) (fun t81_31 w =>
  wpB (gd t78_31 true (be Try.prog .eql 9 (.tmp 81) (.tmp 83) t81_31 t83_31)) fun t84_31 =>
  wpB (pickv t78_31 (some t84_31) (some (Go.Value.bool false))) fun t85_31 =>
  wpB (gd t85_31 true (ldv Try.prog 25 t18 w)) fun t87_31 =>
  wpB (gd t85_31 true (ldv Try.prog 25 t12 w)) fun t88_31 =>
  gE t85_31 true (CallR Try.prog 19 [t87_31, t88_31] w) (fun t89_31 w =>
  wpB (pickv t85_31 (some t89_31) (some (Go.Value.bool false))) fun t90_31 =>
  wpB (gd t90_31 true (ldv Try.prog 25 t12 w)) fun t97_31 =>
  wpB (gd t90_31 true (ldv Try.prog 25 t13 w)) fun t98_31 =>
  gE t90_31 true (effv Try.prog (convert 28 9 (gv t90_31 true t59)) w) (fun t95_31 w =>
  gE t90_31 true (effv Try.prog (convert 28 9 (gv t90_31 true t54)) w) (fun t93_31 w =>
  wpB (gd t90_31 true (be Try.prog .eql 9 (.tmp 93) (.tmp 95) t93_31 t95_31)) fun t96_31 =>
  gE t90_31 true (CallR Try.prog 19 [t97_31, t98_31] w) (fun t99_31 w =>
  wpB (gd t90_31 true (be Try.prog .eql 4 (.tmp 96) (.tmp 99) t96_31 t99_31)) fun t100_31 =>
  wpB (pickv t90_31 (some t100_31) (some (Go.Value.bool false))) fun t101_31 =>
  Q t101_31 w) w) w) w) w) w) w.drew) ∧
  (wpB (gd t21 true (be Try.prog .eql 29 (.tmp 76) (.const (Go.Value.int Go.IntKind.i64 0)) (gv t21 true t73) (Go.Value.int Go.IntKind.i64 0))) fun t77_32 =>
  wpB (pickv t21 (some t77_32) (some (Go.Value.bool false))) fun t78_32 =>
  gE t78_32 true (effv Try.prog (convert 28 9 (gv t78_32 true t54)) w.drew) (fun t83_32 w =>
  gE t78_32 true (effv Try.prog (convert 28 9 (gv t78_32 true t72)) w) (fun t81_32 w =>
  wpB (gd t78_32 true (be Try.prog .eql 9 (.tmp 81) (.tmp 83) t81_32 t83_32)) fun t84_32 =>
  wpB (pickv t78_32 (some t84_32) (some (Go.Value.bool false))) fun t85_32 =>
  wpB (gd t85_32 true (ldv Try.prog 25 t18 w)) fun t87_32 =>
  wpB (gd t85_32 true (ldv Try.prog 25 t12 w)) fun t88_32 =>
  gE t85_32 true (CallR Try.prog 19 [t87_32, t88_32] w) (fun t89_32 w =>
  wpB (pickv t85_32 (some t89_32) (some (Go.Value.bool false))) fun t90_32 =>
  wpB (gd t90_32 true (ldv Try.prog 25 t12 w)) fun t97_32 =>
  wpB (gd t90_32 true (ldv Try.prog 25 t13 w)) fun t98_32 =>
  gE t90_32 true (effv Try.prog (convert 28 9 (gv t90_32 true t59)) w) (fun t95_32 w =>
  gE t90_32 true (CallR Try.prog 19 [t97_32, t98_32] w) (fun t99_32 w =>
  gE t90_32 true (effv Try.prog (convert 28 9 (gv t90_32 true t54)) w) (fun t93_32 w =>
  wpB (gd t90_32 true (be Try.prog .eql 9 (.tmp 93) (.tmp 95) t93_32 t95_32)) fun t96_32 =>
  wpB (gd t90_32 true (be Try.prog .eql 4 (.tmp 96) (.tmp 99) t96_32 t99_32)) fun t100_32 =>
  wpB (pickv t90_32 (some t100_32) (some (Go.Value.bool false))) fun t101_32 =>
  Q t101_32 w) w) w) w) w) w) w.drew)) ∧
  (wpB (gd t21 true (be Try.prog .eql 29 (.tmp 76) (.const (Go.Value.int Go.IntKind.i64 0)) (gv t21 true t73) (Go.Value.int Go.IntKind.i64 0))) fun t77_33 =>
  wpB (pickv t21 (some t77_33) (some (Go.Value.bool false))) fun t78_33 =>
  gE t78_33 true (effv Try.prog (convert 28 9 (gv t78_33 true t54)) w.drew) (fun t83_33 w =>
  gE t78_33 true (effv Try.prog (convert 28 9 (gv t78_33 true t72)) w) (fun t81_33 w =>
  wpB (gd t78_33 true (be Try.prog .eql 9 (.tmp 81) (.tmp 83) t81_33 t83_33)) fun t84_33 =>
  wpB (pickv t78_33 (some t84_33) (some (Go.Value.bool false))) fun t85_33 =>
  wpB (gd t85_33 true (ldv Try.prog 25 t18 w)) fun t87_33 =>
  wpB (gd t85_33 true (ldv Try.prog 25 t12 w)) fun t88_33 =>
  gE t85_33 true (CallR Try.prog 19 [t87_33, t88_33] w) (fun t89_33 w =>
  wpB (pickv t85_33 (some t89_33) (some (Go.Value.bool false))) fun t90_33 =>
  wpB (gd t90_33 true (ldv Try.prog 25 t12 w)) fun t97_33 =>
  wpB (gd t90_33 true (ldv Try.prog 25 t13 w)) fun t98_33 =>
  gE t90_33 true (CallR Try.prog 19 [t97_33, t98_33] w) (fun t99_33 w =>
  gE t90_33 true (effv Try.prog (convert 28 9 (gv t90_33 true t59)) w) (fun t95_33 w =>
  gE t90_33 true (effv Try.prog (convert 28 9 (gv t90_33 true t54)) w) (fun t93_33 w =>
  wpB (gd t90_33 true (be Try.prog .eql 9 (.tmp 93) (.tmp 95) t93_33 t95_33)) fun t96_33 =>
  wpB (gd t90_33 true (be Try.prog .eql 4 (.tmp 96) (.tmp 99) t96_33 t99_33)) fun t100_33 =>
  wpB (pickv t90_33 (some t100_33) (some (Go.Value.bool false))) fun t101_33 =>
  Q t101_33 w) w) w) w) w) w) w.drew))) ∧
  ((wpB (gd t21 true (be Try.prog .eql 29 (.tmp 76) (.const (Go.Value.int Go.IntKind.i64 0)) (gv t21 true t73) (Go.Value.int Go.IntKind.i64 0))) fun t77_34 =>
  wpB (pickv t21 (some t77_34) (some (Go.Value.bool false))) fun t78_34 =>
  gE t78_34 true (effv Try.prog (convert 28 9 (gv t78_34 true t54)) w.drew) (fun t83_34 w =>
  gE t78_34 true (effv Try.prog (convert 28 9 (gv t78_34 true t72)) w) (fun t81_34 w =>
  wpB (gd t78_34 true (be Try.prog .eql 9 (.tmp 81) (.tmp 83) t81_34 t83_34)) fun t84_34 =>
  wpB (pickv t78_34 (some t84_34) (some (Go.Value.bool false))) fun t85_34 =>
  wpB (gd t85_34 true (ldv Try.prog 25 t18 w)) fun t87_34 =>
  wpB (gd t85_34 true (ldv Try.prog 25 t12 w)) fun t88_34 =>
  gE t85_34 true (CallR Try.prog 19 [t87_34, t88_34] w) (fun t89_34 w =>
  wpB (pickv t85_34 (some t89_34) (some (Go.Value.bool false))) fun t90_34 =>
  wpB (gd t90_34 true (ldv Try.prog 25 t12 w)) fun t97_34 =>
  gE t90_34 true (effv Try.prog (convert 28 9 (gv t90_34 true t59)) w) (fun t95_34 w =>
  wpB (gd t90_34 true (ldv Try.prog 25 t13 w)) fun t98_34 =>
  gE t90_34 true (effv Try.prog (convert 28 9 (gv t90_34 true t54)) w) (fun t93_34 w =>
  wpB (gd t90_34 true (be Try.prog .eql 9 (.tmp 93) (.tmp 95) t93_34 t95_34)) fun t96_34 =>
  gE t90_34 true (CallR Try.prog 19 [t97_34, t98_34] w) (fun t99_34 w =>
  wpB (gd t90_34 true (be Try.prog .eql 4 (.tmp 96) (.tmp 99) t96_34 t99_34)) fun t100_34 =>
  wpB (pickv t90_34 (some t100_34) (some (Go.Value.bool false))) fun t101_34 =>
  Q t101_34 w) w) w) w) w) w) w.drew) ∧
  (wpB (gd t21 true (be Try.prog .eql 29 (.tmp 76) (.const (Go.Value.int Go.IntKind.i64 0)) (gv t21 true t73) (Go.Value.int Go.IntKind.i64 0))) fun t77_35 =>
  wpB (pickv t21 (some t77_35) (some (Go.Value.bool false))) fun t78_35 =>
  gE t78_35 true (effv Try.prog (convert 28 9 (gv t78_35 true t54)) w.drew) (fun t83_35 w =>
  gE t78_35 true (effv Try.prog (convert 28 9 (gv t78_35 true t72)) w) (fun t81_35 w =>
  wpB (gd t78_35 true (be Try.prog .eql 9 (.tmp 81) (.tmp 83) t81_35 t83_35)) fun t84_35 =>
  wpB (pickv t78_35 (some t84_35) (some (Go.Value.bool false))) fun t85_35 =>
  wpB (gd t85_35 true (ldv Try.prog 25 t18 w)) fun t87_35 =>
  wpB (gd t85_35 true (ldv Try.prog 25 t12 w)) fun t88_35 =>
  gE t85_35 true (CallR Try.prog 19 [t87_35, t88_35] w) (fun t89_35 w =>
  wpB (pickv t85_35 (some t89_35) (some (Go.Value.bool false))) fun t90_35 =>
  wpB (gd t90_35 true (ldv Try.prog 25 t12 w)) fun t97_35 =>
  gE t90_35 true (effv Try.prog (convert 28 9 (gv t90_35 true t59)) w) (fun t95_35 w =>
  wpB (gd t90_35 true (ldv Try.prog 25 t13 w)) fun t98_35 =>
  gE t90_35 true (CallR Try.prog 19 [t97_35, t98_35] w) (fun t99_35 w =>
  gE t90_35 true (effv Try.prog (convert 28 9 (gv t90_35 true t54)) w) (fun t93_35 w =>
  wpB (gd t90_35 true (be Try.prog .eql 9 (.tmp 93) (.tmp 95) t93_35 t95_35)) fun t96_35 =>
  wpB (gd t90_35 true (be Try.prog .eql 4 (.tmp 96) (.tmp 99) t96_35 t99_35)) fun t100_35 =>
  wpB (pickv t90_35 (some t100_35) (some (Go.Value.bool false))) fun t101_35 =>
  Q t101_35 w) w) w) w) w) w) w.drew))) ∧
  ((((wpB (gd t21 true (be Try.prog .eql 29 (.tmp 76) (.const (Go.Value.int Go.IntKind.i64 0)) (gv t21 true t73) (Go.Value.int Go.IntKind.i64 0))) fun t77_36 =>
  wpB (pickv t21 (some t77_36) (some (Go.Value.bool false))) fun t78_36 =>
  gE t78_36 true (effv Try.prog (convert 28 9 (gv t78_36 true t54)) w.drew) (fun t83_36 w =>
  gE t78_36 true (effv Try.prog (convert 28 9 (gv t78_36 true t72)) w) (fun t81_36 w =>
  wpB (gd t78_36 true (be Try.prog .eql 9 (.tmp 81) (.tmp 83) t81_36 t83_36)) fun t84_36 =>
  wpB (pickv t78_36 (some t84_36) (some (Go.Value.bool false))) fun t85_36 =>
  wpB (gd t85_36 true (ldv Try.prog 25 t18 w)) fun t87_36 =>
  wpB (gd t85_36 true (ldv Try.prog 25 t12 w)) fun t88_36 =>
  gE t85_36 true (CallR Try.prog 19 [t87_36, t88_36] w) (fun t89_36 w =>
  wpB (pickv t85_36 (some t89_36) (some (Go.Value.bool false))) fun t90_36 =>
  wpB (gd t90_36 true (ldv Try.prog 25 t12 w)) fun t97_36 =>
  gE t90_36 true (effv Try.prog (convert 28 9 (gv t90_36 true t54)) w) (fun t93_36 w =>
  wpB (gd t90_36 true (ldv Try.prog 25 t13 w)) fun t98_36 =>
  gE t90_36 true (effv Try.prog (convert 28 9 (gv t90_36 true t59)) w) (fun t95_36 w =>
  wpB (gd t90_36 true (be Try.prog .eql 9 (.tmp 93) (.tmp 95) t93_36 t95_36)) fun t96_36 =>
  gE t90_36 true (CallR Try.prog 19 [t97_36, t98_36] w) (fun t99_36 w =>
  wpB (gd t90_36 true (be Try.prog .eql 4 (.tmp 96) (.tmp 99) t96_36 t99_36)) fun t100_36 =>
  wpB (pickv t90_36 (some t100_36) (some (Go.Value.bool false))) fun t101_36 =>
  Q t101_36 w) w) w) w) w) w) w.drew) ∧
  (wpB (gd t21 true (be Try.prog .eql 29 (.tmp 76) (.const (Go.Value.int Go.IntKind.i64 0)) (gv t21 true t73) (Go.Value.int Go.IntKind.i64 0))) fun t77_37 =>
  wpB (pickv t21 (some t77_37) (some (Go.Value.bool false))) fun t78_37 =>
  gE t78_37 true (effv Try.prog (convert 28 9 (gv t78_37 true t54)) w.drew) (fun t83_37 w =>
  gE t78_37 true (effv Try.prog (convert 28 9 (gv t78_37 true t72)) w) (fun t81_37 w =>
  wpB (gd t78_37 true (be Try.prog .eql 9 (.tmp 81) (.tmp 83) t81_37 t83_37)) fun t84_37 =>
  wpB (pickv t78_37 (some t84_37) (some (Go.Value.bool false))) fun t85_37 =>
  wpB (gd t85_37 true (ldv Try.prog 25 t18 w)) fun t87_37 =>
  wpB (gd t85_37 true (ldv Try.prog 25 t12 w)) fun t88_37 =>
  gE t85_37 true (CallR Try.prog 19 [t87_37, t88_37] w) (fun t89_37 w =>
  wpB (pickv t85_37 (some t89_37) (some (Go.Value.bool false))) fun t90_37 =>
  wpB (gd t90_37 true (ldv Try.prog 25 t12 w)) fun t97_37 =>
  gE t90_37 true (effv Try.prog (convert 28 9 (gv t90_37 true t54)) w) (fun t93_37 w =>
  wpB (gd t90_37 true (ldv Try.prog 25 t13 w)) fun t98_37 =>
  gE t90_37 true (CallR Try.prog 19 [t97_37, t98_37] w) (fun t99_37 w =>
  gE t90_37 true (effv Try.prog (convert 28 9 (gv t90_37 true t59)) w) (fun t95_37 w =>
  wpB (gd t90_37 true (be Try.prog .eql 9 (.tmp 93) (.tmp 95) t93_37 t95_37)) fun t96_37 =>
  wpB (gd t90_37 true (be Try.prog .eql 4 (.tmp 96) (.tmp 99) t96_37 t99_37)) fun t100_37 =>
  wpB (pickv t90_37 (some t100_37) (some (Go.Value.bool false))) fun t101_37 =>
  Q t101_37 w) w) w) w) w) w) w.drew)) ∧
  (wpB (gd t21 true (be Try.prog .eql 29 (.tmp 76) (.const (Go.Value.int Go.IntKind.i64 0)) (gv t21 true t73) (Go.Value.int Go.IntKind.i64 0))) fun t77_38 =>
  wpB (pickv t21 (some t77_38) (some (Go.Value.bool false))) fun t78_38 =>
  gE t78_38 true (effv Try.prog (convert 28 9 (gv t78_38 true t54)) w.drew) (fun t83_38 w =>
  gE t78_38 true (effv Try.prog (convert 28 9 (gv t78_38 true t72)) w) (fun t81_38 w =>
  wpB (gd t78_38 true (be Try.prog .eql 9 (.tmp 81) (.tmp 83) t81_38 t83_38)) fun t84_38 =>
  wpB (pickv t78_38 (some t84_38) (some (Go.Value.bool false))) fun t85_38 =>
  wpB (gd t85_38 true (ldv Try.prog 25 t18 w)) fun t87_38 =>
  wpB (gd t85_38 true (ldv Try.prog 25 t12 w)) fun t88_38 =>
  gE t85_38 true (CallR Try.prog 19 [t87_38, t88_38] w) (fun t89_38 w =>
  wpB (pickv t85_38 (some t89_38) (some (Go.Value.bool false))) fun t90_38 =>
  wpB (gd t90_38 true (ldv Try.prog 25 t12 w)) fun t97_38 =>
  gE t90_38 true (effv Try.prog (convert 28 9 (gv t90_38 true t54)) w) (fun t93_38 w =>
  gE t90_38 true (effv Try.prog (convert 28 9 (gv t90_38 true t59)) w) (fun t95_38 w =>
  wpB (gd t90_38 true (be Try.prog .eql 9 (.tmp 93) (.tmp 95) t93_38 t95_38)) fun t96_38 =>
  wpB (gd t90_38 true (ldv Try.prog 25 t13 w)) fun t98_38 =>
  gE t90_38 true (CallR Try.prog 19 [t97_38, t98_38] w) (fun t99_38 w =>
  wpB (gd t90_38 true (be Try.prog .eql 4 (.tmp 96) (.tmp 99) t96_38 t99_38)) fun t100_38 =>
  wpB (pickv t90_38 (some t100_38) (some (Go.Value.bool false))) fun t101_38 =>
  Q t101_38 w) w) w) w) w) w) w.drew)) ∧
  (wpB (gd t21 true (be Try.prog .eql 29 (.tmp 76) (.const (Go.Value.int Go.IntKind.i64 0)) (gv t21 true t73) (Go.Value.int Go.IntKind.i64 0))) fun t77_39 =>
  wpB (pickv t21 (some t77_39) (some (Go.Value.bool false))) fun t78_39 =>
  gE t78_39 true (effv Try.prog (convert 28 9 (gv t78_39 true t54)) w.drew) (fun t83_39 w =>
  gE t78_39 true (effv Try.prog (convert 28 9 (gv t78_39 true t72)) w) (fun t81_39 w =>
  wpB (gd t78_39 true (be Try.prog .eql 9 (.tmp 81) (.tmp 83) t81_39 t83_39)) fun t84_39 =>
  wpB (pickv t78_39 (some t84_39) (some (Go.Value.bool false))) fun t85_39 =>
  wpB (gd t85_39 true (ldv Try.prog 25 t18 w)) fun t87_39 =>
  wpB (gd t85_39 true (ldv Try.prog 25 t12 w)) fun t88_39 =>
  gE t85_39 true (CallR Try.prog 19 [t87_39, t88_39] w) (fun t89_39 w =>
  wpB (pickv t85_39 (some t89_39) (some (Go.Value.bool false))) fun t90_39 =>
  wpB (gd t90_39 true (ldv Try.prog 25 t12 w)) fun t97_39 =>
  gE t90_39 true (effv Try.prog (convert 28 9 (gv t90_39 true t59)) w) (fun t95_39 w =>
  gE t90_39 true (effv Try.prog (convert 28 9 (gv t90_39 true t54)) w) (fun t93_39 w =>
  wpB (gd t90_39 true (be Try.prog .eql 9 (.tmp 93) (.tmp 95) t93_39 t95_39)) fun t96_39 =>
  wpB (gd t90_39 true (ldv Try.prog 25 t13 w)) fun t98_39 =>
  gE t90_39 true (CallR Try.prog 19 [t97_39, t98_39] w) (fun t99_39 w =>
  wpB (gd t90_39 true (be Try.prog .eql 4 (.tmp 96) (.tmp 99) t96_39 t99_39)) fun t100_39 =>
  wpB (pickv t90_39 (some t100_39) (some (Go.Value.bool false))) fun t101_39 =>
  Q t101_39 w) w) w) w) w) w) w.drew))) ∧
  (((wpB (gd t21 true (be Try.prog .eql 29 (.tmp 76) (.const (Go.Value.int Go.IntKind.i64 0)) (gv t21 true t73) (Go.Value.int Go.IntKind.i64 0))) fun t77_40 =>
  wpB (pickv t21 (some t77_40) (some (Go.Value.bool false))) fun t78_40 =>
  gE t78_40 true (effv Try.prog (convert 28 9 (gv t78_40 true t54)) w.drew) (fun t83_40 w =>
  gE t78_40 true (effv Try.prog (convert 28 9 (gv t78_40 true t72)) w) (fun t81_40 w =>
  wpB (gd t78_40 true (be Try.prog .eql 9 (.tmp 81) (.tmp 83) t81_40 t83_40)) fun t84_40 =>
  wpB (pickv t78_40 (some t84_40) (some (Go.Value.bool false))) fun t85_40 =>
  wpB (gd t85_40 true (ldv Try.prog 25 t18 w)) fun t87_40 =>
  wpB (gd t85_40 true (ldv Try.prog 25 t12 w)) fun t88_40 =>
  gE t85_40 true (CallR Try.prog 19 [t87_40, t88_40] w) (fun t89_40 w =>
  wpB (pickv t85_40 (some t89_40) (some (Go.Value.bool false))) fun t90_40 =>
  wpB (gd t90_40 true (ldv Try.prog 25 t13 w)) fun t98_40 =>
  gE t90_40 true (effv Try.prog (convert 28 9 (gv t90_40 true t59)) w) (fun t95_40 w =>
  wpB (gd t90_40 true (ldv Try.prog 25 t12 w)) fun t97_40 =>
  gE t90_40 true (effv Try.prog (convert 28 9 (gv t90_40 true t54)) w) (fun t93_40 w =>
  wpB (gd t90_40 true (be Try.prog .eql 9 (.tmp 93) (.tmp 95) t93_40 t95_40)) fun t96_40 =>
  gE t90_40 true (CallR Try.prog 19 [t97_40, t98_40] w) (fun t99_40 w =>
  wpB (gd t90_40 true (be Try.prog .eql 4 (.tmp 96) (.tmp 99) t96_40 t99_40)) fun t100_40 =>
  wpB (pickv t90_40 (some t100_40) (some (Go.Value.bool false))) fun t101_40 =>
  Q t101_40 w) w) w) w) w) w) w.drew) ∧
  (wpB (gd t21 true (be Try.prog .eql 29 (.tmp 76) (.const (Go.Value.int Go.IntKind.i64 0)) (gv t21 true t73) (Go.Value.int Go.IntKind.i64 0))) fun t77_41 =>
  wpB (pickv t21 (some t77_41) (some (Go.Value.bool false))) fun t78_41 =>
  gE t78_41 true (effv Try.prog (convert 28 9 (gv t78_41 true t54)) w.drew) (fun t83_41 w =>
  gE t78_41 true (effv Try.prog (convert 28 9 (gv t78_41 true t72)) w) (fun t81_41 w =>
  wpB (gd t78_41 true (be Try.prog .eql 9 (.tmp 81) (.tmp 83) t81_41 t83_41)) fun t84_41 =>
  wpB (pickv t78_41 (some t84_41) (some (Go.Value.bool false))) fun t85_41 =>
  wpB (gd t85_41 true (ldv Try.prog 25 t18 w)) fun t87_41 =>
  wpB (gd t85_41 true (ldv Try.prog 25 t12 w)) fun t88_41 =>
  gE t85_41 true (CallR Try.prog 19 [t87_41, t88_41] w) (fun t89_41 w =>
  wpB (pickv t85_41 (some t89_41) (some (Go.Value.bool false))) fun t90_41 =>
  wpB (gd t90_41 true (ldv Try.prog 25 t13 w)) fun t98_41 =>
  gE t90_41 true (effv Try.prog (convert 28 9 (gv t90_41 true t59)) w) (fun t95_41 w =>
  wpB (gd t90_41 true (ldv Try.prog 25 t12 w)) fun t97_41 =>
  gE t90_41 true (CallR Try.prog 19 [t97_41, t98_41] w) (fun t99_41 w =>
  gE t90_41 true (effv Try.prog (convert 28 9 (gv t90_41 true t54)) w) (fun t93_41 w =>
  wpB (gd t90_41 true (be Try.prog .eql 9 (.tmp 93) (.tmp 95) t93_41 t95_41)) fun t96_41 =>
  wpB (gd t90_41 true (be Try.prog .eql 4 (.tmp 96) (.tmp 99) t96_41 t99_41)) fun t100_41 =>
  wpB (pickv t90_41 (some t100_41) (some (Go.Value.bool false))) fun t101_41 =>
  Q t101_41 w) w) w) w) w) w) w.drew)) ∧
  (((wpB (gd t21 true (be Try.prog .eql 29 (.tmp 76) (.const (Go.Value.int Go.IntKind.i64 0)) (gv t21 true t73) (Go.Value.int Go.IntKind.i64 0))) fun t77_42 =>
  wpB (pickv t21 (some t77_42) (some (Go.Value.bool false))) fun t78_42 =>
  gE t78_42 true (effv Try.prog (convert 28 9 (gv t78_42 true t54)) w.drew) (fun t83_42 w =>
  gE t78_42 true (effv Try.prog (convert 28 9 (gv t78_42 true t72)) w) (fun t81_42 w =>
  wpB (gd t78_42 true (be Try.prog .eql 9 (.tmp 81) (.tmp 83) t81_42 t83_42)) fun t84_42 =>
  wpB (pickv t78_42 (some t84_42) (some (Go.Value.bool false))) fun t85_42 =>
  wpB (gd t85_42 true (ldv Try.prog 25 t18 w)) fun t87_42 =>
  wpB (gd t85_42 true (ldv Try.prog 25 t12 w)) fun t88_42 =>
  gE t85_42 true (CallR Try.prog 19 [t87_42, t88_42] w) (fun t89_42 w =>
  wpB (pickv t85_42 (some t89_42) (some (Go.Value.bool false))) fun t90_42 =>
  gE t90_42 true (effv Try.prog (convert 28 9 (gv t90_42 true t59)) w) (fun t95_42 w =>
  wpB (gd t90_42 true (ldv Try.prog 25 t12 w)) fun t97_42 =>
  wpB (gd t90_42 true (ldv Try.prog 25 t13 w)) fun t98_42 =>
  gE t90_42 true (effv Try.prog (convert 28 9 (gv t90_42 true t54)) w) (fun t93_42 w =>
  wpB (gd t90_42 true (be Try.prog .eql 9 (.tmp 93) (.tmp 95) t93_42 t95_42)) fun t96_42 =>
  gE t90_42 true (CallR Try.prog 19 [t97_42, t98_42] w) (fun t99_42 w =>
  wpB (gd t90_42 true (be Try.prog .eql 4 (.tmp 96) (.tmp 99) t96_42 t99_42)) fun t100_42 =>
  wpB (pickv t90_42 (some t100_42) (some (Go.Value.bool false))) fun t101_42 =>
  Q t101_42 w) w) w) w) w) w) w.drew) ∧
  (wpB (gd t21 true (be Try.prog .eql 29 (.tmp 76) (.const (Go.Value.int Go.IntKind.i64 0)) (gv t21 true t73) (Go.Value.int Go.IntKind.i64 0))) fun t77_43 =>
  wpB (pickv t21 (some t77_43) (some (Go.Value.bool false))) fun t78_43 =>
  gE t78_43 true (effv Try.prog (convert 28 9 (gv t78_43 true t54)) w.drew) (fun t83_43 w =>
  gE t78_43 true (effv Try.prog (convert 28 9 (gv t78_43 true t72)) w) (fun t81_43 w =>
  wpB (gd t78_43 true (be Try.prog .eql 9 (.tmp 81) (.tmp 83) t81_43 t83_43)) fun t84_43 =>
  wpB (pickv t78_43 (some t84_43) (some (Go.Value.bool false))) fun t85_43 =>
  wpB (gd t85_43 true (ldv Try.prog 25 t18 w)) fun t87_43 =>
  wpB (gd t85_43 true (ldv Try.prog 25 t12 w)) fun t88_43 =>
  gE t85_43 true (CallR Try.prog 19 [t87_43, t88_43] w) (fun t89_43 w =>
  wpB (pickv t85_43 (some t89_43) (some (Go.Value.bool false))) fun t90_43 =>
  gE t90_43 true (effv Try.prog (convert 28 9 (gv t90_43 true t59)) w) (fun t95_43 w =>
  wpB (gd t90_43 true (ldv Try.prog 25 t12 w)) fun t97_43 =>
  wpB (gd t90_43 true (ldv Try.prog 25 t13 w)) fun t98_43 =>
  gE t90_43 true (CallR Try.prog 19 [t97_43, t98_43] w) (fun t99_43 w =>
  gE t90_43 true (effv Try.prog (convert 28 9 (gv t90_43 true t54)) w) (fun t93_43 w =>
  wpB (gd t90_43 true (be Try.prog .eql 9 (.tmp 93) (.tmp 95) t93_43 t95_43)) fun t96_43 =>
  wpB (gd t90_43 true (be Try.prog .eql 4 (.tmp 96) (.tmp 99) t96_43 t99_43)) fun t100_43 =>
  wpB (pickv t90_43 (some t100_43) (some (Go.Value.bool false))) fun t101_43 =>
  Q t101_43 w) w) w) w) w) w) w.drew)) ∧
  (wpB (gd t21 true (be Try.prog .eql 29 (.tmp 76) (.const (Go.Value.int Go.IntKind.i64 0)) (gv t21 true t73) (Go.Value.int Go.IntKind.i64 0))) fun t77_44 =>
  wpB (pickv t21 (some t77_44) (some (Go.Value.bool false))) fun t78_44 =>
  gE t78_44 true (effv Try.prog (convert 28 9 (gv t78_44 true t54)) w.drew) (fun t83_44 w =>
  gE t78_44 true (effv Try.prog (convert 28 9 (gv t78_44 true t72)) w) (fun t81_44 w =>
  wpB (gd t78_44 true (be Try.prog .eql 9 (.tmp 81) (.tmp 83) t81_44 t83_44)) fun t84_44 =>
  wpB (pickv t78_44 (some t84_44) (some (Go.Value.bool false))) fun t85_44 =>
  wpB (gd t85_44 true (ldv Try.prog 25 t18 w)) fun t87_44 =>
  wpB (gd t85_44 true (ldv Try.prog 25 t12 w)) fun t88_44 =>
  gE t85_44 true (CallR Try.prog 19 [t87_44, t88_44] w) (fun t89_44 w =>
  wpB (pickv t85_44 (some t89_44) (some (Go.Value.bool false))) fun t90_44 =>
  gE t90_44 true (effv Try.prog (convert 28 9 (gv t90_44 true t59)) w) (fun t95_44 w =>
  wpB (gd t90_44 true (ldv Try.prog 25 t12 w)) fun t97_44 =>
  gE t90_44 true (effv Try.prog (convert 28 9 (gv t90_44 true t54)) w) (fun t93_44 w =>
  wpB (gd t90_44 true (be Try.prog .eql 9 (.tmp 93) (.tmp 95) t93_44 t95_44)) fun t96_44 =>
  wpB (gd t90_44 true (ldv Try.prog 25 t13 w)) fun t98_44 =>
  gE t90_44 true (CallR Try.prog 19 [t97_44, t98_44] w) (fun t99_44 w =>
  wpB (gd t90_44 true (be Try.prog .eql 4 (.tmp 96) (.tmp 99) t96_44 t99_44)) fun t100_44 =>
  wpB (pickv t90_44 (some t100_44) (some (Go.Value.bool false))) fun t101_44 =>
  Q t101_44 w) w) w) w) w) w) w.drew)))) ∧
  ((((((wpB (gd t21 true (be Try.prog .eql 29 (.tmp 76) (.const (Go.Value.int Go.IntKind.i64 0)) (gv t21 true t73) (Go.Value.int Go.IntKind.i64 0))) fun t77_45 =>
  wpB (pickv t21 (some t77_45) (some (Go.Value.bool false))) fun t78_45 =>
  gE t78_45 true (effv Try.prog (convert 28 9 (gv t78_45 true t54)) w.drew) (fun t83_45 w =>
  gE t78_45 true (effv Try.prog (convert 28 9 (gv t78_45 true t72)) w) (fun t81_45 w =>
  wpB (gd t78_45 true (be Try.prog .eql 9 (.tmp 81) (.tmp 83) t81_45 t83_45)) fun t84_45 =>
  wpB (pickv t78_45 (some t84_45) (some (Go.Value.bool false))) fun t85_45 =>
  wpB (gd t85_45 true (ldv Try.prog 25 t18 w)) fun t87_45 =>
  wpB (gd t85_45 true (ldv Try.prog 25 t12 w)) fun t88_45 =>
  gE t85_45 true (CallR Try.prog 19 [t87_45, t88_45] w) (fun t89_45 w =>
  wpB (pickv t85_45 (some t89_45) (some (Go.Value.bool false))) fun t90_45 =>
  wpB (gd t90_45 true (ldv Try.prog 25 t13 w)) fun t98_45 =>
  gE t90_45 true (effv Try.prog (convert 28 9 (gv t90_45 true t54)) w) (fun t93_45 w =>
  wpB (gd t90_45 true (ldv Try.prog 25 t12 w)) fun t97_45 =>
  gE t90_45 true (effv Try.prog (convert 28 9 (gv t90_45 true t59)) w) (fun t95_45 w =>
  wpB (gd t90_45 true (be Try.prog .eql 9 (.tmp 93) (.tmp 95) t93_45 t95_45)) fun t96_45 =>
  gE t90_45 true (CallR Try.prog 19 [t97_45, t98_45] w) (fun t99_45 w =>
  wpB (gd t90_45 true (be Try.prog .eql 4 (.tmp 96) (.tmp 99) t96_45 t99_45)) fun t100_45 =>
  wpB (pickv t90_45 (some t100_45) (some (Go.Value.bool false))) fun t101_45 =>
  Q t101_45 w) w) w) w) w) w) w.drew) ∧
  (wpB (gd t21 true (be Try.prog .eql 29 (.tmp 76) (.const (Go.Value.int Go.IntKind.i64 0)) (gv t21 true t73) (Go.Value.int Go.IntKind.i64 0))) fun t77_46 =>
  wpB (pickv t21 (some t77_46) (some (Go.Value.bool false))) fun t78_46 =>
  gE t78_46 true (effv Try.prog (convert 28 9 (gv t78_46 true t54)) w.drew) (fun t83_46 w =>
  gE t78_46 true (effv Try.prog (convert 28 9 (gv t78_46 true t72)) w) (fun t81_46 w =>
  wpB (gd t78_46 true (be Try.prog .eql 9 (.tmp 81) (.tmp 83) t81_46 t83_46)) fun t84_46 =>
  wpB (pickv t78_46 (some t84_46) (some (Go.Value.bool false))) fun t85_46 =>
  wpB (gd t85_46 true (ldv Try.prog 25 t18 w)) fun t87_46 =>
  wpB (gd t85_46 true (ldv Try.prog 25 t12 w)) fun t88_46 =>
  gE t85_46 true (CallR Try.prog 19 [t87_46, t88_46] w) (fun t89_46 w =>
  wpB (pickv t85_46 (some t89_46) (some (Go.Value.bool false))) fun t90_46 =>
  wpB (gd t90_46 true (ldv Try.prog 25 t13 w)) fun t98_46 =>
  gE t90_46 true (effv Try.prog (convert 28 9 (gv t90_46 true t54)) w) (fun t93_46 w =>
  wpB (gd t90_46 true (ldv Try.prog 25 t12 w)) fun t97_46 =>
  gE t90_46 true (CallR Try.prog 19 [t97_46, t98_46] w) (fun t99_46 w =>
  gE t90_46 true (effv Try.prog (convert 28 9 (gv t90_46 true t59)) w) (fun t95_46 w =>
  wpB (gd t90_46 true (be Try.prog .eql 9 (.tmp 93) (.tmp 95) t93_46 t95_46)) fun t96_46 =>
  wpB (gd t90_46 true (be Try.prog .eql 4 (.tmp 96) (.tmp 99) t96_46 t99_46)) fun t100_46 =>
  wpB (pickv t90_46 (some t100_46) (some (Go.Value.bool false))) fun t101_46 =>
  Q t101_46 w) w) w) w) w) w) w.drew)) ∧
  (wpB (gd t21 true (be Try.prog .eql 29 (.tmp 76) (.const (Go.Value.int Go.IntKind.i64 0)) (gv t21 true t73) (Go.Value.int Go.IntKind.i64 0))) fun t77_47 =>
  wpB (pickv t21 (some t77_47) (some (Go.Value.bool false))) fun t78_47 =>
  gE t78_47 true (effv Try.prog (convert 28 9 (gv t78_47 true t54)) w.drew) (fun t83_47 w =>
  gE t78_47 true (effv Try.prog (convert 28 9 (gv t78_47 true t72)) w) (fun t81_47 w =>
  wpB (gd t78_47 true (be Try.prog .eql 9 (.tmp 81) (.tmp 83) t81_47 t83_47)) fun t84_47 =>
  wpB (pickv t78_47 (some t84_47) (some (Go.Value.bool false))) fun t85_47 =>
  wpB (gd t85_47 true (ldv Try.prog 25 t18 w)) fun t87_47 =>
  wpB (gd t85_47 true (ldv Try.prog 25 t12 w)) fun t88_47 =>
  gE t85_47 true (CallR Try.prog 19 [t87_47, t88_47] w) (fun t89_47 w =>
  wpB (pickv t85_47 (some t89_47) (some (Go.Value.bool false))) fun t90_47 =>
  wpB (gd t90_47 true (ldv Try.prog 25 t13 w)) fun t98_47 =>
  gE t90_47 true (effv Try.prog (convert 28 9 (gv t90_47 true t54)) w) (fun t93_47 w =>
  gE t90_47 true (effv Try.prog (convert 28 9 (gv t90_47 true t59)) w) (fun t95_47 w =>
  wpB (gd t90_47 true (be Try.prog .eql 9 (.tmp 93) (.tmp 95) t93_47 t95_47)) fun t96_47 =>
  wpB (gd t90_47 true (ldv Try.prog 25 t12 w)) fun t97_47 =>
  gE t90_47 true (CallR Try.prog 19 [t97_47, t98_47] w) (fun t99_47 w =>
  wpB (gd t90_47 true (be Try.prog .eql 4 (.tmp 96) (.tmp 99) t96_47 t99_47)) fun t100_47 =>
  wpB (pickv t90_47 (some t100_47) (some (Go.Value.bool false))) fun t101_47 =>
  Q t101_47 w) w) w) w) w) w) w.drew)) ∧
  (wpB (gd t21 true (be Try.prog .eql 29 (.tmp 76) (.const (Go.Value.int Go.IntKind.i64 0)) (gv t21 true t73) (Go.Value.int Go.IntKind.i64 0))) fun t77_48 =>
  wpB (pickv t21 (some t77_48) (some (Go.Value.bool false))) fun t78_48 =>
  gE t78_48 true (effv Try.prog (convert 28 9 (gv t78_48 true t54)) w.drew) (fun t83_48 w =>
  gE t78_48 true (effv Try.prog (convert 28 9 (gv t78_48 true t72)) w) (fun t81_48 w =>
  wpB (gd t78_48 true (be Try.prog .eql 9 (.tmp 81) (.tmp 83) t81_48 t83_48)) fun t84_48 =>
  wpB (pickv t78_48 (some t84_48) (some (Go.Value.bool false))) fun t85_48 =>
  wpB (gd t85_48 true (ldv Try.prog 25 t18 w)) fun t87_48 =>
  wpB (gd t85_48 true (ldv Try.prog 25 t12 w)) fun t88_48 =>
  gE t85_48 true (CallR Try.prog 19 [t87_48, t88_48] w) (fun t89_48 w =>
  wpB (pickv t85_48 (some t89_48) (some (Go.Value.bool false))) fun t90_48 =>
  wpB (gd t90_48 true (ldv Try.prog 25 t13 w)) fun t98_48 =>
  gE t90_48 true (effv Try.prog (convert 28 9 (gv t90_48 true t59)) w) (fun t95_48 w =>
  gE t90_48 true (effv Try.prog (convert 28 9 (gv t90_48 true t54)) w) (fun t93_48 w =>
  wpB (gd t90_48 true (be Try.prog .eql 9 (.tmp 93) (.tmp 95) t93_48 t95_48)) fun t96_48 =>
  wpB (gd t90_48 true (ldv Try.prog 25 t12 w)) fun t97_48 =>
  gE t90_48 true (CallR Try.prog 19 [t97_48, t98_48] w) (fun t99_48 w =>
  wpB (gd t90_48 true (be Try.prog .eql 4 (.tmp 96) (.tmp 99) t96_48 t99_48)) fun t100_48 =>
  wpB (pickv t90_48 (some t100_48) (some (Go.Value.bool false))) fun t101_48 =>
  Q t101_48 w) w) w) w) w) w) w.drew)) ∧
  (wpB (gd t21 true (be Try.prog .eql 29 (.tmp 76) (.const (Go.Value.int Go.IntKind.i64 0)) (gv t21 true t73) (Go.Value.int Go.IntKind.i64 0))) fun t77_49 =>
  wpB (pickv t21 (some t77_49) (some (Go.Value.bool false))) fun t78_49 =>
  gE t78_49 true (effv Try.prog (convert 28 9 (gv t78_49 true t54)) w.drew) (fun t83_49 w =>
  gE t78_49 true (effv Try.prog (convert 28 9 (gv t78_49 true t72)) w) (fun t81_49 w =>
  wpB (gd t78_49 true (be Try.prog .eql 9 (.tmp 81) (.tmp 83) t81_49 t83_49)) fun t84_49 =>
  wpB (pickv t78_49 (some t84_49) (some (Go.Value.bool false))) fun t85_49 =>
  wpB (gd t85_49 true (ldv Try.prog 25 t18 w)) fun t87_49 =>
  wpB (gd t85_49 true (ldv Try.prog 25 t12 w)) fun t88_49 =>
  gE t85_49 true (CallR Try.prog 19 [t87_49, t88_49] w) (fun t89_49 w =>
  wpB (pickv t85_49 (some t89_49) (some (Go.Value.bool false))) fun t90_49 =>
  gE t90_49 true (effv Try.prog (convert 28 9 (gv t90_49 true t59)) w) (fun t95_49 w =>
  wpB (gd t90_49 true (ldv Try.prog 25 t13 w)) fun t98_49 =>
  gE t90_49 true (effv Try.prog (convert 28 9 (gv t90_49 true t54)) w) (fun t93_49 w =>
  wpB (gd t90_49 true (be Try.prog .eql 9 (.tmp 93) (.tmp 95) t93_49 t95_49)) fun t96_49 =>
  wpB (gd t90_49 true (ldv Try.prog 25 t12 w)) fun t97_49 =>
  gE t90_49 true (CallR Try.prog 19 [t97_49, t98_49] w) (fun t99_49 w =>
  wpB (gd t90_49 true (be Try.prog .eql 4 (.tmp 96) (.tmp 99) t96_49 t99_49)) fun t100_49 =>
  wpB (pickv t90_49 (some t100_49) (some (Go.Value.bool false))) fun t101_49 =>
  Q t101_49 w) w) w) w) w) w) w.drew)) ∧
  (((((wpB (gd t21 true (be Try.prog .eql 29 (.tmp 76) (.const (Go.Value.int Go.IntKind.i64 0)) (gv t21 true t73) (Go.Value.int Go.IntKind.i64 0))) fun t77_50 =>
  wpB (pickv t21 (some t77_50) (some (Go.Value.bool false))) fun t78_50 =>
  gE t78_50 true (effv Try.prog (convert 28 9 (gv t78_50 true t54)) w.drew) (fun t83_50 w =>
  gE t78_50 true (effv Try.prog (convert 28 9 (gv t78_50 true t72)) w) (fun t81_50 w =>
  wpB (gd t78_50 true (be Try.prog .eql 9 (.tmp 81) (.tmp 83) t81_50 t83_50)) fun t84_50 =>
  wpB (pickv t78_50 (some t84_50) (some (Go.Value.bool false))) fun t85_50 =>
  wpB (gd t85_50 true (ldv Try.prog 25 t18 w)) fun t87_50 =>
  wpB (gd t85_50 true (ldv Try.prog 25 t12 w)) fun t88_50 =>
  gE t85_50 true (CallR Try.prog 19 [t87_50, t88_50] w) (fun t89_50 w =>
  wpB (pickv t85_50 (some t89_50) (some (Go.Value.bool false))) fun t90_50 =>
  gE t90_50 true (effv Try.prog (convert 28 9 (gv t90_50 true t54)) w) (fun t93_50 w =>
  wpB (gd t90_50 true (ldv Try.prog 25 t12 w)) fun t97_50 =>
  wpB (gd t90_50 true (ldv Try.prog 25 t13 w)) fun t98_50 =>
  gE t90_50 true (effv Try.prog (convert 28 9 (gv t90_50 true t59)) w) (fun t95_50 w =>
  wpB (gd t90_50 true (be Try.prog .eql 9 (.tmp 93) (.tmp 95) t93_50 t95_50)) fun t96_50 =>
  gE t90_50 true (CallR Try.prog 19 [t97_50, t98_50] w) (fun t99_50 w =>
  wpB (gd t90_50 true (be Try.prog .eql 4 (.tmp 96) (.tmp 99) t96_50 t99_50)) fun t100_50 =>
  wpB (pickv t90_50 (some t100_50) (some (Go.Value.bool false))) fun t101_50 =>
  Q t101_50 w) w) w) w) w) w) w.drew) ∧
  (wpB (gd t21 true (be Try.prog .eql 29 (.tmp 76) (.const (Go.Value.int Go.IntKind.i64 0)) (gv t21 true t73) (Go.Value.int Go.IntKind.i64 0))) fun t77_51 =>
  wpB (pickv t21 (some t77_51) (some (Go.Value.bool false))) fun t78_51 =>
  gE t78_51 true (effv Try.prog (convert 28 9 (gv t78_51 true t54)) w.drew) (fun t83_51 w =>
  gE t78_51 true (effv Try.prog (convert 28 9 (gv t78_51 true t72)) w) (fun t81_51 w =>
  wpB (gd t78_51 true (be Try.prog .eql 9 (.tmp 81) (.tmp 83) t81_51 t83_51)) fun t84_51 =>
  wpB (pickv t78_51 (some t84_51) (some (Go.Value.bool false))) fun t85_51 =>
  wpB (gd t85_51 true (ldv Try.prog 25 t18 w)) fun t87_51 =>
  wpB (gd t85_51 true (ldv Try.prog 25 t12 w)) fun t88_51 =>
  gE t85_51 true (CallR Try.prog 19 [t87_51, t88_51] w) (fun t89_51 w =>
  wpB (pickv t85_51 (some t89_51) (some (Go.Value.bool false))) fun t90_51 =>
  gE t90_51 true (effv Try.prog (convert 28 9 (gv t90_51 true t54)) w) (fun t93_51 w =>
  wpB (gd t90_51 true (ldv Try.prog 25 t12 w)) fun t97_51 =>
  wpB (gd t90_51 true (ldv Try.prog 25 t13 w)) fun t98_51 =>
  gE t90_51 true (CallR Try.prog 19 [t97_51, t98_51] w) (fun t99_51 w =>
  gE t90_51 true (effv Try.prog (convert 28 9 (gv t90_51 true t59)) w) (fun t95_51 w =>
  wpB (gd t90_51 true (be Try.prog .eql 9 (.tmp 93) (.tmp 95) t93_51 t95_51)) fun t96_51 =>
  wpB (gd t90_51 true (be Try.prog .eql 4 (.tmp 96) (.tmp 99) t96_51 t99_51)) fun t100_51 =>
  wpB (pickv t90_51 (some t100_51) (some (Go.Value.bool false))) fun t101_51 =>
  Q t101_51 w) w) w) w) w) w) w.drew)) ∧
  (wpB (gd t21 true (be Try.prog .eql 29 (.tmp 76) (.const (Go.Value.int Go.IntKind.i64 0)) (gv t21 true t73) (Go.Value.int Go.IntKind.i64 0))) fun t77_52 =>
  wpB (pickv t21 (some t77_52) (some (Go.Value.bool false))) fun t78_52 =>
  gE t78_52 true (effv Try.prog (convert 28 9 (gv t78_52 true t54)) w.drew) (fun t83_52 w =>
  gE t78_52 true (effv Try.prog (convert 28 9 (gv t78_52 true t72)) w) (fun t81_52 w =>
  wpB (gd t78_52 true (be Try.prog .eql 9 (.tmp 81) (.tmp 83) t81_52 t83_52)) fun t84_52 =>
  wpB (pickv t78_52 (some t84_52) (some (Go.Value.bool false))) fun t85_52 =>
  wpB (gd t85_52 true (ldv Try.prog 25 t18 w)) fun t87_52 =>
  wpB (gd t85_52 true (ldv Try.prog 25 t12 w)) fun t88_52 =>
  gE t85_52 true (CallR Try.prog 19 [t87_52, t88_52] w) (fun t89_52 w =>
  wpB (pickv t85_52 (some t89_52) (some (Go.Value.bool false))) fun t90_52 =>
  gE t90_52 true (effv Try.prog (convert 28 9 (gv t90_52 true t54)) w) (fun t93_52 w =>
  wpB (gd t90_52 true (ldv Try.prog 25 t12 w)) fun t97_52 =>
  gE t90_52 true (effv Try.prog (convert 28 9 (gv t90_52 true t59)) w) (fun t95_52 w =>
  wpB (gd t90_52 true (be Try.prog .eql 9 (.tmp 93) (.tmp 95) t93_52 t95_52)) fun t96_52 =>
  wpB (gd t90_52 true (ldv Try.prog 25 t13 w)) fun t98_52 =>
  gE t90_52 true (CallR Try.prog 19 [t97_52, t98_52] w) (fun t99_52 w =>
  wpB (gd t90_52 true (be Try.prog .eql 4 (.tmp 96) (.tmp 99) t96_52 t99_52)) fun t100_52 =>
  wpB (pickv t90_52 (some t100_52) (some (Go.Value.bool false))) fun t101_52 =>
  Q t101_52 w) w) w) w) w) w) w.drew)) ∧
  ((wpB (gd t21 true (be Try.prog .eql 29 (.tmp 76) (.const (Go.Value.int Go.IntKind.i64 0)) (gv t21 true t73) (Go.Value.int Go.IntKind.i64 0))) fun t77_53 =>
  wpB (pickv t21 (some t77_53) (some (Go.Value.bool false))) fun t78_53 =>
  gE t78_53 true (effv Try.prog (convert 28 9 (gv t78_53 true t54)) w.drew) (fun t83_53 w =>
  gE t78_53 true (effv Try.prog (convert 28 9 (gv t78_53 true t72)) w) (fun t81_53 w =>
  wpB (gd t78_53 true (be Try.prog .eql 9 (.tmp 81) (.tmp 83) t81_53 t83_53)) fun t84_53 =>
  wpB (pickv t78_53 (some t84_53) (some (Go.Value.bool false))) fun t85_53 =>
  wpB (gd t85_53 true (ldv Try.prog 25 t18 w)) fun t87_53 =>
  wpB (gd t85_53 true (ldv Try.prog 25 t12 w)) fun t88_53 =>
  gE t85_53 true (CallR Try.prog 19 [t87_53, t88_53] w) (fun t89_53 w =>
  wpB (pickv t85_53 (some t89_53) (some (Go.Value.bool false))) fun t90_53 =>
  gE t90_53 true (effv Try.prog (convert 28 9 (gv t90_53 true t54)) w) (fun t93_53 w =>
  wpB (gd t90_53 true (ldv Try.prog 25 t13 w)) fun t98_53 =>
  gE t90_53 true (effv Try.prog (convert 28 9 (gv t90_53 true t59)) w) (fun t95_53 w =>
  wpB (gd t90_53 true (be Try.prog .eql 9 (.tmp 93) (.tmp 95) t93_53 t95_53)) fun t96_53 =>
  wpB (gd t90_53 true (ldv Try.prog 25 t12 w)) fun t97_53 =>
  gE t90_53 true (CallR Try.prog 19 [t97_53, t98_53] w) (fun t99_53 w =>
  wpB (gd t90_53 true (be Try.prog .eql 4 (.tmp 96) (.tmp 99) t96_53 t99_53)) fun t100_53 =>
  wpB (pickv t90_53 (some t100_53) (some (Go.Value.bool false))) fun t101_53 =>
  Q t101_53 w) w) w) w) w) w) w.drew) ∧
  (wpB (gd t21 true (be Try.prog .eql 29 (.tmp 76) (.const (Go.Value.int Go.IntKind.i64 0)) (gv t21 true t73) (Go.Value.int Go.IntKind.i64 0))) fun t77_54 =>
  wpB (pickv t21 (some t77_54) (some (Go.Value.bool false))) fun t78_54 =>
  gE t78_54 true (effv Try.prog (convert 28 9 (gv t78_54 true t54)) w.drew) (fun t83_54 w =>
  gE t78_54 true (effv Try.prog (convert 28 9 (gv t78_54 true t72)) w) (fun t81_54 w =>
  wpB (gd t78_54 true (be Try.prog .eql 9 (.tmp 81) (.tmp 83) t81_54 t83_54)) fun t84_54 =>
  wpB (pickv t78_54 (some t84_54) (some (Go.Value.bool false))) fun t85_54 =>
  wpB (gd t85_54 true (ldv Try.prog 25 t18 w)) fun t87_54 =>
  wpB (gd t85_54 true (ldv Try.prog 25 t12 w)) fun t88_54 =>
  gE t85_54 true (CallR Try.prog 19 [t87_54, t88_54] w) (fun t89_54 w =>
  wpB (pickv t85_54 (some t89_54) (some (Go.Value.bool false))) fun t90_54 =>
  gE t90_54 true (effv Try.prog (convert 28 9 (gv t90_54 true t54)) w) (fun t93_54 w =>
  gE t90_54 true (effv Try.prog (convert 28 9 (gv t90_54 true t59)) w) (fun t95_54 w =>
  wpB (gd t90_54 true (be Try.prog .eql 9 (.tmp 93) (.tmp 95) t93_54 t95_54)) fun t96_54 =>
  wpB (gd t90_54 true (ldv Try.prog 25 t12 w)) fun t97_54 =>
  wpB (gd t90_54 true (ldv Try.prog 25 t13 w)) fun t98_54 =>
  gE t90_54 true (CallR Try.prog 19 [t97_54, t98_54] w) (fun t99_54 w =>
  wpB (gd t90_54 true (be Try.prog .eql 4 (.tmp 96) (.tmp 99) t96_54 t99_54)) fun t100_54 =>
  wpB (pickv t90_54 (some t100_54) (some (Go.Value.bool false))) fun t101_54 =>
  Q t101_54 w) w) w) w) w) w) w.drew))) ∧
  (wpB (gd t21 true (be Try.prog .eql 29 (.tmp 76) (.const (Go.Value.int Go.IntKind.i64 0)) (gv t21 true t73) (Go.Value.int Go.IntKind.i64 0))) fun t77_55 =>
  wpB (pickv t21 (some t77_55) (some (Go.Value.bool false))) fun t78_55 =>
  gE t78_55 true (effv Try.prog (convert 28 9 (gv t78_55 true t54)) w.drew) (fun t83_55 w =>
  gE t78_55 true (effv Try.prog (convert 28 9 (gv t78_55 true t72)) w) (fun t81_55 w =>
  wpB (gd t78_55 true (be Try.prog .eql 9 (.tmp 81) (.tmp 83) t81_55 t83_55)) fun t84_55 =>
  wpB (pickv t78_55 (some t84_55) (some (Go.Value.bool false))) fun t85_55 =>
  wpB (gd t85_55 true (ldv Try.prog 25 t18 w)) fun t87_55 =>
  wpB (gd t85_55 true (ldv Try.prog 25 t12 w)) fun t88_55 =>
  gE t85_55 true (CallR Try.prog 19 [t87_55, t88_55] w) (fun t89_55 w =>
  wpB (pickv t85_55 (some t89_55) (some (Go.Value.bool false))) fun t90_55 =>
  gE t90_55 true (effv Try.prog (convert 28 9 (gv t90_55 true t59)) w) (fun t95_55 w =>
  gE t90_55 true (effv Try.prog (convert 28 9 (gv t90_55 true t54)) w) (fun t93_55 w =>
  wpB (gd t90_55 true (be Try.prog .eql 9 (.tmp 93) (.tmp 95) t93_55 t95_55)) fun t96_55 =>
  wpB (gd t90_55 true (ldv Try.prog 25 t12 w)) fun t97_55 =>
  wpB (gd t90_55 true (ldv Try.prog 25 t13 w)) fun t98_55 =>
  gE t90_55 true (CallR Try.prog 19 [t97_55, t98_55] w) (fun t99_55 w =>
  wpB (gd t90_55 true (be Try.prog .eql 4 (.tmp 96) (.tmp 99) t96_55 t99_55)) fun t100_55 =>
  wpB (pickv t90_55 (some t100_55) (some (Go.Value.bool false))) fun t101_55 =>
  Q t101_55 w) w) w) w) w) w) w.drew)))))))
theorem F4_ok {a0 a1 a2 a3 a4 : Value} {w : World} {Q : Value → World → Prop} (h : F4 a0 a1 a2 a3 a4 w Q) : CallR Try.prog 4 [a0, a1, a2, a3, a4] w Q :=
  have e : evC Try.prog (entR 3 143) 4 102 H4 Q C4 [] (entryE 0 [a0, a1, a2, a3, a4]) w (contT Try.prog (entR 3 143) 4 102 H4 Try.f4.results.toList Q []) = F4 a0 a1 a2 a3 a4 w Q := by kernel_rfl
  call_of (fn := Try.f4) mixed entOk Try.func4 (c := C4) rfl H4 (Nat.le_of_ble_eq_true rfl) (e.mpr h)

/-! ### rundale/rundalelaw20.ScriptCuts: function 5 -/
noncomputable def C5 : Code := (Try.f5.body).getD .skip
noncomputable def H5 : Hints := ⟨[(18, [7, 8, 9, 11, 12, 13, 14]), (23, [7, 8, 9, 11, 12, 13, 14, 15]), (29, [7, 8, 9, 11, 12, 13, 16])], [], [(20, (.leaf [0, 1, 2, 3, 4, 5, 6, 7, 8, 9, 10, 11, 12, 13, 14, 15, 16, 17, 18, 19, 20, 21, 22, 23, 24])), (25, (.leaf [0, 1, 2, 3, 4, 5, 6, 7, 8, 9, 10, 11, 12, 13, 14, 15, 16])), (27, (.leaf [0, 1, 2, 3, 4, 5, 6, 7, 8, 9, 10, 11, 12, 13, 14, 15, 16])), (31, (.leaf [0, 1, 2, 3, 4, 5, 6, 7, 8, 9, 10, 11, 12, 13]))]⟩
noncomputable def T5_0 : List It := [.lp (nav [1, 1, 1, 1, 1, 1, 1, 1, 1, 1, 1, 1, 0, 1, 4, 5] C5), .blk 0, .jn (nav [1, 1, 1, 1, 1, 1, 1, 1, 1, 1, 1, 1, 1] C5)]
noncomputable def T5_1 : List It := [.lp (nav [1, 1, 1, 1, 1, 1, 1, 1, 1, 1, 1, 1, 0, 1, 4, 5, 1, 0, 4, 1, 0, 1, 4, 5] C5), .blk 2, .jn (nav [1, 1, 1, 1, 1, 1, 1, 1, 1, 1, 1, 1, 0, 1, 4, 5, 1, 0, 4, 1, 1] C5), .blk 1, .jn (nav [1, 1, 1, 1, 1, 1, 1, 1, 1, 1, 1, 1, 0, 1, 4, 5, 1, 1] C5), .lp (nav [1, 1, 1, 1, 1, 1, 1, 1, 1, 1, 1, 1, 0, 1, 4, 5] C5), .blk 0, .jn (nav [1, 1, 1, 1, 1, 1, 1, 1, 1, 1, 1, 1, 1] C5)]
noncomputable def T5_2 : List It := [.lp (nav [1, 1, 1, 1, 1, 1, 1, 1, 1, 1, 1, 1, 1, 0, 1, 4, 5] C5), .blk 4, .jn (nav [1, 1, 1, 1, 1, 1, 1, 1, 1, 1, 1, 1, 1, 1] C5)]
/-- rundale/rundalelaw20.ScriptCuts, from a loop's head on -/
def P5_0 (x7 x8 x9 x11 x12 x13 x14 : Value) (w : World) (Q : Value → World → Prop) : Prop := Part Try.prog 5 T5_0 [7, 8, 9, 11, 12, 13, 14] [x7, x8, x9, x11, x12, x13, x14] w Q
/-- rundale/rundalelaw20.ScriptCuts, from a loop's head on -/
def P5_1 (x7 x8 x9 x11 x12 x13 x14 x15 : Value) (w : World) (Q : Value → World → Prop) : Prop := Part Try.prog 5 T5_1 [7, 8, 9, 11, 12, 13, 14, 15] [x7, x8, x9, x11, x12, x13, x14, x15] w Q
/-- rundale/rundalelaw20.ScriptCuts, from a loop's head on -/
def P5_2 (x7 x8 x9 x11 x12 x13 x16 : Value) (w : World) (Q : Value → World → Prop) : Prop := Part Try.prog 5 T5_2 [7, 8, 9, 11, 12, 13, 16] [x7, x8, x9, x11, x12, x13, x16] w Q
def F5 (a0 a1 a2 : Value) (w : World) (Q : Value → World → Prop) : Prop :=
  CallR Try.prog 14 [] w fun t17 w =>
  wpB (pureRun Try.prog (Op.unary .not t17)) fun t19 =>
  cnd t19
  (Q (Go.Value.bool false) w)
  (wpB (pureRun Try.prog (Builtin.len_ #[23] 3 #[a0])) fun t21 =>
  wpB (bp Try.prog .gtr 3 t21 (Go.Value.int Go.IntKind.i64 200)) fun t22 =>
  wpB (gd t22 false (pureRun Try.prog (Builtin.len_ #[23] 3 #[(gv t22 false a1)]))) fun t25 =>
  wpB (gd t22 false (bp Try.prog .gtr 3 t25 (Go.Value.int Go.IntKind.i64 200))) fun t26 =>
  wpB (pickv t22 (some (Go.Value.bool true)) (some t26)) fun t27 =>
  cnd t27
  (Q t17 w)
  (CallR Try.prog 21 [a0, a1, (Go.Value.int Go.IntKind.i64 3)] w fun t31 w =>
  effv Try.prog (Instr.alloc 25 true (.tuple #[])) w fun t8 w =>
  effu Try.prog (Instr.storeAt 25 t8 t31) w fun w =>
  wpB (ldv Try.prog 25 t8 w) fun t33 =>
  CallR Try.prog 15 [t33] w fun t34 w =>
  wpB (pureRun Try.prog (Instr.extract t34 0)) fun t35 =>
  wpB (pureRun Try.prog (Instr.extract t34 1)) fun t36 =>
  wpB (be Try.prog .neq 29 (.tmp 37) (.const (Go.Value.int Go.IntKind.i64 0)) t36 (Go.Value.int Go.IntKind.i64 0)) fun t38 =>
  cnd t38
  (Q (Go.Value.bool false) w)
  (wpB (pureRun Try.prog (Builtin.len_ #[28] 3 #[t35])) fun t41 =>
  wpB (bp Try.prog .add 3 t41 (Go.Value.int Go.IntKind.i64 1)) fun t42 =>
  CallR Try.prog 22 [a2, t42] w fun t43 w =>
  wpB (pureRun Try.prog (Instr.sliceAt 28 t35 none (some t43) none)) fun t46 =>
  CallR Try.prog 20 [t46] w fun t47 w =>
  effv Try.prog (Instr.alloc 25 true (.tuple #[])) w fun t12 w =>
  effu Try.prog (Instr.storeAt 25 t12 t47) w fun w =>
  wpB (be Try.prog .eql 3 (.tmp 48) (.const (Go.Value.int Go.IntKind.i64 0)) t43 (Go.Value.int Go.IntKind.i64 0)) fun t49 =>
  cnd t49
  (wpB (gd t17 true (pureRun Try.prog (Instr.fieldAt 25 t12 0))) fun t52 =>
  wpB (gd t17 true (ldv Try.prog 22 t52 w)) fun t53 =>
  wpB (gd t17 true (pureRun Try.prog (Builtin.len_ #[22] 3 #[t53]))) fun t54 =>
  wpB (gd t17 true (be Try.prog .eql 3 (.tmp 54) (.const (Go.Value.int Go.IntKind.i64 0)) t54 (Go.Value.int Go.IntKind.i64 0))) fun t55 =>
  wpB (pickv t17 (some t55) (some (Go.Value.bool false))) fun t56 =>
  wpB (gd t56 true (pureRun Try.prog (Instr.fieldAt 25 t12 1))) fun t58 =>
  wpB (gd t56 true (ldv Try.prog 23 t58 w)) fun t59 =>
  wpB (gd t56 true (pureRun Try.prog (Builtin.len_ #[23] 3 #[t59]))) fun t60 =>
  wpB (gd t56 true (be Try.prog .eql 3 (.tmp 60) (.const (Go.Value.int Go.IntKind.i64 0)) t60 (Go.Value.int Go.IntKind.i64 0))) fun t61 =>
  wpB (pickv t56 (some t61) (some (Go.Value.bool false))) fun t62 =>
  Q t62 w)
  (wpB (pureRun Try.prog (Instr.fieldAt 25 t12 0)) fun t63 =>
  wpB (ldv Try.prog 22 t63 w) fun t64 =>
  wpB (pureRun Try.prog (Builtin.len_ #[22] 3 #[t64])) fun t65 =>
  wpB (pureRun Try.prog (Instr.fieldAt 25 t8 0)) fun t66 =>
  wpB (ldv Try.prog 22 t66 w) fun t67 =>
  wpB (pureRun Try.prog (Builtin.len_ #[22] 3 #[t67])) fun t68 =>
  wpB (be Try.prog .neq 3 (.tmp 65) (.tmp 68) t65 t68) fun t69 =>
  wpB (gd t69 false (pureRun Try.prog (Instr.fieldAt 25 t12 1))) fun t71 =>
  wpB (gd t69 false (ldv Try.prog 23 t71 w)) fun t72 =>
  wpB (gd t69 false (pureRun Try.prog (Builtin.len_ #[23] 3 #[t72]))) fun t73 =>
  wpB (gd t69 false (pureRun Try.prog (Instr.fieldAt 25 t8 1))) fun t74 =>
  wpB (gd t69 false (ldv Try.prog 23 t74 w)) fun t75 =>
  wpB (gd t69 false (pureRun Try.prog (Builtin.len_ #[23] 3 #[t75]))) fun t76 =>
  wpB (gd t69 false (bp Try.prog .gtr 3 t73 t76)) fun t77 =>
  wpB (pickv t69 (some (Go.Value.bool true)) (some t77)) fun t78 =>
  cnd t78
  (Q (Go.Value.bool false) w)
  (P5_0 t17 t8 t35 t43 t12 (Go.Value.bool false) (Go.Value.int Go.IntKind.i64 0) w Q)))))
def L5_0 (x7 x8 x9 x11 x12 x13 x14 : Value) (w : World) (Q : Value → World → Prop) : Prop :=
  wpB (pureRun Try.prog (Instr.fieldAt 25 x8 0)) fun t80 =>
  wpB (ldv Try.prog 22 t80 w) fun t81 =>
  wpB (pureRun Try.prog (Builtin.len_ #[22] 3 #[t81])) fun t82 =>
  wpB (bp Try.prog .lss 3 x14 t82) fun t83 =>
  cnd t83
  (wpB (pureRun Try.prog (Instr.fieldAt 25 x12 0)) fun t86 =>
  wpB (ldv Try.prog 22 t86 w.drew) fun t87 =>
  wpB (pureRun Try.prog (Instr.indexAt 22 t87 x14)) fun t89 =>
  wpB (ldv Try.prog 27 t89 w.drew) fun t90 =>
  wpB (pureRun Try.prog (Builtin.len_ #[27] 3 #[t90])) fun t91 =>
  wpB (pureRun Try.prog (Instr.fieldAt 25 x8 0)) fun t92 =>
  wpB (ldv Try.prog 22 t92 w.drew) fun t93 =>
  wpB (pureRun Try.prog (Instr.indexAt 22 t93 x14)) fun t95 =>
  wpB (ldv Try.prog 27 t95 w.drew) fun t96 =>
  wpB (pureRun Try.prog (Builtin.len_ #[27] 3 #[t96])) fun t97 =>
  wpB (bp Try.prog .gtr 3 t91 t97) fun t98 =>
  wpB (gd (gv t98 false (gv t98 false x13)) true (pureRun Try.prog (Instr.fieldAt 25 x12 0))) fun t102 =>
  wpB (gd (gv t98 false (gv t98 false x13)) true (ldv Try.prog 22 t102 w.drew)) fun t103 =>
  wpB (gd (gv t98 false (gv t98 false x13)) true (pureRun Try.prog (Instr.indexAt 22 t103 (gv (gv t98 false (gv t98 false x13)) true x14)))) fun t105 =>
  wpB (gd (gv t98 false (gv t98 false x13)) true (ldv Try.prog 27 t105 w.drew)) fun t106 =>
  wpB (gd (gv t98 false (gv t98 false x13)) true (pureRun Try.prog (Builtin.len_ #[27] 3 #[t106]))) fun t107 =>
  wpB (gd (gv t98 false (gv t98 false x13)) true (bp Try.prog .gtr 3 t107 (Go.Value.int Go.IntKind.i64 0))) fun t108 =>
  wpB (gd t98 false (pickv (gv t98 false (gv t98 false x13)) (some t108) (some (Go.Value.bool false)))) fun t109 =>
  wpB (pickv t98 (some (Go.Value.bool true)) (some t109)) fun t110 =>
  cnd t110
  (Q (Go.Value.bool false) w.drew)
  (P5_1 x7 x8 x9 x11 x12 x13 x14 (Go.Value.int Go.IntKind.i64 0) w.drew Q))
  (P5_2 x7 x8 x9 x11 x12 x13 (Go.Value.int Go.IntKind.i64 0) w Q)
def L5_1 (x7 x8 x9 x11 x12 x13 x14 x15 : Value) (w : World) (Q : Value → World → Prop) : Prop :=
  wpB (pureRun Try.prog (Instr.fieldAt 25 x12 0)) fun t112 =>
  wpB (ldv Try.prog 22 t112 w) fun t113 =>
  wpB (pureRun Try.prog (Instr.indexAt 22 t113 x14)) fun t115 =>
  wpB (ldv Try.prog 27 t115 w) fun t116 =>
  wpB (pureRun Try.prog (Builtin.len_ #[27] 3 #[t116])) fun t117 =>
  wpB (bp Try.prog .lss 3 x15 t117) fun t118 =>
  cnd t118
  (wpB (pureRun Try.prog (Instr.fieldAt 25 x12 0)) fun t121 =>
  wpB (ldv Try.prog 22 t121 w.drew) fun t122 =>
  wpB (pureRun Try.prog (Instr.indexAt 22 t122 x14)) fun t124 =>
  wpB (ldv Try.prog 27 t124 w.drew) fun t125 =>
  wpB (pureRun Try.prog (Instr.indexAt 27 t125 x15)) fun t127 =>
  wpB (ldv Try.prog 40 t127 w.drew) fun t128 =>
  wpB (pureRun Try.prog (Instr.fieldAt 25 x8 0)) fun t129 =>
  wpB (ldv Try.prog 22 t129 w.drew) fun t130 =>
  wpB (pureRun Try.prog (Instr.indexAt 22 t130 x14)) fun t132 =>
  wpB (ldv Try.prog 27 t132 w.drew) fun t133 =>
  wpB (pureRun Try.prog (Instr.indexAt 27 t133 x15)) fun t135 =>
  wpB (ldv Try.prog 40 t135 w.drew) fun t136 =>
  wpB (be Try.prog .neq 40 (.tmp 128) (.tmp 136) t128 t136) fun t137 =>
  cnd t137
  (Q (Go.Value.bool false) w.drew)
  (wpB (bp Try.prog .add 3 x15 (Go.Value.int Go.IntKind.i64 1)) fun t120 =>
  P5_1 x7 x8 x9 x11 x12 x13 x14 t120 w.drew Q))
  (wpB (gd x13 false (pureRun Try.prog (Instr.fieldAt 25 x12 0))) fun t140 =>
  wpB (gd x13 false (ldv Try.prog 22 t140 w.drew)) fun t141 =>
  wpB (gd x13 false (pureRun Try.prog (Instr.indexAt 22 t141 (gv x13 false x14)))) fun t143 =>
  wpB (gd x13 false (ldv Try.prog 27 t143 w.drew)) fun t144 =>
  wpB (gd x13 false (pureRun Try.prog (Builtin.len_ #[27] 3 #[t144]))) fun t145 =>
  wpB (gd x13 false (pureRun Try.prog (Instr.fieldAt 25 x8 0))) fun t146 =>
  wpB (gd x13 false (ldv Try.prog 22 t146 w.drew)) fun t147 =>
  wpB (gd x13 false (pureRun Try.prog (Instr.indexAt 22 t147 (gv x13 false x14)))) fun t149 =>
  wpB (gd x13 false (ldv Try.prog 27 t149 w.drew)) fun t150 =>
  wpB (gd x13 false (pureRun Try.prog (Builtin.len_ #[27] 3 #[t150]))) fun t151 =>
  wpB (gd x13 false (bp Try.prog .lss 3 t145 t151)) fun t152 =>
  wpB (pickv x13 (some (Go.Value.bool true)) (some t152)) fun t153 =>
  wpB (bp Try.prog .add 3 x14 (Go.Value.int Go.IntKind.i64 1)) fun t85 =>
  P5_0 x7 x8 x9 x11 x12 t153 t85 w.drew Q)
def L5_2 (x7 x8 x9 x11 x12 x13 x16 : Value) (w : World) (Q : Value → World → Prop) : Prop :=
  wpB (pureRun Try.prog (Instr.fieldAt 25 x12 1)) fun t155 =>
  wpB (ldv Try.prog 23 t155 w) fun t156 =>
  wpB (pureRun Try.prog (Builtin.len_ #[23] 3 #[t156])) fun t157 =>
  wpB (bp Try.prog .lss 3 x16 t157) fun t158 =>
  cnd t158
  (wpB (gd x13 false (pureRun Try.prog (Instr.fieldAt 25 x12 1))) fun t163 =>
  wpB (gd x13 false (ldv Try.prog 23 t163 w.drew)) fun t164 =>
  wpB (gd x13 false (pureRun Try.prog (Instr.indexAt 23 t164 (gv x13 false x16)))) fun t166 =>
  wpB (gd x13 false (ldv Try.prog 3 t166 w.drew)) fun t167 =>
  wpB (gd x13 false (pureRun Try.prog (Instr.fieldAt 25 x8 1))) fun t168 =>
  wpB (gd x13 false (ldv Try.prog 23 t168 w.drew)) fun t169 =>
  wpB (gd x13 false (pureRun Try.prog (Instr.indexAt 23 t169 (gv x13 false x16)))) fun t171 =>
  wpB (gd x13 false (ldv Try.prog 3 t171 w.drew)) fun t172 =>
  wpB (gd x13 false (be Try.prog .neq 3 (.tmp 167) (.tmp 172) t167 t172)) fun t173 =>
  wpB (pickv x13 (some (Go.Value.bool true)) (some t173)) fun t174 =>
  cnd t174
  (Q (Go.Value.bool false) w.drew)
  (wpB (bp Try.prog .add 3 x16 (Go.Value.int Go.IntKind.i64 1)) fun t160 =>
  P5_2 x7 x8 x9 x11 x12 x13 t160 w.drew Q))
  (wpB (gd x7 true (pureRun Try.prog (Builtin.len_ #[28] 3 #[(gv x7 true x9)]))) fun t178 =>
  wpB (gd x7 true (bp Try.prog .sub 3 t178 (gv x7 true x11))) fun t180 =>
  wpB (gd x7 true (pureRun Try.prog (Instr.fieldAt 25 x8 1))) fun t181 =>
  wpB (gd x7 true (ldv Try.prog 23 t181 w)) fun t182 =>
  wpB (gd x7 true (pureRun Try.prog (Builtin.len_ #[23] 3 #[t182]))) fun t183 =>
  wpB (gd x7 true (bp Try.prog .geq 3 t180 t183)) fun t184 =>
  wpB (gd (gv x7 true t184) false (pureRun Try.prog (Instr.fieldAt 25 x12 1))) fun t186 =>
  wpB (gd (gv x7 true t184) false (ldv Try.prog 23 t186 w)) fun t187 =>
  wpB (gd (gv x7 true t184) false (pureRun Try.prog (Builtin.len_ #[23] 3 #[t187]))) fun t188 =>
  wpB (gd (gv x7 true t184) false (pureRun Try.prog (Instr.fieldAt 25 x8 1))) fun t189 =>
  wpB (gd (gv x7 true t184) false (ldv Try.prog 23 t189 w)) fun t190 =>
  wpB (gd (gv x7 true t184) false (pureRun Try.prog (Builtin.len_ #[23] 3 #[t190]))) fun t191 =>
  wpB (gd (gv x7 true t184) false (pureRun Try.prog (Builtin.len_ #[28] 3 #[(gv (gv x7 true t184) false x9)]))) fun t193 =>
  wpB (gd (gv x7 true t184) false (bp Try.prog .sub 3 t193 (gv (gv x7 true t184) false x11))) fun t195 =>
  wpB (gd (gv x7 true t184) false (bp Try.prog .sub 3 t191 t195)) fun t196 =>
  wpB (gd (gv x7 true t184) false (be Try.prog .eql 3 (.tmp 188) (.tmp 196) t188 t196)) fun t197 =>
  wpB (gd x7 true (pickv (gv x7 true t184) (some (Go.Value.bool true)) (some t197))) fun t198 =>
  wpB (pickv x7 (some t198) (some (Go.Value.bool false))) fun t199 =>
  Q t199 w)
theorem F5_ok {a0 a1 a2 : Value} {w : World} {Q : Value → World → Prop} (h : F5 a0 a1 a2 w Q) : CallR Try.prog 5 [a0, a1, a2] w Q :=
  have e : evC Try.prog (entR 3 143) 5 200 H5 Q C5 [] (entryE 0 [a0, a1, a2]) w (contT Try.prog (entR 3 143) 5 200 H5 Try.f5.results.toList Q []) = F5 a0 a1 a2 w Q := by kernel_rfl
  call_of (fn := Try.f5) mixed entOk Try.func5 (c := C5) rfl H5 (Nat.le_of_ble_eq_true rfl) (e.mpr h)
theorem L5_0_ok {x7 x8 x9 x11 x12 x13 x14 : Value} {w : World} {Q : Value → World → Prop} (h : L5_0 x7 x8 x9 x11 x12 x13 x14 w Q) : P5_0 x7 x8 x9 x11 x12 x13 x14 w Q :=
  have e : evC Try.prog (entR 3 143) 5 200 H5 Q (nav [1, 1, 1, 1, 1, 1, 1, 1, 1, 1, 1, 1, 0, 1, 4, 5] C5) T5_0 (unpack [7, 8, 9, 11, 12, 13, 14] [x7, x8, x9, x11, x12, x13, x14]) w (contT Try.prog (entR 3 143) 5 200 H5 Try.f5.results.toList Q T5_0) = L5_0 x7 x8 x9 x11 x12 x13 x14 w Q := by kernel_rfl
  part_lp (fn := Try.f5) mixed entOk Try.func5 H5 (c := (nav [1, 1, 1, 1, 1, 1, 1, 1, 1, 1, 1, 1, 0, 1, 4, 5] C5)) (t := [.blk 0, .jn (nav [1, 1, 1, 1, 1, 1, 1, 1, 1, 1, 1, 1, 1] C5)]) (e.mpr h)
theorem L5_1_ok {x7 x8 x9 x11 x12 x13 x14 x15 : Value} {w : World} {Q : Value → World → Prop} (h : L5_1 x7 x8 x9 x11 x12 x13 x14 x15 w Q) : P5_1 x7 x8 x9 x11 x12 x13 x14 x15 w Q :=
  have e : evC Try.prog (entR 3 143) 5 200 H5 Q (nav [1, 1, 1, 1, 1, 1, 1, 1, 1, 1, 1, 1, 0, 1, 4, 5, 1, 0, 4, 1, 0, 1, 4, 5] C5) T5_1 (unpack [7, 8, 9, 11, 12, 13, 14, 15] [x7, x8, x9, x11, x12, x13, x14, x15]) w (contT Try.prog (entR 3 143) 5 200 H5 Try.f5.results.toList Q T5_1) = L5_1 x7 x8 x9 x11 x12 x13 x14 x15 w Q := by kernel_rfl
  part_lp (fn := Try.f5) mixed entOk Try.func5 H5 (c := (nav [1, 1, 1, 1, 1, 1, 1, 1, 1, 1, 1, 1, 0, 1, 4, 5, 1, 0, 4, 1, 0, 1, 4, 5] C5)) (t := [.blk 2, .jn (nav [1, 1, 1, 1, 1, 1, 1, 1, 1, 1, 1, 1, 0, 1, 4, 5, 1, 0, 4, 1, 1] C5), .blk 1, .jn (nav [1, 1, 1, 1, 1, 1, 1, 1, 1, 1, 1, 1, 0, 1, 4, 5, 1, 1] C5), .lp (nav [1, 1, 1, 1, 1, 1, 1, 1, 1, 1, 1, 1, 0, 1, 4, 5] C5), .blk 0, .jn (nav [1, 1, 1, 1, 1, 1, 1, 1, 1, 1, 1, 1, 1] C5)]) (e.mpr h)
theorem L5_2_ok {x7 x8 x9 x11 x12 x13 x16 : Value} {w : World} {Q : Value → World → Prop} (h : L5_2 x7 x8 x9 x11 x12 x13 x16 w Q) : P5_2 x7 x8 x9 x11 x12 x13 x16 w Q :=
  have e : evC Try.prog (entR 3 143) 5 200 H5 Q (nav [1, 1, 1, 1, 1, 1, 1, 1, 1, 1, 1, 1, 1, 0, 1, 4, 5] C5) T5_2 (unpack [7, 8, 9, 11, 12, 13, 16] [x7, x8, x9, x11, x12, x13, x16]) w (contT Try.prog (entR 3 143) 5 200 H5 Try.f5.results.toList Q T5_2) = L5_2 x7 x8 x9 x11 x12 x13 x16 w Q := by kernel_rfl
  part_lp (fn := Try.f5) mixed entOk Try.func5 H5 (c := (nav [1, 1, 1, 1, 1, 1, 1, 1, 1, 1, 1, 1, 1, 0, 1, 4, 5] C5)) (t := [.blk 4, .jn (nav [1, 1, 1, 1, 1, 1, 1, 1, 1, 1, 1, 1, 1, 1] C5)]) (e.mpr h)

/-! ### rundale/rundalelaw20.ScriptMany: function 6 -/
noncomputable def C6 : Code := (Try.f6.body).getD .skip
noncomputable def H6 : Hints := ⟨[(9, [5, 6, 7, 8, 9, 10]), (18, [5, 6, 7, 15, 16]), (24, [5, 6, 7, 17, 18, 19])], [(10, [5, 6, 7, 8, 9, 10])], [(11, (.ask 1 8 (.leaf [0, 1, 2, 3, 4, 5, 6, 7, 8, 9, 10]) (.leaf [0, 2, 6, 3, 4, 5, 7, 8, 1, 9, 10])))]⟩
noncomputable def T6_0 : List It := [.lp (nav [1, 1, 1, 1, 1, 1, 1, 0, 1, 4, 5] C6), .blk 0, .jn (nav [1, 1, 1, 1, 1, 1, 1, 1] C6)]
noncomputable def T6_1 : List It := [.jn (nav [1, 1, 1, 1, 1, 1, 1, 0, 1, 4, 5, 1, 1] C6), .lp (nav [1, 1, 1, 1, 1, 1, 1, 0, 1, 4, 5] C6), .blk 0, .jn (nav [1, 1, 1, 1, 1, 1, 1, 1] C6)]
noncomputable def T6_2 : List It := [.lp (nav [1, 1, 1, 1, 1, 1, 1, 1, 1, 1, 1, 1, 0, 1, 4, 5] C6), .blk 2, .jn (nav [1, 1, 1, 1, 1, 1, 1, 1, 1, 1, 1, 1, 1] C6)]
noncomputable def T6_3 : List It := [.lp (nav [1, 1, 1, 1, 1, 1, 1, 1, 1, 1, 1, 1, 1, 1, 1, 0, 1, 4, 5] C6), .blk 4, .jn (nav [1, 1, 1, 1, 1, 1, 1, 1, 1, 1, 1, 1, 1, 1, 1, 1] C6)]
/-- rundale/rundalelaw20.ScriptMany, from a loop's head on -/
def P6_0 (x5 x6 x7 x8 x9 x10 : Value) (w : World) (Q : Value → World → Prop) : Prop := Part Try.prog 6 T6_0 [5, 6, 7, 8, 9, 10] [x5, x6, x7, x8, x9, x10] w Q
/-- rundale/rundalelaw20.ScriptMany, from a join on -/
def P6_1 (x5 x6 x7 x8 x9 x10 : Value) (w : World) (Q : Value → World → Prop) : Prop := Part Try.prog 6 T6_1 [5, 6, 7, 8, 9, 10] [x5, x6, x7, x8, x9, x10] w Q
/-- rundale/rundalelaw20.ScriptMany, from a loop's head on -/
def P6_2 (x5 x6 x7 x15 x16 : Value) (w : World) (Q : Value → World → Prop) : Prop := Part Try.prog 6 T6_2 [5, 6, 7, 15, 16] [x5, x6, x7, x15, x16] w Q
/-- rundale/rundalelaw20.ScriptMany, from a loop's head on -/
def P6_3 (x5 x6 x7 x17 x18 x19 : Value) (w : World) (Q : Value → World → Prop) : Prop := Part Try.prog 6 T6_3 [5, 6, 7, 17, 18, 19] [x5, x6, x7, x17, x18, x19] w Q
def F6 (a0 a1 : Value) (w : World) (Q : Value → World → Prop) : Prop :=
  CallR Try.prog 14 [] w fun t21 w =>
  wpB (pureRun Try.prog (Op.unary .not t21)) fun t23 =>
  cnd t23
  (Q (Go.Value.bool false) w)
  (CallR Try.prog 22 [a0, (Go.Value.int Go.IntKind.i64 10)] w fun t25 w =>
  wpB (bp Try.prog .add 3 (Go.Value.int Go.IntKind.i64 60) t25) fun t26 =>
  CallR Try.prog 22 [a1, (Go.Value.int Go.IntKind.i64 5)] w fun t28 w =>
  wpB (bp Try.prog .add 3 (Go.Value.int Go.IntKind.i64 998) t28) fun t29 =>
  effv Try.prog (Instr.makeSlice 22 t26 t26) w fun t31 w =>
  wpB (pureRun Try.prog (Instr.build 25 #[(0, t31)])) fun t32 =>
  effv Try.prog (Instr.alloc 25 true (.tuple #[])) w fun t8 w =>
  effu Try.prog (Instr.storeAt 25 t8 t32) w fun w =>
  effv Try.prog (Instr.makeSlice 22 (Go.Value.int Go.IntKind.i64 1) (Go.Value.int Go.IntKind.i64 1)) w fun t33 w =>
  wpB (pureRun Try.prog (Instr.build 25 #[(0, t33)])) fun t34 =>
  effv Try.prog (Instr.alloc 25 true (.tuple #[])) w fun t9 w =>
  effu Try.prog (Instr.storeAt 25 t9 t34) w fun w =>
  P6_0 t21 t26 t29 t8 t9 (Go.Value.int Go.IntKind.i64 0) w Q)
def L6_0 (x5 x6 x7 x8 x9 x10 : Value) (w : World) (Q : Value → World → Prop) : Prop :=
  wpB (bp Try.prog .lss 3 x10 x7) fun t37 =>
  cnd t37
  ((wpB (pureRun Try.prog (Instr.fieldAt 25 x9 0)) fun t40 =>
  wpB (ldv Try.prog 22 t40 w.drew) fun t41 =>
  wpB (pureRun Try.prog (Instr.fieldAt 25 x9 0)) fun t42 =>
  wpB (ldv Try.prog 22 t42 w.drew) fun t43 =>
  wpB (pureRun Try.prog (Instr.indexAt 22 t43 (Go.Value.int Go.IntKind.i64 0))) fun t44 =>
  wpB (ldv Try.prog 27 t44 w.drew) fun t45 =>
  wpB (pureRun Try.prog (Instr.build 40 #[(0, (Go.Value.int Go.IntKind.i64 3))])) fun t46 =>
  effv Try.prog (Instr.buildSlice 27 1 #[(0, t46)]) w.drew fun t47 w =>
  effv Try.prog (Builtin.append_ #[27, 27] 27 #[t45, t47]) w fun t48 w =>
  wpB (pureRun Try.prog (Instr.indexAt 22 t41 (Go.Value.int Go.IntKind.i64 0))) fun t49 =>
  effu Try.prog (Instr.storeAt 27 t49 t48) w fun w =>
  P6_1 x5 x6 x7 x8 x9 x10 w Q) ∧
  (wpB (pureRun Try.prog (Instr.fieldAt 25 x9 0)) fun t40_1 =>
  wpB (pureRun Try.prog (Instr.fieldAt 25 x9 0)) fun t42_1 =>
  wpB (pureRun Try.prog (Instr.build 40 #[(0, (Go.Value.int Go.IntKind.i64 3))])) fun t46_1 =>
  wpB (ldv Try.prog 22 t42_1 w.drew) fun t43_1 =>
  wpB (pureRun Try.prog (Instr.indexAt 22 t43_1 (Go.Value.int Go.IntKind.i64 0))) fun t44_1 =>
  wpB (ldv Try.prog 27 t44_1 w.drew) fun t45_1 =>
  effv Try.prog (Instr.buildSlice 27 1 #[(0, t46_1)]) w.drew fun t47_1 w =>
  effv Try.prog (Builtin.append_ #[27, 27] 27 #[t45_1, t47_1]) w fun t48_1 w =>
  wpB (ldv Try.prog 22 t40_1 w) fun t41_1 =>
  wpB (pureRun Try.prog (Instr.indexAt 22 t41_1 (Go.Value.int Go.IntKind.i64 0))) fun t49_1 =>
  effu Try.prog (Instr.storeAt 27 t49_1 t48_1) w fun w =>
  P6_1 x5 x6 x7 x8 x9 x10 w Q))
  (wpB (ldv Try.prog 25 x8 w) fun t51 =>
  CallR Try.prog 15 [t51] w fun t52 w =>
  wpB (pureRun Try.prog (Instr.extract t52 0)) fun t53 =>
  wpB (pureRun Try.prog (Instr.extract t52 1)) fun t54 =>
  wpB (ldv Try.prog 25 x9 w) fun t56 =>
  CallR Try.prog 15 [t56] w fun t57 w =>
  wpB (pureRun Try.prog (Instr.extract t57 0)) fun t58 =>
  wpB (pureRun Try.prog (Instr.extract t57 1)) fun t59 =>
  wpB (be Try.prog .eql 29 (.tmp 60) (.const (Go.Value.int Go.IntKind.i64 0)) t54 (Go.Value.int Go.IntKind.i64 0)) fun t61 =>
  wpB (bp Try.prog .leq 3 x6 (Go.Value.int Go.IntKind.i64 64)) fun t63 =>
  wpB (be Try.prog .neq 4 (.tmp 61) (.tmp 63) t61 t63) fun t64 =>
  wpB (gd t64 false (be Try.prog .eql 29 (.tmp 66) (.const (Go.Value.int Go.IntKind.i64 0)) (gv t64 false t59) (Go.Value.int Go.IntKind.i64 0))) fun t67 =>
  wpB (gd t64 false (bp Try.prog .leq 3 (gv t64 false x7) (Go.Value.int Go.IntKind.i64 1000))) fun t69 =>
  wpB (gd t64 false (be Try.prog .neq 4 (.tmp 67) (.tmp 69) t67 t69)) fun t70 =>
  wpB (pickv t64 (some (Go.Value.bool true)) (some t70)) fun t71 =>
  wpB (gd t71 false (ldv Try.prog 25 x8 w)) fun t73 =>
  gE t71 false (CallR Try.prog 17 [t73] w) (fun t74 w =>
  wpB (gd t71 false (bp Try.prog .leq 3 (gv t71 false x6) (Go.Value.int Go.IntKind.i64 64))) fun t76 =>
  wpB (gd t71 false (be Try.prog .neq 4 (.tmp 74) (.tmp 76) t74 t76)) fun t77 =>
  wpB (pickv t71 (some (Go.Value.bool true)) (some t77)) fun t78 =>
  wpB (gd t78 false (ldv Try.prog 25 x9 w)) fun t80 =>
  gE t78 false (CallR Try.prog 17 [t80] w) (fun t81 w =>
  wpB (gd t78 false (bp Try.prog .leq 3 (gv t78 false x7) (Go.Value.int Go.IntKind.i64 1000))) fun t83 =>
  wpB (gd t78 false (be Try.prog .neq 4 (.tmp 81) (.tmp 83) t81 t83)) fun t84 =>
  wpB (pickv t78 (some (Go.Value.bool true)) (some t84)) fun t85 =>
  wpB (gd t85 false (be Try.prog .neq 29 (.tmp 87) (.const (Go.Value.int Go.IntKind.i64 0)) (gv t85 false t54) (Go.Value.int Go.IntKind.i64 0))) fun t88 =>
  wpB (gd (gv t85 false t88) true (be Try.prog .neq 29 (.tmp 90) (.const (Go.Value.int Go.IntKind.i64 11)) (gv (gv t85 false t88) true t54) (Go.Value.int Go.IntKind.i64 11))) fun t91 =>
  wpB (gd (gv (gv t85 false t88) true t91) false (pureRun Try.prog (Builtin.len_ #[28] 3 #[(gv (gv (gv t85 false t88) true t91) false t53)]))) fun t94 =>
  wpB (gd (gv (gv t85 false t88) true t91) false (be Try.prog .neq 3 (.tmp 94) (.const (Go.Value.int Go.IntKind.i64 0)) t94 (Go.Value.int Go.IntKind.i64 0))) fun t95 =>
  wpB (gd (gv t85 false t88) true (pickv (gv (gv t85 false t88) true t91) (some (Go.Value.bool true)) (some t95))) fun t96 =>
  wpB (gd t85 false (pickv (gv t85 false t88) (some t96) (some (Go.Value.bool false)))) fun t97 =>
  wpB (pickv t85 (some (Go.Value.bool true)) (some t97)) fun t98 =>
  wpB (gd t98 false (be Try.prog .neq 29 (.tmp 100) (.const (Go.Value.int Go.IntKind.i64 0)) (gv t98 false t59) (Go.Value.int Go.IntKind.i64 0))) fun t101 =>
  wpB (gd (gv t98 false t101) true (be Try.prog .neq 29 (.tmp 103) (.const (Go.Value.int Go.IntKind.i64 11)) (gv (gv t98 false t101) true t59) (Go.Value.int Go.IntKind.i64 11))) fun t104 =>
  wpB (gd (gv (gv t98 false t101) true t104) false (pureRun Try.prog (Builtin.len_ #[28] 3 #[(gv (gv (gv t98 false t101) true t104) false t58)]))) fun t107 =>
  wpB (gd (gv (gv t98 false t101) true t104) false (be Try.prog .neq 3 (.tmp 107) (.const (Go.Value.int Go.IntKind.i64 0)) t107 (Go.Value.int Go.IntKind.i64 0))) fun t108 =>
  wpB (gd (gv t98 false t101) true (pickv (gv (gv t98 false t101) true t104) (some (Go.Value.bool true)) (some t108))) fun t109 =>
  wpB (gd t98 false (pickv (gv t98 false t101) (some t109) (some (Go.Value.bool false)))) fun t110 =>
  wpB (pickv t98 (some (Go.Value.bool true)) (some t110)) fun t111 =>
  cnd t111
  (Q (Go.Value.bool false) w)
  (wpB (pureRun Try.prog (convert 3 5 x6)) fun t113 =>
  effv Try.prog (Instr.buildSlice 28 1 #[(0, t113)]) w fun t114 w =>
  P6_2 x5 x6 x7 t114 (Go.Value.int Go.IntKind.i64 0) w Q)) w) w)
def L6_1 (x5 x6 x7 x8 x9 x10 : Value) (w : World) (Q : Value → World → Prop) : Prop :=
  wpB (bp Try.prog .add 3 x10 (Go.Value.int Go.IntKind.i64 1)) fun t39 =>
  P6_0 x5 x6 x7 x8 x9 t39 w Q
def L6_2 (x5 x6 x7 x15 x16 : Value) (w : World) (Q : Value → World → Prop) : Prop :=
  wpB (bp Try.prog .lss 3 x16 x6) fun t117 =>
  cnd t117
  (effv Try.prog (Instr.buildSlice 28 2 #[(0, (Go.Value.int Go.IntKind.u8 0)), (1, (Go.Value.int Go.IntKind.u8 0))]) w fun t121 w =>
  effv Try.prog (Builtin.append_ #[28, 28] 28 #[x15, t121]) w fun t122 w =>
  wpB (bp Try.prog .add 3 x16 (Go.Value.int Go.IntKind.i64 1)) fun t119 =>
  P6_2 x5 x6 x7 t122 t119 w Q)
  (CallR Try.prog 20 [x15] w fun t124 w =>
  effv Try.prog (Instr.alloc 25 true (.tuple #[])) w fun t17 w =>
  effu Try.prog (Instr.storeAt 25 t17 t124) w fun w =>
  wpB (bp Try.prog .rem 3 x7 (Go.Value.int Go.IntKind.i64 256)) fun t126 =>
  wpB (pureRun Try.prog (convert 3 5 t126)) fun t127 =>
  wpB (bp Try.prog .quo 3 x7 (Go.Value.int Go.IntKind.i64 256)) fun t129 =>
  wpB (pureRun Try.prog (convert 3 5 t129)) fun t130 =>
  effv Try.prog (Instr.buildSlice 28 3 #[(0, (Go.Value.int Go.IntKind.u8 1)), (1, t127), (2, t130)]) w fun t131 w =>
  P6_3 x5 x6 x7 t17 t131 (Go.Value.int Go.IntKind.i64 0) w Q)
def L6_3 (x5 x6 x7 x17 x18 x19 : Value) (w : World) (Q : Value → World → Prop) : Prop :=
  wpB (bp Try.prog .lss 3 x19 x7) fun t134 =>
  cnd t134
  (effv Try.prog (Instr.buildSlice 28 1 #[(0, (Go.Value.int Go.IntKind.u8 4))]) w fun t138 w =>
  effv Try.prog (Builtin.append_ #[28, 28] 28 #[x18, t138]) w fun t139 w =>
  wpB (bp Try.prog .add 3 x19 (Go.Value.int Go.IntKind.i64 1)) fun t136 =>
  P6_3 x5 x6 x7 x17 t139 t136 w Q)
  (CallR Try.prog 20 [x18] w fun t141 w =>
  effv Try.prog (Instr.alloc 25 true (.tuple #[])) w fun t20 w =>
  effu Try.prog (Instr.storeAt 25 t20 t141) w fun w =>
  wpB (gd x5 true (pureRun Try.prog (Instr.fieldAt 25 x17 0))) fun t144 =>
  wpB (gd x5 true (ldv Try.prog 22 t144 w)) fun t145 =>
  wpB (gd x5 true (pureRun Try.prog (Builtin.len_ #[22] 3 #[t145]))) fun t146 =>
  wpB (gd x5 true (pureRun Try.prog (Builtin.min_ #[3, 3] 3 #[(gv x5 true x6), (Go.Value.int Go.IntKind.i64 64)]))) fun t148 =>
  wpB (gd x5 true (be Try.prog .eql 3 (.tmp 146) (.tmp 148) t146 t148)) fun t149 =>
  wpB (pickv x5 (some t149) (some (Go.Value.bool false))) fun t150 =>
  wpB (gd t150 true (pureRun Try.prog (Instr.fieldAt 25 x17 1))) fun t152 =>
  wpB (gd t150 true (ldv Try.prog 23 t152 w)) fun t153 =>
  wpB (gd t150 true (pureRun Try.prog (Builtin.len_ #[23] 3 #[t153]))) fun t154 =>
  wpB (gd t150 true (bp Try.prog .sub 3 (gv t150 true x6) (Go.Value.int Go.IntKind.i64 64))) fun t156 =>
  wpB (gd t150 true (pureRun Try.prog (Builtin.max_ #[3, 3] 3 #[t156, (Go.Value.int Go.IntKind.i64 0)]))) fun t157 =>
  wpB (gd t150 true (bp Try.prog .mul 3 (Go.Value.int Go.IntKind.i64 2) t157)) fun t158 =>
  wpB (gd t150 true (be Try.prog .eql 3 (.tmp 154) (.tmp 158) t154 t158)) fun t159 =>
  wpB (pickv t150 (some t159) (some (Go.Value.bool false))) fun t160 =>
  wpB (gd t160 true (pureRun Try.prog (Instr.fieldAt 25 t20 0))) fun t162 =>
  wpB (gd t160 true (ldv Try.prog 22 t162 w)) fun t163 =>
  wpB (gd t160 true (pureRun Try.prog (Builtin.len_ #[22] 3 #[t163]))) fun t164 =>
  wpB (gd t160 true (be Try.prog .eql 3 (.tmp 164) (.const (Go.Value.int Go.IntKind.i64 1)) t164 (Go.Value.int Go.IntKind.i64 1))) fun t165 =>
  wpB (pickv t160 (some t165) (some (Go.Value.bool false))) fun t166 =>
  wpB (gd t166 true (pureRun Try.prog (Instr.fieldAt 25 t20 0))) fun t168 =>
  wpB (gd t166 true (ldv Try.prog 22 t168 w)) fun t169 =>
  wpB (gd t166 true (pureRun Try.prog (Instr.indexAt 22 t169 (Go.Value.int Go.IntKind.i64 0)))) fun t170 =>
  wpB (gd t166 true (ldv Try.prog 27 t170 w)) fun t171 =>
  wpB (gd t166 true (pureRun Try.prog (Builtin.len_ #[27] 3 #[t171]))) fun t172 =>
  wpB (gd t166 true (pureRun Try.prog (Builtin.min_ #[3, 3] 3 #[(gv t166 true x7), (Go.Value.int Go.IntKind.i64 1000)]))) fun t174 =>
  wpB (gd t166 true (be Try.prog .eql 3 (.tmp 172) (.tmp 174) t172 t174)) fun t175 =>
  wpB (pickv t166 (some t175) (some (Go.Value.bool false))) fun t176 =>
  wpB (gd t176 true (pureRun Try.prog (Instr.fieldAt 25 t20 1))) fun t178 =>
  wpB (gd t176 true (ldv Try.prog 23 t178 w)) fun t179 =>
  wpB (gd t176 true (pureRun Try.prog (Builtin.len_ #[23] 3 #[t179]))) fun t180 =>
  wpB (gd t176 true (bp Try.prog .sub 3 (gv t176 true x7) (Go.Value.int Go.IntKind.i64 1000))) fun t182 =>
  wpB (gd t176 true (pureRun Try.prog (Builtin.max_ #[3, 3] 3 #[t182, (Go.Value.int Go.IntKind.i64 0)]))) fun t183 =>
  wpB (gd t176 true (be Try.prog .eql 3 (.tmp 180) (.tmp 183) t180 t183)) fun t184 =>
  wpB (pickv t176 (some t184) (some (Go.Value.bool false))) fun t185 =>
  Q t185 w)
theorem F6_ok {a0 a1 : Value} {w : World} {Q : Value → World → Prop} (h : F6 a0 a1 w Q) : CallR Try.prog 6 [a0, a1] w Q :=
  have e : evC Try.prog (entR 3 143) 6 186 H6 Q C6 [] (entryE 0 [a0, a1]) w (contT Try.prog (entR 3 143) 6 186 H6 Try.f6.results.toList Q []) = F6 a0 a1 w Q := by kernel_rfl
  call_of (fn := Try.f6) mixed entOk Try.func6 (c := C6) rfl H6 (Nat.le_of_ble_eq_true rfl) (e.mpr h)
theorem L6_0_ok {x5 x6 x7 x8 x9 x10 : Value} {w : World} {Q : Value → World → Prop} (h : L6_0 x5 x6 x7 x8 x9 x10 w Q) : P6_0 x5 x6 x7 x8 x9 x10 w Q :=
  have e : evC Try.prog (entR 3 143) 6 186 H6 Q (nav [1, 1, 1, 1, 1, 1, 1, 0, 1, 4, 5] C6) T6_0 (unpack [5, 6, 7, 8, 9, 10] [x5, x6, x7, x8, x9, x10]) w (contT Try.prog (entR 3 143) 6 186 H6 Try.f6.results.toList Q T6_0) = L6_0 x5 x6 x7 x8 x9 x10 w Q := by kernel_rfl
  part_lp (fn := Try.f6) mixed entOk Try.func6 H6 (c := (nav [1, 1, 1, 1, 1, 1, 1, 0, 1, 4, 5] C6)) (t := [.blk 0, .jn (nav [1, 1, 1, 1, 1, 1, 1, 1] C6)]) (e.mpr h)
theorem L6_1_ok {x5 x6 x7 x8 x9 x10 : Value} {w : World} {Q : Value → World → Prop} (h : L6_1 x5 x6 x7 x8 x9 x10 w Q) : P6_1 x5 x6 x7 x8 x9 x10 w Q :=
  have e : evC Try.prog (entR 3 143) 6 186 H6 Q (nav [1, 1, 1, 1, 1, 1, 1, 0, 1, 4, 5, 1, 1] C6) [.lp (nav [1, 1, 1, 1, 1, 1, 1, 0, 1, 4, 5] C6), .blk 0, .jn (nav [1, 1, 1, 1, 1, 1, 1, 1] C6)] (unpack [5, 6, 7, 8, 9, 10] [x5, x6, x7, x8, x9, x10]) w (contT Try.prog (entR 3 143) 6 186 H6 Try.f6.results.toList Q [.lp (nav [1, 1, 1, 1, 1, 1, 1, 0, 1, 4, 5] C6), .blk 0, .jn (nav [1, 1, 1, 1, 1, 1, 1, 1] C6)]) = L6_1 x5 x6 x7 x8 x9 x10 w Q := by kernel_rfl
  part_jn (fn := Try.f6) mixed entOk Try.func6 H6 (c := (nav [1, 1, 1, 1, 1, 1, 1, 0, 1, 4, 5, 1, 1] C6)) (t := [.lp (nav [1, 1, 1, 1, 1, 1, 1, 0, 1, 4, 5] C6), .blk 0, .jn (nav [1, 1, 1, 1, 1, 1, 1, 1] C6)]) (e.mpr h)
theorem L6_2_ok {x5 x6 x7 x15 x16 : Value} {w : World} {Q : Value → World → Prop} (h : L6_2 x5 x6 x7 x15 x16 w Q) : P6_2 x5 x6 x7 x15 x16 w Q :=
  have e : evC Try.prog (entR 3 143) 6 186 H6 Q (nav [1, 1, 1, 1, 1, 1, 1, 1, 1, 1, 1, 1, 0, 1, 4, 5] C6) T6_2 (unpack [5, 6, 7, 15, 16] [x5, x6, x7, x15, x16]) w (contT Try.prog (entR 3 143) 6 186 H6 Try.f6.results.toList Q T6_2) = L6_2 x5 x6 x7 x15 x16 w Q := by kernel_rfl
  part_lp (fn := Try.f6) mixed entOk Try.func6 H6 (c := (nav [1, 1, 1, 1, 1, 1, 1, 1, 1, 1, 1, 1, 0, 1, 4, 5] C6)) (t := [.blk 2, .jn (nav [1, 1, 1, 1, 1, 1, 1, 1, 1, 1, 1, 1, 1] C6)]) (e.mpr h)
theorem L6_3_ok {x5 x6 x7 x17 x18 x19 : Value} {w : World} {Q : Value → World → Prop} (h : L6_3 x5 x6 x7 x17 x18 x19 w Q) : P6_3 x5 x6 x7 x17 x18 x19 w Q :=
  have e : evC Try.prog (entR 3 143) 6 186 H6 Q (nav [1, 1, 1, 1, 1, 1, 1, 1, 1, 1, 1, 1, 1, 1, 1, 0, 1, 4, 5] C6) T6_3 (unpack [5, 6, 7, 17, 18, 19] [x5, x6, x7, x17, x18, x19]) w (contT Try.prog (entR 3 143) 6 186 H6 Try.f6.results.toList Q T6_3) = L6_3 x5 x6 x7 x17 x18 x19 w Q := by kernel_rfl
  part_lp (fn := Try.f6) mixed entOk Try.func6 H6 (c := (nav [1, 1, 1, 1, 1, 1, 1, 1, 1, 1, 1, 1, 1, 1, 1, 0, 1, 4, 5] C6)) (t := [.blk 4, .jn (nav [1, 1, 1, 1, 1, 1, 1, 1, 1, 1, 1, 1, 1, 1, 1, 1] C6)]) (e.mpr h)

/-! ### rundale/rundalelaw20.first: function 14 -/
noncomputable def C14 : Code := (Try.f14.body).getD .skip
noncomputable def H14 : Hints := ⟨[], [], []⟩
def F14 (w : World) (Q : Value → World → Prop) : Prop :=
  effv Try.prog (Instr.buildSlice 28 6 #[(0, (Go.Value.int Go.IntKind.u8 1)), (1, (Go.Value.int Go.IntKind.u8 1)), (2, (Go.Value.int Go.IntKind.u8 0)), (3, (Go.Value.int Go.IntKind.u8 3)), (4, (Go.Value.int Go.IntKind.u8 0)), (5, (Go.Value.int Go.IntKind.u8 0))]) w fun t2 w =>
  CallR Try.prog 20 [t2] w fun t3 w =>
  effv Try.prog (Instr.alloc 25 true (.tuple #[])) w fun t1 w =>
  effu Try.prog (Instr.storeAt 25 t1 t3) w fun w =>
  wpB (pureRun Try.prog (Instr.fieldAt 25 t1 0)) fun t4 =>
  wpB (ldv Try.prog 22 t4 w) fun t5 =>
  wpB (pureRun Try.prog (Builtin.len_ #[22] 3 #[t5])) fun t6 =>
  wpB (be Try.prog .eql 3 (.tmp 6) (.const (Go.Value.int Go.IntKind.i64 1)) t6 (Go.Value.int Go.IntKind.i64 1)) fun t7 =>
  wpB (gd t7 true (pureRun Try.prog (Instr.fieldAt 25 t1 0))) fun t9 =>
  wpB (gd t7 true (ldv Try.prog 22 t9 w)) fun t10 =>
  wpB (gd t7 true (pureRun Try.prog (Instr.indexAt 22 t10 (Go.Value.int Go.IntKind.i64 0)))) fun t11 =>
  wpB (gd t7 true (ldv Try.prog 27 t11 w)) fun t12 =>
  wpB (gd t7 true (pureRun Try.prog (Builtin.len_ #[27] 3 #[t12]))) fun t13 =>
  wpB (gd t7 true (be Try.prog .eql 3 (.tmp 13) (.const (Go.Value.int Go.IntKind.i64 1)) t13 (Go.Value.int Go.IntKind.i64 1))) fun t14 =>
  wpB (pickv t7 (some t14) (some (Go.Value.bool false))) fun t15 =>
  wpB (gd t15 true (pureRun Try.prog (Instr.fieldAt 25 t1 0))) fun t17 =>
  wpB (gd t15 true (ldv Try.prog 22 t17 w)) fun t18 =>
  wpB (gd t15 true (pureRun Try.prog (Instr.indexAt 22 t18 (Go.Value.int Go.IntKind.i64 0)))) fun t19 =>
  wpB (gd t15 true (ldv Try.prog 27 t19 w)) fun t20 =>
  wpB (gd t15 true (pureRun Try.prog (Instr.indexAt 27 t20 (Go.Value.int Go.IntKind.i64 0)))) fun t21 =>
  wpB (gd t15 true (ldv Try.prog 40 t21 w)) fun t22 =>
  wpB (gd t15 true (pureRun Try.prog (Instr.build 40 #[(0, (Go.Value.int Go.IntKind.i64 3))]))) fun t23 =>
  wpB (gd t15 true (be Try.prog .eql 40 (.tmp 22) (.tmp 23) t22 t23)) fun t24 =>
  wpB (pickv t15 (some t24) (some (Go.Value.bool false))) fun t25 =>
  wpB (gd t25 true (pureRun Try.prog (Instr.fieldAt 25 t1 1))) fun t27 =>
  wpB (gd t25 true (ldv Try.prog 23 t27 w)) fun t28 =>
  wpB (gd t25 true (pureRun Try.prog (Builtin.len_ #[23] 3 #[t28]))) fun t29 =>
  wpB (gd t25 true (be Try.prog .eql 3 (.tmp 29) (.const (Go.Value.int Go.IntKind.i64 2)) t29 (Go.Value.int Go.IntKind.i64 2))) fun t30 =>
  wpB (pickv t25 (some t30) (some (Go.Value.bool false))) fun t31 =>
  wpB (gd t31 true (pureRun Try.prog (Instr.fieldAt 25 t1 1))) fun t33 =>
  wpB (gd t31 true (ldv Try.prog 23 t33 w)) fun t34 =>
  wpB (gd t31 true (pureRun Try.prog (Instr.indexAt 23 t34 (Go.Value.int Go.IntKind.i64 0)))) fun t35 =>
  wpB (gd t31 true (ldv Try.prog 3 t35 w)) fun t36 =>
  wpB (gd t31 true (be Try.prog .eql 3 (.tmp 36) (.const (Go.Value.int Go.IntKind.i64 0)) t36 (Go.Value.int Go.IntKind.i64 0))) fun t37 =>
  wpB (pickv t31 (some t37) (some (Go.Value.bool false))) fun t38 =>
  wpB (gd t38 true (pureRun Try.prog (Instr.fieldAt 25 t1 1))) fun t40 =>
  wpB (gd t38 true (ldv Try.prog 23 t40 w)) fun t41 =>
  wpB (gd t38 true (pureRun Try.prog (Instr.indexAt 23 t41 (Go.Value.int Go.IntKind.i64 1)))) fun t42 =>
  wpB (gd t38 true (ldv Try.prog 3 t42 w)) fun t43 =>
  wpB (gd t38 true (be Try.prog .eql 3 (.tmp 43) (.const (Go.Value.int Go.IntKind.i64 0)) t43 (Go.Value.int Go.IntKind.i64 0))) fun t44 =>
  wpB (pickv t38 (some t44) (some (Go.Value.bool false))) fun t45 =>
  wpB (gd t45 true (ldv Try.prog 25 t1 w)) fun t47 =>
  gE t45 true (CallR Try.prog 17 [t47] w) (fun t48 w =>
  wpB (pickv t45 (some t48) (some (Go.Value.bool false))) fun t49 =>
  Q t49 w) w
theorem F14_ok {w : World} {Q : Value → World → Prop} (h : F14  w Q) : CallR Try.prog 14 [] w Q :=
  have e : evC Try.prog (entR 3 143) 14 50 H14 Q C14 [] (entryE 0 []) w (contT Try.prog (entR 3 143) 14 50 H14 Try.f14.results.toList Q []) = F14  w Q := by kernel_rfl
  call_of (fn := Try.f14) mixed entOk Try.func14 (c := C14) rfl H14 (Nat.le_of_ble_eq_true rfl) (e.mpr h)

/-! ### rundale/script.Put: function 15 -/
noncomputable def C15 : Code := (Try.f15.body).getD .skip
noncomputable def H15 : Hints := ⟨[(5, [1, 4, 24, 25, 26]), (9, [1, 4, 24, 25, 26, 35, 36, 37]), (26, [4, 88, 89, 90])], [(17, [1, 4, 8, 10, 11, 12, 24, 25, 26, 35, 36, 37]), (19, [1, 4, 8, 11, 12, 24, 25, 26, 35, 36, 37]), (21, [1, 4, 8, 12, 24, 25, 26, 35, 36, 37]), (23, [1, 4, 24, 25, 26, 35, 36, 37])], [(16, (.ask 7 5 (.leaf [0, 1, 6, 2, 3, 7, 8, 4, 5, 9, 10]) (.leaf [0, 1, 2, 3, 4, 5, 6, 7, 8, 9, 10])))]⟩
noncomputable def T15_0 : List It := [.lp (nav [1, 1, 1, 0, 1, 4, 5] C15), .blk 0, .jn (nav [1, 1, 1, 1] C15)]
noncomputable def T15_1 : List It := [.lp (nav [1, 1, 1, 0, 1, 4, 5, 1, 1, 0, 4, 1, 1, 1, 4, 5] C15), .blk 2, .blk 1, .jn (nav [1, 1, 1, 0, 1, 4, 5, 1, 1, 1] C15), .lp (nav [1, 1, 1, 0, 1, 4, 5] C15), .blk 0, .jn (nav [1, 1, 1, 1] C15)]
noncomputable def T15_2 : List It := [.lp (nav [1, 1, 1, 1, 0, 1, 4, 5] C15), .blk 4, .jn (nav [1, 1, 1, 1, 1] C15)]
noncomputable def T15_3 : List It := [.jn (nav [1, 1, 1, 0, 1, 4, 5, 1, 1, 0, 4, 1, 1, 1, 4, 5, 1, 1, 0, 4, 1, 1, 1, 1, 1] C15), .blk 3, .jn (nav [1, 1, 1, 0, 1, 4, 5, 1, 1, 0, 4, 1, 1, 1, 4, 5, 1, 1, 1] C15), .lp (nav [1, 1, 1, 0, 1, 4, 5, 1, 1, 0, 4, 1, 1, 1, 4, 5] C15), .blk 2, .blk 1, .jn (nav [1, 1, 1, 0, 1, 4, 5, 1, 1, 1] C15), .lp (nav [1, 1, 1, 0, 1, 4, 5] C15), .blk 0, .jn (nav [1, 1, 1, 1] C15)]
noncomputable def T15_4 : List It := [.jn (nav [1, 1, 1, 0, 1, 4, 5, 1, 1, 0, 4, 1, 1, 1, 4, 5, 1, 1, 0, 4, 1, 1, 1, 1, 1, 1] C15), .blk 3, .jn (nav [1, 1, 1, 0, 1, 4, 5, 1, 1, 0, 4, 1, 1, 1, 4, 5, 1, 1, 1] C15), .lp (nav [1, 1, 1, 0, 1, 4, 5, 1, 1, 0, 4, 1, 1, 1, 4, 5] C15), .blk 2, .blk 1, .jn (nav [1, 1, 1, 0, 1, 4, 5, 1, 1, 1] C15), .lp (nav [1, 1, 1, 0, 1, 4, 5] C15), .blk 0, .jn (nav [1, 1, 1, 1] C15)]
noncomputable def T15_5 : List It := [.jn (nav [1, 1, 1, 0, 1, 4, 5, 1, 1, 0, 4, 1, 1, 1, 4, 5, 1, 1, 0, 4, 1, 1, 1, 1, 1, 1, 1] C15), .blk 3, .jn (nav [1, 1, 1, 0, 1, 4, 5, 1, 1, 0, 4, 1, 1, 1, 4, 5, 1, 1, 1] C15), .lp (nav [1, 1, 1, 0, 1, 4, 5, 1, 1, 0, 4, 1, 1, 1, 4, 5] C15), .blk 2, .blk 1, .jn (nav [1, 1, 1, 0, 1, 4, 5, 1, 1, 1] C15), .lp (nav [1, 1, 1, 0, 1, 4, 5] C15), .blk 0, .jn (nav [1, 1, 1, 1] C15)]
noncomputable def T15_6 : List It := [.jn (nav [1, 1, 1, 0, 1, 4, 5, 1, 1, 0, 4, 1, 1, 1, 4, 5, 1, 1, 1] C15), .lp (nav [1, 1, 1, 0, 1, 4, 5, 1, 1, 0, 4, 1, 1, 1, 4, 5] C15), .blk 2, .blk 1, .jn (nav [1, 1, 1, 0, 1, 4, 5, 1, 1, 1] C15), .lp (nav [1, 1, 1, 0, 1, 4, 5] C15), .blk 0, .jn (nav [1, 1, 1, 1] C15)]
/-- rundale/script.Put, from a loop's head on -/
def P15_0 (x1 x4 x24 x25 x26 : Value) (w : World) (Q : Value → World → Prop) : Prop := Part Try.prog 15 T15_0 [1, 4, 24, 25, 26] [x1, x4, x24, x25, x26] w Q
/-- rundale/script.Put, from a loop's head on -/
def P15_1 (x1 x4 x24 x25 x26 x35 x36 x37 : Value) (w : World) (Q : Value → World → Prop) : Prop := Part Try.prog 15 T15_1 [1, 4, 24, 25, 26, 35, 36, 37] [x1, x4, x24, x25, x26, x35, x36, x37] w Q
/-- rundale/script.Put, from a loop's head on -/
def P15_2 (x4 x88 x89 x90 : Value) (w : World) (Q : Value → World → Prop) : Prop := Part Try.prog 15 T15_2 [4, 88, 89, 90] [x4, x88, x89, x90] w Q
/-- rundale/script.Put, from a join on -/
def P15_3 (x1 x4 x8 x10 x11 x12 x24 x25 x26 x35 x36 x37 : Value) (w : World) (Q : Value → World → Prop) : Prop := Part Try.prog 15 T15_3 [1, 4, 8, 10, 11, 12, 24, 25, 26, 35, 36, 37] [x1, x4, x8, x10, x11, x12, x24, x25, x26, x35, x36, x37] w Q
/-- rundale/script.Put, from a join on -/
def P15_4 (x1 x4 x8 x11 x12 x24 x25 x26 x35 x36 x37 : Value) (w : World) (Q : Value → World → Prop) : Prop := Part Try.prog 15 T15_4 [1, 4, 8, 11, 12, 24, 25, 26, 35, 36, 37] [x1, x4, x8, x11, x12, x24, x25, x26, x35, x36, x37] w Q
/-- rundale/script.Put, from a join on -/
def P15_5 (x1 x4 x8 x12 x24 x25 x26 x35 x36 x37 : Value) (w : World) (Q : Value → World → Prop) : Prop := Part Try.prog 15 T15_5 [1, 4, 8, 12, 24, 25, 26, 35, 36, 37] [x1, x4, x8, x12, x24, x25, x26, x35, x36, x37] w Q
/-- rundale/script.Put, from a join on -/
def P15_6 (x1 x4 x24 x25 x26 x35 x36 x37 : Value) (w : World) (Q : Value → World → Prop) : Prop := Part Try.prog 15 T15_6 [1, 4, 24, 25, 26, 35, 36, 37] [x1, x4, x24, x25, x26, x35, x36, x37] w Q
def F15 (a0 : Value) (w : World) (Q : Value → World → Prop) : Prop :=
  effv Try.prog (Instr.box 25 a0) w fun t1 w =>
  wpB (ldv Try.prog 25 t1 w) fun t15 =>
  CallR Try.prog 17 [t15] w fun t16 w =>
  wpB (pureRun Try.prog (Op.unary .not t16)) fun t17 =>
  cnd t17
  (Q (.tuple #[(Go.Value.slice none 0 0), (Go.Value.int Go.IntKind.i64 11)]) w)
  (wpB (pureRun Try.prog (Instr.fieldAt 25 t1 0)) fun t18 =>
  wpB (ldv Try.prog 22 t18 w) fun t19 =>
  wpB (pureRun Try.prog (Builtin.len_ #[22] 3 #[t19])) fun t20 =>
  wpB (pureRun Try.prog (convert 3 5 t20)) fun t21 =>
  effv Try.prog (Instr.buildSlice 28 1 #[(0, t21)]) w fun t22 w =>
  wpB (pureRun Try.prog (Instr.fieldAt 25 t1 0)) fun t23 =>
  wpB (ldv Try.prog 22 t23 w) fun t24 =>
  wpB (pureRun Try.prog (Builtin.len_ #[22] 3 #[t24])) fun t25 =>
  P15_0 t1 t22 t24 t25 (Go.Value.int Go.IntKind.i64 0) w Q)
def L15_0 (x1 x4 x24 x25 x26 : Value) (w : World) (Q : Value → World → Prop) : Prop :=
  wpB (bp Try.prog .lss 3 x26 x25) fun t27 =>
  cnd t27
  (wpB (pureRun Try.prog (Instr.indexAt 22 x24 x26)) fun t28 =>
  wpB (ldv Try.prog 27 t28 w) fun t29 =>
  wpB (pureRun Try.prog (Builtin.len_ #[27] 3 #[t29])) fun t32 =>
  wpB (pureRun Try.prog (convert 3 38 t32)) fun t33 =>
  CallR Try.prog 59 [x4, t33, (Go.Value.int Go.IntKind.i64 2)] w fun t34 w =>
  wpB (pureRun Try.prog (Builtin.len_ #[27] 3 #[t29])) fun t36 =>
  P15_1 x1 t34 x24 x25 x26 t29 t36 (Go.Value.int Go.IntKind.i64 0) w Q)
  (wpB (pureRun Try.prog (Instr.fieldAt 25 x1 1)) fun t87 =>
  wpB (ldv Try.prog 23 t87 w) fun t88 =>
  wpB (pureRun Try.prog (Builtin.len_ #[23] 3 #[t88])) fun t89 =>
  P15_2 x4 t88 t89 (Go.Value.int Go.IntKind.i64 0) w Q)
def L15_1 (x1 x4 x24 x25 x26 x35 x36 x37 : Value) (w : World) (Q : Value → World → Prop) : Prop :=
  wpB (bp Try.prog .lss 3 x37 x36) fun t38 =>
  cnd t38
  (wpB (pureRun Try.prog (Instr.indexAt 27 x35 x37)) fun t39 =>
  wpB (ldv Try.prog 40 t39 w) fun t40 =>
  effv Try.prog (Instr.alloc 40 true (.tuple #[])) w fun t8 w =>
  effu Try.prog (Instr.storeAt 40 t8 t40) w fun w =>
  wpB (ldv Try.prog 40 t8 w) fun t41 =>
  CallR Try.prog 60 [t41] w fun t42 w =>
  wpB (pureRun Try.prog (Op.unary .not t42)) fun t43 =>
  cnd t43
  (Q (.tuple #[(Go.Value.slice none 0 0), (Go.Value.int Go.IntKind.i64 10)]) w)
  (wpB (pureRun Try.prog (Instr.fieldAt 40 t8 0)) fun t45 =>
  wpB (ldv Try.prog 3 t45 w) fun t46 =>
  CallR Try.prog 61 [t46] w fun t47 w =>
  wpB (pureRun Try.prog (Instr.extract t47 0)) fun t48 =>
  wpB (pureRun Try.prog (Instr.extract t47 1)) fun t49 =>
  wpB (pureRun Try.prog (Instr.extract t47 2)) fun t50 =>
  wpB (pureRun Try.prog (Instr.extract t47 3)) fun t51 =>
  wpB (pureRun Try.prog (Instr.fieldAt 40 t8 0)) fun t53 =>
  wpB (ldv Try.prog 3 t53 w) fun t54 =>
  wpB (pureRun Try.prog (convert 3 5 t54)) fun t55 =>
  effv Try.prog (Instr.buildSlice 28 1 #[(0, t55)]) w fun t56 w =>
  effv Try.prog (Builtin.append_ #[28, 28] 28 #[x4, t56]) w fun t57 w =>
  cnd t48
  ((wpB (pureRun Try.prog (Instr.fieldAt 40 t8 1)) fun t60 =>
  wpB (pureRun Try.prog (Instr.fieldAt 40 t8 2)) fun t65 =>
  wpB (ldv Try.prog 3 t60 w.drew) fun t61 =>
  wpB (pureRun Try.prog (convert 3 5 t61)) fun t62 =>
  wpB (ldv Try.prog 3 t65 w.drew) fun t66 =>
  wpB (pureRun Try.prog (convert 3 38 t66)) fun t67 =>
  effv Try.prog (Instr.buildSlice 28 1 #[(0, t62)]) w.drew fun t63 w =>
  effv Try.prog (Builtin.append_ #[28, 28] 28 #[t57, t63]) w fun t64 w =>
  CallR Try.prog 59 [t64, t67, (Go.Value.int Go.IntKind.i64 2)] w fun t68 w =>
  P15_3 x1 t68 t8 t49 t50 t51 x24 x25 x26 x35 x36 x37 w Q) ∧
  (wpB (pureRun Try.prog (Instr.fieldAt 40 t8 1)) fun t60_1 =>
  wpB (ldv Try.prog 3 t60_1 w.drew) fun t61_1 =>
  wpB (pureRun Try.prog (convert 3 5 t61_1)) fun t62_1 =>
  effv Try.prog (Instr.buildSlice 28 1 #[(0, t62_1)]) w.drew fun t63_1 w =>
  effv Try.prog (Builtin.append_ #[28, 28] 28 #[t57, t63_1]) w fun t64_1 w =>
  wpB (pureRun Try.prog (Instr.fieldAt 40 t8 2)) fun t65_1 =>
  wpB (ldv Try.prog 3 t65_1 w) fun t66_1 =>
  wpB (pureRun Try.prog (convert 3 38 t66_1)) fun t67_1 =>
  CallR Try.prog 59 [t64_1, t67_1, (Go.Value.int Go.IntKind.i64 2)] w fun t68_1 w =>
  P15_3 x1 t68_1 t8 t49 t50 t51 x24 x25 x26 x35 x36 x37 w Q))
  (P15_3 x1 t57 t8 t49 t50 t51 x24 x25 x26 x35 x36 x37 w Q)))
  (wpB (bp Try.prog .add 3 x26 (Go.Value.int Go.IntKind.i64 1)) fun t86 =>
  P15_0 x1 x4 x24 x25 t86 w Q)
def L15_2 (x4 x88 x89 x90 : Value) (w : World) (Q : Value → World → Prop) : Prop :=
  wpB (bp Try.prog .lss 3 x90 x89) fun t91 =>
  cnd t91
  (wpB (pureRun Try.prog (Instr.indexAt 23 x88 x90)) fun t92 =>
  wpB (ldv Try.prog 3 t92 w) fun t93 =>
  wpB (bp Try.prog .lss 3 t93 (Go.Value.int Go.IntKind.i64 0)) fun t95 =>
  wpB (gd t95 false (bp Try.prog .gtr 3 (gv t95 false t93) (Go.Value.int Go.IntKind.i64 255))) fun t98 =>
  wpB (pickv t95 (some (Go.Value.bool true)) (some t98)) fun t99 =>
  cnd t99
  (Q (.tuple #[(Go.Value.slice none 0 0), (Go.Value.int Go.IntKind.i64 10)]) w)
  (wpB (pureRun Try.prog (convert 3 5 t93)) fun t102 =>
  effv Try.prog (Instr.buildSlice 28 1 #[(0, t102)]) w fun t103 w =>
  effv Try.prog (Builtin.append_ #[28, 28] 28 #[x4, t103]) w fun t104 w =>
  wpB (bp Try.prog .add 3 x90 (Go.Value.int Go.IntKind.i64 1)) fun t105 =>
  P15_2 t104 x88 x89 t105 w Q))
  (Q (.tuple #[x4, (Go.Value.int Go.IntKind.i64 0)]) w)
def L15_3 (x1 x4 x8 x10 x11 x12 x24 x25 x26 x35 x36 x37 : Value) (w : World) (Q : Value → World → Prop) : Prop :=
  cnd x10
  (wpB (pureRun Try.prog (Instr.fieldAt 40 x8 3)) fun t71 =>
  wpB (ldv Try.prog 3 t71 w) fun t72 =>
  wpB (pureRun Try.prog (convert 3 38 t72)) fun t73 =>
  CallR Try.prog 59 [x4, t73, (Go.Value.int Go.IntKind.i64 2)] w fun t74 w =>
  P15_4 x1 t74 x8 x11 x12 x24 x25 x26 x35 x36 x37 w Q)
  (P15_4 x1 x4 x8 x11 x12 x24 x25 x26 x35 x36 x37 w Q)
def L15_4 (x1 x4 x8 x11 x12 x24 x25 x26 x35 x36 x37 : Value) (w : World) (Q : Value → World → Prop) : Prop :=
  cnd x11
  (wpB (pureRun Try.prog (Instr.fieldAt 40 x8 4)) fun t77 =>
  wpB (ldv Try.prog 38 t77 w) fun t78 =>
  CallR Try.prog 59 [x4, t78, (Go.Value.int Go.IntKind.i64 8)] w fun t79 w =>
  P15_5 x1 t79 x8 x12 x24 x25 x26 x35 x36 x37 w Q)
  (P15_5 x1 x4 x8 x12 x24 x25 x26 x35 x36 x37 w Q)
def L15_5 (x1 x4 x8 x12 x24 x25 x26 x35 x36 x37 : Value) (w : World) (Q : Value → World → Prop) : Prop :=
  cnd x12
  (wpB (pureRun Try.prog (Instr.fieldAt 40 x8 5)) fun t82 =>
  wpB (ldv Try.prog 38 t82 w) fun t83 =>
  CallR Try.prog 59 [x4, t83, (Go.Value.int Go.IntKind.i64 8)] w fun t84 w =>
  P15_6 x1 t84 x24 x25 x26 x35 x36 x37 w Q)
  (P15_6 x1 x4 x24 x25 x26 x35 x36 x37 w Q)
def L15_6 (x1 x4 x24 x25 x26 x35 x36 x37 : Value) (w : World) (Q : Value → World → Prop) : Prop :=
  wpB (bp Try.prog .add 3 x37 (Go.Value.int Go.IntKind.i64 1)) fun t85 =>
  P15_1 x1 x4 x24 x25 x26 x35 x36 t85 w Q
theorem F15_ok {a0 : Value} {w : World} {Q : Value → World → Prop} (h : F15 a0 w Q) : CallR Try.prog 15 [a0] w Q :=
  have e : evC Try.prog (entR 3 143) 15 107 H15 Q C15 [] (entryE 0 [a0]) w (contT Try.prog (entR 3 143) 15 107 H15 Try.f15.results.toList Q []) = F15 a0 w Q := by kernel_rfl
  call_of (fn := Try.f15) mixed entOk Try.func15 (c := C15) rfl H15 (Nat.le_of_ble_eq_true rfl) (e.mpr h)
theorem L15_0_ok {x1 x4 x24 x25 x26 : Value} {w : World} {Q : Value → World → Prop} (h : L15_0 x1 x4 x24 x25 x26 w Q) : P15_0 x1 x4 x24 x25 x26 w Q :=
  have e : evC Try.prog (entR 3 143) 15 107 H15 Q (nav [1, 1, 1, 0, 1, 4, 5] C15) T15_0 (unpack [1, 4, 24, 25, 26] [x1, x4, x24, x25, x26]) w (contT Try.prog (entR 3 143) 15 107 H15 Try.f15.results.toList Q T15_0) = L15_0 x1 x4 x24 x25 x26 w Q := by kernel_rfl
  part_lp (fn := Try.f15) mixed entOk Try.func15 H15 (c := (nav [1, 1, 1, 0, 1, 4, 5] C15)) (t := [.blk 0, .jn (nav [1, 1, 1, 1] C15)]) (e.mpr h)
theorem L15_1_ok {x1 x4 x24 x25 x26 x35 x36 x37 : Value} {w : World} {Q : Value → World → Prop} (h : L15_1 x1 x4 x24 x25 x26 x35 x36 x37 w Q) : P15_1 x1 x4 x24 x25 x26 x35 x36 x37 w Q :=
  have e : evC Try.prog (entR 3 143) 15 107 H15 Q (nav [1, 1, 1, 0, 1, 4, 5, 1, 1, 0, 4, 1, 1, 1, 4, 5] C15) T15_1 (unpack [1, 4, 24, 25, 26, 35, 36, 37] [x1, x4, x24, x25, x26, x35, x36, x37]) w (contT Try.prog (entR 3 143) 15 107 H15 Try.f15.results.toList Q T15_1) = L15_1 x1 x4 x24 x25 x26 x35 x36 x37 w Q := by kernel_rfl
  part_lp (fn := Try.f15) mixed entOk Try.func15 H15 (c := (nav [1, 1, 1, 0, 1, 4, 5, 1, 1, 0, 4, 1, 1, 1, 4, 5] C15)) (t := [.blk 2, .blk 1, .jn (nav [1, 1, 1, 0, 1, 4, 5, 1, 1, 1] C15), .lp (nav [1, 1, 1, 0, 1, 4, 5] C15), .blk 0, .jn (nav [1, 1, 1, 1] C15)]) (e.mpr h)
theorem L15_2_ok {x4 x88 x89 x90 : Value} {w : World} {Q : Value → World → Prop} (h : L15_2 x4 x88 x89 x90 w Q) : P15_2 x4 x88 x89 x90 w Q :=
  have e : evC Try.prog (entR 3 143) 15 107 H15 Q (nav [1, 1, 1, 1, 0, 1, 4, 5] C15) T15_2 (unpack [4, 88, 89, 90] [x4, x88, x89, x90]) w (contT Try.prog (entR 3 143) 15 107 H15 Try.f15.results.toList Q T15_2) = L15_2 x4 x88 x89 x90 w Q := by kernel_rfl
  part_lp (fn := Try.f15) mixed entOk Try.func15 H15 (c := (nav [1, 1, 1, 1, 0, 1, 4, 5] C15)) (t := [.blk 4, .jn (nav [1, 1, 1, 1, 1] C15)]) (e.mpr h)
theorem L15_3_ok {x1 x4 x8 x10 x11 x12 x24 x25 x26 x35 x36 x37 : Value} {w : World} {Q : Value → World → Prop} (h : L15_3 x1 x4 x8 x10 x11 x12 x24 x25 x26 x35 x36 x37 w Q) : P15_3 x1 x4 x8 x10 x11 x12 x24 x25 x26 x35 x36 x37 w Q :=
  have e : evC Try.prog (entR 3 143) 15 107 H15 Q (nav [1, 1, 1, 0, 1, 4, 5, 1, 1, 0, 4, 1, 1, 1, 4, 5, 1, 1, 0, 4, 1, 1, 1, 1, 1] C15) [.blk 3, .jn (nav [1, 1, 1, 0, 1, 4, 5, 1, 1, 0, 4, 1, 1, 1, 4, 5, 1, 1, 1] C15), .lp (nav [1, 1, 1, 0, 1, 4, 5, 1, 1, 0, 4, 1, 1, 1, 4, 5] C15), .blk 2, .blk 1, .jn (nav [1, 1, 1, 0, 1, 4, 5, 1, 1, 1] C15), .lp (nav [1, 1, 1, 0, 1, 4, 5] C15), .blk 0, .jn (nav [1, 1, 1, 1] C15)] (unpack [1, 4, 8, 10, 11, 12, 24, 25, 26, 35, 36, 37] [x1, x4, x8, x10, x11, x12, x24, x25, x26, x35, x36, x37]) w (contT Try.prog (entR 3 143) 15 107 H15 Try.f15.results.toList Q [.blk 3, .jn (nav [1, 1, 1, 0, 1, 4, 5, 1, 1, 0, 4, 1, 1, 1, 4, 5, 1, 1, 1] C15), .lp (nav [1, 1, 1, 0, 1, 4, 5, 1, 1, 0, 4, 1, 1, 1, 4, 5] C15), .blk 2, .blk 1, .jn (nav [1, 1, 1, 0, 1, 4, 5, 1, 1, 1] C15), .lp (nav [1, 1, 1, 0, 1, 4, 5] C15), .blk 0, .jn (nav [1, 1, 1, 1] C15)]) = L15_3 x1 x4 x8 x10 x11 x12 x24 x25 x26 x35 x36 x37 w Q := by kernel_rfl
  part_jn (fn := Try.f15) mixed entOk Try.func15 H15 (c := (nav [1, 1, 1, 0, 1, 4, 5, 1, 1, 0, 4, 1, 1, 1, 4, 5, 1, 1, 0, 4, 1, 1, 1, 1, 1] C15)) (t := [.blk 3, .jn (nav [1, 1, 1, 0, 1, 4, 5, 1, 1, 0, 4, 1, 1, 1, 4, 5, 1, 1, 1] C15), .lp (nav [1, 1, 1, 0, 1, 4, 5, 1, 1, 0, 4, 1, 1, 1, 4, 5] C15), .blk 2, .blk 1, .jn (nav [1, 1, 1, 0, 1, 4, 5, 1, 1, 1] C15), .lp (nav [1, 1, 1, 0, 1, 4, 5] C15), .blk 0, .jn (nav [1, 1, 1, 1] C15)]) (e.mpr h)
theorem L15_4_ok {x1 x4 x8 x11 x12 x24 x25 x26 x35 x36 x37 : Value} {w : World} {Q : Value → World → Prop} (h : L15_4 x1 x4 x8 x11 x12 x24 x25 x26 x35 x36 x37 w Q) : P15_4 x1 x4 x8 x11 x12 x24 x25 x26 x35 x36 x37 w Q :=
  have e : evC Try.prog (entR 3 143) 15 107 H15 Q (nav [1, 1, 1, 0, 1, 4, 5, 1, 1, 0, 4, 1, 1, 1, 4, 5, 1, 1, 0, 4, 1, 1, 1, 1, 1, 1] C15) [.blk 3, .jn (nav [1, 1, 1, 0, 1, 4, 5, 1, 1, 0, 4, 1, 1, 1, 4, 5, 1, 1, 1] C15), .lp (nav [1, 1, 1, 0, 1, 4, 5, 1, 1, 0, 4, 1, 1, 1, 4, 5] C15), .blk 2, .blk 1, .jn (nav [1, 1, 1, 0, 1, 4, 5, 1, 1, 1] C15), .lp (nav [1, 1, 1, 0, 1, 4, 5] C15), .blk 0, .jn (nav [1, 1, 1, 1] C15)] (unpack [1, 4, 8, 11, 12, 24, 25, 26, 35, 36, 37] [x1, x4, x8, x11, x12, x24, x25, x26, x35, x36, x37]) w (contT Try.prog (entR 3 143) 15 107 H15 Try.f15.results.toList Q [.blk 3, .jn (nav [1, 1, 1, 0, 1, 4, 5, 1, 1, 0, 4, 1, 1, 1, 4, 5, 1, 1, 1] C15), .lp (nav [1, 1, 1, 0, 1, 4, 5, 1, 1, 0, 4, 1, 1, 1, 4, 5] C15), .blk 2, .blk 1, .jn (nav [1, 1, 1, 0, 1, 4, 5, 1, 1, 1] C15), .lp (nav [1, 1, 1, 0, 1, 4, 5] C15), .blk 0, .jn (nav [1, 1, 1, 1] C15)]) = L15_4 x1 x4 x8 x11 x12 x24 x25 x26 x35 x36 x37 w Q := by kernel_rfl
  part_jn (fn := Try.f15) mixed entOk Try.func15 H15 (c := (nav [1, 1, 1, 0, 1, 4, 5, 1, 1, 0, 4, 1, 1, 1, 4, 5, 1, 1, 0, 4, 1, 1, 1, 1, 1, 1] C15)) (t := [.blk 3, .jn (nav [1, 1, 1, 0, 1, 4, 5, 1, 1, 0, 4, 1, 1, 1, 4, 5, 1, 1, 1] C15), .lp (nav [1, 1, 1, 0, 1, 4, 5, 1, 1, 0, 4, 1, 1, 1, 4, 5] C15), .blk 2, .blk 1, .jn (nav [1, 1, 1, 0, 1, 4, 5, 1, 1, 1] C15), .lp (nav [1, 1, 1, 0, 1, 4, 5] C15), .blk 0, .jn (nav [1, 1, 1, 1] C15)]) (e.mpr h)
theorem L15_5_ok {x1 x4 x8 x12 x24 x25 x26 x35 x36 x37 : Value} {w : World} {Q : Value → World → Prop} (h : L15_5 x1 x4 x8 x12 x24 x25 x26 x35 x36 x37 w Q) : P15_5 x1 x4 x8 x12 x24 x25 x26 x35 x36 x37 w Q :=
  have e : evC Try.prog (entR 3 143) 15 107 H15 Q (nav [1, 1, 1, 0, 1, 4, 5, 1, 1, 0, 4, 1, 1, 1, 4, 5, 1, 1, 0, 4, 1, 1, 1, 1, 1, 1, 1] C15) [.blk 3, .jn (nav [1, 1, 1, 0, 1, 4, 5, 1, 1, 0, 4, 1, 1, 1, 4, 5, 1, 1, 1] C15), .lp (nav [1, 1, 1, 0, 1, 4, 5, 1, 1, 0, 4, 1, 1, 1, 4, 5] C15), .blk 2, .blk 1, .jn (nav [1, 1, 1, 0, 1, 4, 5, 1, 1, 1] C15), .lp (nav [1, 1, 1, 0, 1, 4, 5] C15), .blk 0, .jn (nav [1, 1, 1, 1] C15)] (unpack [1, 4, 8, 12, 24, 25, 26, 35, 36, 37] [x1, x4, x8, x12, x24, x25, x26, x35, x36, x37]) w (contT Try.prog (entR 3 143) 15 107 H15 Try.f15.results.toList Q [.blk 3, .jn (nav [1, 1, 1, 0, 1, 4, 5, 1, 1, 0, 4, 1, 1, 1, 4, 5, 1, 1, 1] C15), .lp (nav [1, 1, 1, 0, 1, 4, 5, 1, 1, 0, 4, 1, 1, 1, 4, 5] C15), .blk 2, .blk 1, .jn (nav [1, 1, 1, 0, 1, 4, 5, 1, 1, 1] C15), .lp (nav [1, 1, 1, 0, 1, 4, 5] C15), .blk 0, .jn (nav [1, 1, 1, 1] C15)]) = L15_5 x1 x4 x8 x12 x24 x25 x26 x35 x36 x37 w Q := by kernel_rfl
  part_jn (fn := Try.f15) mixed entOk Try.func15 H15 (c := (nav [1, 1, 1, 0, 1, 4, 5, 1, 1, 0, 4, 1, 1, 1, 4, 5, 1, 1, 0, 4, 1, 1, 1, 1, 1, 1, 1] C15)) (t := [.blk 3, .jn (nav [1, 1, 1, 0, 1, 4, 5, 1, 1, 0, 4, 1, 1, 1, 4, 5, 1, 1, 1] C15), .lp (nav [1, 1, 1, 0, 1, 4, 5, 1, 1, 0, 4, 1, 1, 1, 4, 5] C15), .blk 2, .blk 1, .jn (nav [1, 1, 1, 0, 1, 4, 5, 1, 1, 1] C15), .lp (nav [1, 1, 1, 0, 1, 4, 5] C15), .blk 0, .jn (nav [1, 1, 1, 1] C15)]) (e.mpr h)
theorem L15_6_ok {x1 x4 x24 x25 x26 x35 x36 x37 : Value} {w : World} {Q : Value → World → Prop} (h : L15_6 x1 x4 x24 x25 x26 x35 x36 x37 w Q) : P15_6 x1 x4 x24 x25 x26 x35 x36 x37 w Q :=
  have e : evC Try.prog (entR 3 143) 15 107 H15 Q (nav [1, 1, 1, 0, 1, 4, 5, 1, 1, 0, 4, 1, 1, 1, 4, 5, 1, 1, 1] C15) [.lp (nav [1, 1, 1, 0, 1, 4, 5, 1, 1, 0, 4, 1, 1, 1, 4, 5] C15), .blk 2, .blk 1, .jn (nav [1, 1, 1, 0, 1, 4, 5, 1, 1, 1] C15), .lp (nav [1, 1, 1, 0, 1, 4, 5] C15), .blk 0, .jn (nav [1, 1, 1, 1] C15)] (unpack [1, 4, 24, 25, 26, 35, 36, 37] [x1, x4, x24, x25, x26, x35, x36, x37]) w (contT Try.prog (entR 3 143) 15 107 H15 Try.f15.results.toList Q [.lp (nav [1, 1, 1, 0, 1, 4, 5, 1, 1, 0, 4, 1, 1, 1, 4, 5] C15), .blk 2, .blk 1, .jn (nav [1, 1, 1, 0, 1, 4, 5, 1, 1, 1] C15), .lp (nav [1, 1, 1, 0, 1, 4, 5] C15), .blk 0, .jn (nav [1, 1, 1, 1] C15)]) = L15_6 x1 x4 x24 x25 x26 x35 x36 x37 w Q := by kernel_rfl
  part_jn (fn := Try.f15) mixed entOk Try.func15 H15 (c := (nav [1, 1, 1, 0, 1, 4, 5, 1, 1, 0, 4, 1, 1, 1, 4, 5, 1, 1, 1] C15)) (t := [.lp (nav [1, 1, 1, 0, 1, 4, 5, 1, 1, 0, 4, 1, 1, 1, 4, 5] C15), .blk 2, .blk 1, .jn (nav [1, 1, 1, 0, 1, 4, 5, 1, 1, 1] C15), .lp (nav [1, 1, 1, 0, 1, 4, 5] C15), .blk 0, .jn (nav [1, 1, 1, 1] C15)]) (e.mpr h)

/-! ### rundale/rundaleref18.PutScript: function 16 -/
noncomputable def C16 : Code := (Try.f16.body).getD .skip
noncomputable def H16 : Hints := ⟨[(5, [1, 4, 5]), (9, [1, 4, 5, 6]), (24, [1, 4, 8])], [(10, [1, 4, 5, 6]), (17, [1, 4, 5, 6, 7]), (19, [1, 4, 5, 6, 7]), (21, [1, 4, 5, 6, 7])], [(16, (.ask 7 5 (.leaf [0, 1, 6, 2, 3, 7, 8, 4, 5, 9, 10, 11]) (.leaf [0, 1, 2, 3, 4, 5, 6, 7, 8, 9, 10, 11])))]⟩
noncomputable def T16_0 : List It := [.lp (nav [1, 1, 1, 0, 1, 4, 5] C16), .blk 0, .jn (nav [1, 1, 1, 1] C16)]
noncomputable def T16_1 : List It := [.lp (nav [1, 1, 1, 0, 1, 4, 5, 1, 0, 4, 1, 1, 4, 5] C16), .blk 2, .blk 1, .jn (nav [1, 1, 1, 0, 1, 4, 5, 1, 1] C16), .lp (nav [1, 1, 1, 0, 1, 4, 5] C16), .blk 0, .jn (nav [1, 1, 1, 1] C16)]
noncomputable def T16_2 : List It := [.lp (nav [1, 1, 1, 1, 0, 1, 4, 5] C16), .blk 4, .jn (nav [1, 1, 1, 1, 1] C16)]
noncomputable def T16_3 : List It := [.jn (nav [1, 1, 1, 0, 1, 4, 5, 1, 0, 4, 1, 1, 4, 5, 1, 0, 4, 1, 1, 1, 1] C16), .blk 3, .jn (nav [1, 1, 1, 0, 1, 4, 5, 1, 0, 4, 1, 1, 4, 5, 1, 1] C16), .lp (nav [1, 1, 1, 0, 1, 4, 5, 1, 0, 4, 1, 1, 4, 5] C16), .blk 2, .blk 1, .jn (nav [1, 1, 1, 0, 1, 4, 5, 1, 1] C16), .lp (nav [1, 1, 1, 0, 1, 4, 5] C16), .blk 0, .jn (nav [1, 1, 1, 1] C16)]
noncomputable def T16_4 : List It := [.jn (nav [1, 1, 1, 0, 1, 4, 5, 1, 0, 4, 1, 1, 4, 5, 1, 0, 4, 1, 1, 1, 1, 1] C16), .blk 3, .jn (nav [1, 1, 1, 0, 1, 4, 5, 1, 0, 4, 1, 1, 4, 5, 1, 1] C16), .lp (nav [1, 1, 1, 0, 1, 4, 5, 1, 0, 4, 1, 1, 4, 5] C16), .blk 2, .blk 1, .jn (nav [1, 1, 1, 0, 1, 4, 5, 1, 1] C16), .lp (nav [1, 1, 1, 0, 1, 4, 5] C16), .blk 0, .jn (nav [1, 1, 1, 1] C16)]
noncomputable def T16_5 : List It := [.jn (nav [1, 1, 1, 0, 1, 4, 5, 1, 0, 4, 1, 1, 4, 5, 1, 0, 4, 1, 1, 1, 1, 1, 1] C16), .blk 3, .jn (nav [1, 1, 1, 0, 1, 4, 5, 1, 0, 4, 1, 1, 4, 5, 1, 1] C16), .lp (nav [1, 1, 1, 0, 1, 4, 5, 1, 0, 4, 1, 1, 4, 5] C16), .blk 2, .blk 1, .jn (nav [1, 1, 1, 0, 1, 4, 5, 1, 1] C16), .lp (nav [1, 1, 1, 0, 1, 4, 5] C16), .blk 0, .jn (nav [1, 1, 1, 1] C16)]
noncomputable def T16_6 : List It := [.jn (nav [1, 1, 1, 0, 1, 4, 5, 1, 0, 4, 1, 1, 4, 5, 1, 1] C16), .lp (nav [1, 1, 1, 0, 1, 4, 5, 1, 0, 4, 1, 1, 4, 5] C16), .blk 2, .blk 1, .jn (nav [1, 1, 1, 0, 1, 4, 5, 1, 1] C16), .lp (nav [1, 1, 1, 0, 1, 4, 5] C16), .blk 0, .jn (nav [1, 1, 1, 1] C16)]
/-- rundale/rundaleref18.PutScript, from a loop's head on -/
def P16_0 (x1 x4 x5 : Value) (w : World) (Q : Value → World → Prop) : Prop := Part Try.prog 16 T16_0 [1, 4, 5] [x1, x4, x5] w Q
/-- rundale/rundaleref18.PutScript, from a loop's head on -/
def P16_1 (x1 x4 x5 x6 : Value) (w : World) (Q : Value → World → Prop) : Prop := Part Try.prog 16 T16_1 [1, 4, 5, 6] [x1, x4, x5, x6] w Q
/-- rundale/rundaleref18.PutScript, from a loop's head on -/
def P16_2 (x1 x4 x8 : Value) (w : World) (Q : Value → World → Prop) : Prop := Part Try.prog 16 T16_2 [1, 4, 8] [x1, x4, x8] w Q
/-- rundale/rundaleref18.PutScript, from a join on -/
def P16_3 (x1 x4 x5 x6 x7 : Value) (w : World) (Q : Value → World → Prop) : Prop := Part Try.prog 16 T16_3 [1, 4, 5, 6, 7] [x1, x4, x5, x6, x7] w Q
/-- rundale/rundaleref18.PutScript, from a join on -/
def P16_4 (x1 x4 x5 x6 x7 : Value) (w : World) (Q : Value → World → Prop) : Prop := Part Try.prog 16 T16_4 [1, 4, 5, 6, 7] [x1, x4, x5, x6, x7] w Q
/-- rundale/rundaleref18.PutScript, from a join on -/
def P16_5 (x1 x4 x5 x6 x7 : Value) (w : World) (Q : Value → World → Prop) : Prop := Part Try.prog 16 T16_5 [1, 4, 5, 6, 7] [x1, x4, x5, x6, x7] w Q
/-- rundale/rundaleref18.PutScript, from a join on -/
def P16_6 (x1 x4 x5 x6 : Value) (w : World) (Q : Value → World → Prop) : Prop := Part Try.prog 16 T16_6 [1, 4, 5, 6] [x1, x4, x5, x6] w Q
def F16 (a0 : Value) (w : World) (Q : Value → World → Prop) : Prop :=
  effv Try.prog (Instr.box 25 a0) w fun t1 w =>
  wpB (ldv Try.prog 25 t1 w) fun t9 =>
  CallR Try.prog 18 [t9] w fun t10 w =>
  wpB (pureRun Try.prog (Op.unary .not t10)) fun t11 =>
  cnd t11
  (Q (.tuple #[(Go.Value.slice none 0 0), (Go.Value.int Go.IntKind.i64 11)]) w)
  (wpB (pureRun Try.prog (Instr.fieldAt 25 t1 0)) fun t12 =>
  wpB (ldv Try.prog 22 t12 w) fun t13 =>
  wpB (pureRun Try.prog (Builtin.len_ #[22] 3 #[t13])) fun t14 =>
  wpB (pureRun Try.prog (convert 3 5 t14)) fun t15 =>
  effv Try.prog (Instr.buildSlice 28 1 #[(0, t15)]) w fun t16 w =>
  P16_0 t1 t16 (Go.Value.int Go.IntKind.i64 0) w Q)
def L16_0 (x1 x4 x5 : Value) (w : World) (Q : Value → World → Prop) : Prop :=
  wpB (pureRun Try.prog (Instr.fieldAt 25 x1 0)) fun t18 =>
  wpB (ldv Try.prog 22 t18 w) fun t19 =>
  wpB (pureRun Try.prog (Builtin.len_ #[22] 3 #[t19])) fun t20 =>
  wpB (bp Try.prog .lss 3 x5 t20) fun t21 =>
  cnd t21
  (wpB (pureRun Try.prog (Instr.fieldAt 25 x1 0)) fun t25 =>
  wpB (ldv Try.prog 22 t25 w) fun t26 =>
  wpB (pureRun Try.prog (Instr.indexAt 22 t26 x5)) fun t28 =>
  wpB (ldv Try.prog 27 t28 w) fun t29 =>
  wpB (pureRun Try.prog (Builtin.len_ #[27] 3 #[t29])) fun t30 =>
  wpB (pureRun Try.prog (convert 3 38 t30)) fun t31 =>
  CallR Try.prog 62 [t31, (Go.Value.int Go.IntKind.i64 2)] w fun t32 w =>
  effv Try.prog (Builtin.append_ #[28, 28] 28 #[x4, t32]) w fun t33 w =>
  P16_1 x1 t33 x5 (Go.Value.int Go.IntKind.i64 0) w Q)
  (P16_2 x1 x4 (Go.Value.int Go.IntKind.i64 0) w Q)
def L16_1 (x1 x4 x5 x6 : Value) (w : World) (Q : Value → World → Prop) : Prop :=
  wpB (pureRun Try.prog (Instr.fieldAt 25 x1 0)) fun t35 =>
  wpB (ldv Try.prog 22 t35 w) fun t36 =>
  wpB (pureRun Try.prog (Instr.indexAt 22 t36 x5)) fun t38 =>
  wpB (ldv Try.prog 27 t38 w) fun t39 =>
  wpB (pureRun Try.prog (Builtin.len_ #[27] 3 #[t39])) fun t40 =>
  wpB (bp Try.prog .lss 3 x6 t40) fun t41 =>
  cnd t41
  (wpB (pureRun Try.prog (Instr.fieldAt 25 x1 0)) fun t44 =>
  wpB (ldv Try.prog 22 t44 w) fun t45 =>
  wpB (pureRun Try.prog (Instr.indexAt 22 t45 x5)) fun t47 =>
  wpB (ldv Try.prog 27 t47 w) fun t48 =>
  wpB (pureRun Try.prog (Instr.indexAt 27 t48 x6)) fun t50 =>
  wpB (ldv Try.prog 40 t50 w) fun t51 =>
  effv Try.prog (Instr.alloc 40 true (.tuple #[])) w fun t7 w =>
  effu Try.prog (Instr.storeAt 40 t7 t51) w fun w =>
  wpB (ldv Try.prog 40 t7 w) fun t52 =>
  CallR Try.prog 53 [t52] w fun t53 w =>
  wpB (pureRun Try.prog (Op.unary .not t53)) fun t54 =>
  cnd t54
  (Q (.tuple #[(Go.Value.slice none 0 0), (Go.Value.int Go.IntKind.i64 10)]) w)
  (wpB (pureRun Try.prog (Instr.fieldAt 40 t7 0)) fun t56 =>
  wpB (ldv Try.prog 3 t56 w) fun t57 =>
  wpB (pureRun Try.prog (convert 3 5 t57)) fun t58 =>
  effv Try.prog (Instr.buildSlice 28 1 #[(0, t58)]) w fun t59 w =>
  effv Try.prog (Builtin.append_ #[28, 28] 28 #[x4, t59]) w fun t60 w =>
  wpB (pureRun Try.prog (Instr.fieldAt 40 t7 0)) fun t61 =>
  wpB (ldv Try.prog 3 t61 w) fun t62 =>
  CallR Try.prog 63 [t62] w fun t63 w =>
  wpB (be Try.prog .neq 3 (.tmp 63) (.const (Go.Value.int Go.IntKind.i64 0)) t63 (Go.Value.int Go.IntKind.i64 0)) fun t64 =>
  cnd t64
  ((wpB (pureRun Try.prog (Instr.fieldAt 40 t7 1)) fun t66 =>
  wpB (pureRun Try.prog (Instr.fieldAt 40 t7 2)) fun t71 =>
  wpB (ldv Try.prog 3 t66 w.drew) fun t67 =>
  wpB (pureRun Try.prog (convert 3 5 t67)) fun t68 =>
  wpB (ldv Try.prog 3 t71 w.drew) fun t72 =>
  wpB (pureRun Try.prog (convert 3 38 t72)) fun t73 =>
  effv Try.prog (Instr.buildSlice 28 1 #[(0, t68)]) w.drew fun t69 w =>
  effv Try.prog (Builtin.append_ #[28, 28] 28 #[t60, t69]) w fun t70 w =>
  CallR Try.prog 62 [t73, (Go.Value.int Go.IntKind.i64 2)] w fun t74 w =>
  effv Try.prog (Builtin.append_ #[28, 28] 28 #[t70, t74]) w fun t75 w =>
  P16_3 x1 t75 x5 x6 t7 w Q) ∧
  (wpB (pureRun Try.prog (Instr.fieldAt 40 t7 1)) fun t66_1 =>
  wpB (ldv Try.prog 3 t66_1 w.drew) fun t67_1 =>
  wpB (pureRun Try.prog (convert 3 5 t67_1)) fun t68_1 =>
  effv Try.prog (Instr.buildSlice 28 1 #[(0, t68_1)]) w.drew fun t69_1 w =>
  effv Try.prog (Builtin.append_ #[28, 28] 28 #[t60, t69_1]) w fun t70_1 w =>
  wpB (pureRun Try.prog (Instr.fieldAt 40 t7 2)) fun t71_1 =>
  wpB (ldv Try.prog 3 t71_1 w) fun t72_1 =>
  wpB (pureRun Try.prog (convert 3 38 t72_1)) fun t73_1 =>
  CallR Try.prog 62 [t73_1, (Go.Value.int Go.IntKind.i64 2)] w fun t74_1 w =>
  effv Try.prog (Builtin.append_ #[28, 28] 28 #[t70_1, t74_1]) w fun t75_1 w =>
  P16_3 x1 t75_1 x5 x6 t7 w Q))
  (P16_3 x1 t60 x5 x6 t7 w Q)))
  (wpB (bp Try.prog .add 3 x5 (Go.Value.int Go.IntKind.i64 1)) fun t23 =>
  P16_0 x1 x4 t23 w Q)
def L16_2 (x1 x4 x8 : Value) (w : World) (Q : Value → World → Prop) : Prop :=
  wpB (pureRun Try.prog (Instr.fieldAt 25 x1 1)) fun t102 =>
  wpB (ldv Try.prog 23 t102 w) fun t103 =>
  wpB (pureRun Try.prog (Builtin.len_ #[23] 3 #[t103])) fun t104 =>
  wpB (bp Try.prog .lss 3 x8 t104) fun t105 =>
  cnd t105
  (wpB (pureRun Try.prog (Instr.fieldAt 25 x1 1)) fun t108 =>
  wpB (ldv Try.prog 23 t108 w) fun t109 =>
  wpB (pureRun Try.prog (Instr.indexAt 23 t109 x8)) fun t111 =>
  wpB (ldv Try.prog 3 t111 w) fun t112 =>
  CallR Try.prog 66 [t112, (Go.Value.int Go.IntKind.i64 0), (Go.Value.int Go.IntKind.i64 255)] w fun t113 w =>
  wpB (pureRun Try.prog (Op.unary .not t113)) fun t114 =>
  cnd t114
  (Q (.tuple #[(Go.Value.slice none 0 0), (Go.Value.int Go.IntKind.i64 10)]) w)
  (wpB (pureRun Try.prog (Instr.fieldAt 25 x1 1)) fun t116 =>
  wpB (ldv Try.prog 23 t116 w) fun t117 =>
  wpB (pureRun Try.prog (Instr.indexAt 23 t117 x8)) fun t119 =>
  wpB (ldv Try.prog 3 t119 w) fun t120 =>
  wpB (pureRun Try.prog (convert 3 5 t120)) fun t121 =>
  effv Try.prog (Instr.buildSlice 28 1 #[(0, t121)]) w fun t122 w =>
  effv Try.prog (Builtin.append_ #[28, 28] 28 #[x4, t122]) w fun t123 w =>
  wpB (bp Try.prog .add 3 x8 (Go.Value.int Go.IntKind.i64 1)) fun t107 =>
  P16_2 x1 t123 t107 w Q))
  (Q (.tuple #[x4, (Go.Value.int Go.IntKind.i64 0)]) w)
def L16_3 (x1 x4 x5 x6 x7 : Value) (w : World) (Q : Value → World → Prop) : Prop :=
  wpB (pureRun Try.prog (Instr.fieldAt 40 x7 0)) fun t76 =>
  wpB (ldv Try.prog 3 t76 w) fun t77 =>
  CallR Try.prog 64 [t77] w fun t78 w =>
  cnd t78
  (wpB (pureRun Try.prog (Instr.fieldAt 40 x7 3)) fun t80 =>
  wpB (ldv Try.prog 3 t80 w) fun t81 =>
  wpB (pureRun Try.prog (convert 3 38 t81)) fun t82 =>
  CallR Try.prog 62 [t82, (Go.Value.int Go.IntKind.i64 2)] w fun t83 w =>
  effv Try.prog (Builtin.append_ #[28, 28] 28 #[x4, t83]) w fun t84 w =>
  P16_4 x1 t84 x5 x6 x7 w Q)
  (P16_4 x1 x4 x5 x6 x7 w Q)
def L16_4 (x1 x4 x5 x6 x7 : Value) (w : World) (Q : Value → World → Prop) : Prop :=
  wpB (pureRun Try.prog (Instr.fieldAt 40 x7 0)) fun t85 =>
  wpB (ldv Try.prog 3 t85 w) fun t86 =>
  CallR Try.prog 65 [t86] w fun t87 w =>
  cnd t87
  (wpB (pureRun Try.prog (Instr.fieldAt 40 x7 4)) fun t89 =>
  wpB (ldv Try.prog 38 t89 w) fun t90 =>
  CallR Try.prog 62 [t90, (Go.Value.int Go.IntKind.i64 8)] w fun t91 w =>
  effv Try.prog (Builtin.append_ #[28, 28] 28 #[x4, t91]) w fun t92 w =>
  P16_5 x1 t92 x5 x6 x7 w Q)
  (P16_5 x1 x4 x5 x6 x7 w Q)
def L16_5 (x1 x4 x5 x6 x7 : Value) (w : World) (Q : Value → World → Prop) : Prop :=
  wpB (pureRun Try.prog (Instr.fieldAt 40 x7 0)) fun t93 =>
  wpB (ldv Try.prog 3 t93 w) fun t94 =>
  wpB (be Try.prog .eql 3 (.tmp 94) (.const (Go.Value.int Go.IntKind.i64 9)) t94 (Go.Value.int Go.IntKind.i64 9)) fun t95 =>
  cnd t95
  (wpB (pureRun Try.prog (Instr.fieldAt 40 x7 5)) fun t97 =>
  wpB (ldv Try.prog 38 t97 w) fun t98 =>
  CallR Try.prog 62 [t98, (Go.Value.int Go.IntKind.i64 8)] w fun t99 w =>
  effv Try.prog (Builtin.append_ #[28, 28] 28 #[x4, t99]) w fun t100 w =>
  P16_6 x1 t100 x5 x6 w Q)
  (P16_6 x1 x4 x5 x6 w Q)
def L16_6 (x1 x4 x5 x6 : Value) (w : World) (Q : Value → World → Prop) : Prop :=
  wpB (bp Try.prog .add 3 x6 (Go.Value.int Go.IntKind.i64 1)) fun t43 =>
  P16_1 x1 x4 x5 t43 w Q
theorem F16_ok {a0 : Value} {w : World} {Q : Value → World → Prop} (h : F16 a0 w Q) : CallR Try.prog 16 [a0] w Q :=
  have e : evC Try.prog (entR 3 143) 16 125 H16 Q C16 [] (entryE 0 [a0]) w (contT Try.prog (entR 3 143) 16 125 H16 Try.f16.results.toList Q []) = F16 a0 w Q := by kernel_rfl
  call_of (fn := Try.f16) mixed entOk Try.func16 (c := C16) rfl H16 (Nat.le_of_ble_eq_true rfl) (e.mpr h)
theorem L16_0_ok {x1 x4 x5 : Value} {w : World} {Q : Value → World → Prop} (h : L16_0 x1 x4 x5 w Q) : P16_0 x1 x4 x5 w Q :=
  have e : evC Try.prog (entR 3 143) 16 125 H16 Q (nav [1, 1, 1, 0, 1, 4, 5] C16) T16_0 (unpack [1, 4, 5] [x1, x4, x5]) w (contT Try.prog (entR 3 143) 16 125 H16 Try.f16.results.toList Q T16_0) = L16_0 x1 x4 x5 w Q := by kernel_rfl
  part_lp (fn := Try.f16) mixed entOk Try.func16 H16 (c := (nav [1, 1, 1, 0, 1, 4, 5] C16)) (t := [.blk 0, .jn (nav [1, 1, 1, 1] C16)]) (e.mpr h)
theorem L16_1_ok {x1 x4 x5 x6 : Value} {w : World} {Q : Value → World → Prop} (h : L16_1 x1 x4 x5 x6 w Q) : P16_1 x1 x4 x5 x6 w Q :=
  have e : evC Try.prog (entR 3 143) 16 125 H16 Q (nav [1, 1, 1, 0, 1, 4, 5, 1, 0, 4, 1, 1, 4, 5] C16) T16_1 (unpack [1, 4, 5, 6] [x1, x4, x5, x6]) w (contT Try.prog (entR 3 143) 16 125 H16 Try.f16.results.toList Q T16_1) = L16_1 x1 x4 x5 x6 w Q := by kernel_rfl
  part_lp (fn := Try.f16) mixed entOk Try.func16 H16 (c := (nav [1, 1, 1, 0, 1, 4, 5, 1, 0, 4, 1, 1, 4, 5] C16)) (t := [.blk 2, .blk 1, .jn (nav [1, 1, 1, 0, 1, 4, 5, 1, 1] C16), .lp (nav [1, 1, 1, 0, 1, 4, 5] C16), .blk 0, .jn (nav [1, 1, 1, 1] C16)]) (e.mpr h)
theorem L16_2_ok {x1 x4 x8 : Value} {w : World} {Q : Value → World → Prop} (h : L16_2 x1 x4 x8 w Q) : P16_2 x1 x4 x8 w Q :=
  have e : evC Try.prog (entR 3 143) 16 125 H16 Q (nav [1, 1, 1, 1, 0, 1, 4, 5] C16) T16_2 (unpack [1, 4, 8] [x1, x4, x8]) w (contT Try.prog (entR 3 143) 16 125 H16 Try.f16.results.toList Q T16_2) = L16_2 x1 x4 x8 w Q := by kernel_rfl
  part_lp (fn := Try.f16) mixed entOk Try.func16 H16 (c := (nav [1, 1, 1, 1, 0, 1, 4, 5] C16)) (t := [.blk 4, .jn (nav [1, 1, 1, 1, 1] C16)]) (e.mpr h)
theorem L16_3_ok {x1 x4 x5 x6 x7 : Value} {w : World} {Q : Value → World → Prop} (h : L16_3 x1 x4 x5 x6 x7 w Q) : P16_3 x1 x4 x5 x6 x7 w Q :=
  have e : evC Try.prog (entR 3 143) 16 125 H16 Q (nav [1, 1, 1, 0, 1, 4, 5, 1, 0, 4, 1, 1, 4, 5, 1, 0, 4, 1, 1, 1, 1] C16) [.blk 3, .jn (nav [1, 1, 1, 0, 1, 4, 5, 1, 0, 4, 1, 1, 4, 5, 1, 1] C16), .lp (nav [1, 1, 1, 0, 1, 4, 5, 1, 0, 4, 1, 1, 4, 5] C16), .blk 2, .blk 1, .jn (nav [1, 1, 1, 0, 1, 4, 5, 1, 1] C16), .lp (nav [1, 1, 1, 0, 1, 4, 5] C16), .blk 0, .jn (nav [1, 1, 1, 1] C16)] (unpack [1, 4, 5, 6, 7] [x1, x4, x5, x6, x7]) w (contT Try.prog (entR 3 143) 16 125 H16 Try.f16.results.toList Q [.blk 3, .jn (nav [1, 1, 1, 0, 1, 4, 5, 1, 0, 4, 1, 1, 4, 5, 1, 1] C16), .lp (nav [1, 1, 1, 0, 1, 4, 5, 1, 0, 4, 1, 1, 4, 5] C16), .blk 2, .blk 1, .jn (nav [1, 1, 1, 0, 1, 4, 5, 1, 1] C16), .lp (nav [1, 1, 1, 0, 1, 4, 5] C16), .blk 0, .jn (nav [1, 1, 1, 1] C16)]) = L16_3 x1 x4 x5 x6 x7 w Q := by kernel_rfl
  part_jn (fn := Try.f16) mixed entOk Try.func16 H16 (c := (nav [1, 1, 1, 0, 1, 4, 5, 1, 0, 4, 1, 1, 4, 5, 1, 0, 4, 1, 1, 1, 1] C16)) (t := [.blk 3, .jn (nav [1, 1, 1, 0, 1, 4, 5, 1, 0, 4, 1, 1, 4, 5, 1, 1] C16), .lp (nav [1, 1, 1, 0, 1, 4, 5, 1, 0, 4, 1, 1, 4, 5] C16), .blk 2, .blk 1, .jn (nav [1, 1, 1, 0, 1, 4, 5, 1, 1] C16), .lp (nav [1, 1, 1, 0, 1, 4, 5] C16), .blk 0, .jn (nav [1, 1, 1, 1] C16)]) (e.mpr h)
theorem L16_4_ok {x1 x4 x5 x6 x7 : Value} {w : World} {Q : Value → World → Prop} (h : L16_4 x1 x4 x5 x6 x7 w Q) : P16_4 x1 x4 x5 x6 x7 w Q :=
  have e : evC Try.prog (entR 3 143) 16 125 H16 Q (nav [1, 1, 1, 0, 1, 4, 5, 1, 0, 4, 1, 1, 4, 5, 1, 0, 4, 1, 1, 1, 1, 1] C16) [.blk 3, .jn (nav [1, 1, 1, 0, 1, 4, 5, 1, 0, 4, 1, 1, 4, 5, 1, 1] C16), .lp (nav [1, 1, 1, 0, 1, 4, 5, 1, 0, 4, 1, 1, 4, 5] C16), .blk 2, .blk 1, .jn (nav [1, 1, 1, 0, 1, 4, 5, 1, 1] C16), .lp (nav [1, 1, 1, 0, 1, 4, 5] C16), .blk 0, .jn (nav [1, 1, 1, 1] C16)] (unpack [1, 4, 5, 6, 7] [x1, x4, x5, x6, x7]) w (contT Try.prog (entR 3 143) 16 125 H16 Try.f16.results.toList Q [.blk 3, .jn (nav [1, 1, 1, 0, 1, 4, 5, 1, 0, 4, 1, 1, 4, 5, 1, 1] C16), .lp (nav [1, 1, 1, 0, 1, 4, 5, 1, 0, 4, 1, 1, 4, 5] C16), .blk 2, .blk 1, .jn (nav [1, 1, 1, 0, 1, 4, 5, 1, 1] C16), .lp (nav [1, 1, 1, 0, 1, 4, 5] C16), .blk 0, .jn (nav [1, 1, 1, 1] C16)]) = L16_4 x1 x4 x5 x6 x7 w Q := by kernel_rfl
  part_jn (fn := Try.f16) mixed entOk Try.func16 H16 (c := (nav [1, 1, 1, 0, 1, 4, 5, 1, 0, 4, 1, 1, 4, 5, 1, 0, 4, 1, 1, 1, 1, 1] C16)) (t := [.blk 3, .jn (nav [1, 1, 1, 0, 1, 4, 5, 1, 0, 4, 1, 1, 4, 5, 1, 1] C16), .lp (nav [1, 1, 1, 0, 1, 4, 5, 1, 0, 4, 1, 1, 4, 5] C16), .blk 2, .blk 1, .jn (nav [1, 1, 1, 0, 1, 4, 5, 1, 1] C16), .lp (nav [1, 1, 1, 0, 1, 4, 5] C16), .blk 0, .jn (nav [1, 1, 1, 1] C16)]) (e.mpr h)
theorem L16_5_ok {x1 x4 x5 x6 x7 : Value} {w : World} {Q : Value → World → Prop} (h : L16_5 x1 x4 x5 x6 x7 w Q) : P16_5 x1 x4 x5 x6 x7 w Q :=
  have e : evC Try.prog (entR 3 143) 16 125 H16 Q (nav [1, 1, 1, 0, 1, 4, 5, 1, 0, 4, 1, 1, 4, 5, 1, 0, 4, 1, 1, 1, 1, 1, 1] C16) [.blk 3, .jn (nav [1, 1, 1, 0, 1, 4, 5, 1, 0, 4, 1, 1, 4, 5, 1, 1] C16), .lp (nav [1, 1, 1, 0, 1, 4, 5, 1, 0, 4, 1, 1, 4, 5] C16), .blk 2, .blk 1, .jn (nav [1, 1, 1, 0, 1, 4, 5, 1, 1] C16), .lp (nav [1, 1, 1, 0, 1, 4, 5] C16), .blk 0, .jn (nav [1, 1, 1, 1] C16)] (unpack [1, 4, 5, 6, 7] [x1, x4, x5, x6, x7]) w (contT Try.prog (entR 3 143) 16 125 H16 Try.f16.results.toList Q [.blk 3, .jn (nav [1, 1, 1, 0, 1, 4, 5, 1, 0, 4, 1, 1, 4, 5, 1, 1] C16), .lp (nav [1, 1, 1, 0, 1, 4, 5, 1, 0, 4, 1, 1, 4, 5] C16), .blk 2, .blk 1, .jn (nav [1, 1, 1, 0, 1, 4, 5, 1, 1] C16), .lp (nav [1, 1, 1, 0, 1, 4, 5] C16), .blk 0, .jn (nav [1, 1, 1, 1] C16)]) = L16_5 x1 x4 x5 x6 x7 w Q := by kernel_rfl
  part_jn (fn := Try.f16) mixed entOk Try.func16 H16 (c := (nav [1, 1, 1, 0, 1, 4, 5, 1, 0, 4, 1, 1, 4, 5, 1, 0, 4, 1, 1, 1, 1, 1, 1] C16)) (t := [.blk 3, .jn (nav [1, 1, 1, 0, 1, 4, 5, 1, 0, 4, 1, 1, 4, 5, 1, 1] C16), .lp (nav [1, 1, 1, 0, 1, 4, 5, 1, 0, 4, 1, 1, 4, 5] C16), .blk 2, .blk 1, .jn (nav [1, 1, 1, 0, 1, 4, 5, 1, 1] C16), .lp (nav [1, 1, 1, 0, 1, 4, 5] C16), .blk 0, .jn (nav [1, 1, 1, 1] C16)]) (e.mpr h)
theorem L16_6_ok {x1 x4 x5 x6 : Value} {w : World} {Q : Value → World → Prop} (h : L16_6 x1 x4 x5 x6 w Q) : P16_6 x1 x4 x5 x6 w Q :=
  have e : evC Try.prog (entR 3 143) 16 125 H16 Q (nav [1, 1, 1, 0, 1, 4, 5, 1, 0, 4, 1, 1, 4, 5, 1, 1] C16) [.lp (nav [1, 1, 1, 0, 1, 4, 5, 1, 0, 4, 1, 1, 4, 5] C16), .blk 2, .blk 1, .jn (nav [1, 1, 1, 0, 1, 4, 5, 1, 1] C16), .lp (nav [1, 1, 1, 0, 1, 4, 5] C16), .blk 0, .jn (nav [1, 1, 1, 1] C16)] (unpack [1, 4, 5, 6] [x1, x4, x5, x6]) w (contT Try.prog (entR 3 143) 16 125 H16 Try.f16.results.toList Q [.lp (nav [1, 1, 1, 0, 1, 4, 5, 1, 0, 4, 1, 1, 4, 5] C16), .blk 2, .blk 1, .jn (nav [1, 1, 1, 0, 1, 4, 5, 1, 1] C16), .lp (nav [1, 1, 1, 0, 1, 4, 5] C16), .blk 0, .jn (nav [1, 1, 1, 1] C16)]) = L16_6 x1 x4 x5 x6 w Q := by kernel_rfl
  part_jn (fn := Try.f16) mixed entOk Try.func16 H16 (c := (nav [1, 1, 1, 0, 1, 4, 5, 1, 0, 4, 1, 1, 4, 5, 1, 1] C16)) (t := [.lp (nav [1, 1, 1, 0, 1, 4, 5, 1, 0, 4, 1, 1, 4, 5] C16), .blk 2, .blk 1, .jn (nav [1, 1, 1, 0, 1, 4, 5, 1, 1] C16), .lp (nav [1, 1, 1, 0, 1, 4, 5] C16), .blk 0, .jn (nav [1, 1, 1, 1] C16)]) (e.mpr h)

/-! ### rundale/script.May: function 17 -/
noncomputable def C17 : Code := (Try.f17.body).getD .skip
noncomputable def H17 : Hints := ⟨[(2, [1, 6, 7, 8])], [], []⟩
noncomputable def T17_0 : List It := [.lp (nav [1, 0, 1, 4, 5] C17), .blk 0, .jn (nav [1, 1] C17)]
/-- rundale/script.May, from a loop's head on -/
def P17_0 (x1 x6 x7 x8 : Value) (w : World) (Q : Value → World → Prop) : Prop := Part Try.prog 17 T17_0 [1, 6, 7, 8] [x1, x6, x7, x8] w Q
def F17 (a0 : Value) (w : World) (Q : Value → World → Prop) : Prop :=
  effv Try.prog (Instr.box 25 a0) w fun t1 w =>
  wpB (pureRun Try.prog (Instr.fieldAt 25 t1 0)) fun t5 =>
  wpB (ldv Try.prog 22 t5 w) fun t6 =>
  wpB (pureRun Try.prog (Builtin.len_ #[22] 3 #[t6])) fun t7 =>
  P17_0 t1 t6 t7 (Go.Value.int Go.IntKind.i64 0) w Q
def L17_0 (x1 x6 x7 x8 : Value) (w : World) (Q : Value → World → Prop) : Prop :=
  wpB (bp Try.prog .lss 3 x8 x7) fun t9 =>
  cnd t9
  (wpB (pureRun Try.prog (Instr.indexAt 22 x6 x8)) fun t10 =>
  wpB (ldv Try.prog 27 t10 w) fun t11 =>
  wpB (pureRun Try.prog (Builtin.len_ #[27] 3 #[t11])) fun t13 =>
  wpB (bp Try.prog .gtr 3 t13 (Go.Value.int Go.IntKind.i64 1000)) fun t14 =>
  cnd t14
  (Q (Go.Value.bool false) w)
  (wpB (bp Try.prog .add 3 x8 (Go.Value.int Go.IntKind.i64 1)) fun t15 =>
  P17_0 x1 x6 x7 t15 w Q))
  (wpB (pureRun Try.prog (Instr.fieldAt 25 x1 0)) fun t16 =>
  wpB (ldv Try.prog 22 t16 w) fun t17 =>
  wpB (pureRun Try.prog (Builtin.len_ #[22] 3 #[t17])) fun t18 =>
  wpB (bp Try.prog .leq 3 t18 (Go.Value.int Go.IntKind.i64 64)) fun t19 =>
  wpB (gd t19 true (pureRun Try.prog (Instr.fieldAt 25 x1 1))) fun t21 =>
  wpB (gd t19 true (ldv Try.prog 23 t21 w)) fun t22 =>
  wpB (gd t19 true (pureRun Try.prog (Builtin.len_ #[23] 3 #[t22]))) fun t23 =>
  wpB (gd t19 true (bp Try.prog .leq 3 t23 (Go.Value.int Go.IntKind.i64 1048576))) fun t24 =>
  wpB (pickv t19 (some t24) (some (Go.Value.bool false))) fun t25 =>
  Q t25 w)
theorem F17_ok {a0 : Value} {w : World} {Q : Value → World → Prop} (h : F17 a0 w Q) : CallR Try.prog 17 [a0] w Q :=
  have e : evC Try.prog (entR 3 143) 17 26 H17 Q C17 [] (entryE 0 [a0]) w (contT Try.prog (entR 3 143) 17 26 H17 Try.f17.results.toList Q []) = F17 a0 w Q := by kernel_rfl
  call_of (fn := Try.f17) mixed entOk Try.func17 (c := C17) rfl H17 (Nat.le_of_ble_eq_true rfl) (e.mpr h)
theorem L17_0_ok {x1 x6 x7 x8 : Value} {w : World} {Q : Value → World → Prop} (h : L17_0 x1 x6 x7 x8 w Q) : P17_0 x1 x6 x7 x8 w Q :=
  have e : evC Try.prog (entR 3 143) 17 26 H17 Q (nav [1, 0, 1, 4, 5] C17) T17_0 (unpack [1, 6, 7, 8] [x1, x6, x7, x8]) w (contT Try.prog (entR 3 143) 17 26 H17 Try.f17.results.toList Q T17_0) = L17_0 x1 x6 x7 x8 w Q := by kernel_rfl
  part_lp (fn := Try.f17) mixed entOk Try.func17 H17 (c := (nav [1, 0, 1, 4, 5] C17)) (t := [.blk 0, .jn (nav [1, 1] C17)]) (e.mpr h)

/-! ### rundale/rundaleref18.MayScript: function 18 -/
noncomputable def C18 : Code := (Try.f18.body).getD .skip
noncomputable def H18 : Hints := ⟨[(4, [1, 3])], [], []⟩
noncomputable def T18_0 : List It := [.lp (nav [1, 1, 0, 1, 4, 5] C18), .blk 0, .jn (nav [1, 1, 1] C18)]
/-- rundale/rundaleref18.MayScript, from a loop's head on -/
def P18_0 (x1 x3 : Value) (w : World) (Q : Value → World → Prop) : Prop := Part Try.prog 18 T18_0 [1, 3] [x1, x3] w Q
def F18 (a0 : Value) (w : World) (Q : Value → World → Prop) : Prop :=
  effv Try.prog (Instr.box 25 a0) w fun t1 w =>
  wpB (pureRun Try.prog (Instr.fieldAt 25 t1 0)) fun t4 =>
  wpB (ldv Try.prog 22 t4 w) fun t5 =>
  wpB (pureRun Try.prog (Builtin.len_ #[22] 3 #[t5])) fun t6 =>
  wpB (bp Try.prog .gtr 3 t6 (Go.Value.int Go.IntKind.i64 64)) fun t7 =>
  wpB (gd t7 false (pureRun Try.prog (Instr.fieldAt 25 t1 1))) fun t9 =>
  wpB (gd t7 false (ldv Try.prog 23 t9 w)) fun t10 =>
  wpB (gd t7 false (pureRun Try.prog (Builtin.len_ #[23] 3 #[t10]))) fun t11 =>
  wpB (gd t7 false (bp Try.prog .gtr 3 t11 (Go.Value.int Go.IntKind.i64 1048576))) fun t12 =>
  wpB (pickv t7 (some (Go.Value.bool true)) (some t12)) fun t13 =>
  cnd t13
  (Q (Go.Value.bool false) w)
  (P18_0 t1 (Go.Value.int Go.IntKind.i64 0) w Q)
def L18_0 (x1 x3 : Value) (w : World) (Q : Value → World → Prop) : Prop :=
  wpB (pureRun Try.prog (Instr.fieldAt 25 x1 0)) fun t15 =>
  wpB (ldv Try.prog 22 t15 w) fun t16 =>
  wpB (pureRun Try.prog (Builtin.len_ #[22] 3 #[t16])) fun t17 =>
  wpB (bp Try.prog .lss 3 x3 t17) fun t18 =>
  cnd t18
  (wpB (pureRun Try.prog (Instr.fieldAt 25 x1 0)) fun t21 =>
  wpB (ldv Try.prog 22 t21 w) fun t22 =>
  wpB (pureRun Try.prog (Instr.indexAt 22 t22 x3)) fun t24 =>
  wpB (ldv Try.prog 27 t24 w) fun t25 =>
  wpB (pureRun Try.prog (Builtin.len_ #[27] 3 #[t25])) fun t26 =>
  wpB (bp Try.prog .gtr 3 t26 (Go.Value.int Go.IntKind.i64 1000)) fun t27 =>
  cnd t27
  (Q (Go.Value.bool false) w)
  (wpB (bp Try.prog .add 3 x3 (Go.Value.int Go.IntKind.i64 1)) fun t20 =>
  P18_0 x1 t20 w Q))
  (Q (Go.Value.bool true) w)
theorem F18_ok {a0 : Value} {w : World} {Q : Value → World → Prop} (h : F18 a0 w Q) : CallR Try.prog 18 [a0] w Q :=
  have e : evC Try.prog (entR 3 143) 18 28 H18 Q C18 [] (entryE 0 [a0]) w (contT Try.prog (entR 3 143) 18 28 H18 Try.f18.results.toList Q []) = F18 a0 w Q := by kernel_rfl
  call_of (fn := Try.f18) mixed entOk Try.func18 (c := C18) rfl H18 (Nat.le_of_ble_eq_true rfl) (e.mpr h)
theorem L18_0_ok {x1 x3 : Value} {w : World} {Q : Value → World → Prop} (h : L18_0 x1 x3 w Q) : P18_0 x1 x3 w Q :=
  have e : evC Try.prog (entR 3 143) 18 28 H18 Q (nav [1, 1, 0, 1, 4, 5] C18) T18_0 (unpack [1, 3] [x1, x3]) w (contT Try.prog (entR 3 143) 18 28 H18 Try.f18.results.toList Q T18_0) = L18_0 x1 x3 w Q := by kernel_rfl
  part_lp (fn := Try.f18) mixed entOk Try.func18 H18 (c := (nav [1, 1, 0, 1, 4, 5] C18)) (t := [.blk 0, .jn (nav [1, 1, 1] C18)]) (e.mpr h)

/-! ### rundale/rundaleref18.SameScript: function 19 -/
noncomputable def C19 : Code := (Try.f19.body).getD .skip
noncomputable def H19 : Hints := ⟨[(4, [2, 3, 5])], [], [(6, (.leaf [0, 1, 2, 3, 4, 5, 6, 7, 8, 9, 10, 11]))]⟩
noncomputable def T19_0 : List It := [.lp (nav [1, 1, 0, 1, 4, 5] C19), .blk 0, .jn (nav [1, 1, 1] C19)]
/-- rundale/rundaleref18.SameScript, from a loop's head on -/
def P19_0 (x2 x3 x5 : Value) (w : World) (Q : Value → World → Prop) : Prop := Part Try.prog 19 T19_0 [2, 3, 5] [x2, x3, x5] w Q
def F19 (a0 a1 : Value) (w : World) (Q : Value → World → Prop) : Prop :=
  effv Try.prog (Instr.box 25 a0) w fun t2 w =>
  effv Try.prog (Instr.box 25 a1) w fun t3 w =>
  wpB (pureRun Try.prog (Instr.fieldAt 25 t2 0)) fun t6 =>
  wpB (ldv Try.prog 22 t6 w) fun t7 =>
  wpB (pureRun Try.prog (Builtin.len_ #[22] 3 #[t7])) fun t8 =>
  wpB (pureRun Try.prog (Instr.fieldAt 25 t3 0)) fun t9 =>
  wpB (ldv Try.prog 22 t9 w) fun t10 =>
  wpB (pureRun Try.prog (Builtin.len_ #[22] 3 #[t10])) fun t11 =>
  wpB (be Try.prog .neq 3 (.tmp 8) (.tmp 11) t8 t11) fun t12 =>
  wpB (gd t12 false (pureRun Try.prog (Instr.fieldAt 25 t2 1))) fun t14 =>
  wpB (gd t12 false (ldv Try.prog 23 t14 w)) fun t15 =>
  wpB (gd t12 false (pureRun Try.prog (Instr.fieldAt 25 t3 1))) fun t16 =>
  wpB (gd t12 false (ldv Try.prog 23 t16 w)) fun t17 =>
  gE t12 false (CallR Try.prog 67 [t15, t17] w) (fun t18 w =>
  wpB (gd t12 false (pureRun Try.prog (Op.unary .not t18))) fun t19 =>
  wpB (pickv t12 (some (Go.Value.bool true)) (some t19)) fun t20 =>
  cnd t20
  (Q (Go.Value.bool false) w)
  (P19_0 t2 t3 (Go.Value.int Go.IntKind.i64 0) w Q)) w
def L19_0 (x2 x3 x5 : Value) (w : World) (Q : Value → World → Prop) : Prop :=
  wpB (pureRun Try.prog (Instr.fieldAt 25 x2 0)) fun t22 =>
  wpB (ldv Try.prog 22 t22 w) fun t23 =>
  wpB (pureRun Try.prog (Builtin.len_ #[22] 3 #[t23])) fun t24 =>
  wpB (bp Try.prog .lss 3 x5 t24) fun t25 =>
  cnd t25
  (wpB (pureRun Try.prog (Instr.fieldAt 25 x2 0)) fun t28 =>
  wpB (ldv Try.prog 22 t28 w.drew) fun t29 =>
  wpB (pureRun Try.prog (Instr.indexAt 22 t29 x5)) fun t31 =>
  wpB (ldv Try.prog 27 t31 w.drew) fun t32 =>
  wpB (pureRun Try.prog (Instr.fieldAt 25 x3 0)) fun t33 =>
  wpB (ldv Try.prog 22 t33 w.drew) fun t34 =>
  wpB (pureRun Try.prog (Instr.indexAt 22 t34 x5)) fun t36 =>
  wpB (ldv Try.prog 27 t36 w.drew) fun t37 =>
  CallR Try.prog 68 [t32, t37] w.drew fun t38 w =>
  wpB (pureRun Try.prog (Op.unary .not t38)) fun t39 =>
  cnd t39
  (Q (Go.Value.bool false) w)
  (wpB (bp Try.prog .add 3 x5 (Go.Value.int Go.IntKind.i64 1)) fun t27 =>
  P19_0 x2 x3 t27 w Q))
  (Q (Go.Value.bool true) w)
theorem F19_ok {a0 a1 : Value} {w : World} {Q : Value → World → Prop} (h : F19 a0 a1 w Q) : CallR Try.prog 19 [a0, a1] w Q :=
  have e : evC Try.prog (entR 3 143) 19 40 H19 Q C19 [] (entryE 0 [a0, a1]) w (contT Try.prog (entR 3 143) 19 40 H19 Try.f19.results.toList Q []) = F19 a0 a1 w Q := by kernel_rfl
  call_of (fn := Try.f19) mixed entOk Try.func19 (c := C19) rfl H19 (Nat.le_of_ble_eq_true rfl) (e.mpr h)
theorem L19_0_ok {x2 x3 x5 : Value} {w : World} {Q : Value → World → Prop} (h : L19_0 x2 x3 x5 w Q) : P19_0 x2 x3 x5 w Q :=
  have e : evC Try.prog (entR 3 143) 19 40 H19 Q (nav [1, 1, 0, 1, 4, 5] C19) T19_0 (unpack [2, 3, 5] [x2, x3, x5]) w (contT Try.prog (entR 3 143) 19 40 H19 Try.f19.results.toList Q T19_0) = L19_0 x2 x3 x5 w Q := by kernel_rfl
  part_lp (fn := Try.f19) mixed entOk Try.func19 H19 (c := (nav [1, 1, 0, 1, 4, 5] C19)) (t := [.blk 0, .jn (nav [1, 1, 1] C19)]) (e.mpr h)

/-! ### rundale/script.Read: function 20 -/
noncomputable def C20 : Code := (Try.f20.body).getD .skip
noncomputable def H20 : Hints := ⟨[(4, [2, 3, 4, 20, 21]), (8, [2, 3, 4, 5, 20, 21, 27, 28]), (18, [2, 4, 66, 67, 68])], [(13, [2, 3, 4, 5, 20, 21, 27, 28])], [(12, (.ask 1 10 (.leaf [0, 1, 2, 3, 4, 5, 6, 7, 8, 9, 10, 11, 12]) (.leaf [0, 2, 3, 5, 4, 6, 7, 8, 9, 10, 1, 11, 12]))), (17, (.leaf [0, 1, 2, 3, 4, 5, 6, 7, 8, 9, 10, 11, 12]))]⟩
noncomputable def T20_0 : List It := [.lp (nav [1, 1, 1, 0, 1, 4, 5] C20), .blk 0, .jn (nav [1, 1, 1, 1] C20)]
noncomputable def T20_1 : List It := [.lp (nav [1, 1, 1, 0, 1, 4, 5, 1, 1, 0, 4, 1, 1, 0, 1, 4, 5] C20), .blk 2, .jn (nav [1, 1, 1, 0, 1, 4, 5, 1, 1, 0, 4, 1, 1, 1] C20), .blk 1, .jn (nav [1, 1, 1, 0, 1, 4, 5, 1, 1, 1] C20), .lp (nav [1, 1, 1, 0, 1, 4, 5] C20), .blk 0, .jn (nav [1, 1, 1, 1] C20)]
noncomputable def T20_2 : List It := [.lp (nav [1, 1, 1, 1, 0, 1, 4, 5] C20), .blk 4, .jn (nav [1, 1, 1, 1, 1] C20)]
noncomputable def T20_3 : List It := [.jn (nav [1, 1, 1, 0, 1, 4, 5, 1, 1, 0, 4, 1, 1, 0, 1, 4, 5, 1, 1, 1] C20), .lp (nav [1, 1, 1, 0, 1, 4, 5, 1, 1, 0, 4, 1, 1, 0, 1, 4, 5] C20), .blk 2, .jn (nav [1, 1, 1, 0, 1, 4, 5, 1, 1, 0, 4, 1, 1, 1] C20), .blk 1, .jn (nav [1, 1, 1, 0, 1, 4, 5, 1, 1, 1] C20), .lp (nav [1, 1, 1, 0, 1, 4, 5] C20), .blk 0, .jn (nav [1, 1, 1, 1] C20)]
/-- rundale/script.Read, from a loop's head on -/
def P20_0 (x2 x3 x4 x20 x21 : Value) (w : World) (Q : Value → World → Prop) : Prop := Part Try.prog 20 T20_0 [2, 3, 4, 20, 21] [x2, x3, x4, x20, x21] w Q
/-- rundale/script.Read, from a loop's head on -/
def P20_1 (x2 x3 x4 x5 x20 x21 x27 x28 : Value) (w : World) (Q : Value → World → Prop) : Prop := Part Try.prog 20 T20_1 [2, 3, 4, 5, 20, 21, 27, 28] [x2, x3, x4, x5, x20, x21, x27, x28] w Q
/-- rundale/script.Read, from a loop's head on -/
def P20_2 (x2 x4 x66 x67 x68 : Value) (w : World) (Q : Value → World → Prop) : Prop := Part Try.prog 20 T20_2 [2, 4, 66, 67, 68] [x2, x4, x66, x67, x68] w Q
/-- rundale/script.Read, from a join on -/
def P20_3 (x2 x3 x4 x5 x20 x21 x27 x28 : Value) (w : World) (Q : Value → World → Prop) : Prop := Part Try.prog 20 T20_3 [2, 3, 4, 5, 20, 21, 27, 28] [x2, x3, x4, x5, x20, x21, x27, x28] w Q
def F20 (a0 : Value) (w : World) (Q : Value → World → Prop) : Prop :=
  effv Try.prog (Instr.alloc 25 true (.tuple #[])) w fun t2 w =>
  wpB (pureRun Try.prog (Instr.build 115 #[(0, a0)])) fun t11 =>
  effv Try.prog (Instr.box 115 t11) w fun t12 w =>
  CallR Try.prog 69 [t12, (Go.Value.int Go.IntKind.i64 1)] w fun t14 w =>
  wpB (pureRun Try.prog (Builtin.min_ #[38, 38] 38 #[t14, (Go.Value.int Go.IntKind.u64 64)])) fun t15 =>
  effv Try.prog (Instr.makeSlice 22 t15 t15) w fun t16 w =>
  wpB (pureRun Try.prog (Instr.build 25 #[(0, t16)])) fun t17 =>
  effv Try.prog (Instr.alloc 25 true (.tuple #[])) w fun t4 w =>
  effu Try.prog (Instr.storeAt 25 t4 t17) w fun w =>
  wpB (pureRun Try.prog (Instr.fieldAt 25 t4 0)) fun t18 =>
  wpB (ldv Try.prog 22 t18 w) fun t19 =>
  wpB (pureRun Try.prog (Builtin.len_ #[22] 3 #[t19])) fun t20 =>
  P20_0 t2 t12 t4 t20 (Go.Value.int Go.IntKind.i64 0) w Q
def L20_0 (x2 x3 x4 x20 x21 : Value) (w : World) (Q : Value → World → Prop) : Prop :=
  wpB (bp Try.prog .lss 3 x21 x20) fun t22 =>
  cnd t22
  (CallR Try.prog 69 [x3, (Go.Value.int Go.IntKind.i64 2)] w fun t25 w =>
  wpB (pureRun Try.prog (Builtin.min_ #[38, 38] 38 #[t25, (Go.Value.int Go.IntKind.u64 1000)])) fun t26 =>
  P20_1 x2 x3 x4 x21 x20 x21 t26 (Go.Value.int Go.IntKind.u64 0) w Q)
  (wpB (nilv x3) fun t57 =>
  wpB (pureRun Try.prog (Instr.fieldAt 115 t57 0)) fun t58 =>
  wpB (ldv Try.prog 28 t58 w.drew) fun t59 =>
  wpB (nilv x3) fun t61 =>
  wpB (pureRun Try.prog (Instr.fieldAt 115 t61 0)) fun t62 =>
  wpB (ldv Try.prog 28 t62 w.drew) fun t63 =>
  wpB (pureRun Try.prog (Builtin.len_ #[28] 3 #[t63])) fun t64 =>
  wpB (pureRun Try.prog (Builtin.min_ #[3, 3] 3 #[t64, (Go.Value.int Go.IntKind.i64 1048576)])) fun t65 =>
  wpB (pureRun Try.prog (Instr.sliceAt 28 t59 none (some t65) none)) fun t66 =>
  wpB (pureRun Try.prog (Builtin.len_ #[28] 3 #[t66])) fun t67 =>
  P20_2 x2 x4 t66 t67 (Go.Value.int Go.IntKind.i64 0) w.drew Q)
def L20_1 (x2 x3 x4 x5 x20 x21 x27 x28 : Value) (w : World) (Q : Value → World → Prop) : Prop :=
  wpB (bp Try.prog .lss 38 x28 x27) fun t29 =>
  cnd t29
  (CallR Try.prog 70 [x3] w fun t31 w =>
  effv Try.prog (Instr.alloc 40 true (.tuple #[])) w fun t7 w =>
  effu Try.prog (Instr.storeAt 40 t7 t31) w fun w =>
  wpB (nilv x3) fun t33 =>
  wpB (pureRun Try.prog (Instr.fieldAt 115 t33 1)) fun t34 =>
  wpB (ldv Try.prog 4 t34 w) fun t35 =>
  cnd t35
  (wpB (ldv Try.prog 25 x4 w) fun t36 =>
  effu Try.prog (Instr.storeAt 25 x2 t36) w fun w =>
  wpB (ldv Try.prog 25 x2 w) fun r2 => Q r2 w)
  ((wpB (pureRun Try.prog (Instr.fieldAt 25 x4 0)) fun t37 =>
  wpB (ldv Try.prog 22 t37 w.drew) fun t38 =>
  wpB (pureRun Try.prog (Instr.fieldAt 25 x4 0)) fun t40 =>
  wpB (ldv Try.prog 22 t40 w.drew) fun t41 =>
  wpB (pureRun Try.prog (Instr.indexAt 22 t41 x5)) fun t43 =>
  wpB (ldv Try.prog 27 t43 w.drew) fun t44 =>
  wpB (ldv Try.prog 40 t7 w.drew) fun t45 =>
  effv Try.prog (Instr.buildSlice 27 1 #[(0, t45)]) w.drew fun t46 w =>
  effv Try.prog (Builtin.append_ #[27, 27] 27 #[t44, t46]) w fun t47 w =>
  wpB (pureRun Try.prog (Instr.indexAt 22 t38 x5)) fun t48 =>
  effu Try.prog (Instr.storeAt 27 t48 t47) w fun w =>
  P20_3 x2 x3 x4 x5 x20 x21 x27 x28 w Q) ∧
  (wpB (pureRun Try.prog (Instr.fieldAt 25 x4 0)) fun t37_1 =>
  wpB (pureRun Try.prog (Instr.fieldAt 25 x4 0)) fun t40_1 =>
  wpB (ldv Try.prog 22 t40_1 w.drew) fun t41_1 =>
  wpB (pureRun Try.prog (Instr.indexAt 22 t41_1 x5)) fun t43_1 =>
  wpB (ldv Try.prog 27 t43_1 w.drew) fun t44_1 =>
  wpB (ldv Try.prog 40 t7 w.drew) fun t45_1 =>
  effv Try.prog (Instr.buildSlice 27 1 #[(0, t45_1)]) w.drew fun t46_1 w =>
  effv Try.prog (Builtin.append_ #[27, 27] 27 #[t44_1, t46_1]) w fun t47_1 w =>
  wpB (ldv Try.prog 22 t37_1 w) fun t38_1 =>
  wpB (pureRun Try.prog (Instr.indexAt 22 t38_1 x5)) fun t48_1 =>
  effu Try.prog (Instr.storeAt 27 t48_1 t47_1) w fun w =>
  P20_3 x2 x3 x4 x5 x20 x21 x27 x28 w Q)))
  (wpB (nilv x3) fun t51 =>
  wpB (pureRun Try.prog (Instr.fieldAt 115 t51 1)) fun t52 =>
  wpB (ldv Try.prog 4 t52 w) fun t53 =>
  cnd t53
  (wpB (ldv Try.prog 25 x4 w) fun t54 =>
  effu Try.prog (Instr.storeAt 25 x2 t54) w fun w =>
  wpB (ldv Try.prog 25 x2 w) fun r2_1 => Q r2_1 w)
  (wpB (bp Try.prog .add 3 x21 (Go.Value.int Go.IntKind.i64 1)) fun t55 =>
  P20_0 x2 x3 x4 x20 t55 w Q))
def L20_2 (x2 x4 x66 x67 x68 : Value) (w : World) (Q : Value → World → Prop) : Prop :=
  wpB (bp Try.prog .lss 3 x68 x67) fun t69 =>
  cnd t69
  (wpB (pureRun Try.prog (Instr.indexAt 28 x66 x68)) fun t70 =>
  wpB (ldv Try.prog 5 t70 w) fun t71 =>
  wpB (pureRun Try.prog (Instr.fieldAt 25 x4 1)) fun t72 =>
  wpB (ldv Try.prog 23 t72 w) fun t73 =>
  wpB (pureRun Try.prog (convert 5 3 t71)) fun t75 =>
  effv Try.prog (Instr.buildSlice 23 1 #[(0, t75)]) w fun t76 w =>
  effv Try.prog (Builtin.append_ #[23, 23] 23 #[t73, t76]) w fun t77 w =>
  wpB (pureRun Try.prog (Instr.fieldAt 25 x4 1)) fun t78 =>
  effu Try.prog (Instr.storeAt 23 t78 t77) w fun w =>
  wpB (bp Try.prog .add 3 x68 (Go.Value.int Go.IntKind.i64 1)) fun t79 =>
  P20_2 x2 x4 x66 x67 t79 w Q)
  (wpB (ldv Try.prog 25 x4 w) fun t80 =>
  effu Try.prog (Instr.storeAt 25 x2 t80) w fun w =>
  wpB (ldv Try.prog 25 x2 w) fun r2 => Q r2 w)
def L20_3 (x2 x3 x4 x5 x20 x21 x27 x28 : Value) (w : World) (Q : Value → World → Prop) : Prop :=
  wpB (bp Try.prog .add 38 x28 (Go.Value.int Go.IntKind.u64 1)) fun t49 =>
  P20_1 x2 x3 x4 x5 x20 x21 x27 t49 w Q
theorem F20_ok {a0 : Value} {w : World} {Q : Value → World → Prop} (h : F20 a0 w Q) : CallR Try.prog 20 [a0] w Q :=
  have e : evC Try.prog (entR 3 143) 20 81 H20 Q C20 [] (entryE 0 [a0]) w (contT Try.prog (entR 3 143) 20 81 H20 Try.f20.results.toList Q []) = F20 a0 w Q := by kernel_rfl
  call_of (fn := Try.f20) mixed entOk Try.func20 (c := C20) rfl H20 (Nat.le_of_ble_eq_true rfl) (e.mpr h)
theorem L20_0_ok {x2 x3 x4 x20 x21 : Value} {w : World} {Q : Value → World → Prop} (h : L20_0 x2 x3 x4 x20 x21 w Q) : P20_0 x2 x3 x4 x20 x21 w Q :=
  have e : evC Try.prog (entR 3 143) 20 81 H20 Q (nav [1, 1, 1, 0, 1, 4, 5] C20) T20_0 (unpack [2, 3, 4, 20, 21] [x2, x3, x4, x20, x21]) w (contT Try.prog (entR 3 143) 20 81 H20 Try.f20.results.toList Q T20_0) = L20_0 x2 x3 x4 x20 x21 w Q := by kernel_rfl
  part_lp (fn := Try.f20) mixed entOk Try.func20 H20 (c := (nav [1, 1, 1, 0, 1, 4, 5] C20)) (t := [.blk 0, .jn (nav [1, 1, 1, 1] C20)]) (e.mpr h)
theorem L20_1_ok {x2 x3 x4 x5 x20 x21 x27 x28 : Value} {w : World} {Q : Value → World → Prop} (h : L20_1 x2 x3 x4 x5 x20 x21 x27 x28 w Q) : P20_1 x2 x3 x4 x5 x20 x21 x27 x28 w Q :=
  have e : evC Try.prog (entR 3 143) 20 81 H20 Q (nav [1, 1, 1, 0, 1, 4, 5, 1, 1, 0, 4, 1, 1, 0, 1, 4, 5] C20) T20_1 (unpack [2, 3, 4, 5, 20, 21, 27, 28] [x2, x3, x4, x5, x20, x21, x27, x28]) w (contT Try.prog (entR 3 143) 20 81 H20 Try.f20.results.toList Q T20_1) = L20_1 x2 x3 x4 x5 x20 x21 x27 x28 w Q := by kernel_rfl
  part_lp (fn := Try.f20) mixed entOk Try.func20 H20 (c := (nav [1, 1, 1, 0, 1, 4, 5, 1, 1, 0, 4, 1, 1, 0, 1, 4, 5] C20)) (t := [.blk 2, .jn (nav [1, 1, 1, 0, 1, 4, 5, 1, 1, 0, 4, 1, 1, 1] C20), .blk 1, .jn (nav [1, 1, 1, 0, 1, 4, 5, 1, 1, 1] C20), .lp (nav [1, 1, 1, 0, 1, 4, 5] C20), .blk 0, .jn (nav [1, 1, 1, 1] C20)]) (e.mpr h)
theorem L20_2_ok {x2 x4 x66 x67 x68 : Value} {w : World} {Q : Value → World → Prop} (h : L20_2 x2 x4 x66 x67 x68 w Q) : P20_2 x2 x4 x66 x67 x68 w Q :=
  have e : evC Try.prog (entR 3 143) 20 81 H20 Q (nav [1, 1, 1, 1, 0, 1, 4, 5] C20) T20_2 (unpack [2, 4, 66, 67, 68] [x2, x4, x66, x67, x68]) w (contT Try.prog (entR 3 143) 20 81 H20 Try.f20.results.toList Q T20_2) = L20_2 x2 x4 x66 x67 x68 w Q := by kernel_rfl
  part_lp (fn := Try.f20) mixed entOk Try.func20 H20 (c := (nav [1, 1, 1, 1, 0, 1, 4, 5] C20)) (t := [.blk 4, .jn (nav [1, 1, 1, 1, 1] C20)]) (e.mpr h)
theorem L20_3_ok {x2 x3 x4 x5 x20 x21 x27 x28 : Value} {w : World} {Q : Value → World → Prop} (h : L20_3 x2 x3 x4 x5 x20 x21 x27 x28 w Q) : P20_3 x2 x3 x4 x5 x20 x21 x27 x28 w Q :=
  have e : evC Try.prog (entR 3 143) 20 81 H20 Q (nav [1, 1, 1, 0, 1, 4, 5, 1, 1, 0, 4, 1, 1, 0, 1, 4, 5, 1, 1, 1] C20) [.lp (nav [1, 1, 1, 0, 1, 4, 5, 1, 1, 0, 4, 1, 1, 0, 1, 4, 5] C20), .blk 2, .jn (nav [1, 1, 1, 0, 1, 4, 5, 1, 1, 0, 4, 1, 1, 1] C20), .blk 1, .jn (nav [1, 1, 1, 0, 1, 4, 5, 1, 1, 1] C20), .lp (nav [1, 1, 1, 0, 1, 4, 5] C20), .blk 0, .jn (nav [1, 1, 1, 1] C20)] (unpack [2, 3, 4, 5, 20, 21, 27, 28] [x2, x3, x4, x5, x20, x21, x27, x28]) w (contT Try.prog (entR 3 143) 20 81 H20 Try.f20.results.toList Q [.lp (nav [1, 1, 1, 0, 1, 4, 5, 1, 1, 0, 4, 1, 1, 0, 1, 4, 5] C20), .blk 2, .jn (nav [1, 1, 1, 0, 1, 4, 5, 1, 1, 0, 4, 1, 1, 1] C20), .blk 1, .jn (nav [1, 1, 1, 0, 1, 4, 5, 1, 1, 1] C20), .lp (nav [1, 1, 1, 0, 1, 4, 5] C20), .blk 0, .jn (nav [1, 1, 1, 1] C20)]) = L20_3 x2 x3 x4 x5 x20 x21 x27 x28 w Q := by kernel_rfl
  part_jn (fn := Try.f20) mixed entOk Try.func20 H20 (c := (nav [1, 1, 1, 0, 1, 4, 5, 1, 1, 0, 4, 1, 1, 0, 1, 4, 5, 1, 1, 1] C20)) (t := [.lp (nav [1, 1, 1, 0, 1, 4, 5, 1, 1, 0, 4, 1, 1, 0, 1, 4, 5] C20), .blk 2, .jn (nav [1, 1, 1, 0, 1, 4, 5, 1, 1, 0, 4, 1, 1, 1] C20), .blk 1, .jn (nav [1, 1, 1, 0, 1, 4, 5, 1, 1, 1] C20), .lp (nav [1, 1, 1, 0, 1, 4, 5] C20), .blk 0, .jn (nav [1, 1, 1, 1] C20)]) (e.mpr h)

/-! ### rundale/rundalelaw20.made: function 21 -/
noncomputable def C21 : Code := (Try.f21.body).getD .skip
noncomputable def H21 : Hints := ⟨[(4, [1, 6, 8, 9]), (8, [6, 8, 10]), (11, [6, 8, 10, 11])], [(5, [1, 6, 8, 9]), (12, [6, 8, 10, 11])], [(6, (.ask 1 6 (.leaf [0, 1, 2, 3, 4, 5, 6, 7, 8, 9, 10]) (.leaf [0, 2, 3, 4, 5, 6, 1, 7, 8, 9, 10])))]⟩
noncomputable def T21_0 : List It := [.lp (nav [1, 1, 1, 0, 1, 4, 5] C21), .blk 0, .jn (nav [1, 1, 1, 1] C21)]
noncomputable def T21_1 : List It := [.jn (nav [1, 1, 1, 0, 1, 4, 5, 1, 1] C21), .lp (nav [1, 1, 1, 0, 1, 4, 5] C21), .blk 0, .jn (nav [1, 1, 1, 1] C21)]
noncomputable def T21_2 : List It := [.lp (nav [1, 1, 1, 1, 0, 1, 4, 5] C21), .blk 2, .jn (nav [1, 1, 1, 1, 1] C21)]
noncomputable def T21_3 : List It := [.lp (nav [1, 1, 1, 1, 0, 1, 4, 5, 1, 0, 4, 1, 4, 5] C21), .blk 4, .blk 3, .jn (nav [1, 1, 1, 1, 0, 1, 4, 5, 1, 1] C21), .lp (nav [1, 1, 1, 1, 0, 1, 4, 5] C21), .blk 2, .jn (nav [1, 1, 1, 1, 1] C21)]
noncomputable def T21_4 : List It := [.jn (nav [1, 1, 1, 1, 0, 1, 4, 5, 1, 0, 4, 1, 4, 5, 1, 1] C21), .lp (nav [1, 1, 1, 1, 0, 1, 4, 5, 1, 0, 4, 1, 4, 5] C21), .blk 4, .blk 3, .jn (nav [1, 1, 1, 1, 0, 1, 4, 5, 1, 1] C21), .lp (nav [1, 1, 1, 1, 0, 1, 4, 5] C21), .blk 2, .jn (nav [1, 1, 1, 1, 1] C21)]
/-- rundale/rundalelaw20.made, from a loop's head on -/
def P21_0 (x1 x6 x8 x9 : Value) (w : World) (Q : Value → World → Prop) : Prop := Part Try.prog 21 T21_0 [1, 6, 8, 9] [x1, x6, x8, x9] w Q
/-- rundale/rundalelaw20.made, from a join on -/
def P21_1 (x1 x6 x8 x9 : Value) (w : World) (Q : Value → World → Prop) : Prop := Part Try.prog 21 T21_1 [1, 6, 8, 9] [x1, x6, x8, x9] w Q
/-- rundale/rundalelaw20.made, from a loop's head on -/
def P21_2 (x6 x8 x10 : Value) (w : World) (Q : Value → World → Prop) : Prop := Part Try.prog 21 T21_2 [6, 8, 10] [x6, x8, x10] w Q
/-- rundale/rundalelaw20.made, from a loop's head on -/
def P21_3 (x6 x8 x10 x11 : Value) (w : World) (Q : Value → World → Prop) : Prop := Part Try.prog 21 T21_3 [6, 8, 10, 11] [x6, x8, x10, x11] w Q
/-- rundale/rundalelaw20.made, from a join on -/
def P21_4 (x6 x8 x10 x11 : Value) (w : World) (Q : Value → World → Prop) : Prop := Part Try.prog 21 T21_4 [6, 8, 10, 11] [x6, x8, x10, x11] w Q
def F21 (a0 a1 a2 : Value) (w : World) (Q : Value → World → Prop) : Prop :=
  effv Try.prog (Instr.alloc 25 true (.tuple #[])) w fun t6 w =>
  CallR Try.prog 22 [a2, (Go.Value.int Go.IntKind.i64 8)] w fun t13 w =>
  wpB (bp Try.prog .add 3 (Go.Value.int Go.IntKind.i64 1) t13) fun t14 =>
  CallR Try.prog 71 [a0, t14, (Go.Value.int Go.IntKind.i64 40)] w fun t17 w =>
  wpB (pureRun Try.prog (Instr.build 25 #[(0, t17)])) fun t18 =>
  effv Try.prog (Instr.alloc 25 true (.tuple #[])) w fun t8 w =>
  effu Try.prog (Instr.storeAt 25 t8 t18) w fun w =>
  P21_0 a1 t6 t8 (Go.Value.int Go.IntKind.i64 0) w Q
def L21_0 (x1 x6 x8 x9 : Value) (w : World) (Q : Value → World → Prop) : Prop :=
  wpB (pureRun Try.prog (Builtin.len_ #[23] 3 #[x1])) fun t21 =>
  wpB (bp Try.prog .lss 3 x9 t21) fun t22 =>
  cnd t22
  ((wpB (pureRun Try.prog (Instr.fieldAt 25 x8 1)) fun t25 =>
  wpB (ldv Try.prog 23 t25 w.drew) fun t26 =>
  wpB (pureRun Try.prog (Instr.indexAt 23 x1 x9)) fun t29 =>
  wpB (ldv Try.prog 3 t29 w.drew) fun t30 =>
  CallR Try.prog 22 [t30, (Go.Value.int Go.IntKind.i64 256)] w.drew fun t31 w =>
  effv Try.prog (Instr.buildSlice 23 1 #[(0, t31)]) w fun t32 w =>
  effv Try.prog (Builtin.append_ #[23, 23] 23 #[t26, t32]) w fun t33 w =>
  wpB (pureRun Try.prog (Instr.fieldAt 25 x8 1)) fun t34 =>
  effu Try.prog (Instr.storeAt 23 t34 t33) w fun w =>
  P21_1 x1 x6 x8 x9 w Q) ∧
  (wpB (pureRun Try.prog (Instr.fieldAt 25 x8 1)) fun t25_1 =>
  wpB (pureRun Try.prog (Instr.indexAt 23 x1 x9)) fun t29_1 =>
  wpB (ldv Try.prog 3 t29_1 w.drew) fun t30_1 =>
  CallR Try.prog 22 [t30_1, (Go.Value.int Go.IntKind.i64 256)] w.drew fun t31_1 w =>
  wpB (ldv Try.prog 23 t25_1 w) fun t26_1 =>
  effv Try.prog (Instr.buildSlice 23 1 #[(0, t31_1)]) w fun t32_1 w =>
  effv Try.prog (Builtin.append_ #[23, 23] 23 #[t26_1, t32_1]) w fun t33_1 w =>
  wpB (pureRun Try.prog (Instr.fieldAt 25 x8 1)) fun t34_1 =>
  effu Try.prog (Instr.storeAt 23 t34_1 t33_1) w fun w =>
  P21_1 x1 x6 x8 x9 w Q))
  (P21_2 x6 x8 (Go.Value.int Go.IntKind.i64 0) w Q)
def L21_1 (x1 x6 x8 x9 : Value) (w : World) (Q : Value → World → Prop) : Prop :=
  wpB (bp Try.prog .add 3 x9 (Go.Value.int Go.IntKind.i64 1)) fun t24 =>
  P21_0 x1 x6 x8 t24 w Q
def L21_2 (x6 x8 x10 : Value) (w : World) (Q : Value → World → Prop) : Prop :=
  wpB (pureRun Try.prog (Instr.fieldAt 25 x8 0)) fun t36 =>
  wpB (ldv Try.prog 22 t36 w) fun t37 =>
  wpB (pureRun Try.prog (Builtin.len_ #[22] 3 #[t37])) fun t38 =>
  wpB (bp Try.prog .lss 3 x10 t38) fun t39 =>
  cnd t39
  (P21_3 x6 x8 x10 (Go.Value.int Go.IntKind.i64 0) w Q)
  (wpB (ldv Try.prog 25 x8 w) fun t70 =>
  effu Try.prog (Instr.storeAt 25 x6 t70) w fun w =>
  wpB (ldv Try.prog 25 x6 w) fun r6 => Q r6 w)
def L21_3 (x6 x8 x10 x11 : Value) (w : World) (Q : Value → World → Prop) : Prop :=
  wpB (pureRun Try.prog (Instr.fieldAt 25 x8 0)) fun t43 =>
  wpB (ldv Try.prog 22 t43 w) fun t44 =>
  wpB (pureRun Try.prog (Instr.indexAt 22 t44 x10)) fun t46 =>
  wpB (ldv Try.prog 27 t46 w) fun t47 =>
  wpB (pureRun Try.prog (Builtin.len_ #[27] 3 #[t47])) fun t48 =>
  wpB (bp Try.prog .lss 3 x11 t48) fun t49 =>
  cnd t49
  (wpB (pureRun Try.prog (Instr.fieldAt 25 x8 0)) fun t52 =>
  wpB (ldv Try.prog 22 t52 w) fun t53 =>
  wpB (pureRun Try.prog (Instr.indexAt 22 t53 x10)) fun t55 =>
  wpB (ldv Try.prog 27 t55 w) fun t56 =>
  wpB (pureRun Try.prog (Instr.indexAt 27 t56 x11)) fun t58 =>
  wpB (pureRun Try.prog (Instr.fieldAt 40 t58 0)) fun t59 =>
  wpB (ldv Try.prog 3 t59 w) fun t60 =>
  wpB (be Try.prog .eql 3 (.tmp 60) (.const (Go.Value.int Go.IntKind.i64 0)) t60 (Go.Value.int Go.IntKind.i64 0)) fun t61 =>
  cnd t61
  (wpB (pureRun Try.prog (Instr.fieldAt 25 x8 0)) fun t62 =>
  wpB (ldv Try.prog 22 t62 w) fun t63 =>
  wpB (pureRun Try.prog (Instr.indexAt 22 t63 x10)) fun t65 =>
  wpB (ldv Try.prog 27 t65 w) fun t66 =>
  wpB (pureRun Try.prog (Instr.build 40 #[(0, (Go.Value.int Go.IntKind.i64 11))])) fun t68 =>
  wpB (pureRun Try.prog (Instr.indexAt 27 t66 x11)) fun t69 =>
  effu Try.prog (Instr.storeAt 40 t69 t68) w fun w =>
  P21_4 x6 x8 x10 x11 w Q)
  (P21_4 x6 x8 x10 x11 w Q))
  (wpB (bp Try.prog .add 3 x10 (Go.Value.int Go.IntKind.i64 1)) fun t41 =>
  P21_2 x6 x8 t41 w Q)
def L21_4 (x6 x8 x10 x11 : Value) (w : World) (Q : Value → World → Prop) : Prop :=
  wpB (bp Try.prog .add 3 x11 (Go.Value.int Go.IntKind.i64 1)) fun t51 =>
  P21_3 x6 x8 x10 t51 w Q
theorem F21_ok {a0 a1 a2 : Value} {w : World} {Q : Value → World → Prop} (h : F21 a0 a1 a2 w Q) : CallR Try.prog 21 [a0, a1, a2] w Q :=
  have e : evC Try.prog (entR 3 143) 21 71 H21 Q C21 [] (entryE 0 [a0, a1, a2]) w (contT Try.prog (entR 3 143) 21 71 H21 Try.f21.results.toList Q []) = F21 a0 a1 a2 w Q := by kernel_rfl
  call_of (fn := Try.f21) mixed entOk Try.func21 (c := C21) rfl H21 (Nat.le_of_ble_eq_true rfl) (e.mpr h)
theorem L21_0_ok {x1 x6 x8 x9 : Value} {w : World} {Q : Value → World → Prop} (h : L21_0 x1 x6 x8 x9 w Q) : P21_0 x1 x6 x8 x9 w Q :=
  have e : evC Try.prog (entR 3 143) 21 71 H21 Q (nav [1, 1, 1, 0, 1, 4, 5] C21) T21_0 (unpack [1, 6, 8, 9] [x1, x6, x8, x9]) w (contT Try.prog (entR 3 143) 21 71 H21 Try.f21.results.toList Q T21_0) = L21_0 x1 x6 x8 x9 w Q := by kernel_rfl
  part_lp (fn := Try.f21) mixed entOk Try.func21 H21 (c := (nav [1, 1, 1, 0, 1, 4, 5] C21)) (t := [.blk 0, .jn (nav [1, 1, 1, 1] C21)]) (e.mpr h)
theorem L21_1_ok {x1 x6 x8 x9 : Value} {w : World} {Q : Value → World → Prop} (h : L21_1 x1 x6 x8 x9 w Q) : P21_1 x1 x6 x8 x9 w Q :=
  have e : evC Try.prog (entR 3 143) 21 71 H21 Q (nav [1, 1, 1, 0, 1, 4, 5, 1, 1] C21) [.lp (nav [1, 1, 1, 0, 1, 4, 5] C21), .blk 0, .jn (nav [1, 1, 1, 1] C21)] (unpack [1, 6, 8, 9] [x1, x6, x8, x9]) w (contT Try.prog (entR 3 143) 21 71 H21 Try.f21.results.toList Q [.lp (nav [1, 1, 1, 0, 1, 4, 5] C21), .blk 0, .jn (nav [1, 1, 1, 1] C21)]) = L21_1 x1 x6 x8 x9 w Q := by kernel_rfl
  part_jn (fn := Try.f21) mixed entOk Try.func21 H21 (c := (nav [1, 1, 1, 0, 1, 4, 5, 1, 1] C21)) (t := [.lp (nav [1, 1, 1, 0, 1, 4, 5] C21), .blk 0, .jn (nav [1, 1, 1, 1] C21)]) (e.mpr h)
theorem L21_2_ok {x6 x8 x10 : Value} {w : World} {Q : Value → World → Prop} (h : L21_2 x6 x8 x10 w Q) : P21_2 x6 x8 x10 w Q :=
  have e : evC Try.prog (entR 3 143) 21 71 H21 Q (nav [1, 1, 1, 1, 0, 1, 4, 5] C21) T21_2 (unpack [6, 8, 10] [x6, x8, x10]) w (contT Try.prog (entR 3 143) 21 71 H21 Try.f21.results.toList Q T21_2) = L21_2 x6 x8 x10 w Q := by kernel_rfl
  part_lp (fn := Try.f21) mixed entOk Try.func21 H21 (c := (nav [1, 1, 1, 1, 0, 1, 4, 5] C21)) (t := [.blk 2, .jn (nav [1, 1, 1, 1, 1] C21)]) (e.mpr h)
theorem L21_3_ok {x6 x8 x10 x11 : Value} {w : World} {Q : Value → World → Prop} (h : L21_3 x6 x8 x10 x11 w Q) : P21_3 x6 x8 x10 x11 w Q :=
  have e : evC Try.prog (entR 3 143) 21 71 H21 Q (nav [1, 1, 1, 1, 0, 1, 4, 5, 1, 0, 4, 1, 4, 5] C21) T21_3 (unpack [6, 8, 10, 11] [x6, x8, x10, x11]) w (contT Try.prog (entR 3 143) 21 71 H21 Try.f21.results.toList Q T21_3) = L21_3 x6 x8 x10 x11 w Q := by kernel_rfl
  part_lp (fn := Try.f21) mixed entOk Try.func21 H21 (c := (nav [1, 1, 1, 1, 0, 1, 4, 5, 1, 0, 4, 1, 4, 5] C21)) (t := [.blk 4, .blk 3, .jn (nav [1, 1, 1, 1, 0, 1, 4, 5, 1, 1] C21), .lp (nav [1, 1, 1, 1, 0, 1, 4, 5] C21), .blk 2, .jn (nav [1, 1, 1, 1, 1] C21)]) (e.mpr h)
theorem L21_4_ok {x6 x8 x10 x11 : Value} {w : World} {Q : Value → World → Prop} (h : L21_4 x6 x8 x10 x11 w Q) : P21_4 x6 x8 x10 x11 w Q :=
  have e : evC Try.prog (entR 3 143) 21 71 H21 Q (nav [1, 1, 1, 1, 0, 1, 4, 5, 1, 0, 4, 1, 4, 5, 1, 1] C21) [.lp (nav [1, 1, 1, 1, 0, 1, 4, 5, 1, 0, 4, 1, 4, 5] C21), .blk 4, .blk 3, .jn (nav [1, 1, 1, 1, 0, 1, 4, 5, 1, 1] C21), .lp (nav [1, 1, 1, 1, 0, 1, 4, 5] C21), .blk 2, .jn (nav [1, 1, 1, 1, 1] C21)] (unpack [6, 8, 10, 11] [x6, x8, x10, x11]) w (contT Try.prog (entR 3 143) 21 71 H21 Try.f21.results.toList Q [.lp (nav [1, 1, 1, 1, 0, 1, 4, 5, 1, 0, 4, 1, 4, 5] C21), .blk 4, .blk 3, .jn (nav [1, 1, 1, 1, 0, 1, 4, 5, 1, 1] C21), .lp (nav [1, 1, 1, 1, 0, 1, 4, 5] C21), .blk 2, .jn (nav [1, 1, 1, 1, 1] C21)]) = L21_4 x6 x8 x10 x11 w Q := by kernel_rfl
  part_jn (fn := Try.f21) mixed entOk Try.func21 H21 (c := (nav [1, 1, 1, 1, 0, 1, 4, 5, 1, 0, 4, 1, 4, 5, 1, 1] C21)) (t := [.lp (nav [1, 1, 1, 1, 0, 1, 4, 5, 1, 0, 4, 1, 4, 5] C21), .blk 4, .blk 3, .jn (nav [1, 1, 1, 1, 0, 1, 4, 5, 1, 1] C21), .lp (nav [1, 1, 1, 1, 0, 1, 4, 5] C21), .blk 2, .jn (nav [1, 1, 1, 1, 1] C21)]) (e.mpr h)

/-! ### rundale/rundalemake.Number: function 22 -/
noncomputable def C22 : Code := (Try.f22.body).getD .skip
noncomputable def H22 : Hints := ⟨[], [(4, [5])], []⟩
noncomputable def T22_0 : List It := [.jn (nav [1, 1, 1] C22)]
/-- rundale/rundalemake.Number, from a join on -/
def P22_0 (x5 : Value) (w : World) (Q : Value → World → Prop) : Prop := Part Try.prog 22 T22_0 [5] [x5] w Q
def F22 (a0 a1 : Value) (w : World) (Q : Value → World → Prop) : Prop :=
  wpB (bp Try.prog .rem 3 a0 a1) fun t8 =>
  wpB (bp Try.prog .lss 3 t8 (Go.Value.int Go.IntKind.i64 0)) fun t10 =>
  cnd t10
  (wpB (bp Try.prog .add 3 t8 a1) fun t13 =>
  P22_0 t13 w Q)
  (P22_0 t8 w Q)
def L22_0 (x5 : Value) (w : World) (Q : Value → World → Prop) : Prop :=
  Q x5 w
theorem F22_ok {a0 a1 : Value} {w : World} {Q : Value → World → Prop} (h : F22 a0 a1 w Q) : CallR Try.prog 22 [a0, a1] w Q :=
  have e : evC Try.prog (entR 3 143) 22 15 H22 Q C22 [] (entryE 0 [a0, a1]) w (contT Try.prog (entR 3 143) 22 15 H22 Try.f22.results.toList Q []) = F22 a0 a1 w Q := by kernel_rfl
  call_of (fn := Try.f22) mixed entOk Try.func22 (c := C22) rfl H22 (Nat.le_of_ble_eq_true rfl) (e.mpr h)
theorem L22_0_ok {x5 : Value} {w : World} {Q : Value → World → Prop} (h : L22_0 x5 w Q) : P22_0 x5 w Q :=
  have e : evC Try.prog (entR 3 143) 22 15 H22 Q (nav [1, 1, 1] C22) [] (unpack [5] [x5]) w (contT Try.prog (entR 3 143) 22 15 H22 Try.f22.results.toList Q []) = L22_0 x5 w Q := by kernel_rfl
  part_jn (fn := Try.f22) mixed entOk Try.func22 H22 (c := (nav [1, 1, 1] C22)) (t := []) (e.mpr h)

/-! ### rundale/rundalemake.Config: function 49 -/
noncomputable def C49 : Code := (Try.f49.body).getD .skip
noncomputable def H49 : Hints := ⟨[], [], []⟩
def F49 (a0 : Value) (w : World) (Q : Value → World → Prop) : Prop :=
  effv Try.prog (Instr.alloc 74 true (.tuple #[])) w fun t2 w =>
  CallR Try.prog 22 [a0, (Go.Value.int Go.IntKind.i64 4)] w fun t5 w =>
  wpB (bp Try.prog .quo 3 a0 (Go.Value.int Go.IntKind.i64 4)) fun t7 =>
  CallR Try.prog 22 [t7, (Go.Value.int Go.IntKind.i64 8)] w fun t8 w =>
  wpB (bp Try.prog .quo 3 a0 (Go.Value.int Go.IntKind.i64 32)) fun t10 =>
  CallR Try.prog 22 [t10, (Go.Value.int Go.IntKind.i64 2)] w fun t11 w =>
  wpB (bp Try.prog .quo 3 a0 (Go.Value.int Go.IntKind.i64 64)) fun t13 =>
  CallR Try.prog 22 [t13, (Go.Value.int Go.IntKind.i64 4)] w fun t14 w =>
  wpB (bp Try.prog .quo 3 a0 (Go.Value.int Go.IntKind.i64 256)) fun t16 =>
  CallR Try.prog 22 [t16, (Go.Value.int Go.IntKind.i64 4)] w fun t17 w =>
  wpB (bp Try.prog .quo 3 a0 (Go.Value.int Go.IntKind.i64 1024)) fun t19 =>
  CallR Try.prog 22 [t19, (Go.Value.int Go.IntKind.i64 3)] w fun t20 w =>
  effv Try.prog (Instr.buildSlice 23 6 #[(0, t5), (1, t8), (2, t11), (3, t14), (4, t17), (5, t20)]) w fun t21 w =>
  wpB (pureRun Try.prog (Instr.build 100 #[(0, t21)])) fun t22 =>
  effv Try.prog (Instr.box 100 t22) w fun t23 w =>
  CallR Try.prog 50 [t23, (Go.Value.int Go.IntKind.i64 4)] w fun t25 w =>
  wpB (bp Try.prog .add 3 (Go.Value.int Go.IntKind.i64 1) t25) fun t26 =>
  CallR Try.prog 50 [t23, (Go.Value.int Go.IntKind.i64 8)] w fun t28 w =>
  wpB (bp Try.prog .add 3 (Go.Value.int Go.IntKind.i64 1) t28) fun t29 =>
  CallR Try.prog 50 [t23, (Go.Value.int Go.IntKind.i64 2)] w fun t31 w =>
  wpB (bp Try.prog .mul 3 (Go.Value.int Go.IntKind.i64 8) t31) fun t32 =>
  wpB (bp Try.prog .add 3 (Go.Value.int Go.IntKind.i64 8) t32) fun t33 =>
  CallR Try.prog 50 [t23, (Go.Value.int Go.IntKind.i64 4)] w fun t35 w =>
  wpB (bp Try.prog .add 3 (Go.Value.int Go.IntKind.i64 1) t35) fun t36 =>
  CallR Try.prog 50 [t23, (Go.Value.int Go.IntKind.i64 4)] w fun t38 w =>
  CallR Try.prog 50 [t23, (Go.Value.int Go.IntKind.i64 3)] w fun t40 w =>
  wpB (bp Try.prog .add 3 (Go.Value.int Go.IntKind.i64 1) t40) fun t41 =>
  wpB (pureRun Try.prog (Instr.build 74 #[(0, t26), (1, t29), (2, t33), (3, t36), (4, t38), (5, t41)])) fun t42 =>
  effu Try.prog (Instr.storeAt 74 t2 t42) w fun w =>
  wpB (ldv Try.prog 74 t2 w) fun r2 => Q r2 w
theorem F49_ok {a0 : Value} {w : World} {Q : Value → World → Prop} (h : F49 a0 w Q) : CallR Try.prog 49 [a0] w Q :=
  have e : evC Try.prog (entR 3 143) 49 43 H49 Q C49 [] (entryE 0 [a0]) w (contT Try.prog (entR 3 143) 49 43 H49 Try.f49.results.toList Q []) = F49 a0 w Q := by kernel_rfl
  call_of (fn := Try.f49) mixed entOk Try.func49 (c := C49) rfl H49 (Nat.le_of_ble_eq_true rfl) (e.mpr h)

/-! ### (*rundale/rundalemake.Seq).N: function 50 -/
noncomputable def C50 : Code := (Try.f50.body).getD .skip
noncomputable def H50 : Hints := ⟨[], [(4, [0, 1, 5])], [(2, (.leaf [0, 1, 2, 3, 4, 5, 6, 7, 8, 9])), (3, (.leaf [0, 1, 2, 3, 4, 5, 6, 7, 8, 9, 10]))]⟩
noncomputable def T50_0 : List It := [.jn (nav [1, 1, 1] C50)]
/-- (*rundale/rundalemake.Seq).N, from a join on -/
def P50_0 (x0 x1 x5 : Value) (w : World) (Q : Value → World → Prop) : Prop := Part Try.prog 50 T50_0 [0, 1, 5] [x0, x1, x5] w Q
def F50 (a0 a1 : Value) (w : World) (Q : Value → World → Prop) : Prop :=
  wpB (nilv a0) fun t7 =>
  wpB (pureRun Try.prog (Instr.fieldAt 100 t7 1)) fun t8 =>
  wpB (ldv Try.prog 3 t8 w.drew) fun t9 =>
  wpB (nilv a0) fun t11 =>
  wpB (pureRun Try.prog (Instr.fieldAt 100 t11 0)) fun t12 =>
  wpB (ldv Try.prog 23 t12 w.drew) fun t13 =>
  wpB (pureRun Try.prog (Builtin.len_ #[23] 3 #[t13])) fun t14 =>
  wpB (bp Try.prog .lss 3 t9 t14) fun t15 =>
  cnd t15
  (wpB (nilv a0) fun t17 =>
  wpB (pureRun Try.prog (Instr.fieldAt 100 t17 0)) fun t18 =>
  wpB (ldv Try.prog 23 t18 w.drew.drew) fun t19 =>
  wpB (nilv a0) fun t21 =>
  wpB (pureRun Try.prog (Instr.fieldAt 100 t21 1)) fun t22 =>
  wpB (ldv Try.prog 3 t22 w.drew.drew) fun t23 =>
  wpB (pureRun Try.prog (Instr.indexAt 23 t19 t23)) fun t24 =>
  wpB (ldv Try.prog 3 t24 w.drew.drew) fun t25 =>
  P50_0 a0 a1 t25 w.drew.drew Q)
  (P50_0 a0 a1 (Go.Value.int Go.IntKind.i64 0) w.drew Q)
def L50_0 (x0 x1 x5 : Value) (w : World) (Q : Value → World → Prop) : Prop :=
  wpB (nilv x0) fun t27 =>
  wpB (pureRun Try.prog (Instr.fieldAt 100 t27 1)) fun t28 =>
  wpB (ldv Try.prog 3 t28 w) fun t29 =>
  wpB (bp Try.prog .add 3 t29 (Go.Value.int Go.IntKind.i64 1)) fun t30 =>
  wpB (nilv x0) fun t31 =>
  wpB (pureRun Try.prog (Instr.fieldAt 100 t31 1)) fun t32 =>
  effu Try.prog (Instr.storeAt 3 t32 t30) w fun w =>
  CallR Try.prog 22 [x5, x1] w fun t35 w =>
  Q t35 w
theorem F50_ok {a0 a1 : Value} {w : World} {Q : Value → World → Prop} (h : F50 a0 a1 w Q) : CallR Try.prog 50 [a0, a1] w Q :=
  have e : evC Try.prog (entR 3 143) 50 36 H50 Q C50 [] (entryE 0 [a0, a1]) w (contT Try.prog (entR 3 143) 50 36 H50 Try.f50.results.toList Q []) = F50 a0 a1 w Q := by kernel_rfl
  call_of (fn := Try.f50) mixed entOk Try.func50 (c := C50) rfl H50 (Nat.le_of_ble_eq_true rfl) (e.mpr h)
theorem L50_0_ok {x0 x1 x5 : Value} {w : World} {Q : Value → World → Prop} (h : L50_0 x0 x1 x5 w Q) : P50_0 x0 x1 x5 w Q :=
  have e : evC Try.prog (entR 3 143) 50 36 H50 Q (nav [1, 1, 1] C50) [] (unpack [0, 1, 5] [x0, x1, x5]) w (contT Try.prog (entR 3 143) 50 36 H50 Try.f50.results.toList Q []) = L50_0 x0 x1 x5 w Q := by kernel_rfl
  part_jn (fn := Try.f50) mixed entOk Try.func50 H50 (c := (nav [1, 1, 1] C50)) (t := []) (e.mpr h)

/-! ### rundale/rundaleref18.May: function 53 -/
noncomputable def C53 : Code := (Try.f53.body).getD .skip
noncomputable def H53 : Hints := ⟨[], [(6, [1, 3])], []⟩
noncomputable def T53_0 : List It := [.jn (nav [1, 1, 1] C53)]
/-- rundale/rundaleref18.May, from a join on -/
def P53_0 (x1 x3 : Value) (w : World) (Q : Value → World → Prop) : Prop := Part Try.prog 53 T53_0 [1, 3] [x1, x3] w Q
def F53 (a0 : Value) (w : World) (Q : Value → World → Prop) : Prop :=
  effv Try.prog (Instr.box 40 a0) w fun t1 w =>
  wpB (pureRun Try.prog (Instr.fieldAt 40 t1 0)) fun t5 =>
  wpB (ldv Try.prog 3 t5 w) fun t6 =>
  wpB (be Try.prog .eql 3 (.tmp 6) (.const (Go.Value.int Go.IntKind.i64 1)) t6 (Go.Value.int Go.IntKind.i64 1)) fun t7 =>
  cnd t7
  (P53_0 t1 (Go.Value.int Go.IntKind.i64 3) w Q)
  (wpB (pureRun Try.prog (Instr.fieldAt 40 t1 0)) fun t9 =>
  wpB (ldv Try.prog 3 t9 w) fun t10 =>
  CallR Try.prog 64 [t10] w fun t11 w =>
  cnd t11
  (P53_0 t1 (Go.Value.int Go.IntKind.i64 65535) w Q)
  (P53_0 t1 (Go.Value.int Go.IntKind.i64 0) w Q))
def L53_0 (x1 x3 : Value) (w : World) (Q : Value → World → Prop) : Prop :=
  wpB (pureRun Try.prog (Instr.fieldAt 40 x1 0)) fun t12 =>
  wpB (ldv Try.prog 3 t12 w) fun t13 =>
  CallR Try.prog 66 [t13, (Go.Value.int Go.IntKind.i64 1), (Go.Value.int Go.IntKind.i64 12)] w fun t14 w =>
  wpB (pureRun Try.prog (Op.unary .not t14)) fun t15 =>
  wpB (gd t15 false (pureRun Try.prog (Instr.fieldAt 40 x1 3))) fun t17 =>
  wpB (gd t15 false (ldv Try.prog 3 t17 w)) fun t18 =>
  gE t15 false (CallR Try.prog 66 [t18, (Go.Value.int Go.IntKind.i64 0), (gv t15 false x3)] w) (fun t20 w =>
  wpB (gd t15 false (pureRun Try.prog (Op.unary .not t20))) fun t21 =>
  wpB (pickv t15 (some (Go.Value.bool true)) (some t21)) fun t22 =>
  wpB (gd t22 false (pureRun Try.prog (Instr.fieldAt 40 x1 0))) fun t24 =>
  wpB (gd t22 false (ldv Try.prog 3 t24 w)) fun t25 =>
  gE t22 false (CallR Try.prog 65 [t25] w) (fun t26 w =>
  wpB (gd t22 false (pureRun Try.prog (Op.unary .not t26))) fun t27 =>
  wpB (gd (gv t22 false t27) true (pureRun Try.prog (Instr.fieldAt 40 x1 4))) fun t29 =>
  wpB (gd (gv t22 false t27) true (ldv Try.prog 38 t29 w)) fun t30 =>
  wpB (gd (gv t22 false t27) true (be Try.prog .neq 38 (.tmp 30) (.const (Go.Value.int Go.IntKind.u64 0)) t30 (Go.Value.int Go.IntKind.u64 0))) fun t31 =>
  wpB (gd t22 false (pickv (gv t22 false t27) (some t31) (some (Go.Value.bool false)))) fun t32 =>
  wpB (pickv t22 (some (Go.Value.bool true)) (some t32)) fun t33 =>
  wpB (gd t33 false (pureRun Try.prog (Instr.fieldAt 40 x1 0))) fun t35 =>
  wpB (gd t33 false (ldv Try.prog 3 t35 w)) fun t36 =>
  wpB (gd t33 false (be Try.prog .neq 3 (.tmp 36) (.const (Go.Value.int Go.IntKind.i64 9)) t36 (Go.Value.int Go.IntKind.i64 9))) fun t37 =>
  wpB (gd (gv t33 false t37) true (pureRun Try.prog (Instr.fieldAt 40 x1 5))) fun t39 =>
  wpB (gd (gv t33 false t37) true (ldv Try.prog 38 t39 w)) fun t40 =>
  wpB (gd (gv t33 false t37) true (be Try.prog .neq 38 (.tmp 40) (.const (Go.Value.int Go.IntKind.u64 0)) t40 (Go.Value.int Go.IntKind.u64 0))) fun t41 =>
  wpB (gd t33 false (pickv (gv t33 false t37) (some t41) (some (Go.Value.bool false)))) fun t42 =>
  wpB (pickv t33 (some (Go.Value.bool true)) (some t42)) fun t43 =>
  cnd t43
  (Q (Go.Value.bool false) w)
  (wpB (pureRun Try.prog (Instr.fieldAt 40 x1 0)) fun t44 =>
  wpB (ldv Try.prog 3 t44 w) fun t45 =>
  CallR Try.prog 63 [t45] w fun t46 w =>
  wpB (be Try.prog .eql 3 (.tmp 46) (.const (Go.Value.int Go.IntKind.i64 0)) t46 (Go.Value.int Go.IntKind.i64 0)) fun t47 =>
  cnd t47
  (wpB (pureRun Try.prog (Instr.fieldAt 40 x1 1)) fun t48 =>
  wpB (ldv Try.prog 3 t48 w) fun t49 =>
  wpB (be Try.prog .eql 3 (.tmp 49) (.const (Go.Value.int Go.IntKind.i64 0)) t49 (Go.Value.int Go.IntKind.i64 0)) fun t50 =>
  wpB (gd t50 true (pureRun Try.prog (Instr.fieldAt 40 x1 2))) fun t52 =>
  wpB (gd t50 true (ldv Try.prog 3 t52 w)) fun t53 =>
  wpB (gd t50 true (be Try.prog .eql 3 (.tmp 53) (.const (Go.Value.int Go.IntKind.i64 0)) t53 (Go.Value.int Go.IntKind.i64 0))) fun t54 =>
  wpB (pickv t50 (some t54) (some (Go.Value.bool false))) fun t55 =>
  Q t55 w)
  (wpB (pureRun Try.prog (Instr.fieldAt 40 x1 1)) fun t56 =>
  wpB (ldv Try.prog 3 t56 w) fun t57 =>
  CallR Try.prog 66 [t57, (Go.Value.int Go.IntKind.i64 0), (Go.Value.int Go.IntKind.i64 63)] w fun t58 w =>
  wpB (gd t58 true (pureRun Try.prog (Instr.fieldAt 40 x1 2))) fun t60 =>
  wpB (gd t58 true (ldv Try.prog 3 t60 w)) fun t61 =>
  gE t58 true (CallR Try.prog 66 [t61, (Go.Value.int Go.IntKind.i64 0), (Go.Value.int Go.IntKind.i64 999)] w) (fun t62 w =>
  wpB (pickv t58 (some t62) (some (Go.Value.bool false))) fun t63 =>
  Q t63 w) w))) w) w
theorem F53_ok {a0 : Value} {w : World} {Q : Value → World → Prop} (h : F53 a0 w Q) : CallR Try.prog 53 [a0] w Q :=
  have e : evC Try.prog (entR 3 143) 53 64 H53 Q C53 [] (entryE 0 [a0]) w (contT Try.prog (entR 3 143) 53 64 H53 Try.f53.results.toList Q []) = F53 a0 w Q := by kernel_rfl
  call_of (fn := Try.f53) mixed entOk Try.func53 (c := C53) rfl H53 (Nat.le_of_ble_eq_true rfl) (e.mpr h)
theorem L53_0_ok {x1 x3 : Value} {w : World} {Q : Value → World → Prop} (h : L53_0 x1 x3 w Q) : P53_0 x1 x3 w Q :=
  have e : evC Try.prog (entR 3 143) 53 64 H53 Q (nav [1, 1, 1] C53) [] (unpack [1, 3] [x1, x3]) w (contT Try.prog (entR 3 143) 53 64 H53 Try.f53.results.toList Q []) = L53_0 x1 x3 w Q := by kernel_rfl
  part_jn (fn := Try.f53) mixed entOk Try.func53 H53 (c := (nav [1, 1, 1] C53)) (t := []) (e.mpr h)

/-! ### rundale/script.low: function 59 -/
noncomputable def C59 : Code := (Try.f59.body).getD .skip
noncomputable def H59 : Hints := ⟨[(2, [0, 1, 8, 9])], [], []⟩
noncomputable def T59_0 : List It := [.lp (nav [1, 0, 1, 4, 5] C59), .blk 0, .jn (nav [1, 1] C59)]
/-- rundale/script.low, from a loop's head on -/
def P59_0 (x0 x1 x8 x9 : Value) (w : World) (Q : Value → World → Prop) : Prop := Part Try.prog 59 T59_0 [0, 1, 8, 9] [x0, x1, x8, x9] w Q
def F59 (a0 a1 a2 : Value) (w : World) (Q : Value → World → Prop) : Prop :=
  P59_0 a0 a1 a2 (Go.Value.int Go.IntKind.i64 0) w Q
def L59_0 (x0 x1 x8 x9 : Value) (w : World) (Q : Value → World → Prop) : Prop :=
  wpB (bp Try.prog .lss 3 x9 x8) fun t10 =>
  cnd t10
  (wpB (bp Try.prog .mul 3 (Go.Value.int Go.IntKind.i64 8) x9) fun t15 =>
  wpB (bp Try.prog .shr 38 x1 t15) fun t16 =>
  wpB (pureRun Try.prog (convert 38 5 t16)) fun t17 =>
  effv Try.prog (Instr.buildSlice 28 1 #[(0, t17)]) w fun t18 w =>
  effv Try.prog (Builtin.append_ #[28, 28] 28 #[x0, t18]) w fun t19 w =>
  wpB (bp Try.prog .add 3 x9 (Go.Value.int Go.IntKind.i64 1)) fun t20 =>
  P59_0 t19 x1 x8 t20 w Q)
  (Q x0 w)
theorem F59_ok {a0 a1 a2 : Value} {w : World} {Q : Value → World → Prop} (h : F59 a0 a1 a2 w Q) : CallR Try.prog 59 [a0, a1, a2] w Q :=
  have e : evC Try.prog (entR 3 143) 59 22 H59 Q C59 [] (entryE 0 [a0, a1, a2]) w (contT Try.prog (entR 3 143) 59 22 H59 Try.f59.results.toList Q []) = F59 a0 a1 a2 w Q := by kernel_rfl
  call_of (fn := Try.f59) mixed entOk Try.func59 (c := C59) rfl H59 (Nat.le_of_ble_eq_true rfl) (e.mpr h)
theorem L59_0_ok {x0 x1 x8 x9 : Value} {w : World} {Q : Value → World → Prop} (h : L59_0 x0 x1 x8 x9 w Q) : P59_0 x0 x1 x8 x9 w Q :=
  have e : evC Try.prog (entR 3 143) 59 22 H59 Q (nav [1, 0, 1, 4, 5] C59) T59_0 (unpack [0, 1, 8, 9] [x0, x1, x8, x9]) w (contT Try.prog (entR 3 143) 59 22 H59 Try.f59.results.toList Q T59_0) = L59_0 x0 x1 x8 x9 w Q := by kernel_rfl
  part_lp (fn := Try.f59) mixed entOk Try.func59 H59 (c := (nav [1, 0, 1, 4, 5] C59)) (t := [.blk 0, .jn (nav [1, 1] C59)]) (e.mpr h)

/-! ### rundale/op.May: function 60 -/
noncomputable def C60 : Code := (Try.f60.body).getD .skip
noncomputable def H60 : Hints := ⟨[], [(5, [1, 3, 4, 5, 6]), (9, [1, 3, 4, 5, 6])], []⟩
noncomputable def T60_0 : List It := [.jn (nav [1, 1, 1, 1] C60)]
noncomputable def T60_1 : List It := [.jn (nav [1, 1, 1, 1, 1] C60)]
/-- rundale/op.May, from a join on -/
def P60_0 (x1 x3 x4 x5 x6 : Value) (w : World) (Q : Value → World → Prop) : Prop := Part Try.prog 60 T60_0 [1, 3, 4, 5, 6] [x1, x3, x4, x5, x6] w Q
/-- rundale/op.May, from a join on -/
def P60_1 (x1 x3 x4 x5 x6 : Value) (w : World) (Q : Value → World → Prop) : Prop := Part Try.prog 60 T60_1 [1, 3, 4, 5, 6] [x1, x3, x4, x5, x6] w Q
def F60 (a0 : Value) (w : World) (Q : Value → World → Prop) : Prop :=
  effv Try.prog (Instr.box 40 a0) w fun t1 w =>
  wpB (pureRun Try.prog (Instr.fieldAt 40 t1 0)) fun t7 =>
  wpB (ldv Try.prog 3 t7 w) fun t8 =>
  CallR Try.prog 108 [t8] w fun t9 w =>
  effv Try.prog (Instr.alloc 170 true (.tuple #[])) w fun t3 w =>
  effu Try.prog (Instr.storeAt 170 t3 t9) w fun w =>
  wpB (pureRun Try.prog (Instr.fieldAt 170 t3 1)) fun t10 =>
  wpB (ldv Try.prog 3 t10 w) fun t11 =>
  wpB (be Try.prog .neq 3 (.tmp 11) (.const (Go.Value.int Go.IntKind.i64 0)) t11 (Go.Value.int Go.IntKind.i64 0)) fun t12 =>
  cnd t12
  (P60_0 t1 t3 (Go.Value.int Go.IntKind.i64 63) (Go.Value.int Go.IntKind.i64 999) (Go.Value.int Go.IntKind.i64 0) w Q)
  (P60_0 t1 t3 (Go.Value.int Go.IntKind.i64 0) (Go.Value.int Go.IntKind.i64 0) (Go.Value.int Go.IntKind.i64 0) w Q)
def L60_0 (x1 x3 x4 x5 x6 : Value) (w : World) (Q : Value → World → Prop) : Prop :=
  wpB (pureRun Try.prog (Instr.fieldAt 40 x1 0)) fun t14 =>
  wpB (ldv Try.prog 3 t14 w) fun t15 =>
  wpB (be Try.prog .eql 3 (.tmp 15) (.const (Go.Value.int Go.IntKind.i64 1)) t15 (Go.Value.int Go.IntKind.i64 1)) fun t16 =>
  cnd t16
  (P60_1 x1 x3 x4 x5 (Go.Value.int Go.IntKind.i64 3) w Q)
  (wpB (pureRun Try.prog (Instr.fieldAt 170 x3 2)) fun t18 =>
  wpB (ldv Try.prog 4 t18 w) fun t19 =>
  cnd t19
  (P60_1 x1 x3 x4 x5 (Go.Value.int Go.IntKind.i64 65535) w Q)
  (P60_1 x1 x3 x4 x5 x6 w Q))
def L60_1 (x1 x3 x4 x5 x6 : Value) (w : World) (Q : Value → World → Prop) : Prop :=
  wpB (pureRun Try.prog (Instr.fieldAt 170 x3 0)) fun t20 =>
  wpB (ldv Try.prog 9 t20 w) fun t21 =>
  wpB (be Try.prog .neq 9 (.tmp 21) (.const (Go.Value.string { data := #[] })) t21 (Go.Value.string { data := #[] })) fun t22 =>
  wpB (gd t22 true (pureRun Try.prog (Instr.fieldAt 40 x1 1))) fun t24 =>
  wpB (gd t22 true (ldv Try.prog 3 t24 w)) fun t25 =>
  gE t22 true (CallR Try.prog 109 [t25, (gv t22 true x4)] w) (fun t27 w =>
  wpB (pickv t22 (some t27) (some (Go.Value.bool false))) fun t28 =>
  wpB (gd t28 true (pureRun Try.prog (Instr.fieldAt 40 x1 2))) fun t30 =>
  wpB (gd t28 true (ldv Try.prog 3 t30 w)) fun t31 =>
  gE t28 true (CallR Try.prog 109 [t31, (gv t28 true x5)] w) (fun t33 w =>
  wpB (pickv t28 (some t33) (some (Go.Value.bool false))) fun t34 =>
  wpB (gd t34 true (pureRun Try.prog (Instr.fieldAt 40 x1 3))) fun t36 =>
  wpB (gd t34 true (ldv Try.prog 3 t36 w)) fun t37 =>
  gE t34 true (CallR Try.prog 109 [t37, (gv t34 true x6)] w) (fun t39 w =>
  wpB (pickv t34 (some t39) (some (Go.Value.bool false))) fun t40 =>
  wpB (gd t40 true (pureRun Try.prog (Instr.fieldAt 170 x3 3))) fun t42 =>
  wpB (gd t40 true (ldv Try.prog 4 t42 w)) fun t43 =>
  wpB (gd (gv t40 true t43) false (pureRun Try.prog (Instr.fieldAt 40 x1 4))) fun t45 =>
  wpB (gd (gv t40 true t43) false (ldv Try.prog 38 t45 w)) fun t46 =>
  wpB (gd (gv t40 true t43) false (be Try.prog .eql 38 (.tmp 46) (.const (Go.Value.int Go.IntKind.u64 0)) t46 (Go.Value.int Go.IntKind.u64 0))) fun t47 =>
  wpB (gd t40 true (pickv (gv t40 true t43) (some (Go.Value.bool true)) (some t47))) fun t48 =>
  wpB (pickv t40 (some t48) (some (Go.Value.bool false))) fun t49 =>
  wpB (gd t49 true (pureRun Try.prog (Instr.fieldAt 170 x3 4))) fun t51 =>
  wpB (gd t49 true (ldv Try.prog 4 t51 w)) fun t52 =>
  wpB (gd (gv t49 true t52) false (pureRun Try.prog (Instr.fieldAt 40 x1 5))) fun t54 =>
  wpB (gd (gv t49 true t52) false (ldv Try.prog 38 t54 w)) fun t55 =>
  wpB (gd (gv t49 true t52) false (be Try.prog .eql 38 (.tmp 55) (.const (Go.Value.int Go.IntKind.u64 0)) t55 (Go.Value.int Go.IntKind.u64 0))) fun t56 =>
  wpB (gd t49 true (pickv (gv t49 true t52) (some (Go.Value.bool true)) (some t56))) fun t57 =>
  wpB (pickv t49 (some t57) (some (Go.Value.bool false))) fun t58 =>
  Q t58 w) w) w) w
theorem F60_ok {a0 : Value} {w : World} {Q : Value → World → Prop} (h : F60 a0 w Q) : CallR Try.prog 60 [a0] w Q :=
  have e : evC Try.prog (entR 3 143) 60 59 H60 Q C60 [] (entryE 0 [a0]) w (contT Try.prog (entR 3 143) 60 59 H60 Try.f60.results.toList Q []) = F60 a0 w Q := by kernel_rfl
  call_of (fn := Try.f60) mixed entOk Try.func60 (c := C60) rfl H60 (Nat.le_of_ble_eq_true rfl) (e.mpr h)
theorem L60_0_ok {x1 x3 x4 x5 x6 : Value} {w : World} {Q : Value → World → Prop} (h : L60_0 x1 x3 x4 x5 x6 w Q) : P60_0 x1 x3 x4 x5 x6 w Q :=
  have e : evC Try.prog (entR 3 143) 60 59 H60 Q (nav [1, 1, 1, 1] C60) [] (unpack [1, 3, 4, 5, 6] [x1, x3, x4, x5, x6]) w (contT Try.prog (entR 3 143) 60 59 H60 Try.f60.results.toList Q []) = L60_0 x1 x3 x4 x5 x6 w Q := by kernel_rfl
  part_jn (fn := Try.f60) mixed entOk Try.func60 H60 (c := (nav [1, 1, 1, 1] C60)) (t := []) (e.mpr h)
theorem L60_1_ok {x1 x3 x4 x5 x6 : Value} {w : World} {Q : Value → World → Prop} (h : L60_1 x1 x3 x4 x5 x6 w Q) : P60_1 x1 x3 x4 x5 x6 w Q :=
  have e : evC Try.prog (entR 3 143) 60 59 H60 Q (nav [1, 1, 1, 1, 1] C60) [] (unpack [1, 3, 4, 5, 6] [x1, x3, x4, x5, x6]) w (contT Try.prog (entR 3 143) 60 59 H60 Try.f60.results.toList Q []) = L60_1 x1 x3 x4 x5 x6 w Q := by kernel_rfl
  part_jn (fn := Try.f60) mixed entOk Try.func60 H60 (c := (nav [1, 1, 1, 1, 1] C60)) (t := []) (e.mpr h)

/-! ### rundale/script.has: function 61 -/
noncomputable def C61 : Code := (Try.f61.body).getD .skip
noncomputable def H61 : Hints := ⟨[], [(5, [0, 3, 4, 5, 6, 7]), (8, [0, 3, 4, 5, 6, 11]), (11, [0, 3, 4, 5])], []⟩
noncomputable def T61_0 : List It := [.jn (nav [1, 0, 1, 4, 1] C61), .blk 0, .jn (nav [1, 1] C61)]
noncomputable def T61_1 : List It := [.jn (nav [1, 1] C61)]
noncomputable def T61_2 : List It := [.jn (nav [1, 0, 1, 4, 1, 3, 1] C61), .blk 0, .jn (nav [1, 1] C61)]
/-- rundale/script.has, from a join on -/
def P61_0 (x0 x3 x4 x5 x6 x7 : Value) (w : World) (Q : Value → World → Prop) : Prop := Part Try.prog 61 T61_0 [0, 3, 4, 5, 6, 7] [x0, x3, x4, x5, x6, x7] w Q
/-- rundale/script.has, from a join on -/
def P61_1 (x0 x3 x4 x5 : Value) (w : World) (Q : Value → World → Prop) : Prop := Part Try.prog 61 T61_1 [0, 3, 4, 5] [x0, x3, x4, x5] w Q
/-- rundale/script.has, from a join on -/
def P61_2 (x0 x3 x4 x5 x6 x11 : Value) (w : World) (Q : Value → World → Prop) : Prop := Part Try.prog 61 T61_2 [0, 3, 4, 5, 6, 11] [x0, x3, x4, x5, x6, x11] w Q
def F61 (a0 : Value) (w : World) (Q : Value → World → Prop) : Prop :=
  wpB (be Try.prog .eql 3 (.tmp 6) (.const (Go.Value.int Go.IntKind.i64 1)) a0 (Go.Value.int Go.IntKind.i64 1)) fun t8 =>
  cnd t8
  (P61_0 a0 (Go.Value.bool false) (Go.Value.bool false) (Go.Value.bool false) a0 t8 w Q)
  (wpB (be Try.prog .eql 3 (.tmp 6) (.const (Go.Value.int Go.IntKind.i64 2)) a0 (Go.Value.int Go.IntKind.i64 2)) fun t9 =>
  cnd t9
  (P61_0 a0 (Go.Value.bool false) (Go.Value.bool false) (Go.Value.bool false) a0 t9 w Q)
  (wpB (be Try.prog .eql 3 (.tmp 6) (.const (Go.Value.int Go.IntKind.i64 6)) a0 (Go.Value.int Go.IntKind.i64 6)) fun t10 =>
  P61_0 a0 (Go.Value.bool false) (Go.Value.bool false) (Go.Value.bool false) a0 t10 w Q))
def L61_0 (x0 x3 x4 x5 x6 x7 : Value) (w : World) (Q : Value → World → Prop) : Prop :=
  cnd x7
  (P61_1 x0 (Go.Value.bool true) x4 x5 w Q)
  (wpB (be Try.prog .eql 3 (.tmp 6) (.const (Go.Value.int Go.IntKind.i64 7)) x6 (Go.Value.int Go.IntKind.i64 7)) fun t12 =>
  cnd t12
  (P61_2 x0 x3 x4 x5 x6 t12 w Q)
  (wpB (be Try.prog .eql 3 (.tmp 6) (.const (Go.Value.int Go.IntKind.i64 8)) x6 (Go.Value.int Go.IntKind.i64 8)) fun t13 =>
  P61_2 x0 x3 x4 x5 x6 t13 w Q))
def L61_1 (x0 x3 x4 x5 : Value) (w : World) (Q : Value → World → Prop) : Prop :=
  CallR Try.prog 110 [x0] w fun t17 w =>
  wpB (be Try.prog .neq 3 (.tmp 17) (.const (Go.Value.int Go.IntKind.i64 0)) t17 (Go.Value.int Go.IntKind.i64 0)) fun t18 =>
  Q (.tuple #[t18, x3, x4, x5]) w
def L61_2 (x0 x3 x4 x5 x6 x11 : Value) (w : World) (Q : Value → World → Prop) : Prop :=
  cnd x11
  (P61_1 x0 (Go.Value.bool true) (Go.Value.bool true) x5 w Q)
  (wpB (be Try.prog .eql 3 (.tmp 6) (.const (Go.Value.int Go.IntKind.i64 9)) x6 (Go.Value.int Go.IntKind.i64 9)) fun t15 =>
  cnd t15
  (P61_1 x0 (Go.Value.bool true) (Go.Value.bool true) (Go.Value.bool true) w Q)
  (P61_1 x0 x3 x4 x5 w Q))
theorem F61_ok {a0 : Value} {w : World} {Q : Value → World → Prop} (h : F61 a0 w Q) : CallR Try.prog 61 [a0] w Q :=
  have e : evC Try.prog (entR 3 143) 61 22 H61 Q C61 [] (entryE 0 [a0]) w (contT Try.prog (entR 3 143) 61 22 H61 Try.f61.results.toList Q []) = F61 a0 w Q := by kernel_rfl
  call_of (fn := Try.f61) mixed entOk Try.func61 (c := C61) rfl H61 (Nat.le_of_ble_eq_true rfl) (e.mpr h)
theorem L61_0_ok {x0 x3 x4 x5 x6 x7 : Value} {w : World} {Q : Value → World → Prop} (h : L61_0 x0 x3 x4 x5 x6 x7 w Q) : P61_0 x0 x3 x4 x5 x6 x7 w Q :=
  have e : evC Try.prog (entR 3 143) 61 22 H61 Q (nav [1, 0, 1, 4, 1] C61) [.blk 0, .jn (nav [1, 1] C61)] (unpack [0, 3, 4, 5, 6, 7] [x0, x3, x4, x5, x6, x7]) w (contT Try.prog (entR 3 143) 61 22 H61 Try.f61.results.toList Q [.blk 0, .jn (nav [1, 1] C61)]) = L61_0 x0 x3 x4 x5 x6 x7 w Q := by kernel_rfl
  part_jn (fn := Try.f61) mixed entOk Try.func61 H61 (c := (nav [1, 0, 1, 4, 1] C61)) (t := [.blk 0, .jn (nav [1, 1] C61)]) (e.mpr h)
theorem L61_1_ok {x0 x3 x4 x5 : Value} {w : World} {Q : Value → World → Prop} (h : L61_1 x0 x3 x4 x5 w Q) : P61_1 x0 x3 x4 x5 w Q :=
  have e : evC Try.prog (entR 3 143) 61 22 H61 Q (nav [1, 1] C61) [] (unpack [0, 3, 4, 5] [x0, x3, x4, x5]) w (contT Try.prog (entR 3 143) 61 22 H61 Try.f61.results.toList Q []) = L61_1 x0 x3 x4 x5 w Q := by kernel_rfl
  part_jn (fn := Try.f61) mixed entOk Try.func61 H61 (c := (nav [1, 1] C61)) (t := []) (e.mpr h)
theorem L61_2_ok {x0 x3 x4 x5 x6 x11 : Value} {w : World} {Q : Value → World → Prop} (h : L61_2 x0 x3 x4 x5 x6 x11 w Q) : P61_2 x0 x3 x4 x5 x6 x11 w Q :=
  have e : evC Try.prog (entR 3 143) 61 22 H61 Q (nav [1, 0, 1, 4, 1, 3, 1] C61) [.blk 0, .jn (nav [1, 1] C61)] (unpack [0, 3, 4, 5, 6, 11] [x0, x3, x4, x5, x6, x11]) w (contT Try.prog (entR 3 143) 61 22 H61 Try.f61.results.toList Q [.blk 0, .jn (nav [1, 1] C61)]) = L61_2 x0 x3 x4 x5 x6 x11 w Q := by kernel_rfl
  part_jn (fn := Try.f61) mixed entOk Try.func61 H61 (c := (nav [1, 0, 1, 4, 1, 3, 1] C61)) (t := [.blk 0, .jn (nav [1, 1] C61)]) (e.mpr h)

/-! ### rundale/rundaleref18.low: function 62 -/
noncomputable def C62 : Code := (Try.f62.body).getD .skip
noncomputable def H62 : Hints := ⟨[(3, [0, 1, 5, 6])], [], []⟩
noncomputable def T62_0 : List It := [.lp (nav [1, 1, 0, 1, 4, 5] C62), .blk 0, .jn (nav [1, 1, 1] C62)]
/-- rundale/rundaleref18.low, from a loop's head on -/
def P62_0 (x0 x1 x5 x6 : Value) (w : World) (Q : Value → World → Prop) : Prop := Part Try.prog 62 T62_0 [0, 1, 5, 6] [x0, x1, x5, x6] w Q
def F62 (a0 a1 : Value) (w : World) (Q : Value → World → Prop) : Prop :=
  P62_0 a0 a1 (Go.Value.slice none 0 0) (Go.Value.int Go.IntKind.i64 0) w Q
def L62_0 (x0 x1 x5 x6 : Value) (w : World) (Q : Value → World → Prop) : Prop :=
  wpB (bp Try.prog .lss 3 x6 x1) fun t9 =>
  cnd t9
  (wpB (bp Try.prog .mul 3 (Go.Value.int Go.IntKind.i64 8) x6) fun t15 =>
  wpB (pureRun Try.prog (convert 3 172 t15)) fun t16 =>
  wpB (bp Try.prog .shr 38 x0 t16) fun t17 =>
  wpB (pureRun Try.prog (convert 38 5 t17)) fun t18 =>
  effv Try.prog (Instr.buildSlice 28 1 #[(0, t18)]) w fun t19 w =>
  effv Try.prog (Builtin.append_ #[28, 28] 28 #[x5, t19]) w fun t20 w =>
  wpB (bp Try.prog .add 3 x6 (Go.Value.int Go.IntKind.i64 1)) fun t11 =>
  P62_0 x0 x1 t20 t11 w Q)
  (Q x5 w)
theorem F62_ok {a0 a1 : Value} {w : World} {Q : Value → World → Prop} (h : F62 a0 a1 w Q) : CallR Try.prog 62 [a0, a1] w Q :=
  have e : evC Try.prog (entR 3 143) 62 22 H62 Q C62 [] (entryE 0 [a0, a1]) w (contT Try.prog (entR 3 143) 62 22 H62 Try.f62.results.toList Q []) = F62 a0 a1 w Q := by kernel_rfl
  call_of (fn := Try.f62) mixed entOk Try.func62 (c := C62) rfl H62 (Nat.le_of_ble_eq_true rfl) (e.mpr h)
theorem L62_0_ok {x0 x1 x5 x6 : Value} {w : World} {Q : Value → World → Prop} (h : L62_0 x0 x1 x5 x6 w Q) : P62_0 x0 x1 x5 x6 w Q :=
  have e : evC Try.prog (entR 3 143) 62 22 H62 Q (nav [1, 1, 0, 1, 4, 5] C62) T62_0 (unpack [0, 1, 5, 6] [x0, x1, x5, x6]) w (contT Try.prog (entR 3 143) 62 22 H62 Try.f62.results.toList Q T62_0) = L62_0 x0 x1 x5 x6 w Q := by kernel_rfl
  part_lp (fn := Try.f62) mixed entOk Try.func62 H62 (c := (nav [1, 1, 0, 1, 4, 5] C62)) (t := [.blk 0, .jn (nav [1, 1, 1] C62)]) (e.mpr h)

/-! ### rundale/rundaleref18.Of: function 63 -/
noncomputable def C63 : Code := (Try.f63.body).getD .skip
noncomputable def H63 : Hints := ⟨[], [(5, [3, 4]), (10, [3, 8])], []⟩
noncomputable def T63_0 : List It := [.jn (nav [1, 0, 1, 4, 1] C63), .blk 0, .jn (nav [1, 1] C63)]
noncomputable def T63_1 : List It := [.jn (nav [1, 0, 1, 4, 1, 3, 1] C63), .blk 0, .jn (nav [1, 1] C63)]
/-- rundale/rundaleref18.Of, from a join on -/
def P63_0 (x3 x4 : Value) (w : World) (Q : Value → World → Prop) : Prop := Part Try.prog 63 T63_0 [3, 4] [x3, x4] w Q
/-- rundale/rundaleref18.Of, from a join on -/
def P63_1 (x3 x8 : Value) (w : World) (Q : Value → World → Prop) : Prop := Part Try.prog 63 T63_1 [3, 8] [x3, x8] w Q
def F63 (a0 : Value) (w : World) (Q : Value → World → Prop) : Prop :=
  wpB (be Try.prog .eql 3 (.tmp 3) (.const (Go.Value.int Go.IntKind.i64 2)) a0 (Go.Value.int Go.IntKind.i64 2)) fun t5 =>
  cnd t5
  (P63_0 a0 t5 w Q)
  (wpB (be Try.prog .eql 3 (.tmp 3) (.const (Go.Value.int Go.IntKind.i64 10)) a0 (Go.Value.int Go.IntKind.i64 10)) fun t6 =>
  cnd t6
  (P63_0 a0 t6 w Q)
  (wpB (be Try.prog .eql 3 (.tmp 3) (.const (Go.Value.int Go.IntKind.i64 12)) a0 (Go.Value.int Go.IntKind.i64 12)) fun t7 =>
  P63_0 a0 t7 w Q))
def L63_0 (x3 x4 : Value) (w : World) (Q : Value → World → Prop) : Prop :=
  cnd x4
  (Q (Go.Value.int Go.IntKind.i64 1) w)
  (wpB (be Try.prog .eql 3 (.tmp 3) (.const (Go.Value.int Go.IntKind.i64 6)) x3 (Go.Value.int Go.IntKind.i64 6)) fun t9 =>
  cnd t9
  (P63_1 x3 t9 w Q)
  (wpB (be Try.prog .eql 3 (.tmp 3) (.const (Go.Value.int Go.IntKind.i64 7)) x3 (Go.Value.int Go.IntKind.i64 7)) fun t10 =>
  cnd t10
  (P63_1 x3 t10 w Q)
  (wpB (be Try.prog .eql 3 (.tmp 3) (.const (Go.Value.int Go.IntKind.i64 8)) x3 (Go.Value.int Go.IntKind.i64 8)) fun t11 =>
  cnd t11
  (P63_1 x3 t11 w Q)
  (wpB (be Try.prog .eql 3 (.tmp 3) (.const (Go.Value.int Go.IntKind.i64 9)) x3 (Go.Value.int Go.IntKind.i64 9)) fun t12 =>
  P63_1 x3 t12 w Q))))
def L63_1 (x3 x8 : Value) (w : World) (Q : Value → World → Prop) : Prop :=
  cnd x8
  (Q (Go.Value.int Go.IntKind.i64 2) w)
  (wpB (be Try.prog .eql 3 (.tmp 3) (.const (Go.Value.int Go.IntKind.i64 5)) x3 (Go.Value.int Go.IntKind.i64 5)) fun t14 =>
  cnd t14
  (Q (Go.Value.int Go.IntKind.i64 3) w)
  (Q (Go.Value.int Go.IntKind.i64 0) w))
theorem F63_ok {a0 : Value} {w : World} {Q : Value → World → Prop} (h : F63 a0 w Q) : CallR Try.prog 63 [a0] w Q :=
  have e : evC Try.prog (entR 3 143) 63 15 H63 Q C63 [] (entryE 0 [a0]) w (contT Try.prog (entR 3 143) 63 15 H63 Try.f63.results.toList Q []) = F63 a0 w Q := by kernel_rfl
  call_of (fn := Try.f63) mixed entOk Try.func63 (c := C63) rfl H63 (Nat.le_of_ble_eq_true rfl) (e.mpr h)
theorem L63_0_ok {x3 x4 : Value} {w : World} {Q : Value → World → Prop} (h : L63_0 x3 x4 w Q) : P63_0 x3 x4 w Q :=
  have e : evC Try.prog (entR 3 143) 63 15 H63 Q (nav [1, 0, 1, 4, 1] C63) [.blk 0, .jn (nav [1, 1] C63)] (unpack [3, 4] [x3, x4]) w (contT Try.prog (entR 3 143) 63 15 H63 Try.f63.results.toList Q [.blk 0, .jn (nav [1, 1] C63)]) = L63_0 x3 x4 w Q := by kernel_rfl
  part_jn (fn := Try.f63) mixed entOk Try.func63 H63 (c := (nav [1, 0, 1, 4, 1] C63)) (t := [.blk 0, .jn (nav [1, 1] C63)]) (e.mpr h)
theorem L63_1_ok {x3 x8 : Value} {w : World} {Q : Value → World → Prop} (h : L63_1 x3 x8 w Q) : P63_1 x3 x8 w Q :=
  have e : evC Try.prog (entR 3 143) 63 15 H63 Q (nav [1, 0, 1, 4, 1, 3, 1] C63) [.blk 0, .jn (nav [1, 1] C63)] (unpack [3, 8] [x3, x8]) w (contT Try.prog (entR 3 143) 63 15 H63 Try.f63.results.toList Q [.blk 0, .jn (nav [1, 1] C63)]) = L63_1 x3 x8 w Q := by kernel_rfl
  part_jn (fn := Try.f63) mixed entOk Try.func63 H63 (c := (nav [1, 0, 1, 4, 1, 3, 1] C63)) (t := [.blk 0, .jn (nav [1, 1] C63)]) (e.mpr h)

/-! ### rundale/rundaleref18.HasN: function 64 -/
noncomputable def C64 : Code := (Try.f64.body).getD .skip
noncomputable def H64 : Hints := ⟨[], [], []⟩
def F64 (a0 : Value) (w : World) (Q : Value → World → Prop) : Prop :=
  wpB (be Try.prog .eql 3 (.tmp 3) (.const (Go.Value.int Go.IntKind.i64 1)) a0 (Go.Value.int Go.IntKind.i64 1)) fun t4 =>
  wpB (gd t4 false (be Try.prog .eql 3 (.tmp 6) (.const (Go.Value.int Go.IntKind.i64 2)) (gv t4 false a0) (Go.Value.int Go.IntKind.i64 2))) fun t7 =>
  wpB (pickv t4 (some (Go.Value.bool true)) (some t7)) fun t8 =>
  wpB (gd t8 false (bp Try.prog .geq 3 (gv t8 false a0) (Go.Value.int Go.IntKind.i64 6))) fun t11 =>
  wpB (gd (gv t8 false t11) true (bp Try.prog .leq 3 (gv (gv t8 false t11) true a0) (Go.Value.int Go.IntKind.i64 9))) fun t14 =>
  wpB (gd t8 false (pickv (gv t8 false t11) (some t14) (some (Go.Value.bool false)))) fun t15 =>
  wpB (pickv t8 (some (Go.Value.bool true)) (some t15)) fun t16 =>
  Q t16 w
theorem F64_ok {a0 : Value} {w : World} {Q : Value → World → Prop} (h : F64 a0 w Q) : CallR Try.prog 64 [a0] w Q :=
  have e : evC Try.prog (entR 3 143) 64 17 H64 Q C64 [] (entryE 0 [a0]) w (contT Try.prog (entR 3 143) 64 17 H64 Try.f64.results.toList Q []) = F64 a0 w Q := by kernel_rfl
  call_of (fn := Try.f64) mixed entOk Try.func64 (c := C64) rfl H64 (Nat.le_of_ble_eq_true rfl) (e.mpr h)

/-! ### rundale/rundaleref18.HasV: function 65 -/
noncomputable def C65 : Code := (Try.f65.body).getD .skip
noncomputable def H65 : Hints := ⟨[], [], []⟩
def F65 (a0 : Value) (w : World) (Q : Value → World → Prop) : Prop :=
  wpB (bp Try.prog .geq 3 a0 (Go.Value.int Go.IntKind.i64 7)) fun t4 =>
  wpB (gd t4 true (bp Try.prog .leq 3 (gv t4 true a0) (Go.Value.int Go.IntKind.i64 9))) fun t7 =>
  wpB (pickv t4 (some t7) (some (Go.Value.bool false))) fun t8 =>
  Q t8 w
theorem F65_ok {a0 : Value} {w : World} {Q : Value → World → Prop} (h : F65 a0 w Q) : CallR Try.prog 65 [a0] w Q :=
  have e : evC Try.prog (entR 3 143) 65 9 H65 Q C65 [] (entryE 0 [a0]) w (contT Try.prog (entR 3 143) 65 9 H65 Try.f65.results.toList Q []) = F65 a0 w Q := by kernel_rfl
  call_of (fn := Try.f65) mixed entOk Try.func65 (c := C65) rfl H65 (Nat.le_of_ble_eq_true rfl) (e.mpr h)

/-! ### rundale/rundaleref18.in: function 66 -/
noncomputable def C66 : Code := (Try.f66.body).getD .skip
noncomputable def H66 : Hints := ⟨[], [], []⟩
def F66 (a0 a1 a2 : Value) (w : World) (Q : Value → World → Prop) : Prop :=
  wpB (bp Try.prog .geq 3 a0 a1) fun t9 =>
  wpB (gd t9 true (bp Try.prog .leq 3 (gv t9 true a0) (gv t9 true a2))) fun t13 =>
  wpB (pickv t9 (some t13) (some (Go.Value.bool false))) fun t14 =>
  Q t14 w
theorem F66_ok {a0 a1 a2 : Value} {w : World} {Q : Value → World → Prop} (h : F66 a0 a1 a2 w Q) : CallR Try.prog 66 [a0, a1, a2] w Q :=
  have e : evC Try.prog (entR 3 143) 66 15 H66 Q C66 [] (entryE 0 [a0, a1, a2]) w (contT Try.prog (entR 3 143) 66 15 H66 Try.f66.results.toList Q []) = F66 a0 a1 a2 w Q := by kernel_rfl
  call_of (fn := Try.f66) mixed entOk Try.func66 (c := C66) rfl H66 (Nat.le_of_ble_eq_true rfl) (e.mpr h)

/-! ### rundale/rundaleref1.SameInts: function 67 -/
noncomputable def C67 : Code := (Try.f67.body).getD .skip
noncomputable def H67 : Hints := ⟨[(4, [0, 1, 5])], [], [(6, (.leaf [0, 1, 2, 3, 4, 5, 6, 7, 8]))]⟩
noncomputable def T67_0 : List It := [.lp (nav [1, 1, 0, 1, 4, 5] C67), .blk 0, .jn (nav [1, 1, 1] C67)]
/-- rundale/rundaleref1.SameInts, from a loop's head on -/
def P67_0 (x0 x1 x5 : Value) (w : World) (Q : Value → World → Prop) : Prop := Part Try.prog 67 T67_0 [0, 1, 5] [x0, x1, x5] w Q
def F67 (a0 a1 : Value) (w : World) (Q : Value → World → Prop) : Prop :=
  wpB (pureRun Try.prog (Builtin.len_ #[23] 3 #[a0])) fun t7 =>
  wpB (pureRun Try.prog (Builtin.len_ #[23] 3 #[a1])) fun t9 =>
  wpB (be Try.prog .neq 3 (.tmp 7) (.tmp 9) t7 t9) fun t10 =>
  cnd t10
  (Q (Go.Value.bool false) w)
  (P67_0 a0 a1 (Go.Value.int Go.IntKind.i64 0) w Q)
def L67_0 (x0 x1 x5 : Value) (w : World) (Q : Value → World → Prop) : Prop :=
  wpB (pureRun Try.prog (Builtin.len_ #[23] 3 #[x0])) fun t13 =>
  wpB (bp Try.prog .lss 3 x5 t13) fun t14 =>
  cnd t14
  (wpB (pureRun Try.prog (Instr.indexAt 23 x0 x5)) fun t19 =>
  wpB (ldv Try.prog 3 t19 w.drew) fun t20 =>
  wpB (pureRun Try.prog (Instr.indexAt 23 x1 x5)) fun t23 =>
  wpB (ldv Try.prog 3 t23 w.drew) fun t24 =>
  wpB (be Try.prog .neq 3 (.tmp 20) (.tmp 24) t20 t24) fun t25 =>
  cnd t25
  (Q (Go.Value.bool false) w.drew)
  (wpB (bp Try.prog .add 3 x5 (Go.Value.int Go.IntKind.i64 1)) fun t16 =>
  P67_0 x0 x1 t16 w.drew Q))
  (Q (Go.Value.bool true) w)
theorem F67_ok {a0 a1 : Value} {w : World} {Q : Value → World → Prop} (h : F67 a0 a1 w Q) : CallR Try.prog 67 [a0, a1] w Q :=
  have e : evC Try.prog (entR 3 143) 67 26 H67 Q C67 [] (entryE 0 [a0, a1]) w (contT Try.prog (entR 3 143) 67 26 H67 Try.f67.results.toList Q []) = F67 a0 a1 w Q := by kernel_rfl
  call_of (fn := Try.f67) mixed entOk Try.func67 (c := C67) rfl H67 (Nat.le_of_ble_eq_true rfl) (e.mpr h)
theorem L67_0_ok {x0 x1 x5 : Value} {w : World} {Q : Value → World → Prop} (h : L67_0 x0 x1 x5 w Q) : P67_0 x0 x1 x5 w Q :=
  have e : evC Try.prog (entR 3 143) 67 26 H67 Q (nav [1, 1, 0, 1, 4, 5] C67) T67_0 (unpack [0, 1, 5] [x0, x1, x5]) w (contT Try.prog (entR 3 143) 67 26 H67 Try.f67.results.toList Q T67_0) = L67_0 x0 x1 x5 w Q := by kernel_rfl
  part_lp (fn := Try.f67) mixed entOk Try.func67 H67 (c := (nav [1, 1, 0, 1, 4, 5] C67)) (t := [.blk 0, .jn (nav [1, 1, 1] C67)]) (e.mpr h)

/-! ### rundale/rundaleref1.SameOps: function 68 -/
noncomputable def C68 : Code := (Try.f68.body).getD .skip
noncomputable def H68 : Hints := ⟨[(4, [0, 1, 5])], [], [(6, (.leaf [0, 1, 2, 3, 4, 5, 6, 7, 8]))]⟩
noncomputable def T68_0 : List It := [.lp (nav [1, 1, 0, 1, 4, 5] C68), .blk 0, .jn (nav [1, 1, 1] C68)]
/-- rundale/rundaleref1.SameOps, from a loop's head on -/
def P68_0 (x0 x1 x5 : Value) (w : World) (Q : Value → World → Prop) : Prop := Part Try.prog 68 T68_0 [0, 1, 5] [x0, x1, x5] w Q
def F68 (a0 a1 : Value) (w : World) (Q : Value → World → Prop) : Prop :=
  wpB (pureRun Try.prog (Builtin.len_ #[27] 3 #[a0])) fun t7 =>
  wpB (pureRun Try.prog (Builtin.len_ #[27] 3 #[a1])) fun t9 =>
  wpB (be Try.prog .neq 3 (.tmp 7) (.tmp 9) t7 t9) fun t10 =>
  cnd t10
  (Q (Go.Value.bool false) w)
  (P68_0 a0 a1 (Go.Value.int Go.IntKind.i64 0) w Q)
def L68_0 (x0 x1 x5 : Value) (w : World) (Q : Value → World → Prop) : Prop :=
  wpB (pureRun Try.prog (Builtin.len_ #[27] 3 #[x0])) fun t13 =>
  wpB (bp Try.prog .lss 3 x5 t13) fun t14 =>
  cnd t14
  (wpB (pureRun Try.prog (Instr.indexAt 27 x0 x5)) fun t19 =>
  wpB (ldv Try.prog 40 t19 w.drew) fun t20 =>
  wpB (pureRun Try.prog (Instr.indexAt 27 x1 x5)) fun t23 =>
  wpB (ldv Try.prog 40 t23 w.drew) fun t24 =>
  wpB (be Try.prog .neq 40 (.tmp 20) (.tmp 24) t20 t24) fun t25 =>
  cnd t25
  (Q (Go.Value.bool false) w.drew)
  (wpB (bp Try.prog .add 3 x5 (Go.Value.int Go.IntKind.i64 1)) fun t16 =>
  P68_0 x0 x1 t16 w.drew Q))
  (Q (Go.Value.bool true) w)
theorem F68_ok {a0 a1 : Value} {w : World} {Q : Value → World → Prop} (h : F68 a0 a1 w Q) : CallR Try.prog 68 [a0, a1] w Q :=
  have e : evC Try.prog (entR 3 143) 68 26 H68 Q C68 [] (entryE 0 [a0, a1]) w (contT Try.prog (entR 3 143) 68 26 H68 Try.f68.results.toList Q []) = F68 a0 a1 w Q := by kernel_rfl
  call_of (fn := Try.f68) mixed entOk Try.func68 (c := C68) rfl H68 (Nat.le_of_ble_eq_true rfl) (e.mpr h)
theorem L68_0_ok {x0 x1 x5 : Value} {w : World} {Q : Value → World → Prop} (h : L68_0 x0 x1 x5 w Q) : P68_0 x0 x1 x5 w Q :=
  have e : evC Try.prog (entR 3 143) 68 26 H68 Q (nav [1, 1, 0, 1, 4, 5] C68) T68_0 (unpack [0, 1, 5] [x0, x1, x5]) w (contT Try.prog (entR 3 143) 68 26 H68 Try.f68.results.toList Q T68_0) = L68_0 x0 x1 x5 w Q := by kernel_rfl
  part_lp (fn := Try.f68) mixed entOk Try.func68 H68 (c := (nav [1, 1, 0, 1, 4, 5] C68)) (t := [.blk 0, .jn (nav [1, 1, 1] C68)]) (e.mpr h)

/-! ### (*rundale/script.reader).num: function 69 -/
noncomputable def C69 : Code := (Try.f69.body).getD .skip
noncomputable def H69 : Hints := ⟨[(6, [0, 1, 5, 23, 24])], [], []⟩
noncomputable def T69_0 : List It := [.lp (nav [1, 1, 1, 0, 1, 4, 5] C69), .blk 0, .jn (nav [1, 1, 1, 1] C69)]
/-- (*rundale/script.reader).num, from a loop's head on -/
def P69_0 (x0 x1 x5 x23 x24 : Value) (w : World) (Q : Value → World → Prop) : Prop := Part Try.prog 69 T69_0 [0, 1, 5, 23, 24] [x0, x1, x5, x23, x24] w Q
def F69 (a0 a1 : Value) (w : World) (Q : Value → World → Prop) : Prop :=
  wpB (nilv a0) fun t8 =>
  wpB (pureRun Try.prog (Instr.fieldAt 115 t8 1)) fun t9 =>
  wpB (ldv Try.prog 4 t9 w) fun t10 =>
  wpB (gd t10 false (nilv (gv t10 false a0))) fun t13 =>
  wpB (gd t10 false (pureRun Try.prog (Instr.fieldAt 115 t13 0))) fun t14 =>
  wpB (gd t10 false (ldv Try.prog 28 t14 w)) fun t15 =>
  wpB (gd t10 false (pureRun Try.prog (Builtin.len_ #[28] 3 #[t15]))) fun t16 =>
  wpB (gd t10 false (bp Try.prog .lss 3 t16 (gv t10 false a1))) fun t18 =>
  wpB (pickv t10 (some (Go.Value.bool true)) (some t18)) fun t19 =>
  cnd t19
  (wpB (nilv a0) fun t21 =>
  wpB (pureRun Try.prog (Instr.fieldAt 115 t21 1)) fun t22 =>
  effu Try.prog (Instr.storeAt 4 t22 (Go.Value.bool true)) w fun w =>
  Q (Go.Value.int Go.IntKind.u64 0) w)
  (P69_0 a0 a1 (Go.Value.int Go.IntKind.u64 0) a1 (Go.Value.int Go.IntKind.i64 0) w Q)
def L69_0 (x0 x1 x5 x23 x24 : Value) (w : World) (Q : Value → World → Prop) : Prop :=
  wpB (bp Try.prog .lss 3 x24 x23) fun t25 =>
  cnd t25
  (wpB (nilv x0) fun t29 =>
  wpB (pureRun Try.prog (Instr.fieldAt 115 t29 0)) fun t30 =>
  wpB (ldv Try.prog 28 t30 w) fun t31 =>
  wpB (pureRun Try.prog (Instr.indexAt 28 t31 x24)) fun t33 =>
  wpB (ldv Try.prog 5 t33 w) fun t34 =>
  wpB (pureRun Try.prog (convert 5 38 t34)) fun t35 =>
  wpB (bp Try.prog .mul 3 (Go.Value.int Go.IntKind.i64 8) x24) fun t37 =>
  wpB (bp Try.prog .shl 38 t35 t37) fun t38 =>
  wpB (bp Try.prog .or 38 x5 t38) fun t39 =>
  wpB (bp Try.prog .add 3 x24 (Go.Value.int Go.IntKind.i64 1)) fun t40 =>
  P69_0 x0 x1 t39 x23 t40 w Q)
  (wpB (nilv x0) fun t43 =>
  wpB (pureRun Try.prog (Instr.fieldAt 115 t43 0)) fun t44 =>
  wpB (ldv Try.prog 28 t44 w) fun t45 =>
  wpB (pureRun Try.prog (Instr.sliceAt 28 t45 (some x1) none none)) fun t47 =>
  wpB (nilv x0) fun t48 =>
  wpB (pureRun Try.prog (Instr.fieldAt 115 t48 0)) fun t49 =>
  effu Try.prog (Instr.storeAt 28 t49 t47) w fun w =>
  Q x5 w)
theorem F69_ok {a0 a1 : Value} {w : World} {Q : Value → World → Prop} (h : F69 a0 a1 w Q) : CallR Try.prog 69 [a0, a1] w Q :=
  have e : evC Try.prog (entR 3 143) 69 51 H69 Q C69 [] (entryE 0 [a0, a1]) w (contT Try.prog (entR 3 143) 69 51 H69 Try.f69.results.toList Q []) = F69 a0 a1 w Q := by kernel_rfl
  call_of (fn := Try.f69) mixed entOk Try.func69 (c := C69) rfl H69 (Nat.le_of_ble_eq_true rfl) (e.mpr h)
theorem L69_0_ok {x0 x1 x5 x23 x24 : Value} {w : World} {Q : Value → World → Prop} (h : L69_0 x0 x1 x5 x23 x24 w Q) : P69_0 x0 x1 x5 x23 x24 w Q :=
  have e : evC Try.prog (entR 3 143) 69 51 H69 Q (nav [1, 1, 1, 0, 1, 4, 5] C69) T69_0 (unpack [0, 1, 5, 23, 24] [x0, x1, x5, x23, x24]) w (contT Try.prog (entR 3 143) 69 51 H69 Try.f69.results.toList Q T69_0) = L69_0 x0 x1 x5 x23 x24 w Q := by kernel_rfl
  part_lp (fn := Try.f69) mixed entOk Try.func69 H69 (c := (nav [1, 1, 1, 0, 1, 4, 5] C69)) (t := [.blk 0, .jn (nav [1, 1, 1, 1] C69)]) (e.mpr h)

/-! ### (*rundale/script.reader).op: function 70 -/
noncomputable def C70 : Code := (Try.f70.body).getD .skip
noncomputable def H70 : Hints := ⟨[], [(5, [0, 2, 3, 5, 6, 7]), (7, [0, 2, 3, 6, 7]), (9, [0, 2, 3, 7]), (11, [2, 3])], []⟩
noncomputable def T70_0 : List It := [.jn (nav [1, 1, 1, 1] C70)]
noncomputable def T70_1 : List It := [.jn (nav [1, 1, 1, 1, 1] C70)]
noncomputable def T70_2 : List It := [.jn (nav [1, 1, 1, 1, 1, 1] C70)]
noncomputable def T70_3 : List It := [.jn (nav [1, 1, 1, 1, 1, 1, 1] C70)]
/-- (*rundale/script.reader).op, from a join on -/
def P70_0 (x0 x2 x3 x5 x6 x7 : Value) (w : World) (Q : Value → World → Prop) : Prop := Part Try.prog 70 T70_0 [0, 2, 3, 5, 6, 7] [x0, x2, x3, x5, x6, x7] w Q
/-- (*rundale/script.reader).op, from a join on -/
def P70_1 (x0 x2 x3 x6 x7 : Value) (w : World) (Q : Value → World → Prop) : Prop := Part Try.prog 70 T70_1 [0, 2, 3, 6, 7] [x0, x2, x3, x6, x7] w Q
/-- (*rundale/script.reader).op, from a join on -/
def P70_2 (x0 x2 x3 x7 : Value) (w : World) (Q : Value → World → Prop) : Prop := Part Try.prog 70 T70_2 [0, 2, 3, 7] [x0, x2, x3, x7] w Q
/-- (*rundale/script.reader).op, from a join on -/
def P70_3 (x2 x3 : Value) (w : World) (Q : Value → World → Prop) : Prop := Part Try.prog 70 T70_3 [2, 3] [x2, x3] w Q
def F70 (a0 : Value) (w : World) (Q : Value → World → Prop) : Prop :=
  effv Try.prog (Instr.alloc 40 true (.tuple #[])) w fun t2 w =>
  CallR Try.prog 69 [a0, (Go.Value.int Go.IntKind.i64 1)] w fun t9 w =>
  wpB (pureRun Try.prog (convert 38 3 t9)) fun t10 =>
  wpB (pureRun Try.prog (Instr.build 40 #[(0, t10)])) fun t11 =>
  effv Try.prog (Instr.alloc 40 true (.tuple #[])) w fun t3 w =>
  effu Try.prog (Instr.storeAt 40 t3 t11) w fun w =>
  wpB (pureRun Try.prog (Instr.fieldAt 40 t3 0)) fun t13 =>
  wpB (ldv Try.prog 3 t13 w) fun t14 =>
  CallR Try.prog 61 [t14] w fun t15 w =>
  wpB (pureRun Try.prog (Instr.extract t15 0)) fun t16 =>
  wpB (pureRun Try.prog (Instr.extract t15 1)) fun t17 =>
  wpB (pureRun Try.prog (Instr.extract t15 2)) fun t18 =>
  wpB (pureRun Try.prog (Instr.extract t15 3)) fun t19 =>
  cnd t16
  (CallR Try.prog 69 [a0, (Go.Value.int Go.IntKind.i64 1)] w fun t22 w =>
  wpB (pureRun Try.prog (convert 38 3 t22)) fun t23 =>
  CallR Try.prog 69 [a0, (Go.Value.int Go.IntKind.i64 2)] w fun t25 w =>
  wpB (pureRun Try.prog (convert 38 3 t25)) fun t26 =>
  wpB (pureRun Try.prog (Instr.fieldAt 40 t3 1)) fun t27 =>
  effu Try.prog (Instr.storeAt 3 t27 t23) w fun w =>
  wpB (pureRun Try.prog (Instr.fieldAt 40 t3 2)) fun t28 =>
  effu Try.prog (Instr.storeAt 3 t28 t26) w fun w =>
  P70_0 a0 t2 t3 t17 t18 t19 w Q)
  (P70_0 a0 t2 t3 t17 t18 t19 w Q)
def L70_0 (x0 x2 x3 x5 x6 x7 : Value) (w : World) (Q : Value → World → Prop) : Prop :=
  cnd x5
  (CallR Try.prog 69 [x0, (Go.Value.int Go.IntKind.i64 2)] w fun t31 w =>
  wpB (pureRun Try.prog (convert 38 3 t31)) fun t32 =>
  wpB (pureRun Try.prog (Instr.fieldAt 40 x3 3)) fun t33 =>
  effu Try.prog (Instr.storeAt 3 t33 t32) w fun w =>
  P70_1 x0 x2 x3 x6 x7 w Q)
  (P70_1 x0 x2 x3 x6 x7 w Q)
def L70_1 (x0 x2 x3 x6 x7 : Value) (w : World) (Q : Value → World → Prop) : Prop :=
  cnd x6
  (CallR Try.prog 69 [x0, (Go.Value.int Go.IntKind.i64 8)] w fun t36 w =>
  wpB (pureRun Try.prog (Instr.fieldAt 40 x3 4)) fun t37 =>
  effu Try.prog (Instr.storeAt 38 t37 t36) w fun w =>
  P70_2 x0 x2 x3 x7 w Q)
  (P70_2 x0 x2 x3 x7 w Q)
def L70_2 (x0 x2 x3 x7 : Value) (w : World) (Q : Value → World → Prop) : Prop :=
  cnd x7
  (CallR Try.prog 69 [x0, (Go.Value.int Go.IntKind.i64 8)] w fun t40 w =>
  wpB (pureRun Try.prog (Instr.fieldAt 40 x3 5)) fun t41 =>
  effu Try.prog (Instr.storeAt 38 t41 t40) w fun w =>
  P70_3 x2 x3 w Q)
  (P70_3 x2 x3 w Q)
def L70_3 (x2 x3 : Value) (w : World) (Q : Value → World → Prop) : Prop :=
  wpB (ldv Try.prog 40 x3 w) fun t42 =>
  effu Try.prog (Instr.storeAt 40 x2 t42) w fun w =>
  wpB (ldv Try.prog 40 x2 w) fun r2 => Q r2 w
theorem F70_ok {a0 : Value} {w : World} {Q : Value → World → Prop} (h : F70 a0 w Q) : CallR Try.prog 70 [a0] w Q :=
  have e : evC Try.prog (entR 3 143) 70 43 H70 Q C70 [] (entryE 0 [a0]) w (contT Try.prog (entR 3 143) 70 43 H70 Try.f70.results.toList Q []) = F70 a0 w Q := by kernel_rfl
  call_of (fn := Try.f70) mixed entOk Try.func70 (c := C70) rfl H70 (Nat.le_of_ble_eq_true rfl) (e.mpr h)
theorem L70_0_ok {x0 x2 x3 x5 x6 x7 : Value} {w : World} {Q : Value → World → Prop} (h : L70_0 x0 x2 x3 x5 x6 x7 w Q) : P70_0 x0 x2 x3 x5 x6 x7 w Q :=
  have e : evC Try.prog (entR 3 143) 70 43 H70 Q (nav [1, 1, 1, 1] C70) [] (unpack [0, 2, 3, 5, 6, 7] [x0, x2, x3, x5, x6, x7]) w (contT Try.prog (entR 3 143) 70 43 H70 Try.f70.results.toList Q []) = L70_0 x0 x2 x3 x5 x6 x7 w Q := by kernel_rfl
  part_jn (fn := Try.f70) mixed entOk Try.func70 H70 (c := (nav [1, 1, 1, 1] C70)) (t := []) (e.mpr h)
theorem L70_1_ok {x0 x2 x3 x6 x7 : Value} {w : World} {Q : Value → World → Prop} (h : L70_1 x0 x2 x3 x6 x7 w Q) : P70_1 x0 x2 x3 x6 x7 w Q :=
  have e : evC Try.prog (entR 3 143) 70 43 H70 Q (nav [1, 1, 1, 1, 1] C70) [] (unpack [0, 2, 3, 6, 7] [x0, x2, x3, x6, x7]) w (contT Try.prog (entR 3 143) 70 43 H70 Try.f70.results.toList Q []) = L70_1 x0 x2 x3 x6 x7 w Q := by kernel_rfl
  part_jn (fn := Try.f70) mixed entOk Try.func70 H70 (c := (nav [1, 1, 1, 1, 1] C70)) (t := []) (e.mpr h)
theorem L70_2_ok {x0 x2 x3 x7 : Value} {w : World} {Q : Value → World → Prop} (h : L70_2 x0 x2 x3 x7 w Q) : P70_2 x0 x2 x3 x7 w Q :=
  have e : evC Try.prog (entR 3 143) 70 43 H70 Q (nav [1, 1, 1, 1, 1, 1] C70) [] (unpack [0, 2, 3, 7] [x0, x2, x3, x7]) w (contT Try.prog (entR 3 143) 70 43 H70 Try.f70.results.toList Q []) = L70_2 x0 x2 x3 x7 w Q := by kernel_rfl
  part_jn (fn := Try.f70) mixed entOk Try.func70 H70 (c := (nav [1, 1, 1, 1, 1, 1] C70)) (t := []) (e.mpr h)
theorem L70_3_ok {x2 x3 : Value} {w : World} {Q : Value → World → Prop} (h : L70_3 x2 x3 w Q) : P70_3 x2 x3 w Q :=
  have e : evC Try.prog (entR 3 143) 70 43 H70 Q (nav [1, 1, 1, 1, 1, 1, 1] C70) [] (unpack [2, 3] [x2, x3]) w (contT Try.prog (entR 3 143) 70 43 H70 Try.f70.results.toList Q []) = L70_3 x2 x3 w Q := by kernel_rfl
  part_jn (fn := Try.f70) mixed entOk Try.func70 H70 (c := (nav [1, 1, 1, 1, 1, 1, 1] C70)) (t := []) (e.mpr h)

/-! ### rundale/rundalemake.Ops: function 71 -/
noncomputable def C71 : Code := (Try.f71.body).getD .skip
noncomputable def H71 : Hints := ⟨[(4, [0, 1, 2, 7, 8, 9])], [(5, [0, 1, 2, 7, 8, 9])], [(7, (.ask 5 8 (.leaf [0, 1, 2, 3, 4, 5, 6, 7, 8, 9, 10, 11, 12]) (.leaf [0, 1, 2, 3, 4, 6, 7, 8, 5, 9, 10, 11, 12])))]⟩
noncomputable def T71_0 : List It := [.lp (nav [1, 1, 1, 0, 1, 4, 5] C71), .blk 0, .jn (nav [1, 1, 1, 1] C71)]
noncomputable def T71_1 : List It := [.jn (nav [1, 1, 1, 0, 1, 4, 5, 1, 1] C71), .lp (nav [1, 1, 1, 0, 1, 4, 5] C71), .blk 0, .jn (nav [1, 1, 1, 1] C71)]
/-- rundale/rundalemake.Ops, from a loop's head on -/
def P71_0 (x0 x1 x2 x7 x8 x9 : Value) (w : World) (Q : Value → World → Prop) : Prop := Part Try.prog 71 T71_0 [0, 1, 2, 7, 8, 9] [x0, x1, x2, x7, x8, x9] w Q
/-- rundale/rundalemake.Ops, from a join on -/
def P71_1 (x0 x1 x2 x7 x8 x9 : Value) (w : World) (Q : Value → World → Prop) : Prop := Part Try.prog 71 T71_1 [0, 1, 2, 7, 8, 9] [x0, x1, x2, x7, x8, x9] w Q
def F71 (a0 a1 a2 : Value) (w : World) (Q : Value → World → Prop) : Prop :=
  wpB (pureRun Try.prog (Instr.build 100 #[(0, a0)])) fun t12 =>
  effv Try.prog (Instr.box 100 t12) w fun t13 w =>
  effv Try.prog (Instr.makeSlice 22 a1 a1) w fun t15 w =>
  P71_0 a0 a1 a2 t13 t15 (Go.Value.int Go.IntKind.i64 0) w Q
def L71_0 (x0 x1 x2 x7 x8 x9 : Value) (w : World) (Q : Value → World → Prop) : Prop :=
  wpB (bp Try.prog .lss 3 x9 x2) fun t18 =>
  wpB (gd t18 true (nilv (gv t18 true x7))) fun t21 =>
  wpB (gd t18 true (pureRun Try.prog (Instr.fieldAt 100 t21 1))) fun t22 =>
  wpB (gd t18 true (ldv Try.prog 3 t22 w)) fun t23 =>
  wpB (gd t18 true (pureRun Try.prog (Builtin.len_ #[23] 3 #[(gv t18 true x0)]))) fun t25 =>
  wpB (gd t18 true (bp Try.prog .lss 3 t23 t25)) fun t26 =>
  wpB (pickv t18 (some t26) (some (Go.Value.bool false))) fun t27 =>
  cnd t27
  (CallR Try.prog 50 [x7, x1] w fun t32 w =>
  (wpB (pureRun Try.prog (Instr.indexAt 22 x8 t32)) fun t37 =>
  wpB (ldv Try.prog 27 t37 w.drew) fun t38 =>
  CallR Try.prog 90 [x7, x8] w.drew fun t41 w =>
  effv Try.prog (Instr.buildSlice 27 1 #[(0, t41)]) w fun t42 w =>
  effv Try.prog (Builtin.append_ #[27, 27] 27 #[t38, t42]) w fun t43 w =>
  wpB (pureRun Try.prog (Instr.indexAt 22 x8 t32)) fun t44 =>
  effu Try.prog (Instr.storeAt 27 t44 t43) w fun w =>
  P71_1 x0 x1 x2 x7 x8 x9 w Q) ∧
  (wpB (pureRun Try.prog (Instr.indexAt 22 x8 t32)) fun t37_1 =>
  CallR Try.prog 90 [x7, x8] w.drew fun t41_1 w =>
  wpB (ldv Try.prog 27 t37_1 w) fun t38_1 =>
  effv Try.prog (Instr.buildSlice 27 1 #[(0, t41_1)]) w fun t42_1 w =>
  effv Try.prog (Builtin.append_ #[27, 27] 27 #[t38_1, t42_1]) w fun t43_1 w =>
  wpB (pureRun Try.prog (Instr.indexAt 22 x8 t32)) fun t44_1 =>
  effu Try.prog (Instr.storeAt 27 t44_1 t43_1) w fun w =>
  P71_1 x0 x1 x2 x7 x8 x9 w Q))
  (Q x8 w)
def L71_1 (x0 x1 x2 x7 x8 x9 : Value) (w : World) (Q : Value → World → Prop) : Prop :=
  wpB (bp Try.prog .add 3 x9 (Go.Value.int Go.IntKind.i64 1)) fun t29 =>
  P71_0 x0 x1 x2 x7 x8 t29 w Q
theorem F71_ok {a0 a1 a2 : Value} {w : World} {Q : Value → World → Prop} (h : F71 a0 a1 a2 w Q) : CallR Try.prog 71 [a0, a1, a2] w Q :=
  have e : evC Try.prog (entR 3 143) 71 46 H71 Q C71 [] (entryE 0 [a0, a1, a2]) w (contT Try.prog (entR 3 143) 71 46 H71 Try.f71.results.toList Q []) = F71 a0 a1 a2 w Q := by kernel_rfl
  call_of (fn := Try.f71) mixed entOk Try.func71 (c := C71) rfl H71 (Nat.le_of_ble_eq_true rfl) (e.mpr h)
theorem L71_0_ok {x0 x1 x2 x7 x8 x9 : Value} {w : World} {Q : Value → World → Prop} (h : L71_0 x0 x1 x2 x7 x8 x9 w Q) : P71_0 x0 x1 x2 x7 x8 x9 w Q :=
  have e : evC Try.prog (entR 3 143) 71 46 H71 Q (nav [1, 1, 1, 0, 1, 4, 5] C71) T71_0 (unpack [0, 1, 2, 7, 8, 9] [x0, x1, x2, x7, x8, x9]) w (contT Try.prog (entR 3 143) 71 46 H71 Try.f71.results.toList Q T71_0) = L71_0 x0 x1 x2 x7 x8 x9 w Q := by kernel_rfl
  part_lp (fn := Try.f71) mixed entOk Try.func71 H71 (c := (nav [1, 1, 1, 0, 1, 4, 5] C71)) (t := [.blk 0, .jn (nav [1, 1, 1, 1] C71)]) (e.mpr h)
theorem L71_1_ok {x0 x1 x2 x7 x8 x9 : Value} {w : World} {Q : Value → World → Prop} (h : L71_1 x0 x1 x2 x7 x8 x9 w Q) : P71_1 x0 x1 x2 x7 x8 x9 w Q :=
  have e : evC Try.prog (entR 3 143) 71 46 H71 Q (nav [1, 1, 1, 0, 1, 4, 5, 1, 1] C71) [.lp (nav [1, 1, 1, 0, 1, 4, 5] C71), .blk 0, .jn (nav [1, 1, 1, 1] C71)] (unpack [0, 1, 2, 7, 8, 9] [x0, x1, x2, x7, x8, x9]) w (contT Try.prog (entR 3 143) 71 46 H71 Try.f71.results.toList Q [.lp (nav [1, 1, 1, 0, 1, 4, 5] C71), .blk 0, .jn (nav [1, 1, 1, 1] C71)]) = L71_1 x0 x1 x2 x7 x8 x9 w Q := by kernel_rfl
  part_jn (fn := Try.f71) mixed entOk Try.func71 H71 (c := (nav [1, 1, 1, 0, 1, 4, 5, 1, 1] C71)) (t := [.lp (nav [1, 1, 1, 0, 1, 4, 5] C71), .blk 0, .jn (nav [1, 1, 1, 1] C71)]) (e.mpr h)

/-! ### rundale/rundalemake.Op: function 90 -/
noncomputable def C90 : Code := (Try.f90.body).getD .skip
noncomputable def H90 : Hints := ⟨[], [(13, [0, 1, 4, 6, 7, 20, 28]), (21, [0, 1, 4, 6, 51]), (22, [0, 1, 4, 6, 7]), (24, [0, 1, 4, 6, 7]), (26, [0, 1, 4, 6, 7]), (32, [4, 6])], [(31, (.ask 3 5 (.leaf [0, 1, 2, 3, 4, 5, 6, 7]) (.leaf [0, 2, 1, 4, 5, 3, 6, 7])))]⟩
noncomputable def T90_0 : List It := [.jn (nav [1, 1, 1, 1, 0, 1, 4, 1, 3, 1] C90), .blk 0, .jn (nav [1, 1, 1, 1, 1] C90)]
noncomputable def T90_1 : List It := [.jn (nav [1, 1, 1, 1, 1] C90)]
noncomputable def T90_2 : List It := [.jn (nav [1, 1, 1, 1, 0, 1, 4, 1, 3, 1, 3, 1, 3, 1, 3, 1] C90), .blk 0, .jn (nav [1, 1, 1, 1, 1] C90)]
noncomputable def T90_3 : List It := [.jn (nav [1, 1, 1, 1, 1, 1] C90)]
noncomputable def T90_4 : List It := [.jn (nav [1, 1, 1, 1, 1, 1, 1] C90)]
noncomputable def T90_5 : List It := [.jn (nav [1, 1, 1, 1, 1, 1, 1, 1, 1, 1, 1] C90)]
/-- rundale/rundalemake.Op, from a join on -/
def P90_0 (x0 x1 x4 x6 x7 x20 x28 : Value) (w : World) (Q : Value → World → Prop) : Prop := Part Try.prog 90 T90_0 [0, 1, 4, 6, 7, 20, 28] [x0, x1, x4, x6, x7, x20, x28] w Q
/-- rundale/rundalemake.Op, from a join on -/
def P90_1 (x0 x1 x4 x6 x7 : Value) (w : World) (Q : Value → World → Prop) : Prop := Part Try.prog 90 T90_1 [0, 1, 4, 6, 7] [x0, x1, x4, x6, x7] w Q
/-- rundale/rundalemake.Op, from a join on -/
def P90_2 (x0 x1 x4 x6 x51 : Value) (w : World) (Q : Value → World → Prop) : Prop := Part Try.prog 90 T90_2 [0, 1, 4, 6, 51] [x0, x1, x4, x6, x51] w Q
/-- rundale/rundalemake.Op, from a join on -/
def P90_3 (x0 x1 x4 x6 x7 : Value) (w : World) (Q : Value → World → Prop) : Prop := Part Try.prog 90 T90_3 [0, 1, 4, 6, 7] [x0, x1, x4, x6, x7] w Q
/-- rundale/rundalemake.Op, from a join on -/
def P90_4 (x0 x1 x4 x6 x7 : Value) (w : World) (Q : Value → World → Prop) : Prop := Part Try.prog 90 T90_4 [0, 1, 4, 6, 7] [x0, x1, x4, x6, x7] w Q
/-- rundale/rundalemake.Op, from a join on -/
def P90_5 (x4 x6 : Value) (w : World) (Q : Value → World → Prop) : Prop := Part Try.prog 90 T90_5 [4, 6] [x4, x6] w Q
def F90 (a0 a1 : Value) (w : World) (Q : Value → World → Prop) : Prop :=
  effv Try.prog (Instr.alloc 40 true (.tuple #[])) w fun t4 w =>
  CallR Try.prog 118 [] w fun t10 w =>
  wpB (pureRun Try.prog (Builtin.len_ #[23] 3 #[t10])) fun t14 =>
  CallR Try.prog 50 [a0, t14] w fun t15 w =>
  wpB (pureRun Try.prog (Instr.indexAt 23 t10 t15)) fun t16 =>
  wpB (ldv Try.prog 3 t16 w) fun t17 =>
  wpB (pureRun Try.prog (Instr.build 40 #[(0, t17)])) fun t18 =>
  effv Try.prog (Instr.alloc 40 true (.tuple #[])) w fun t6 w =>
  effu Try.prog (Instr.storeAt 40 t6 t18) w fun w =>
  wpB (pureRun Try.prog (Instr.fieldAt 40 t6 0)) fun t19 =>
  wpB (ldv Try.prog 3 t19 w) fun t20 =>
  wpB (be Try.prog .eql 3 (.tmp 20) (.const (Go.Value.int Go.IntKind.i64 1)) t20 (Go.Value.int Go.IntKind.i64 1)) fun t23 =>
  cnd t23
  (CallR Try.prog 50 [a0, (Go.Value.int Go.IntKind.i64 4)] w fun t25 w =>
  wpB (pureRun Try.prog (Instr.fieldAt 40 t6 3)) fun t26 =>
  effu Try.prog (Instr.storeAt 3 t26 t25) w fun w =>
  wpB (ldv Try.prog 40 t6 w) fun t27 =>
  effu Try.prog (Instr.storeAt 40 t4 t27) w fun w =>
  wpB (ldv Try.prog 40 t4 w) fun r4 => Q r4 w)
  (wpB (be Try.prog .eql 3 (.tmp 20) (.const (Go.Value.int Go.IntKind.i64 6)) t20 (Go.Value.int Go.IntKind.i64 6)) fun t29 =>
  cnd t29
  (P90_0 a0 a1 t4 t6 (Go.Value.int Go.IntKind.i64 1) t20 t29 w Q)
  (wpB (be Try.prog .eql 3 (.tmp 20) (.const (Go.Value.int Go.IntKind.i64 7)) t20 (Go.Value.int Go.IntKind.i64 7)) fun t30 =>
  cnd t30
  (P90_0 a0 a1 t4 t6 (Go.Value.int Go.IntKind.i64 1) t20 t30 w Q)
  (wpB (be Try.prog .eql 3 (.tmp 20) (.const (Go.Value.int Go.IntKind.i64 8)) t20 (Go.Value.int Go.IntKind.i64 8)) fun t31 =>
  cnd t31
  (P90_0 a0 a1 t4 t6 (Go.Value.int Go.IntKind.i64 1) t20 t31 w Q)
  (wpB (be Try.prog .eql 3 (.tmp 20) (.const (Go.Value.int Go.IntKind.i64 9)) t20 (Go.Value.int Go.IntKind.i64 9)) fun t32 =>
  P90_0 a0 a1 t4 t6 (Go.Value.int Go.IntKind.i64 1) t20 t32 w Q))))
def L90_0 (x0 x1 x4 x6 x7 x20 x28 : Value) (w : World) (Q : Value → World → Prop) : Prop :=
  cnd x28
  (CallR Try.prog 50 [x0, (Go.Value.int Go.IntKind.i64 5)] w fun t34 w =>
  wpB (pureRun Try.prog (Instr.fieldAt 40 x6 3)) fun t35 =>
  effu Try.prog (Instr.storeAt 3 t35 t34) w fun w =>
  P90_1 x0 x1 x4 x6 (Go.Value.int Go.IntKind.i64 2) w Q)
  (wpB (be Try.prog .eql 3 (.tmp 20) (.const (Go.Value.int Go.IntKind.i64 2)) x20 (Go.Value.int Go.IntKind.i64 2)) fun t37 =>
  cnd t37
  (effv Try.prog (Instr.buildSlice 23 9 #[(0, (Go.Value.int Go.IntKind.i64 1)), (1, (Go.Value.int Go.IntKind.i64 2)), (2, (Go.Value.int Go.IntKind.i64 3)), (3, (Go.Value.int Go.IntKind.i64 5)), (4, (Go.Value.int Go.IntKind.i64 8)), (5, (Go.Value.int Go.IntKind.i64 9)), (6, (Go.Value.int Go.IntKind.i64 16)), (7, (Go.Value.int Go.IntKind.i64 17)), (8, (Go.Value.int Go.IntKind.i64 0))]) w fun t38 w =>
  CallR Try.prog 50 [x0, (Go.Value.int Go.IntKind.i64 9)] w fun t40 w =>
  wpB (pureRun Try.prog (Instr.indexAt 23 t38 t40)) fun t41 =>
  wpB (ldv Try.prog 3 t41 w) fun t42 =>
  wpB (pureRun Try.prog (Instr.fieldAt 40 x6 3)) fun t43 =>
  effu Try.prog (Instr.storeAt 3 t43 t42) w fun w =>
  P90_1 x0 x1 x4 x6 x7 w Q)
  (wpB (be Try.prog .eql 3 (.tmp 20) (.const (Go.Value.int Go.IntKind.i64 5)) x20 (Go.Value.int Go.IntKind.i64 5)) fun t45 =>
  cnd t45
  (effv Try.prog (Instr.buildSlice 23 2 #[(0, (Go.Value.int Go.IntKind.i64 1)), (1, (Go.Value.int Go.IntKind.i64 2))]) w fun t46 w =>
  CallR Try.prog 50 [x0, (Go.Value.int Go.IntKind.i64 2)] w fun t48 w =>
  wpB (pureRun Try.prog (Instr.indexAt 23 t46 t48)) fun t49 =>
  wpB (ldv Try.prog 3 t49 w) fun t50 =>
  P90_1 x0 x1 x4 x6 t50 w Q)
  (wpB (be Try.prog .eql 3 (.tmp 20) (.const (Go.Value.int Go.IntKind.i64 10)) x20 (Go.Value.int Go.IntKind.i64 10)) fun t52 =>
  cnd t52
  (P90_2 x0 x1 x4 x6 t52 w Q)
  (wpB (be Try.prog .eql 3 (.tmp 20) (.const (Go.Value.int Go.IntKind.i64 12)) x20 (Go.Value.int Go.IntKind.i64 12)) fun t53 =>
  P90_2 x0 x1 x4 x6 t53 w Q))))
def L90_1 (x0 x1 x4 x6 x7 : Value) (w : World) (Q : Value → World → Prop) : Prop :=
  wpB (pureRun Try.prog (Instr.fieldAt 40 x6 0)) fun t54 =>
  wpB (ldv Try.prog 3 t54 w) fun t55 =>
  wpB (be Try.prog .eql 3 (.tmp 55) (.const (Go.Value.int Go.IntKind.i64 7)) t55 (Go.Value.int Go.IntKind.i64 7)) fun t56 =>
  wpB (gd t56 false (pureRun Try.prog (Instr.fieldAt 40 x6 0))) fun t58 =>
  wpB (gd t56 false (ldv Try.prog 3 t58 w)) fun t59 =>
  wpB (gd t56 false (be Try.prog .eql 3 (.tmp 59) (.const (Go.Value.int Go.IntKind.i64 8)) t59 (Go.Value.int Go.IntKind.i64 8))) fun t60 =>
  wpB (pickv t56 (some (Go.Value.bool true)) (some t60)) fun t61 =>
  wpB (gd t61 false (pureRun Try.prog (Instr.fieldAt 40 x6 0))) fun t63 =>
  wpB (gd t61 false (ldv Try.prog 3 t63 w)) fun t64 =>
  wpB (gd t61 false (be Try.prog .eql 3 (.tmp 64) (.const (Go.Value.int Go.IntKind.i64 9)) t64 (Go.Value.int Go.IntKind.i64 9))) fun t65 =>
  wpB (pickv t61 (some (Go.Value.bool true)) (some t65)) fun t66 =>
  cnd t66
  (CallR Try.prog 50 [x0, (Go.Value.int Go.IntKind.i64 3)] w fun t68 w =>
  wpB (pureRun Try.prog (convert 3 38 t68)) fun t69 =>
  wpB (pureRun Try.prog (Instr.fieldAt 40 x6 4)) fun t70 =>
  effu Try.prog (Instr.storeAt 38 t70 t69) w fun w =>
  P90_3 x0 x1 x4 x6 x7 w Q)
  (P90_3 x0 x1 x4 x6 x7 w Q)
def L90_2 (x0 x1 x4 x6 x51 : Value) (w : World) (Q : Value → World → Prop) : Prop :=
  cnd x51
  (P90_1 x0 x1 x4 x6 (Go.Value.int Go.IntKind.i64 1) w Q)
  (wpB (ldv Try.prog 40 x6 w) fun t21 =>
  effu Try.prog (Instr.storeAt 40 x4 t21) w fun w =>
  wpB (ldv Try.prog 40 x4 w) fun r4 => Q r4 w)
def L90_3 (x0 x1 x4 x6 x7 : Value) (w : World) (Q : Value → World → Prop) : Prop :=
  wpB (pureRun Try.prog (Instr.fieldAt 40 x6 0)) fun t71 =>
  wpB (ldv Try.prog 3 t71 w) fun t72 =>
  wpB (be Try.prog .eql 3 (.tmp 72) (.const (Go.Value.int Go.IntKind.i64 9)) t72 (Go.Value.int Go.IntKind.i64 9)) fun t73 =>
  cnd t73
  (CallR Try.prog 50 [x0, (Go.Value.int Go.IntKind.i64 4)] w fun t75 w =>
  wpB (pureRun Try.prog (convert 3 38 t75)) fun t76 =>
  wpB (pureRun Try.prog (Instr.fieldAt 40 x6 5)) fun t77 =>
  effu Try.prog (Instr.storeAt 38 t77 t76) w fun w =>
  P90_4 x0 x1 x4 x6 x7 w Q)
  (P90_4 x0 x1 x4 x6 x7 w Q)
def L90_4 (x0 x1 x4 x6 x7 : Value) (w : World) (Q : Value → World → Prop) : Prop :=
  CallR Try.prog 119 [x1, x7] w fun t80 w =>
  wpB (pureRun Try.prog (Builtin.len_ #[27] 3 #[t80])) fun t82 =>
  wpB (be Try.prog .eql 3 (.tmp 82) (.const (Go.Value.int Go.IntKind.i64 0)) t82 (Go.Value.int Go.IntKind.i64 0)) fun t83 =>
  gE t83 false (CallR Try.prog 50 [(gv t83 false x0), (Go.Value.int Go.IntKind.i64 12)] w) (fun t86 w =>
  wpB (gd t83 false (be Try.prog .eql 3 (.tmp 86) (.const (Go.Value.int Go.IntKind.i64 0)) t86 (Go.Value.int Go.IntKind.i64 0))) fun t87 =>
  wpB (pickv t83 (some (Go.Value.bool true)) (some t87)) fun t88 =>
  cnd t88
  (CallR Try.prog 50 [x0, (Go.Value.int Go.IntKind.i64 5)] w fun t90 w =>
  CallR Try.prog 50 [x0, (Go.Value.int Go.IntKind.i64 9)] w fun t92 w =>
  wpB (pureRun Try.prog (Instr.fieldAt 40 x6 1)) fun t93 =>
  effu Try.prog (Instr.storeAt 3 t93 t90) w fun w =>
  wpB (pureRun Try.prog (Instr.fieldAt 40 x6 2)) fun t94 =>
  effu Try.prog (Instr.storeAt 3 t94 t92) w fun w =>
  wpB (ldv Try.prog 40 x6 w) fun t95 =>
  effu Try.prog (Instr.storeAt 40 x4 t95) w fun w =>
  wpB (ldv Try.prog 40 x4 w) fun r4 => Q r4 w)
  (wpB (pureRun Try.prog (Builtin.len_ #[27] 3 #[t80])) fun t99 =>
  CallR Try.prog 50 [x0, t99] w fun t100 w =>
  wpB (pureRun Try.prog (Instr.indexAt 27 t80 t100)) fun t101 =>
  wpB (ldv Try.prog 40 t101 w) fun t102 =>
  effv Try.prog (Instr.alloc 40 true (.tuple #[])) w fun t9 w =>
  effu Try.prog (Instr.storeAt 40 t9 t102) w fun w =>
  (wpB (pureRun Try.prog (Instr.fieldAt 40 t9 1)) fun t103 =>
  wpB (ldv Try.prog 3 t103 w.drew) fun t104 =>
  wpB (pureRun Try.prog (Instr.fieldAt 40 t9 2)) fun t105 =>
  wpB (ldv Try.prog 3 t105 w.drew) fun t106 =>
  wpB (pureRun Try.prog (Instr.fieldAt 40 x6 1)) fun t107 =>
  effu Try.prog (Instr.storeAt 3 t107 t104) w.drew fun w =>
  wpB (pureRun Try.prog (Instr.fieldAt 40 x6 2)) fun t108 =>
  effu Try.prog (Instr.storeAt 3 t108 t106) w fun w =>
  P90_5 x4 x6 w Q) ∧
  (wpB (pureRun Try.prog (Instr.fieldAt 40 t9 1)) fun t103_1 =>
  wpB (pureRun Try.prog (Instr.fieldAt 40 t9 2)) fun t105_1 =>
  wpB (ldv Try.prog 3 t103_1 w.drew) fun t104_1 =>
  wpB (pureRun Try.prog (Instr.fieldAt 40 x6 1)) fun t107_1 =>
  effu Try.prog (Instr.storeAt 3 t107_1 t104_1) w.drew fun w =>
  wpB (ldv Try.prog 3 t105_1 w) fun t106_1 =>
  wpB (pureRun Try.prog (Instr.fieldAt 40 x6 2)) fun t108_1 =>
  effu Try.prog (Instr.storeAt 3 t108_1 t106_1) w fun w =>
  P90_5 x4 x6 w Q))) w
def L90_5 (x4 x6 : Value) (w : World) (Q : Value → World → Prop) : Prop :=
  wpB (ldv Try.prog 40 x6 w) fun t109 =>
  effu Try.prog (Instr.storeAt 40 x4 t109) w fun w =>
  wpB (ldv Try.prog 40 x4 w) fun r4 => Q r4 w
theorem F90_ok {a0 a1 : Value} {w : World} {Q : Value → World → Prop} (h : F90 a0 a1 w Q) : CallR Try.prog 90 [a0, a1] w Q :=
  have e : evC Try.prog (entR 3 143) 90 110 H90 Q C90 [] (entryE 0 [a0, a1]) w (contT Try.prog (entR 3 143) 90 110 H90 Try.f90.results.toList Q []) = F90 a0 a1 w Q := by kernel_rfl
  call_of (fn := Try.f90) mixed entOk Try.func90 (c := C90) rfl H90 (Nat.le_of_ble_eq_true rfl) (e.mpr h)
theorem L90_0_ok {x0 x1 x4 x6 x7 x20 x28 : Value} {w : World} {Q : Value → World → Prop} (h : L90_0 x0 x1 x4 x6 x7 x20 x28 w Q) : P90_0 x0 x1 x4 x6 x7 x20 x28 w Q :=
  have e : evC Try.prog (entR 3 143) 90 110 H90 Q (nav [1, 1, 1, 1, 0, 1, 4, 1, 3, 1] C90) [.blk 0, .jn (nav [1, 1, 1, 1, 1] C90)] (unpack [0, 1, 4, 6, 7, 20, 28] [x0, x1, x4, x6, x7, x20, x28]) w (contT Try.prog (entR 3 143) 90 110 H90 Try.f90.results.toList Q [.blk 0, .jn (nav [1, 1, 1, 1, 1] C90)]) = L90_0 x0 x1 x4 x6 x7 x20 x28 w Q := by kernel_rfl
  part_jn (fn := Try.f90) mixed entOk Try.func90 H90 (c := (nav [1, 1, 1, 1, 0, 1, 4, 1, 3, 1] C90)) (t := [.blk 0, .jn (nav [1, 1, 1, 1, 1] C90)]) (e.mpr h)
theorem L90_1_ok {x0 x1 x4 x6 x7 : Value} {w : World} {Q : Value → World → Prop} (h : L90_1 x0 x1 x4 x6 x7 w Q) : P90_1 x0 x1 x4 x6 x7 w Q :=
  have e : evC Try.prog (entR 3 143) 90 110 H90 Q (nav [1, 1, 1, 1, 1] C90) [] (unpack [0, 1, 4, 6, 7] [x0, x1, x4, x6, x7]) w (contT Try.prog (entR 3 143) 90 110 H90 Try.f90.results.toList Q []) = L90_1 x0 x1 x4 x6 x7 w Q := by kernel_rfl
  part_jn (fn := Try.f90) mixed entOk Try.func90 H90 (c := (nav [1, 1, 1, 1, 1] C90)) (t := []) (e.mpr h)
theorem L90_2_ok {x0 x1 x4 x6 x51 : Value} {w : World} {Q : Value → World → Prop} (h : L90_2 x0 x1 x4 x6 x51 w Q) : P90_2 x0 x1 x4 x6 x51 w Q :=
  have e : evC Try.prog (entR 3 143) 90 110 H90 Q (nav [1, 1, 1, 1, 0, 1, 4, 1, 3, 1, 3, 1, 3, 1, 3, 1] C90) [.blk 0, .jn (nav [1, 1, 1, 1, 1] C90)] (unpack [0, 1, 4, 6, 51] [x0, x1, x4, x6, x51]) w (contT Try.prog (entR 3 143) 90 110 H90 Try.f90.results.toList Q [.blk 0, .jn (nav [1, 1, 1, 1, 1] C90)]) = L90_2 x0 x1 x4 x6 x51 w Q := by kernel_rfl
  part_jn (fn := Try.f90) mixed entOk Try.func90 H90 (c := (nav [1, 1, 1, 1, 0, 1, 4, 1, 3, 1, 3, 1, 3, 1, 3, 1] C90)) (t := [.blk 0, .jn (nav [1, 1, 1, 1, 1] C90)]) (e.mpr h)
theorem L90_3_ok {x0 x1 x4 x6 x7 : Value} {w : World} {Q : Value → World → Prop} (h : L90_3 x0 x1 x4 x6 x7 w Q) : P90_3 x0 x1 x4 x6 x7 w Q :=
  have e : evC Try.prog (entR 3 143) 90 110 H90 Q (nav [1, 1, 1, 1, 1, 1] C90) [] (unpack [0, 1, 4, 6, 7] [x0, x1, x4, x6, x7]) w (contT Try.prog (entR 3 143) 90 110 H90 Try.f90.results.toList Q []) = L90_3 x0 x1 x4 x6 x7 w Q := by kernel_rfl
  part_jn (fn := Try.f90) mixed entOk Try.func90 H90 (c := (nav [1, 1, 1, 1, 1, 1] C90)) (t := []) (e.mpr h)
theorem L90_4_ok {x0 x1 x4 x6 x7 : Value} {w : World} {Q : Value → World → Prop} (h : L90_4 x0 x1 x4 x6 x7 w Q) : P90_4 x0 x1 x4 x6 x7 w Q :=
  have e : evC Try.prog (entR 3 143) 90 110 H90 Q (nav [1, 1, 1, 1, 1, 1, 1] C90) [] (unpack [0, 1, 4, 6, 7] [x0, x1, x4, x6, x7]) w (contT Try.prog (entR 3 143) 90 110 H90 Try.f90.results.toList Q []) = L90_4 x0 x1 x4 x6 x7 w Q := by kernel_rfl
  part_jn (fn := Try.f90) mixed entOk Try.func90 H90 (c := (nav [1, 1, 1, 1, 1, 1, 1] C90)) (t := []) (e.mpr h)
theorem L90_5_ok {x4 x6 : Value} {w : World} {Q : Value → World → Prop} (h : L90_5 x4 x6 w Q) : P90_5 x4 x6 w Q :=
  have e : evC Try.prog (entR 3 143) 90 110 H90 Q (nav [1, 1, 1, 1, 1, 1, 1, 1, 1, 1, 1] C90) [] (unpack [4, 6] [x4, x6]) w (contT Try.prog (entR 3 143) 90 110 H90 Try.f90.results.toList Q []) = L90_5 x4 x6 w Q := by kernel_rfl
  part_jn (fn := Try.f90) mixed entOk Try.func90 H90 (c := (nav [1, 1, 1, 1, 1, 1, 1, 1, 1, 1, 1] C90)) (t := []) (e.mpr h)

/-! ### rundale/op.formOf: function 108 -/
noncomputable def C108 : Code := (Try.f108.body).getD .skip
noncomputable def H108 : Hints := ⟨[], [], []⟩
def F108 (a0 : Value) (w : World) (Q : Value → World → Prop) : Prop :=
  effv Try.prog (Instr.alloc 170 true (.tuple #[])) w fun t2 w =>
  wpB (pureRun Try.prog (Instr.build 170 #[])) fun t4 =>
  wpB (pureRun Try.prog (Instr.build 170 #[(0, (Go.Value.string { data := #[99, 114, 101, 97, 116, 101] })), (2, (Go.Value.bool true))])) fun t5 =>
  wpB (pureRun Try.prog (Instr.build 170 #[(0, (Go.Value.string { data := #[97, 108, 108, 111, 99] })), (1, (Go.Value.int Go.IntKind.i64 1)), (2, (Go.Value.bool true))])) fun t6 =>
  wpB (pureRun Try.prog (Instr.build 170 #[(0, (Go.Value.string { data := #[112, 105, 110] }))])) fun t7 =>
  wpB (pureRun Try.prog (Instr.build 170 #[(0, (Go.Value.string { data := #[117, 110, 112, 105, 110] }))])) fun t8 =>
  wpB (pureRun Try.prog (Instr.build 170 #[(0, (Go.Value.string { data := #[104, 111, 108, 100] })), (1, (Go.Value.int Go.IntKind.i64 3))])) fun t9 =>
  wpB (pureRun Try.prog (Instr.build 170 #[(0, (Go.Value.string { data := #[108, 111, 97, 100] })), (1, (Go.Value.int Go.IntKind.i64 2)), (2, (Go.Value.bool true))])) fun t10 =>
  wpB (pureRun Try.prog (Instr.build 170 #[(0, (Go.Value.string { data := #[115, 116, 111, 114, 101] })), (1, (Go.Value.int Go.IntKind.i64 2)), (2, (Go.Value.bool true)), (3, (Go.Value.bool true))])) fun t11 =>
  wpB (pureRun Try.prog (Instr.build 170 #[(0, (Go.Value.string { data := #[97, 100, 100] })), (1, (Go.Value.int Go.IntKind.i64 2)), (2, (Go.Value.bool true)), (3, (Go.Value.bool true))])) fun t12 =>
  wpB (pureRun Try.prog (Instr.build 170 #[(0, (Go.Value.string { data := #[99, 97, 115] })), (1, (Go.Value.int Go.IntKind.i64 2)), (2, (Go.Value.bool true)), (3, (Go.Value.bool true)), (4, (Go.Value.bool true))])) fun t13 =>
  wpB (pureRun Try.prog (Instr.build 170 #[(0, (Go.Value.string { data := #[102, 114, 101, 101] })), (1, (Go.Value.int Go.IntKind.i64 1))])) fun t14 =>
  wpB (pureRun Try.prog (Instr.build 170 #[(0, (Go.Value.string { data := #[99, 111, 108, 108, 101, 99, 116] }))])) fun t15 =>
  wpB (pureRun Try.prog (Instr.build 170 #[(0, (Go.Value.string { data := #[115, 116, 97, 116, 115] })), (1, (Go.Value.int Go.IntKind.i64 1))])) fun t16 =>
  effv Try.prog (Instr.buildSlice 189 13 #[(0, t4), (1, t5), (2, t6), (3, t7), (4, t8), (5, t9), (6, t10), (7, t11), (8, t12), (9, t13), (10, t14), (11, t15), (12, t16)]) w fun t17 w =>
  wpB (bp Try.prog .lss 3 a0 (Go.Value.int Go.IntKind.i64 1)) fun t19 =>
  wpB (gd t19 false (pureRun Try.prog (Builtin.len_ #[189] 3 #[(gv t19 false t17)]))) fun t23 =>
  wpB (gd t19 false (bp Try.prog .geq 3 (gv t19 false a0) t23)) fun t24 =>
  wpB (pickv t19 (some (Go.Value.bool true)) (some t24)) fun t25 =>
  cnd t25
  (wpB (pureRun Try.prog (Instr.indexAt 189 t17 (Go.Value.int Go.IntKind.i64 0))) fun t27 =>
  wpB (ldv Try.prog 170 t27 w) fun t28 =>
  effu Try.prog (Instr.storeAt 170 t2 t28) w fun w =>
  wpB (ldv Try.prog 170 t2 w) fun r2 => Q r2 w)
  (wpB (pureRun Try.prog (Instr.indexAt 189 t17 a0)) fun t31 =>
  wpB (ldv Try.prog 170 t31 w) fun t32 =>
  effu Try.prog (Instr.storeAt 170 t2 t32) w fun w =>
  wpB (ldv Try.prog 170 t2 w) fun r2_1 => Q r2_1 w)
theorem F108_ok {a0 : Value} {w : World} {Q : Value → World → Prop} (h : F108 a0 w Q) : CallR Try.prog 108 [a0] w Q :=
  have e : evC Try.prog (entR 3 143) 108 33 H108 Q C108 [] (entryE 0 [a0]) w (contT Try.prog (entR 3 143) 108 33 H108 Try.f108.results.toList Q []) = F108 a0 w Q := by kernel_rfl
  call_of (fn := Try.f108) mixed entOk Try.func108 (c := C108) rfl H108 (Nat.le_of_ble_eq_true rfl) (e.mpr h)

/-! ### rundale/op.within: function 109 -/
noncomputable def C109 : Code := (Try.f109.body).getD .skip
noncomputable def H109 : Hints := ⟨[], [], []⟩
def F109 (a0 a1 : Value) (w : World) (Q : Value → World → Prop) : Prop :=
  wpB (bp Try.prog .geq 3 a0 (Go.Value.int Go.IntKind.i64 0)) fun t6 =>
  wpB (gd t6 true (bp Try.prog .leq 3 (gv t6 true a0) (gv t6 true a1))) fun t10 =>
  wpB (pickv t6 (some t10) (some (Go.Value.bool false))) fun t11 =>
  Q t11 w
theorem F109_ok {a0 a1 : Value} {w : World} {Q : Value → World → Prop} (h : F109 a0 a1 w Q) : CallR Try.prog 109 [a0, a1] w Q :=
  have e : evC Try.prog (entR 3 143) 109 12 H109 Q C109 [] (entryE 0 [a0, a1]) w (contT Try.prog (entR 3 143) 109 12 H109 Try.f109.results.toList Q []) = F109 a0 a1 w Q := by kernel_rfl
  call_of (fn := Try.f109) mixed entOk Try.func109 (c := C109) rfl H109 (Nat.le_of_ble_eq_true rfl) (e.mpr h)

/-! ### rundale/op.Of: function 110 -/
noncomputable def C110 : Code := (Try.f110.body).getD .skip
noncomputable def H110 : Hints := ⟨[], [], []⟩
def F110 (a0 : Value) (w : World) (Q : Value → World → Prop) : Prop :=
  CallR Try.prog 108 [a0] w fun t4 w =>
  wpB (pureRun Try.prog (Instr.field 170 t4 1)) fun t5 =>
  Q t5 w
theorem F110_ok {a0 : Value} {w : World} {Q : Value → World → Prop} (h : F110 a0 w Q) : CallR Try.prog 110 [a0] w Q :=
  have e : evC Try.prog (entR 3 143) 110 6 H110 Q C110 [] (entryE 0 [a0]) w (contT Try.prog (entR 3 143) 110 6 H110 Try.f110.results.toList Q []) = F110 a0 w Q := by kernel_rfl
  call_of (fn := Try.f110) mixed entOk Try.func110 (c := C110) rfl H110 (Nat.le_of_ble_eq_true rfl) (e.mpr h)

/-! ### rundale/rundalemake.kinds: function 118 -/
noncomputable def C118 : Code := (Try.f118.body).getD .skip
noncomputable def H118 : Hints := ⟨[], [], []⟩
def F118 (w : World) (Q : Value → World → Prop) : Prop :=
  effv Try.prog (Instr.buildSlice 23 23 #[(0, (Go.Value.int Go.IntKind.i64 1)), (1, (Go.Value.int Go.IntKind.i64 1)), (2, (Go.Value.int Go.IntKind.i64 2)), (3, (Go.Value.int Go.IntKind.i64 2)), (4, (Go.Value.int Go.IntKind.i64 2)), (5, (Go.Value.int Go.IntKind.i64 3)), (6, (Go.Value.int Go.IntKind.i64 3)), (7, (Go.Value.int Go.IntKind.i64 5)), (8, (Go.Value.int Go.IntKind.i64 5)), (9, (Go.Value.int Go.IntKind.i64 5)), (10, (Go.Value.int Go.IntKind.i64 6)), (11, (Go.Value.int Go.IntKind.i64 7)), (12, (Go.Value.int Go.IntKind.i64 7)), (13, (Go.Value.int Go.IntKind.i64 8)), (14, (Go.Value.int Go.IntKind.i64 9)), (15, (Go.Value.int Go.IntKind.i64 6)), (16, (Go.Value.int Go.IntKind.i64 4)), (17, (Go.Value.int Go.IntKind.i64 10)), (18, (Go.Value.int Go.IntKind.i64 10)), (19, (Go.Value.int Go.IntKind.i64 11)), (20, (Go.Value.int Go.IntKind.i64 11)), (21, (Go.Value.int Go.IntKind.i64 12)), (22, (Go.Value.int Go.IntKind.i64 0))]) w fun t1 w =>
  Q t1 w
theorem F118_ok {w : World} {Q : Value → World → Prop} (h : F118  w Q) : CallR Try.prog 118 [] w Q :=
  have e : evC Try.prog (entR 3 143) 118 2 H118 Q C118 [] (entryE 0 []) w (contT Try.prog (entR 3 143) 118 2 H118 Try.f118.results.toList Q []) = F118  w Q := by kernel_rfl
  call_of (fn := Try.f118) mixed entOk Try.func118 (c := C118) rfl H118 (Nat.le_of_ble_eq_true rfl) (e.mpr h)

/-! ### rundale/rundalemake.at: function 119 -/
noncomputable def C119 : Code := (Try.f119.body).getD .skip
noncomputable def H119 : Hints := ⟨[(3, [0, 1, 5, 6]), (6, [0, 1, 5, 6, 7])], [(7, [0, 1, 5, 6, 7])], []⟩
noncomputable def T119_0 : List It := [.lp (nav [1, 1, 0, 1, 4, 5] C119), .blk 0, .jn (nav [1, 1, 1] C119)]
noncomputable def T119_1 : List It := [.lp (nav [1, 1, 0, 1, 4, 5, 1, 0, 4, 1, 4, 5] C119), .blk 2, .blk 1, .jn (nav [1, 1, 0, 1, 4, 5, 1, 1] C119), .lp (nav [1, 1, 0, 1, 4, 5] C119), .blk 0, .jn (nav [1, 1, 1] C119)]
noncomputable def T119_2 : List It := [.jn (nav [1, 1, 0, 1, 4, 5, 1, 0, 4, 1, 4, 5, 1, 1] C119), .lp (nav [1, 1, 0, 1, 4, 5, 1, 0, 4, 1, 4, 5] C119), .blk 2, .blk 1, .jn (nav [1, 1, 0, 1, 4, 5, 1, 1] C119), .lp (nav [1, 1, 0, 1, 4, 5] C119), .blk 0, .jn (nav [1, 1, 1] C119)]
/-- rundale/rundalemake.at, from a loop's head on -/
def P119_0 (x0 x1 x5 x6 : Value) (w : World) (Q : Value → World → Prop) : Prop := Part Try.prog 119 T119_0 [0, 1, 5, 6] [x0, x1, x5, x6] w Q
/-- rundale/rundalemake.at, from a loop's head on -/
def P119_1 (x0 x1 x5 x6 x7 : Value) (w : World) (Q : Value → World → Prop) : Prop := Part Try.prog 119 T119_1 [0, 1, 5, 6, 7] [x0, x1, x5, x6, x7] w Q
/-- rundale/rundalemake.at, from a join on -/
def P119_2 (x0 x1 x5 x6 x7 : Value) (w : World) (Q : Value → World → Prop) : Prop := Part Try.prog 119 T119_2 [0, 1, 5, 6, 7] [x0, x1, x5, x6, x7] w Q
def F119 (a0 a1 : Value) (w : World) (Q : Value → World → Prop) : Prop :=
  P119_0 a0 a1 (Go.Value.slice none 0 0) (Go.Value.int Go.IntKind.i64 0) w Q
def L119_0 (x0 x1 x5 x6 : Value) (w : World) (Q : Value → World → Prop) : Prop :=
  wpB (pureRun Try.prog (Builtin.len_ #[22] 3 #[x0])) fun t10 =>
  wpB (bp Try.prog .lss 3 x6 t10) fun t11 =>
  cnd t11
  (P119_1 x0 x1 x5 x6 (Go.Value.int Go.IntKind.i64 0) w Q)
  (Q x5 w)
def L119_1 (x0 x1 x5 x6 x7 : Value) (w : World) (Q : Value → World → Prop) : Prop :=
  wpB (pureRun Try.prog (Instr.indexAt 22 x0 x6)) fun t17 =>
  wpB (ldv Try.prog 27 t17 w) fun t18 =>
  wpB (pureRun Try.prog (Builtin.len_ #[27] 3 #[t18])) fun t19 =>
  wpB (bp Try.prog .lss 3 x7 t19) fun t20 =>
  cnd t20
  (wpB (pureRun Try.prog (Instr.indexAt 22 x0 x6)) fun t25 =>
  wpB (ldv Try.prog 27 t25 w) fun t26 =>
  wpB (pureRun Try.prog (Instr.indexAt 27 t26 x7)) fun t28 =>
  wpB (pureRun Try.prog (Instr.fieldAt 40 t28 0)) fun t29 =>
  wpB (ldv Try.prog 3 t29 w) fun t30 =>
  wpB (be Try.prog .eql 3 (.tmp 30) (.tmp 31) t30 x1) fun t32 =>
  cnd t32
  (wpB (pureRun Try.prog (Instr.build 40 #[(1, x6), (2, x7)])) fun t36 =>
  effv Try.prog (Instr.buildSlice 27 1 #[(0, t36)]) w fun t37 w =>
  effv Try.prog (Builtin.append_ #[27, 27] 27 #[x5, t37]) w fun t38 w =>
  P119_2 x0 x1 t38 x6 x7 w Q)
  (P119_2 x0 x1 x5 x6 x7 w Q))
  (wpB (bp Try.prog .add 3 x6 (Go.Value.int Go.IntKind.i64 1)) fun t13 =>
  P119_0 x0 x1 x5 t13 w Q)
def L119_2 (x0 x1 x5 x6 x7 : Value) (w : World) (Q : Value → World → Prop) : Prop :=
  wpB (bp Try.prog .add 3 x7 (Go.Value.int Go.IntKind.i64 1)) fun t22 =>
  P119_1 x0 x1 x5 x6 t22 w Q
theorem F119_ok {a0 a1 : Value} {w : World} {Q : Value → World → Prop} (h : F119 a0 a1 w Q) : CallR Try.prog 119 [a0, a1] w Q :=
  have e : evC Try.prog (entR 3 143) 119 40 H119 Q C119 [] (entryE 0 [a0, a1]) w (contT Try.prog (entR 3 143) 119 40 H119 Try.f119.results.toList Q []) = F119 a0 a1 w Q := by kernel_rfl
  call_of (fn := Try.f119) mixed entOk Try.func119 (c := C119) rfl H119 (Nat.le_of_ble_eq_true rfl) (e.mpr h)
theorem L119_0_ok {x0 x1 x5 x6 : Value} {w : World} {Q : Value → World → Prop} (h : L119_0 x0 x1 x5 x6 w Q) : P119_0 x0 x1 x5 x6 w Q :=
  have e : evC Try.prog (entR 3 143) 119 40 H119 Q (nav [1, 1, 0, 1, 4, 5] C119) T119_0 (unpack [0, 1, 5, 6] [x0, x1, x5, x6]) w (contT Try.prog (entR 3 143) 119 40 H119 Try.f119.results.toList Q T119_0) = L119_0 x0 x1 x5 x6 w Q := by kernel_rfl
  part_lp (fn := Try.f119) mixed entOk Try.func119 H119 (c := (nav [1, 1, 0, 1, 4, 5] C119)) (t := [.blk 0, .jn (nav [1, 1, 1] C119)]) (e.mpr h)
theorem L119_1_ok {x0 x1 x5 x6 x7 : Value} {w : World} {Q : Value → World → Prop} (h : L119_1 x0 x1 x5 x6 x7 w Q) : P119_1 x0 x1 x5 x6 x7 w Q :=
  have e : evC Try.prog (entR 3 143) 119 40 H119 Q (nav [1, 1, 0, 1, 4, 5, 1, 0, 4, 1, 4, 5] C119) T119_1 (unpack [0, 1, 5, 6, 7] [x0, x1, x5, x6, x7]) w (contT Try.prog (entR 3 143) 119 40 H119 Try.f119.results.toList Q T119_1) = L119_1 x0 x1 x5 x6 x7 w Q := by kernel_rfl
  part_lp (fn := Try.f119) mixed entOk Try.func119 H119 (c := (nav [1, 1, 0, 1, 4, 5, 1, 0, 4, 1, 4, 5] C119)) (t := [.blk 2, .blk 1, .jn (nav [1, 1, 0, 1, 4, 5, 1, 1] C119), .lp (nav [1, 1, 0, 1, 4, 5] C119), .blk 0, .jn (nav [1, 1, 1] C119)]) (e.mpr h)
theorem L119_2_ok {x0 x1 x5 x6 x7 : Value} {w : World} {Q : Value → World → Prop} (h : L119_2 x0 x1 x5 x6 x7 w Q) : P119_2 x0 x1 x5 x6 x7 w Q :=
  have e : evC Try.prog (entR 3 143) 119 40 H119 Q (nav [1, 1, 0, 1, 4, 5, 1, 0, 4, 1, 4, 5, 1, 1] C119) [.lp (nav [1, 1, 0, 1, 4, 5, 1, 0, 4, 1, 4, 5] C119), .blk 2, .blk 1, .jn (nav [1, 1, 0, 1, 4, 5, 1, 1] C119), .lp (nav [1, 1, 0, 1, 4, 5] C119), .blk 0, .jn (nav [1, 1, 1] C119)] (unpack [0, 1, 5, 6, 7] [x0, x1, x5, x6, x7]) w (contT Try.prog (entR 3 143) 119 40 H119 Try.f119.results.toList Q [.lp (nav [1, 1, 0, 1, 4, 5, 1, 0, 4, 1, 4, 5] C119), .blk 2, .blk 1, .jn (nav [1, 1, 0, 1, 4, 5, 1, 1] C119), .lp (nav [1, 1, 0, 1, 4, 5] C119), .blk 0, .jn (nav [1, 1, 1] C119)]) = L119_2 x0 x1 x5 x6 x7 w Q := by kernel_rfl
  part_jn (fn := Try.f119) mixed entOk Try.func119 H119 (c := (nav [1, 1, 0, 1, 4, 5, 1, 0, 4, 1, 4, 5, 1, 1] C119)) (t := [.lp (nav [1, 1, 0, 1, 4, 5, 1, 0, 4, 1, 4, 5] C119), .blk 2, .blk 1, .jn (nav [1, 1, 0, 1, 4, 5, 1, 1] C119), .lp (nav [1, 1, 0, 1, 4, 5] C119), .blk 0, .jn (nav [1, 1, 1] C119)]) (e.mpr h)
end Go.Proofs.Ytgamnncehjcdiaa
