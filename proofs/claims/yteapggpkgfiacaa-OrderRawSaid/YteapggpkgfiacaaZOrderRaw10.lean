/- Parts of the proof of OrderRaw, one behind the other. Conditions: none. -/
import Derived.Test.YteapggpkgfiacaaChecked
import Derived.Eval
import Derived.Test.YteapggpkgfiacaaZOrderRaw9
namespace Go.Proofs.Yteapggpkgfiacaa
open Go Ev
set_option linter.unusedVariables false
set_option maxRecDepth 100000
def F51 (a0 a1 a2 a3 a4 : Value) (w : World) (Q : Value → World → Prop) : Prop :=
  effv Try.prog (Instr.box 29 a2) w fun t7 w =>
  effv Try.prog (Instr.box 27 a3) w fun t8 w =>
  effv Try.prog (Instr.box 32 a4) w fun t9 w =>
  wpB (ldv Try.prog 29 t7 w) fun t13 =>
  CallR Try.prog 79 [t13] w fun t14 w =>
  wpB (pureRun Try.prog (Op.unary .not t14)) fun t15 =>
  wpB (gd t15 false (bp Try.prog .lss 3 (gv t15 false a1) (.int .i64 0))) fun t18 =>
  wpB (pickv t15 (some (.bool true)) (some t18)) fun t19 =>
  wpB (gd t19 false (nilv (gv t19 false a0))) fun t23 =>
  wpB (gd t19 false (pureRun Try.prog (Instr.fieldAt 126 t23 0))) fun t24 =>
  wpB (gd t19 false (pureRun Try.prog (Instr.fieldAt 25 t24 0))) fun t25 =>
  wpB (gd t19 false (ldv Try.prog 3 t25 w)) fun t26 =>
  wpB (gd t19 false (bp Try.prog .geq 3 (gv t19 false a1) t26)) fun t27 =>
  wpB (pickv t19 (some (.bool true)) (some t27)) fun t28 =>
  cnd t28
  (Q (.bool false) w)
  (wpB (ldv Try.prog 29 t7 w) fun t32 =>
  wpB (ldv Try.prog 27 t8 w) fun t33 =>
  CallR Try.prog 80 [a0, a1, t32, t33] w fun t34 w =>
  wpB (pureRun Try.prog (Instr.extract t34 0)) fun t35 =>
  wpB (pureRun Try.prog (Instr.extract t34 1)) fun t36 =>
  effv Try.prog (Instr.alloc 32 true (.tuple #[])) w fun t11 w =>
  effu Try.prog (Instr.storeAt 32 t11 t35) w fun w =>
  cnd t36
  (wpB (ldv Try.prog 32 t9 w) fun t39 =>
  wpB (ldv Try.prog 32 t11 w) fun t40 =>
  wpB (be Try.prog .neq 32 (.tmp 39) (.tmp 40) t39 t40) fun t41 =>
  cnd t41
  (Q (.bool false) w)
  (wpB (pureRun Try.prog (Instr.fieldAt 32 t9 0)) fun t42 =>
  wpB (ldv Try.prog 30 t42 w) fun t43 =>
  wpB (be Try.prog .eql 30 (.tmp 43) (.const (.int .i64 0)) t43 (.int .i64 0)) fun t44 =>
  cnd t44
  (wpB (ldv Try.prog 29 t7 w) fun t47 =>
  wpB (ldv Try.prog 27 t8 w) fun t48 =>
  CallR Try.prog 81 [a0, a1, t47, t48] w fun t49 w =>
  P51_0 w Q)
  (P51_0 w Q)))
  (wpB (pureRun Try.prog (Instr.fieldAt 29 t7 0)) fun t51 =>
  wpB (ldv Try.prog 3 t51 w) fun t52 =>
  wpB (be Try.prog .eql 3 (.tmp 52) (.const (.int .i64 1)) t52 (.int .i64 1)) fun t53 =>
  cnd t53
  (wpB (ldv Try.prog 29 t7 w) fun t55 =>
  wpB (ldv Try.prog 32 t9 w) fun t56 =>
  CallR Try.prog 82 [a0, t55, t56] w fun t57 w =>
  Q t57 w)
  (wpB (ldv Try.prog 29 t7 w) fun t59 =>
  wpB (ldv Try.prog 27 t8 w) fun t60 =>
  wpB (ldv Try.prog 32 t9 w) fun t61 =>
  CallR Try.prog 83 [a0, t59, t60, t61] w fun t62 w =>
  Q t62 w)))
def L51_0 (w : World) (Q : Value → World → Prop) : Prop :=
  Q (.bool true) w
theorem F51_ok {a0 a1 a2 a3 a4 : Value} {w : World} {Q : Value → World → Prop} (h : F51 a0 a1 a2 a3 a4 w Q) : CallR Try.prog 51 [a0, a1, a2, a3, a4] w Q :=
  call_ofE mixed entOk Try.func51 (c := C51) rfl H51 (Nat.le_of_ble_eq_true rfl) (by kernel_rfl) h
theorem L51_0_ok {w : World} {Q : Value → World → Prop} (h : L51_0  w Q) : P51_0  w Q :=
  part_jnE mixed entOk Try.func51 H51 (by kernel_rfl) h

noncomputable def C52 : Code := (Try.f52.body).getD .skip
noncomputable def H52 : Hints := ⟨[(2, [0, 3, 5])], [], [(2, (.leaf [0, 1, 2, 3, 4, 5, 6, 7, 8, 9, 10, 11, 12, 13]))]⟩
noncomputable def T52_0 : List It := [.lp (nav [1, 1, 0, 4, 5] C52), .blk 0, .jn (nav [1, 1, 1] C52)]
/-- rundale/rundaleref18.put, from a loop's head on -/
def P52_0 (x0 x3 x5 : Value) (w : World) (Q : Value → World → Prop) : Prop := Part Try.prog 52 T52_0 [0, 3, 5] [x0, x3, x5] w Q
def F52 (a0 a1 : Value) (w : World) (Q : Value → World → Prop) : Prop :=
  effv Try.prog (Instr.box 67 a1) w fun t3 w =>
  P52_0 a0 t3 (.int .i64 0) w Q
def L52_0 (x0 x3 x5 : Value) (w : World) (Q : Value → World → Prop) : Prop :=
  wpB (pureRun Try.prog (Builtin.len_ #[65] 3 #[x0])) fun t9 =>
  wpB (bp Try.prog .lss 3 x5 t9) fun t10 =>
  wpB (gd t10 true (pureRun Try.prog (Instr.indexAt 65 (gv t10 true x0) (gv t10 true x5)))) fun t14 =>
  wpB (gd t10 true (pureRun Try.prog (Instr.fieldAt 67 t14 0))) fun t15 =>
  wpB (gd t10 true (ldv Try.prog 3 t15 w.drew)) fun t16 =>
  wpB (gd t10 true (pureRun Try.prog (Instr.fieldAt 67 x3 0))) fun t17 =>
  wpB (gd t10 true (ldv Try.prog 3 t17 w.drew)) fun t18 =>
  wpB (gd t10 true (bp Try.prog .leq 3 t16 t18)) fun t19 =>
  wpB (pickv t10 (some t19) (some (.bool false))) fun t20 =>
  cnd t20
  (wpB (bp Try.prog .add 3 x5 (.int .i64 1)) fun t22 =>
  P52_0 x0 x3 t22 w.drew Q)
  (wpB (pureRun Try.prog (Instr.sliceAt 65 x0 none (some x5) none)) fun t25 =>
  effv Try.prog (Builtin.append_ #[65, 65] 65 #[(.slice none 0 0), t25]) w.drew fun t26 w =>
  wpB (ldv Try.prog 67 x3 w) fun t28 =>
  effv Try.prog (Instr.buildSlice 65 1 #[(0, t28)]) w fun t29 w =>
  effv Try.prog (Builtin.append_ #[65, 65] 65 #[t26, t29]) w fun t30 w =>
  wpB (pureRun Try.prog (Instr.sliceAt 65 x0 (some x5) none none)) fun t34 =>
  effv Try.prog (Builtin.append_ #[65, 65] 65 #[t30, t34]) w fun t35 w =>
  Q t35 w)
theorem F52_ok {a0 a1 : Value} {w : World} {Q : Value → World → Prop} (h : F52 a0 a1 w Q) : CallR Try.prog 52 [a0, a1] w Q :=
  call_ofE mixed entOk Try.func52 (c := C52) rfl H52 (Nat.le_of_ble_eq_true rfl) (by kernel_rfl) h
theorem L52_0_ok {x0 x3 x5 : Value} {w : World} {Q : Value → World → Prop} (h : L52_0 x0 x3 x5 w Q) : P52_0 x0 x3 x5 w Q :=
  part_lpE mixed entOk Try.func52 H52 (by kernel_rfl) h

noncomputable def C53 : Code := (Try.f53.body).getD .skip
noncomputable def H53 : Hints := ⟨[], [(5, [3, 4]), (10, [3, 8])], []⟩
noncomputable def T53_0 : List It := [.jn (nav [1, 0, 1, 4, 1] C53), .blk 0, .jn (nav [1, 1] C53)]
noncomputable def T53_1 : List It := [.jn (nav [1, 0, 1, 4, 1, 3, 1] C53), .blk 0, .jn (nav [1, 1] C53)]
/-- rundale/rundaleref18.Of, from a join on -/
def P53_0 (x3 x4 : Value) (w : World) (Q : Value → World → Prop) : Prop := Part Try.prog 53 T53_0 [3, 4] [x3, x4] w Q
/-- rundale/rundaleref18.Of, from a join on -/
def P53_1 (x3 x8 : Value) (w : World) (Q : Value → World → Prop) : Prop := Part Try.prog 53 T53_1 [3, 8] [x3, x8] w Q
def F53 (a0 : Value) (w : World) (Q : Value → World → Prop) : Prop :=
  wpB (be Try.prog .eql 3 (.tmp 3) (.const (.int .i64 2)) a0 (.int .i64 2)) fun t5 =>
  cnd t5
  (P53_0 a0 t5 w Q)
  (wpB (be Try.prog .eql 3 (.tmp 3) (.const (.int .i64 10)) a0 (.int .i64 10)) fun t6 =>
  cnd t6
  (P53_0 a0 t6 w Q)
  (wpB (be Try.prog .eql 3 (.tmp 3) (.const (.int .i64 12)) a0 (.int .i64 12)) fun t7 =>
  P53_0 a0 t7 w Q))
def L53_0 (x3 x4 : Value) (w : World) (Q : Value → World → Prop) : Prop :=
  cnd x4
  (Q (.int .i64 1) w)
  (wpB (be Try.prog .eql 3 (.tmp 3) (.const (.int .i64 6)) x3 (.int .i64 6)) fun t9 =>
  cnd t9
  (P53_1 x3 t9 w Q)
  (wpB (be Try.prog .eql 3 (.tmp 3) (.const (.int .i64 7)) x3 (.int .i64 7)) fun t10 =>
  cnd t10
  (P53_1 x3 t10 w Q)
  (wpB (be Try.prog .eql 3 (.tmp 3) (.const (.int .i64 8)) x3 (.int .i64 8)) fun t11 =>
  cnd t11
  (P53_1 x3 t11 w Q)
  (wpB (be Try.prog .eql 3 (.tmp 3) (.const (.int .i64 9)) x3 (.int .i64 9)) fun t12 =>
  P53_1 x3 t12 w Q))))
def L53_1 (x3 x8 : Value) (w : World) (Q : Value → World → Prop) : Prop :=
  cnd x8
  (Q (.int .i64 2) w)
  (wpB (be Try.prog .eql 3 (.tmp 3) (.const (.int .i64 5)) x3 (.int .i64 5)) fun t14 =>
  cnd t14
  (Q (.int .i64 3) w)
  (Q (.int .i64 0) w))
theorem F53_ok {a0 : Value} {w : World} {Q : Value → World → Prop} (h : F53 a0 w Q) : CallR Try.prog 53 [a0] w Q :=
  call_ofE mixed entOk Try.func53 (c := C53) rfl H53 (Nat.le_of_ble_eq_true rfl) (by kernel_rfl) h
theorem L53_0_ok {x3 x4 : Value} {w : World} {Q : Value → World → Prop} (h : L53_0 x3 x4 w Q) : P53_0 x3 x4 w Q :=
  part_jnE mixed entOk Try.func53 H53 (by kernel_rfl) h
theorem L53_1_ok {x3 x8 : Value} {w : World} {Q : Value → World → Prop} (h : L53_1 x3 x8 w Q) : P53_1 x3 x8 w Q :=
  part_jnE mixed entOk Try.func53 H53 (by kernel_rfl) h

noncomputable def C54 : Code := (Try.f54.body).getD .skip
noncomputable def H54 : Hints := ⟨[], [], []⟩
def F54 (a0 a1 : Value) (w : World) (Q : Value → World → Prop) : Prop :=
  CallR Try.prog 84 [a0, a1] w fun t7 w =>
  wpB (bp Try.prog .geq 3 t7 (.int .i64 0)) fun t8 =>
  Q t8 w
theorem F54_ok {a0 a1 : Value} {w : World} {Q : Value → World → Prop} (h : F54 a0 a1 w Q) : CallR Try.prog 54 [a0, a1] w Q :=
  call_ofE mixed entOk Try.func54 (c := C54) rfl H54 (Nat.le_of_ble_eq_true rfl) (by kernel_rfl) h

noncomputable def C56 : Code := (Try.f56.body).getD .skip
noncomputable def H56 : Hints := ⟨[], [(5, [0, 6, 7, 10, 11]), (9, [0, 6, 7, 10, 12, 13]), (31, [6, 7, 12, 13, 45, 94]), (37, [13, 108]), (38, [])], [(4, (.ask 3 7 (.ask 8 7 (.leaf [0, 1, 2, 4, 3, 5, 6, 8, 7, 9, 10]) (.leaf [0, 1, 2, 3, 4, 5, 6, 7, 8, 9, 10])) (.ask 8 7 (.leaf [0, 1, 2, 4, 6, 8, 7, 3, 5, 9, 10]) (.leaf [0, 1, 2, 4, 6, 7, 3, 5, 8, 9, 10])))), (5, (.leaf [0, 1, 2, 3, 4, 5, 6])), (11, (.leaf [0, 1, 2, 3, 4, 5, 6, 7, 8, 9, 10, 11, 12]))]⟩
noncomputable def T56_0 : List It := [.jn (nav [1, 1, 1] C56)]
noncomputable def T56_1 : List It := [.jn (nav [1, 1, 1, 1, 1, 1] C56)]
noncomputable def T56_2 : List It := [.jn (nav [1, 1, 1, 1, 1, 1, 1] C56)]
noncomputable def T56_3 : List It := [.jn (nav [1, 1, 1, 1, 1, 1, 0, 1, 4, 1, 3, 1, 3, 1, 3, 1, 3, 1] C56), .blk 0, .jn (nav [1, 1, 1, 1, 1, 1, 1] C56)]
noncomputable def T56_4 : List It := [.jn (nav [1, 1, 1, 1, 1, 1, 0, 1, 4, 1, 3, 1, 3, 1, 3, 1, 3, 1, 3, 1] C56), .blk 0, .jn (nav [1, 1, 1, 1, 1, 1, 1] C56)]
/-- (*rundale/model.Model).refuses, from a join on -/
def P56_0 (x0 x6 x7 x10 x11 : Value) (w : World) (Q : Value → World → Prop) : Prop := Part Try.prog 56 T56_0 [0, 6, 7, 10, 11] [x0, x6, x7, x10, x11] w Q
/-- (*rundale/model.Model).refuses, from a join on -/
def P56_1 (x0 x6 x7 x10 x12 x13 : Value) (w : World) (Q : Value → World → Prop) : Prop := Part Try.prog 56 T56_1 [0, 6, 7, 10, 12, 13] [x0, x6, x7, x10, x12, x13] w Q
/-- (*rundale/model.Model).refuses, from a join on -/
def P56_2 (w : World) (Q : Value → World → Prop) : Prop := Part Try.prog 56 T56_2 [] [] w Q
/-- (*rundale/model.Model).refuses, from a join on -/
def P56_3 (x6 x7 x12 x13 x45 x94 : Value) (w : World) (Q : Value → World → Prop) : Prop := Part Try.prog 56 T56_3 [6, 7, 12, 13, 45, 94] [x6, x7, x12, x13, x45, x94] w Q
/-- (*rundale/model.Model).refuses, from a join on -/
def P56_4 (x13 x108 : Value) (w : World) (Q : Value → World → Prop) : Prop := Part Try.prog 56 T56_4 [13, 108] [x13, x108] w Q
def F56 (a0 a1 a2 a3 : Value) (w : World) (Q : Value → World → Prop) : Prop :=
  effv Try.prog (Instr.box 29 a2) w fun t6 w =>
  effv Try.prog (Instr.box 27 a3) w fun t7 w =>
  wpB (pureRun Try.prog (Instr.fieldAt 29 t6 0)) fun t14 =>
  wpB (ldv Try.prog 3 t14 w) fun t15 =>
  CallR Try.prog 42 [t15] w fun t16 w =>
  wpB (be Try.prog .neq 3 (.tmp 17) (.const (.int .i64 0)) t16 (.int .i64 0)) fun t18 =>
  wpB (gd t18 true (ldv Try.prog 27 t7 w)) fun t21 =>
  gE t18 true (CallR Try.prog 85 [(gv t18 true a0), t21, (gv t18 true t16)] w) (fun t23 w =>
  wpB (gd t18 true (pureRun Try.prog (Op.unary .not t23))) fun t24 =>
  wpB (pickv t18 (some t24) (some (.bool false))) fun t25 =>
  cnd t25
  (Q (.int .i64 2) w)
  (((wpB (nilv a0) fun t27 =>
  wpB (pureRun Try.prog (Instr.fieldAt 72 t27 4)) fun t28 =>
  wpB (ldv Try.prog 70 t28 w.drew) fun t29 =>
  wpB (pureRun Try.prog (Instr.indexAt 70 t29 a1)) fun t31 =>
  wpB (ldv Try.prog 27 t7 w.drew) fun t32 =>
  effv Try.prog (Instr.alloc 95 true (.tuple #[])) w.drew fun t11 w =>
  CallR Try.prog 59 [t32] w fun t33 w =>
  effu Try.prog (Instr.storeAt 95 t11 t33) w fun w =>
  P56_0 a0 t6 t7 t31 t11 w Q) ∧
  (wpB (nilv a0) fun t27_1 =>
  wpB (pureRun Try.prog (Instr.fieldAt 72 t27_1 4)) fun t28_1 =>
  wpB (ldv Try.prog 70 t28_1 w.drew) fun t29_1 =>
  wpB (pureRun Try.prog (Instr.indexAt 70 t29_1 a1)) fun t31_1 =>
  wpB (ldv Try.prog 27 t7 w.drew) fun t32_1 =>
  CallR Try.prog 59 [t32_1] w.drew fun t33_1 w =>
  effv Try.prog (Instr.alloc 95 true (.tuple #[])) w fun t11_1 w =>
  effu Try.prog (Instr.storeAt 95 t11_1 t33_1) w fun w =>
  P56_0 a0 t6 t7 t31_1 t11_1 w Q)) ∧
  ((wpB (nilv a0) fun t27_2 =>
  wpB (pureRun Try.prog (Instr.fieldAt 72 t27_2 4)) fun t28_2 =>
  wpB (ldv Try.prog 27 t7 w.drew) fun t32_2 =>
  effv Try.prog (Instr.alloc 95 true (.tuple #[])) w.drew fun t11_2 w =>
  CallR Try.prog 59 [t32_2] w fun t33_2 w =>
  wpB (ldv Try.prog 70 t28_2 w) fun t29_2 =>
  wpB (pureRun Try.prog (Instr.indexAt 70 t29_2 a1)) fun t31_2 =>
  effu Try.prog (Instr.storeAt 95 t11_2 t33_2) w fun w =>
  P56_0 a0 t6 t7 t31_2 t11_2 w Q) ∧
  (wpB (nilv a0) fun t27_3 =>
  wpB (pureRun Try.prog (Instr.fieldAt 72 t27_3 4)) fun t28_3 =>
  wpB (ldv Try.prog 27 t7 w.drew) fun t32_3 =>
  CallR Try.prog 59 [t32_3] w.drew fun t33_3 w =>
  wpB (ldv Try.prog 70 t28_3 w) fun t29_3 =>
  wpB (pureRun Try.prog (Instr.indexAt 70 t29_3 a1)) fun t31_3 =>
  effv Try.prog (Instr.alloc 95 true (.tuple #[])) w fun t11_3 w =>
  effu Try.prog (Instr.storeAt 95 t11_3 t33_3) w fun w =>
  P56_0 a0 t6 t7 t31_3 t11_3 w Q)))) w
def L56_0 (x0 x6 x7 x10 x11 : Value) (w : World) (Q : Value → World → Prop) : Prop :=
  wpB (nilv x10) fun t35 =>
  wpB (pureRun Try.prog (Instr.fieldAt 106 t35 1)) fun t36 =>
  wpB (ldv Try.prog 104 t36 w.drew) fun t37 =>
  wpB (ldv Try.prog 95 x11 w.drew) fun t38 =>
  CallR Try.prog 72 [t37, t38] w.drew fun t39 w =>
  wpB (ldv Try.prog 95 x11 w) fun t41 =>
  CallR Try.prog 86 [x0, t41] w fun t42 w =>
  wpB (pureRun Try.prog (Op.unary .not t42)) fun t43 =>
  cnd t43
  (P56_1 x0 x6 x7 x10 t39 (.int .i64 3) w Q)
  (P56_1 x0 x6 x7 x10 t39 (.int .i64 0) w Q)
def L56_1 (x0 x6 x7 x10 x12 x13 : Value) (w : World) (Q : Value → World → Prop) : Prop :=
  wpB (pureRun Try.prog (Instr.fieldAt 29 x6 0)) fun t44 =>
  wpB (ldv Try.prog 3 t44 w) fun t45 =>
  wpB (be Try.prog .eql 3 (.tmp 45) (.const (.int .i64 2)) t45 (.int .i64 2)) fun t47 =>
  cnd t47
  (wpB (pureRun Try.prog (Instr.fieldAt 29 x6 3)) fun t48 =>
  wpB (ldv Try.prog 3 t48 w.drew) fun t49 =>
  wpB (bp Try.prog .lss 3 t49 (.int .i64 1)) fun t50 =>
  wpB (gd t50 false (pureRun Try.prog (Instr.fieldAt 29 x6 3))) fun t52 =>
  wpB (gd t50 false (ldv Try.prog 3 t52 w.drew)) fun t53 =>
  wpB (gd t50 false (nilv (gv t50 false x0))) fun t55 =>
  wpB (gd t50 false (pureRun Try.prog (Instr.fieldAt 72 t55 0))) fun t56 =>
  wpB (gd t50 false (pureRun Try.prog (Instr.fieldAt 25 t56 2))) fun t57 =>
  wpB (gd t50 false (ldv Try.prog 3 t57 w.drew)) fun t58 =>
  wpB (gd t50 false (bp Try.prog .gtr 3 t53 t58)) fun t59 =>
  wpB (pickv t50 (some (.bool true)) (some t59)) fun t60 =>
  cnd t60
  (Q (.int .i64 5) w.drew)
  (Q x13 w.drew))
  (wpB (be Try.prog .eql 3 (.tmp 45) (.const (.int .i64 3)) t45 (.int .i64 3)) fun t63 =>
  cnd t63
  (wpB (nilv x10) fun t65 =>
  wpB (pureRun Try.prog (Instr.fieldAt 106 t65 0)) fun t66 =>
  wpB (ldv Try.prog 3 t66 w) fun t67 =>
  wpB (be Try.prog .eql 3 (.tmp 67) (.const (.int .i64 15)) t67 (.int .i64 15)) fun t68 =>
  cnd t68
  (Q (.int .i64 8) w)
  (P56_2 w Q))
  (wpB (be Try.prog .eql 3 (.tmp 45) (.const (.int .i64 4)) t45 (.int .i64 4)) fun t70 =>
  cnd t70
  (wpB (nilv x10) fun t72 =>
  wpB (pureRun Try.prog (Instr.fieldAt 106 t72 0)) fun t73 =>
  wpB (ldv Try.prog 3 t73 w) fun t74 =>
  wpB (be Try.prog .eql 3 (.tmp 74) (.const (.int .i64 0)) t74 (.int .i64 0)) fun t75 =>
  cnd t75
  (Q (.int .i64 4) w)
  (P56_2 w Q))
  (wpB (be Try.prog .eql 3 (.tmp 45) (.const (.int .i64 5)) t45 (.int .i64 5)) fun t77 =>
  cnd t77
  (wpB (nilv x10) fun t81 =>
  wpB (pureRun Try.prog (Instr.fieldAt 106 t81 0)) fun t82 =>
  wpB (ldv Try.prog 3 t82 w) fun t83 =>
  wpB (be Try.prog .eql 3 (.tmp 83) (.const (.int .i64 0)) t83 (.int .i64 0)) fun t84 =>
  cnd t84
  (Q (.int .i64 4) w)
  (cnd x12
  (P56_2 w Q)
  (wpB (nilv x10) fun t89 =>
  wpB (pureRun Try.prog (Instr.fieldAt 106 t89 1)) fun t90 =>
  wpB (ldv Try.prog 104 t90 w) fun t91 =>
  wpB (pureRun Try.prog (Builtin.len_ #[104] 3 #[t91])) fun t92 =>
  wpB (be Try.prog .eql 3 (.tmp 92) (.const (.int .i64 8)) t92 (.int .i64 8)) fun t93 =>
  cnd t93
  (Q (.int .i64 8) w)
  (Q x13 w))))
  (wpB (be Try.prog .eql 3 (.tmp 45) (.const (.int .i64 6)) t45 (.int .i64 6)) fun t95 =>
  cnd t95
  (P56_3 x6 x7 x12 x13 t45 t95 w Q)
  (wpB (be Try.prog .eql 3 (.tmp 45) (.const (.int .i64 7)) t45 (.int .i64 7)) fun t96 =>
  cnd t96
  (P56_3 x6 x7 x12 x13 t45 t96 w Q)
  (wpB (be Try.prog .eql 3 (.tmp 45) (.const (.int .i64 8)) t45 (.int .i64 8)) fun t97 =>
  cnd t97
  (P56_3 x6 x7 x12 x13 t45 t97 w Q)
  (wpB (be Try.prog .eql 3 (.tmp 45) (.const (.int .i64 9)) t45 (.int .i64 9)) fun t98 =>
  P56_3 x6 x7 x12 x13 t45 t98 w Q)))))))
def L56_2 (w : World) (Q : Value → World → Prop) : Prop :=
  Q (.int .i64 0) w
def L56_3 (x6 x7 x12 x13 x45 x94 : Value) (w : World) (Q : Value → World → Prop) : Prop :=
  cnd x94
  (wpB (pureRun Try.prog (Op.unary .not x12)) fun t101 =>
  cnd t101
  (Q (.int .i64 4) w)
  (wpB (pureRun Try.prog (Instr.fieldAt 29 x6 3)) fun t103 =>
  wpB (ldv Try.prog 3 t103 w) fun t104 =>
  wpB (pureRun Try.prog (Instr.fieldAt 27 x7 4)) fun t105 =>
  wpB (ldv Try.prog 3 t105 w) fun t106 =>
  wpB (bp Try.prog .geq 3 t104 t106) fun t107 =>
  cnd t107
  (Q (.int .i64 5) w)
  (P56_2 w Q)))
  (wpB (be Try.prog .eql 3 (.tmp 45) (.const (.int .i64 10)) x45 (.int .i64 10)) fun t109 =>
  cnd t109
  (P56_4 x13 t109 w Q)
  (wpB (be Try.prog .eql 3 (.tmp 45) (.const (.int .i64 12)) x45 (.int .i64 12)) fun t110 =>
  P56_4 x13 t110 w Q))
def L56_4 (x13 x108 : Value) (w : World) (Q : Value → World → Prop) : Prop :=
  cnd x108
  (Q x13 w)
  (P56_2 w Q)
theorem F56_ok {a0 a1 a2 a3 : Value} {w : World} {Q : Value → World → Prop} (h : F56 a0 a1 a2 a3 w Q) : CallR Try.prog 56 [a0, a1, a2, a3] w Q :=
  call_ofE mixed entOk Try.func56 (c := C56) rfl H56 (Nat.le_of_ble_eq_true rfl) (by kernel_rfl) h
theorem L56_0_ok {x0 x6 x7 x10 x11 : Value} {w : World} {Q : Value → World → Prop} (h : L56_0 x0 x6 x7 x10 x11 w Q) : P56_0 x0 x6 x7 x10 x11 w Q :=
  part_jnE mixed entOk Try.func56 H56 (by kernel_rfl) h
theorem L56_1_ok {x0 x6 x7 x10 x12 x13 : Value} {w : World} {Q : Value → World → Prop} (h : L56_1 x0 x6 x7 x10 x12 x13 w Q) : P56_1 x0 x6 x7 x10 x12 x13 w Q :=
  part_jnE mixed entOk Try.func56 H56 (by kernel_rfl) h
theorem L56_2_ok {w : World} {Q : Value → World → Prop} (h : L56_2  w Q) : P56_2  w Q :=
  part_jnE mixed entOk Try.func56 H56 (by kernel_rfl) h
theorem L56_3_ok {x6 x7 x12 x13 x45 x94 : Value} {w : World} {Q : Value → World → Prop} (h : L56_3 x6 x7 x12 x13 x45 x94 w Q) : P56_3 x6 x7 x12 x13 x45 x94 w Q :=
  part_jnE mixed entOk Try.func56 H56 (by kernel_rfl) h
theorem L56_4_ok {x13 x108 : Value} {w : World} {Q : Value → World → Prop} (h : L56_4 x13 x108 w Q) : P56_4 x13 x108 w Q :=
  part_jnE mixed entOk Try.func56 H56 (by kernel_rfl) h

noncomputable def C57 : Code := (Try.f57.body).getD .skip
noncomputable def H57 : Hints := ⟨[], [], [(2, (.ask 3 10 (.ask 14 10 (.leaf [0, 1, 2, 4, 5, 6, 8, 13, 15, 3, 7, 9, 14, 16, 10, 11, 12, 17, 18]) (.leaf [0, 1, 2, 3, 4, 5, 6, 7, 8, 9, 10, 11, 12, 13, 14, 15, 16, 17, 18])) (.ask 14 10 (.leaf [0, 1, 2, 4, 5, 6, 8, 13, 15, 7, 9, 14, 16, 10, 3, 11, 12, 17, 18]) (.leaf [0, 1, 2, 4, 5, 6, 8, 13, 15, 7, 9, 10, 3, 11, 12, 14, 16, 17, 18]))))]⟩
def F57 (a0 a1 a2 : Value) (w : World) (Q : Value → World → Prop) : Prop :=
  effv Try.prog (Instr.box 27 a1) w fun t4 w =>
  wpB (ldv Try.prog 27 t4 w) fun t9 =>
  CallR Try.prog 59 [t9] w fun t10 w =>
  CallR Try.prog 58 [a0, t10] w fun t11 w =>
  ((wpB (nilv t11) fun t13 =>
  wpB (pureRun Try.prog (Instr.fieldAt 98 t13 4)) fun t14 =>
  wpB (nilv t11) fun t17 =>
  wpB (pureRun Try.prog (Instr.fieldAt 98 t17 3)) fun t18 =>
  wpB (pureRun Try.prog (Instr.fieldAt 27 t4 2)) fun t20 =>
  wpB (pureRun Try.prog (Instr.fieldAt 27 t4 3)) fun t25 =>
  wpB (ldv Try.prog 96 t14 w.drew) fun t15 =>
  wpB (ldv Try.prog 36 t18 w.drew) fun t19 =>
  wpB (ldv Try.prog 3 t20 w.drew) fun t21 =>
  wpB (ldv Try.prog 3 t25 w.drew) fun t26 =>
  wpB (bp Try.prog .add 3 t26 a2) fun t28 =>
  CallR Try.prog 84 [t19, t21] w.drew fun t22 w =>
  wpB (pureRun Try.prog (Instr.indexAt 96 t15 t22)) fun t23 =>
  wpB (ldv Try.prog 112 t23 w) fun t24 =>
  wpB (pureRun Try.prog (Instr.indexAt 112 t24 t28)) fun t29 =>
  Q t29 w) ∧
  (wpB (nilv t11) fun t13_1 =>
  wpB (pureRun Try.prog (Instr.fieldAt 98 t13_1 4)) fun t14_1 =>
  wpB (ldv Try.prog 96 t14_1 w.drew) fun t15_1 =>
  wpB (nilv t11) fun t17_1 =>
  wpB (pureRun Try.prog (Instr.fieldAt 98 t17_1 3)) fun t18_1 =>
  wpB (ldv Try.prog 36 t18_1 w.drew) fun t19_1 =>
  wpB (pureRun Try.prog (Instr.fieldAt 27 t4 2)) fun t20_1 =>
  wpB (ldv Try.prog 3 t20_1 w.drew) fun t21_1 =>
  CallR Try.prog 84 [t19_1, t21_1] w.drew fun t22_1 w =>
  wpB (pureRun Try.prog (Instr.indexAt 96 t15_1 t22_1)) fun t23_1 =>
  wpB (ldv Try.prog 112 t23_1 w) fun t24_1 =>
  wpB (pureRun Try.prog (Instr.fieldAt 27 t4 3)) fun t25_1 =>
  wpB (ldv Try.prog 3 t25_1 w) fun t26_1 =>
  wpB (bp Try.prog .add 3 t26_1 a2) fun t28_1 =>
  wpB (pureRun Try.prog (Instr.indexAt 112 t24_1 t28_1)) fun t29_1 =>
  Q t29_1 w)) ∧
  ((wpB (nilv t11) fun t13_2 =>
  wpB (pureRun Try.prog (Instr.fieldAt 98 t13_2 4)) fun t14_2 =>
  wpB (nilv t11) fun t17_2 =>
  wpB (pureRun Try.prog (Instr.fieldAt 98 t17_2 3)) fun t18_2 =>
  wpB (pureRun Try.prog (Instr.fieldAt 27 t4 2)) fun t20_2 =>
  wpB (pureRun Try.prog (Instr.fieldAt 27 t4 3)) fun t25_2 =>
  wpB (ldv Try.prog 36 t18_2 w.drew) fun t19_2 =>
  wpB (ldv Try.prog 3 t20_2 w.drew) fun t21_2 =>
  wpB (ldv Try.prog 3 t25_2 w.drew) fun t26_2 =>
  wpB (bp Try.prog .add 3 t26_2 a2) fun t28_2 =>
  CallR Try.prog 84 [t19_2, t21_2] w.drew fun t22_2 w =>
  wpB (ldv Try.prog 96 t14_2 w) fun t15_2 =>
  wpB (pureRun Try.prog (Instr.indexAt 96 t15_2 t22_2)) fun t23_2 =>
  wpB (ldv Try.prog 112 t23_2 w) fun t24_2 =>
  wpB (pureRun Try.prog (Instr.indexAt 112 t24_2 t28_2)) fun t29_2 =>
  Q t29_2 w) ∧
  (wpB (nilv t11) fun t13_3 =>
  wpB (pureRun Try.prog (Instr.fieldAt 98 t13_3 4)) fun t14_3 =>
  wpB (nilv t11) fun t17_3 =>
  wpB (pureRun Try.prog (Instr.fieldAt 98 t17_3 3)) fun t18_3 =>
  wpB (pureRun Try.prog (Instr.fieldAt 27 t4 2)) fun t20_3 =>
  wpB (pureRun Try.prog (Instr.fieldAt 27 t4 3)) fun t25_3 =>
  wpB (ldv Try.prog 36 t18_3 w.drew) fun t19_3 =>
  wpB (ldv Try.prog 3 t20_3 w.drew) fun t21_3 =>
  CallR Try.prog 84 [t19_3, t21_3] w.drew fun t22_3 w =>
  wpB (ldv Try.prog 96 t14_3 w) fun t15_3 =>
  wpB (pureRun Try.prog (Instr.indexAt 96 t15_3 t22_3)) fun t23_3 =>
  wpB (ldv Try.prog 112 t23_3 w) fun t24_3 =>
  wpB (ldv Try.prog 3 t25_3 w) fun t26_3 =>
  wpB (bp Try.prog .add 3 t26_3 a2) fun t28_3 =>
  wpB (pureRun Try.prog (Instr.indexAt 112 t24_3 t28_3)) fun t29_3 =>
  Q t29_3 w))
theorem F57_ok {a0 a1 a2 : Value} {w : World} {Q : Value → World → Prop} (h : F57 a0 a1 a2 w Q) : CallR Try.prog 57 [a0, a1, a2] w Q :=
  call_ofE mixed entOk Try.func57 (c := C57) rfl H57 (Nat.le_of_ble_eq_true rfl) (by kernel_rfl) h

noncomputable def C58 : Code := (Try.f58.body).getD .skip
noncomputable def H58 : Hints := ⟨[(2, [0, 3, 10, 11])], [], [(4, (.leaf [0, 1, 2, 3, 4, 5, 6, 7, 8, 9]))]⟩
noncomputable def T58_0 : List It := [.lp (nav [1, 0, 1, 4, 5] C58), .blk 0, .jn (nav [1, 1] C58)]
/-- (*rundale/model.Model).region, from a loop's head on -/
def P58_0 (x0 x3 x10 x11 : Value) (w : World) (Q : Value → World → Prop) : Prop := Part Try.prog 58 T58_0 [0, 3, 10, 11] [x0, x3, x10, x11] w Q
def F58 (a0 a1 : Value) (w : World) (Q : Value → World → Prop) : Prop :=
  effv Try.prog (Instr.box 95 a1) w fun t3 w =>
  wpB (nilv a0) fun t7 =>
  wpB (pureRun Try.prog (Instr.fieldAt 72 t7 3)) fun t8 =>
  wpB (ldv Try.prog 69 t8 w) fun t9 =>
  wpB (pureRun Try.prog (Builtin.len_ #[69] 3 #[t9])) fun t10 =>
  P58_0 a0 t3 t10 (.int .i64 0) w Q
def L58_0 (x0 x3 x10 x11 : Value) (w : World) (Q : Value → World → Prop) : Prop :=
  wpB (bp Try.prog .lss 3 x11 x10) fun t12 =>
  cnd t12
  (wpB (nilv x0) fun t15 =>
  wpB (pureRun Try.prog (Instr.fieldAt 72 t15 3)) fun t16 =>
  wpB (ldv Try.prog 69 t16 w.drew) fun t17 =>
  wpB (pureRun Try.prog (Instr.indexAt 69 t17 x11)) fun t19 =>
  wpB (pureRun Try.prog (Instr.fieldAt 98 t19 0)) fun t20 =>
  wpB (ldv Try.prog 95 t20 w.drew) fun t21 =>
  wpB (ldv Try.prog 95 x3 w.drew) fun t22 =>
  wpB (be Try.prog .eql 95 (.tmp 21) (.tmp 22) t21 t22) fun t23 =>
  cnd t23
  (wpB (nilv x0) fun t25 =>
  wpB (pureRun Try.prog (Instr.fieldAt 72 t25 3)) fun t26 =>
  wpB (ldv Try.prog 69 t26 w.drew) fun t27 =>
  wpB (pureRun Try.prog (Instr.indexAt 69 t27 x11)) fun t29 =>
  Q t29 w.drew)
  (wpB (bp Try.prog .add 3 x11 (.int .i64 1)) fun t30 =>
  P58_0 x0 x3 x10 t30 w.drew Q))
  (Q (.pointer none) w)
theorem F58_ok {a0 a1 : Value} {w : World} {Q : Value → World → Prop} (h : F58 a0 a1 w Q) : CallR Try.prog 58 [a0, a1] w Q :=
  call_ofE mixed entOk Try.func58 (c := C58) rfl H58 (Nat.le_of_ble_eq_true rfl) (by kernel_rfl) h
theorem L58_0_ok {x0 x3 x10 x11 : Value} {w : World} {Q : Value → World → Prop} (h : L58_0 x0 x3 x10 x11 w Q) : P58_0 x0 x3 x10 x11 w Q :=
  part_lpE mixed entOk Try.func58 H58 (by kernel_rfl) h

noncomputable def C59 : Code := (Try.f59.body).getD .skip
noncomputable def H59 : Hints := ⟨[], [], []⟩
def F59 (a0 : Value) (w : World) (Q : Value → World → Prop) : Prop :=
  effv Try.prog (Instr.box 27 a0) w fun t1 w =>
  effv Try.prog (Instr.alloc 95 true (.tuple #[])) w fun t2 w =>
  wpB (pureRun Try.prog (Instr.fieldAt 27 t1 0)) fun t3 =>
  wpB (ldv Try.prog 3 t3 w) fun t4 =>
  wpB (pureRun Try.prog (Instr.fieldAt 27 t1 1)) fun t5 =>
  wpB (ldv Try.prog 3 t5 w) fun t6 =>
  wpB (pureRun Try.prog (Instr.build 95 #[(0, t4), (1, t6)])) fun t7 =>
  effu Try.prog (Instr.storeAt 95 t2 t7) w fun w =>
  wpB (ldv Try.prog 95 t2 w) fun r2 => Q r2 w
theorem F59_ok {a0 : Value} {w : World} {Q : Value → World → Prop} (h : F59 a0 w Q) : CallR Try.prog 59 [a0] w Q :=
  call_ofE mixed entOk Try.func59 (c := C59) rfl H59 (Nat.le_of_ble_eq_true rfl) (by kernel_rfl) h

noncomputable def C68 : Code := (Try.f68.body).getD .skip
noncomputable def H68 : Hints := ⟨[(2, [0, 1, 2, 6, 7, 8]), (7, [0, 1, 2, 6]), (9, [0, 1, 2, 6, 7, 8])], [(16, [0, 1, 2, 6])], []⟩
noncomputable def T68_0 : List It := [.lp (nav [1, 1, 0, 4, 5] C68), .blk 0, .jn (nav [1, 1, 1] C68)]
noncomputable def T68_1 : List It := [.lp (nav [1, 1, 1, 1, 4, 5] C68), .blk 2]
noncomputable def T68_2 : List It := [.lp (nav [1, 1, 1, 1, 4, 5, 1, 4, 1, 0, 4, 5] C68), .blk 4, .jn (nav [1, 1, 1, 1, 4, 5, 1, 4, 1, 1] C68), .blk 3, .lp (nav [1, 1, 1, 1, 4, 5] C68), .blk 2]
/-- slices.stableCmpFunc[rundale/order.Event], from a loop's head on -/
def P68_0 (x0 x1 x2 x6 x7 x8 : Value) (w : World) (Q : Value → World → Prop) : Prop := Part Try.prog 68 T68_0 [0, 1, 2, 6, 7, 8] [x0, x1, x2, x6, x7, x8] w Q
/-- slices.stableCmpFunc[rundale/order.Event], from a loop's head on -/
def P68_1 (x0 x1 x2 x6 : Value) (w : World) (Q : Value → World → Prop) : Prop := Part Try.prog 68 T68_1 [0, 1, 2, 6] [x0, x1, x2, x6] w Q
/-- slices.stableCmpFunc[rundale/order.Event], from a loop's head on -/
def P68_2 (x0 x1 x2 x6 x7 x8 : Value) (w : World) (Q : Value → World → Prop) : Prop := Part Try.prog 68 T68_2 [0, 1, 2, 6, 7, 8] [x0, x1, x2, x6, x7, x8] w Q
def F68 (a0 a1 a2 : Value) (w : World) (Q : Value → World → Prop) : Prop :=
  P68_0 a0 a1 a2 (.int .i64 20) (.int .i64 0) (.int .i64 20) w Q
def L68_0 (x0 x1 x2 x6 x7 x8 : Value) (w : World) (Q : Value → World → Prop) : Prop :=
  wpB (bp Try.prog .leq 3 x8 x1) fun t13 =>
  cnd t13
  (CallR Try.prog 87 [x0, x7, x8, x2] w fun t18 w =>
  wpB (bp Try.prog .add 3 x8 x6) fun t22 =>
  P68_0 x0 x1 x2 x6 x8 t22 w Q)
  (CallR Try.prog 87 [x0, x7, x1, x2] w fun t27 w =>
  P68_1 x0 x1 x2 x6 w Q)
def L68_1 (x0 x1 x2 x6 : Value) (w : World) (Q : Value → World → Prop) : Prop :=
  wpB (bp Try.prog .lss 3 x6 x1) fun t30 =>
  cnd t30
  (wpB (bp Try.prog .mul 3 (.int .i64 2) x6) fun t32 =>
  P68_2 x0 x1 x2 x6 (.int .i64 0) t32 w Q)
  (Q (.tuple #[]) w)
theorem F68_ok {a0 a1 a2 : Value} {w : World} {Q : Value → World → Prop} (h : F68 a0 a1 a2 w Q) : CallR Try.prog 68 [a0, a1, a2] w Q :=
  call_ofE mixed entOk Try.func68 (c := C68) rfl H68 (Nat.le_of_ble_eq_true rfl) (by kernel_rfl) h
theorem L68_0_ok {x0 x1 x2 x6 x7 x8 : Value} {w : World} {Q : Value → World → Prop} (h : L68_0 x0 x1 x2 x6 x7 x8 w Q) : P68_0 x0 x1 x2 x6 x7 x8 w Q :=
  part_lpE mixed entOk Try.func68 H68 (by kernel_rfl) h
theorem L68_1_ok {x0 x1 x2 x6 : Value} {w : World} {Q : Value → World → Prop} (h : L68_1 x0 x1 x2 x6 w Q) : P68_1 x0 x1 x2 x6 w Q :=
  part_lpE mixed entOk Try.func68 H68 (by kernel_rfl) h
noncomputable def C69 : Code := (Try.f69.body).getD .skip
noncomputable def H69 : Hints := ⟨[], [], []⟩
def F69 (a0 : Value) (w : World) (Q : Value → World → Prop) : Prop :=
  wpB (be Try.prog .neq 3 (.tmp 3) (.tmp 4) a0 a0) fun t5 =>
  Q t5 w
theorem F69_ok {a0 : Value} {w : World} {Q : Value → World → Prop} (h : F69 a0 w Q) : CallR Try.prog 69 [a0] w Q :=
  call_ofE mixed entOk Try.func69 (c := C69) rfl H69 (Nat.le_of_ble_eq_true rfl) (by kernel_rfl) h

noncomputable def C70 : Code := (Try.f70.body).getD .skip
noncomputable def H70 : Hints := ⟨[], [], []⟩
def F70 (a0 : Value) (w : World) (Q : Value → World → Prop) : Prop :=
  effv Try.prog (Instr.alloc 116 true (.tuple #[])) w fun t2 w =>
  wpB (pureRun Try.prog (Instr.build 116 #[])) fun t4 =>
  wpB (pureRun Try.prog (Instr.build 116 #[(0, (.string { data := #[99, 114, 101, 97, 116, 101] })), (2, (.bool true))])) fun t5 =>
  wpB (pureRun Try.prog (Instr.build 116 #[(0, (.string { data := #[97, 108, 108, 111, 99] })), (1, (.int .i64 1)), (2, (.bool true))])) fun t6 =>
  wpB (pureRun Try.prog (Instr.build 116 #[(0, (.string { data := #[112, 105, 110] }))])) fun t7 =>
  wpB (pureRun Try.prog (Instr.build 116 #[(0, (.string { data := #[117, 110, 112, 105, 110] }))])) fun t8 =>
  wpB (pureRun Try.prog (Instr.build 116 #[(0, (.string { data := #[104, 111, 108, 100] })), (1, (.int .i64 3))])) fun t9 =>
  wpB (pureRun Try.prog (Instr.build 116 #[(0, (.string { data := #[108, 111, 97, 100] })), (1, (.int .i64 2)), (2, (.bool true))])) fun t10 =>
  wpB (pureRun Try.prog (Instr.build 116 #[(0, (.string { data := #[115, 116, 111, 114, 101] })), (1, (.int .i64 2)), (2, (.bool true)), (3, (.bool true))])) fun t11 =>
  wpB (pureRun Try.prog (Instr.build 116 #[(0, (.string { data := #[97, 100, 100] })), (1, (.int .i64 2)), (2, (.bool true)), (3, (.bool true))])) fun t12 =>
  wpB (pureRun Try.prog (Instr.build 116 #[(0, (.string { data := #[99, 97, 115] })), (1, (.int .i64 2)), (2, (.bool true)), (3, (.bool true)), (4, (.bool true))])) fun t13 =>
  wpB (pureRun Try.prog (Instr.build 116 #[(0, (.string { data := #[102, 114, 101, 101] })), (1, (.int .i64 1))])) fun t14 =>
  wpB (pureRun Try.prog (Instr.build 116 #[(0, (.string { data := #[99, 111, 108, 108, 101, 99, 116] }))])) fun t15 =>
  wpB (pureRun Try.prog (Instr.build 116 #[(0, (.string { data := #[115, 116, 97, 116, 115] })), (1, (.int .i64 1))])) fun t16 =>
  effv Try.prog (Instr.buildSlice 134 13 #[(0, t4), (1, t5), (2, t6), (3, t7), (4, t8), (5, t9), (6, t10), (7, t11), (8, t12), (9, t13), (10, t14), (11, t15), (12, t16)]) w fun t17 w =>
  wpB (bp Try.prog .lss 3 a0 (.int .i64 1)) fun t19 =>
  wpB (gd t19 false (pureRun Try.prog (Builtin.len_ #[134] 3 #[(gv t19 false t17)]))) fun t23 =>
  wpB (gd t19 false (bp Try.prog .geq 3 (gv t19 false a0) t23)) fun t24 =>
  wpB (pickv t19 (some (.bool true)) (some t24)) fun t25 =>
  cnd t25
  (wpB (pureRun Try.prog (Instr.indexAt 134 t17 (.int .i64 0))) fun t27 =>
  wpB (ldv Try.prog 116 t27 w) fun t28 =>
  effu Try.prog (Instr.storeAt 116 t2 t28) w fun w =>
  wpB (ldv Try.prog 116 t2 w) fun r2 => Q r2 w)
  (wpB (pureRun Try.prog (Instr.indexAt 134 t17 a0)) fun t31 =>
  wpB (ldv Try.prog 116 t31 w) fun t32 =>
  effu Try.prog (Instr.storeAt 116 t2 t32) w fun w =>
  wpB (ldv Try.prog 116 t2 w) fun r2_1 => Q r2_1 w)
theorem F70_ok {a0 : Value} {w : World} {Q : Value → World → Prop} (h : F70 a0 w Q) : CallR Try.prog 70 [a0] w Q :=
  call_ofE mixed entOk Try.func70 (c := C70) rfl H70 (Nat.le_of_ble_eq_true rfl) (by kernel_rfl) h

noncomputable def C71 : Code := (Try.f71.body).getD .skip
noncomputable def H71 : Hints := ⟨[], [(5, [1, 3, 4, 5, 6]), (9, [1, 3, 4, 5, 6])], []⟩
noncomputable def T71_0 : List It := [.jn (nav [1, 1, 1, 1] C71)]
noncomputable def T71_1 : List It := [.jn (nav [1, 1, 1, 1, 1] C71)]
/-- rundale/op.May, from a join on -/
def P71_0 (x1 x3 x4 x5 x6 : Value) (w : World) (Q : Value → World → Prop) : Prop := Part Try.prog 71 T71_0 [1, 3, 4, 5, 6] [x1, x3, x4, x5, x6] w Q
/-- rundale/op.May, from a join on -/
def P71_1 (x1 x3 x4 x5 x6 : Value) (w : World) (Q : Value → World → Prop) : Prop := Part Try.prog 71 T71_1 [1, 3, 4, 5, 6] [x1, x3, x4, x5, x6] w Q
def F71 (a0 : Value) (w : World) (Q : Value → World → Prop) : Prop :=
  effv Try.prog (Instr.box 29 a0) w fun t1 w =>
  wpB (pureRun Try.prog (Instr.fieldAt 29 t1 0)) fun t7 =>
  wpB (ldv Try.prog 3 t7 w) fun t8 =>
  CallR Try.prog 70 [t8] w fun t9 w =>
  effv Try.prog (Instr.alloc 116 true (.tuple #[])) w fun t3 w =>
  effu Try.prog (Instr.storeAt 116 t3 t9) w fun w =>
  wpB (pureRun Try.prog (Instr.fieldAt 116 t3 1)) fun t10 =>
  wpB (ldv Try.prog 3 t10 w) fun t11 =>
  wpB (be Try.prog .neq 3 (.tmp 11) (.const (.int .i64 0)) t11 (.int .i64 0)) fun t12 =>
  cnd t12
  (P71_0 t1 t3 (.int .i64 63) (.int .i64 999) (.int .i64 0) w Q)
  (P71_0 t1 t3 (.int .i64 0) (.int .i64 0) (.int .i64 0) w Q)
def L71_0 (x1 x3 x4 x5 x6 : Value) (w : World) (Q : Value → World → Prop) : Prop :=
  wpB (pureRun Try.prog (Instr.fieldAt 29 x1 0)) fun t14 =>
  wpB (ldv Try.prog 3 t14 w) fun t15 =>
  wpB (be Try.prog .eql 3 (.tmp 15) (.const (.int .i64 1)) t15 (.int .i64 1)) fun t16 =>
  cnd t16
  (P71_1 x1 x3 x4 x5 (.int .i64 3) w Q)
  (wpB (pureRun Try.prog (Instr.fieldAt 116 x3 2)) fun t18 =>
  wpB (ldv Try.prog 4 t18 w) fun t19 =>
  cnd t19
  (P71_1 x1 x3 x4 x5 (.int .i64 65535) w Q)
  (P71_1 x1 x3 x4 x5 x6 w Q))
def L71_1 (x1 x3 x4 x5 x6 : Value) (w : World) (Q : Value → World → Prop) : Prop :=
  wpB (pureRun Try.prog (Instr.fieldAt 116 x3 0)) fun t20 =>
  wpB (ldv Try.prog 9 t20 w) fun t21 =>
  wpB (be Try.prog .neq 9 (.tmp 21) (.const (.string { data := #[] })) t21 (.string { data := #[] })) fun t22 =>
  wpB (gd t22 true (pureRun Try.prog (Instr.fieldAt 29 x1 1))) fun t24 =>
  wpB (gd t22 true (ldv Try.prog 3 t24 w)) fun t25 =>
  gE t22 true (CallR Try.prog 89 [t25, (gv t22 true x4)] w) (fun t27 w =>
  wpB (pickv t22 (some t27) (some (.bool false))) fun t28 =>
  wpB (gd t28 true (pureRun Try.prog (Instr.fieldAt 29 x1 2))) fun t30 =>
  wpB (gd t28 true (ldv Try.prog 3 t30 w)) fun t31 =>
  gE t28 true (CallR Try.prog 89 [t31, (gv t28 true x5)] w) (fun t33 w =>
  wpB (pickv t28 (some t33) (some (.bool false))) fun t34 =>
  wpB (gd t34 true (pureRun Try.prog (Instr.fieldAt 29 x1 3))) fun t36 =>
  wpB (gd t34 true (ldv Try.prog 3 t36 w)) fun t37 =>
  gE t34 true (CallR Try.prog 89 [t37, (gv t34 true x6)] w) (fun t39 w =>
  wpB (pickv t34 (some t39) (some (.bool false))) fun t40 =>
  wpB (gd t40 true (pureRun Try.prog (Instr.fieldAt 116 x3 3))) fun t42 =>
  wpB (gd t40 true (ldv Try.prog 4 t42 w)) fun t43 =>
  wpB (gd (gv t40 true t43) false (pureRun Try.prog (Instr.fieldAt 29 x1 4))) fun t45 =>
  wpB (gd (gv t40 true t43) false (ldv Try.prog 22 t45 w)) fun t46 =>
  wpB (gd (gv t40 true t43) false (be Try.prog .eql 22 (.tmp 46) (.const (.int .u64 0)) t46 (.int .u64 0))) fun t47 =>
  wpB (gd t40 true (pickv (gv t40 true t43) (some (.bool true)) (some t47))) fun t48 =>
  wpB (pickv t40 (some t48) (some (.bool false))) fun t49 =>
  wpB (gd t49 true (pureRun Try.prog (Instr.fieldAt 116 x3 4))) fun t51 =>
  wpB (gd t49 true (ldv Try.prog 4 t51 w)) fun t52 =>
  wpB (gd (gv t49 true t52) false (pureRun Try.prog (Instr.fieldAt 29 x1 5))) fun t54 =>
  wpB (gd (gv t49 true t52) false (ldv Try.prog 22 t54 w)) fun t55 =>
  wpB (gd (gv t49 true t52) false (be Try.prog .eql 22 (.tmp 55) (.const (.int .u64 0)) t55 (.int .u64 0))) fun t56 =>
  wpB (gd t49 true (pickv (gv t49 true t52) (some (.bool true)) (some t56))) fun t57 =>
  wpB (pickv t49 (some t57) (some (.bool false))) fun t58 =>
  Q t58 w) w) w) w
theorem F71_ok {a0 : Value} {w : World} {Q : Value → World → Prop} (h : F71 a0 w Q) : CallR Try.prog 71 [a0] w Q :=
  call_ofE mixed entOk Try.func71 (c := C71) rfl H71 (Nat.le_of_ble_eq_true rfl) (by kernel_rfl) h
theorem L71_0_ok {x1 x3 x4 x5 x6 : Value} {w : World} {Q : Value → World → Prop} (h : L71_0 x1 x3 x4 x5 x6 w Q) : P71_0 x1 x3 x4 x5 x6 w Q :=
  part_jnE mixed entOk Try.func71 H71 (by kernel_rfl) h
theorem L71_1_ok {x1 x3 x4 x5 x6 : Value} {w : World} {Q : Value → World → Prop} (h : L71_1 x1 x3 x4 x5 x6 w Q) : P71_1 x1 x3 x4 x5 x6 w Q :=
  part_jnE mixed entOk Try.func71 H71 (by kernel_rfl) h

noncomputable def C72 : Code := (Try.f72.body).getD .skip
noncomputable def H72 : Hints := ⟨[], [], []⟩
def F72 (a0 a1 : Value) (w : World) (Q : Value → World → Prop) : Prop :=
  effv Try.prog (Instr.box 95 a1) w fun t3 w =>
  wpB (ldv Try.prog 95 t3 w) fun t6 =>
  CallR Try.prog 90 [a0, t6] w fun t7 w =>
  wpB (bp Try.prog .geq 3 t7 (.int .i64 0)) fun t8 =>
  Q t8 w
theorem F72_ok {a0 a1 : Value} {w : World} {Q : Value → World → Prop} (h : F72 a0 a1 w Q) : CallR Try.prog 72 [a0, a1] w Q :=
  call_ofE mixed entOk Try.func72 (c := C72) rfl H72 (Nat.le_of_ble_eq_true rfl) (by kernel_rfl) h

noncomputable def C73 : Code := (Try.f73.body).getD .skip
noncomputable def H73 : Hints := ⟨[(3, [3, 9, 10, 11])], [(7, [3, 9, 10, 11])], []⟩
noncomputable def T73_0 : List It := [.lp (nav [1, 1, 0, 1, 4, 5] C73), .blk 0, .jn (nav [1, 1, 1] C73)]
noncomputable def T73_1 : List It := [.jn (nav [1, 1, 0, 1, 4, 5, 1, 1, 1] C73), .lp (nav [1, 1, 0, 1, 4, 5] C73), .blk 0, .jn (nav [1, 1, 1] C73)]
/-- (*rundale/model.Model).Spare, from a loop's head on -/
def P73_0 (x3 x9 x10 x11 : Value) (w : World) (Q : Value → World → Prop) : Prop := Part Try.prog 73 T73_0 [3, 9, 10, 11] [x3, x9, x10, x11] w Q
/-- (*rundale/model.Model).Spare, from a join on -/
def P73_1 (x3 x9 x10 x11 : Value) (w : World) (Q : Value → World → Prop) : Prop := Part Try.prog 73 T73_1 [3, 9, 10, 11] [x3, x9, x10, x11] w Q
def F73 (a0 : Value) (w : World) (Q : Value → World → Prop) : Prop :=
  wpB (nilv a0) fun t7 =>
  wpB (pureRun Try.prog (Instr.fieldAt 72 t7 2)) fun t8 =>
  wpB (ldv Try.prog 68 t8 w) fun t9 =>
  wpB (pureRun Try.prog (Builtin.len_ #[68] 3 #[t9])) fun t10 =>
  P73_0 (.int .i64 0) t9 t10 (.int .i64 0) w Q
def L73_0 (x3 x9 x10 x11 : Value) (w : World) (Q : Value → World → Prop) : Prop :=
  wpB (bp Try.prog .lss 3 x11 x10) fun t12 =>
  cnd t12
  (wpB (pureRun Try.prog (Instr.indexAt 68 x9 x11)) fun t13 =>
  wpB (ldv Try.prog 80 t13 w) fun t14 =>
  effv Try.prog (Instr.alloc 80 true (.tuple #[])) w fun t5 w =>
  effu Try.prog (Instr.storeAt 80 t5 t14) w fun w =>
  wpB (pureRun Try.prog (Instr.fieldAt 80 t5 0)) fun t15 =>
  wpB (ldv Try.prog 3 t15 w) fun t16 =>
  wpB (be Try.prog .eql 3 (.tmp 16) (.const (.int .i64 0)) t16 (.int .i64 0)) fun t17 =>
  cnd t17
  (wpB (bp Try.prog .add 3 x3 (.int .i64 1)) fun t19 =>
  P73_1 t19 x9 x10 x11 w Q)
  (P73_1 x3 x9 x10 x11 w Q))
  (Q x3 w)
def L73_1 (x3 x9 x10 x11 : Value) (w : World) (Q : Value → World → Prop) : Prop :=
  wpB (bp Try.prog .add 3 x11 (.int .i64 1)) fun t20 =>
  P73_0 x3 x9 x10 t20 w Q
theorem F73_ok {a0 : Value} {w : World} {Q : Value → World → Prop} (h : F73 a0 w Q) : CallR Try.prog 73 [a0] w Q :=
  call_ofE mixed entOk Try.func73 (c := C73) rfl H73 (Nat.le_of_ble_eq_true rfl) (by kernel_rfl) h
theorem L73_0_ok {x3 x9 x10 x11 : Value} {w : World} {Q : Value → World → Prop} (h : L73_0 x3 x9 x10 x11 w Q) : P73_0 x3 x9 x10 x11 w Q :=
  part_lpE mixed entOk Try.func73 H73 (by kernel_rfl) h
theorem L73_1_ok {x3 x9 x10 x11 : Value} {w : World} {Q : Value → World → Prop} (h : L73_1 x3 x9 x10 x11 w Q) : P73_1 x3 x9 x10 x11 w Q :=
  part_jnE mixed entOk Try.func73 H73 (by kernel_rfl) h

noncomputable def C74 : Code := (Try.f74.body).getD .skip
noncomputable def H74 : Hints := ⟨[], [], []⟩
def F74 (a0 a1 : Value) (w : World) (Q : Value → World → Prop) : Prop :=
  wpB (bp Try.prog .lss 3 a1 (.int .i64 1)) fun t7 =>
  wpB (gd t7 false (bp Try.prog .gtr 3 (gv t7 false a1) (.int .i64 1024))) fun t10 =>
  wpB (pickv t7 (some (.bool true)) (some t10)) fun t11 =>
  cnd t11
  (Q (.int .i64 0) w)
  (wpB (pureRun Try.prog (Builtin.max_ #[3, 3] 3 #[a0, (.int .i64 0)])) fun t13 =>
  wpB (pureRun Try.prog (Builtin.min_ #[3, 3] 3 #[t13, (.int .i64 3)])) fun t14 =>
  wpB (bp Try.prog .shl 3 (.int .i64 1) t14) fun t15 =>
  wpB (bp Try.prog .add 3 a1 t15) fun t18 =>
  wpB (bp Try.prog .sub 3 t18 (.int .i64 1)) fun t19 =>
  wpB (bp Try.prog .quo 3 t19 t15) fun t21 =>
  wpB (bp Try.prog .mul 3 t21 t15) fun t23 =>
  Q t23 w)
theorem F74_ok {a0 a1 : Value} {w : World} {Q : Value → World → Prop} (h : F74 a0 a1 w Q) : CallR Try.prog 74 [a0, a1] w Q :=
  call_ofE mixed entOk Try.func74 (c := C74) rfl H74 (Nat.le_of_ble_eq_true rfl) (by kernel_rfl) h

noncomputable def C75 : Code := (Try.f75.body).getD .skip
noncomputable def H75 : Hints := ⟨[], [], []⟩
def F75 (a0 a1 a2 : Value) (w : World) (Q : Value → World → Prop) : Prop :=
  wpB (nilv a0) fun t8 =>
  wpB (pureRun Try.prog (Instr.fieldAt 98 t8 3)) fun t9 =>
  wpB (ldv Try.prog 36 t9 w) fun t10 =>
  wpB (pureRun Try.prog (Builtin.len_ #[36] 3 #[t10])) fun t11 =>
  wpB (bp Try.prog .gtr 3 t11 (.int .i64 0)) fun t12 =>
  wpB (gd t12 true (nilv (gv t12 true a0))) fun t16 =>
  wpB (gd t12 true (pureRun Try.prog (Instr.fieldAt 98 t16 2))) fun t17 =>
  wpB (gd t12 true (ldv Try.prog 3 t17 w)) fun t18 =>
  gE t12 true (CallR Try.prog 91 [(gv t12 true a1), t18, (gv t12 true a2)] w) (fun t20 w =>
  wpB (pickv t12 (some t20) (some (.bool false))) fun t21 =>
  Q t21 w) w
theorem F75_ok {a0 a1 a2 : Value} {w : World} {Q : Value → World → Prop} (h : F75 a0 a1 a2 w Q) : CallR Try.prog 75 [a0, a1, a2] w Q :=
  call_ofE mixed entOk Try.func75 (c := C75) rfl H75 (Nat.le_of_ble_eq_true rfl) (by kernel_rfl) h

noncomputable def C76 : Code := (Try.f76.body).getD .skip
noncomputable def H76 : Hints := ⟨[], [], [(3, (.leaf [0, 1, 2, 3, 4, 5, 6, 7, 8, 9, 10, 11, 12]))]⟩
def F76 (a0 : Value) (w : World) (Q : Value → World → Prop) : Prop :=
  wpB (nilv a0) fun t4 =>
  wpB (pureRun Try.prog (Instr.fieldAt 98 t4 3)) fun t5 =>
  wpB (ldv Try.prog 36 t5 w) fun t6 =>
  wpB (pureRun Try.prog (Builtin.len_ #[36] 3 #[t6])) fun t7 =>
  wpB (be Try.prog .eql 3 (.tmp 7) (.const (.int .i64 0)) t7 (.int .i64 0)) fun t8 =>
  cnd t8
  (Q (.int .i64 (-1)) w)
  (wpB (nilv a0) fun t10 =>
  wpB (pureRun Try.prog (Instr.fieldAt 98 t10 3)) fun t11 =>
  wpB (ldv Try.prog 36 t11 w.drew) fun t12 =>
  wpB (nilv a0) fun t14 =>
  wpB (pureRun Try.prog (Instr.fieldAt 98 t14 3)) fun t15 =>
  wpB (ldv Try.prog 36 t15 w.drew) fun t16 =>
  wpB (pureRun Try.prog (Builtin.len_ #[36] 3 #[t16])) fun t17 =>
  wpB (bp Try.prog .sub 3 t17 (.int .i64 1)) fun t18 =>
  wpB (pureRun Try.prog (Instr.indexAt 36 t12 t18)) fun t19 =>
  wpB (ldv Try.prog 3 t19 w.drew) fun t20 =>
  Q t20 w.drew)
theorem F76_ok {a0 : Value} {w : World} {Q : Value → World → Prop} (h : F76 a0 w Q) : CallR Try.prog 76 [a0] w Q :=
  call_ofE mixed entOk Try.func76 (c := C76) rfl H76 (Nat.le_of_ble_eq_true rfl) (by kernel_rfl) h

noncomputable def C77 : Code := (Try.f77.body).getD .skip
noncomputable def H77 : Hints := ⟨[(2, [0, 1, 10, 11, 12])], [], []⟩
noncomputable def T77_0 : List It := [.lp (nav [1, 0, 1, 4, 5] C77), .blk 0, .jn (nav [1, 1] C77)]
/-- (*rundale/model.Model).taken, from a loop's head on -/
def P77_0 (x0 x1 x10 x11 x12 : Value) (w : World) (Q : Value → World → Prop) : Prop := Part Try.prog 77 T77_0 [0, 1, 10, 11, 12] [x0, x1, x10, x11, x12] w Q
def F77 (a0 a1 : Value) (w : World) (Q : Value → World → Prop) : Prop :=
  wpB (nilv a0) fun t8 =>
  wpB (pureRun Try.prog (Instr.fieldAt 72 t8 3)) fun t9 =>
  wpB (ldv Try.prog 69 t9 w) fun t10 =>
  wpB (pureRun Try.prog (Builtin.len_ #[69] 3 #[t10])) fun t11 =>
  P77_0 a0 a1 t10 t11 (.int .i64 0) w Q
def L77_0 (x0 x1 x10 x11 x12 : Value) (w : World) (Q : Value → World → Prop) : Prop :=
  wpB (bp Try.prog .lss 3 x12 x11) fun t13 =>
  cnd t13
  (wpB (pureRun Try.prog (Instr.indexAt 69 x10 x12)) fun t14 =>
  wpB (ldv Try.prog 98 t14 w) fun t15 =>
  effv Try.prog (Instr.alloc 98 true (.tuple #[])) w fun t6 w =>
  effu Try.prog (Instr.storeAt 98 t6 t15) w fun w =>
  wpB (pureRun Try.prog (Instr.fieldAt 98 t6 0)) fun t17 =>
  wpB (ldv Try.prog 95 t17 w) fun t18 =>
  CallR Try.prog 86 [x0, t18] w fun t19 w =>
  wpB (gd t19 true (pureRun Try.prog (Instr.fieldAt 98 t6 3))) fun t21 =>
  wpB (gd t19 true (ldv Try.prog 36 t21 w)) fun t22 =>
  gE t19 true (CallR Try.prog 54 [t22, (gv t19 true x1)] w) (fun t24 w =>
  wpB (pickv t19 (some t24) (some (.bool false))) fun t25 =>
  cnd t25
  (Q (.bool true) w)
  (wpB (bp Try.prog .add 3 x12 (.int .i64 1)) fun t26 =>
  P77_0 x0 x1 x10 x11 t26 w Q)) w)
  (Q (.bool false) w)
theorem F77_ok {a0 a1 : Value} {w : World} {Q : Value → World → Prop} (h : F77 a0 a1 w Q) : CallR Try.prog 77 [a0, a1] w Q :=
  call_ofE mixed entOk Try.func77 (c := C77) rfl H77 (Nat.le_of_ble_eq_true rfl) (by kernel_rfl) h
theorem L77_0_ok {x0 x1 x10 x11 x12 : Value} {w : World} {Q : Value → World → Prop} (h : L77_0 x0 x1 x10 x11 x12 w Q) : P77_0 x0 x1 x10 x11 x12 w Q :=
  part_lpE mixed entOk Try.func77 H77 (by kernel_rfl) h

noncomputable def C78 : Code := (Try.f78.body).getD .skip
noncomputable def H78 : Hints := ⟨[], [], []⟩
def F78 (a0 a1 : Value) (w : World) (Q : Value → World → Prop) : Prop :=
  CallR Try.prog 92 [a0, a1] w fun t8 w =>
  wpB (pureRun Try.prog (Op.unary .not t8)) fun t9 =>
  cnd t9
  (Q (.int .i64 0) w)
  (CallR Try.prog 93 [a0, a1] w fun t13 w =>
  cnd t13
  (Q a0 w)
  (Q a1 w))
theorem F78_ok {a0 a1 : Value} {w : World} {Q : Value → World → Prop} (h : F78 a0 a1 w Q) : CallR Try.prog 78 [a0, a1] w Q :=
  call_ofE mixed entOk Try.func78 (c := C78) rfl H78 (Nat.le_of_ble_eq_true rfl) (by kernel_rfl) h

noncomputable def C79 : Code := (Try.f79.body).getD .skip
noncomputable def H79 : Hints := ⟨[], [(6, [1, 3])], []⟩
noncomputable def T79_0 : List It := [.jn (nav [1, 1, 1] C79)]
/-- rundale/rundaleref18.May, from a join on -/
def P79_0 (x1 x3 : Value) (w : World) (Q : Value → World → Prop) : Prop := Part Try.prog 79 T79_0 [1, 3] [x1, x3] w Q
def F79 (a0 : Value) (w : World) (Q : Value → World → Prop) : Prop :=
  effv Try.prog (Instr.box 29 a0) w fun t1 w =>
  wpB (pureRun Try.prog (Instr.fieldAt 29 t1 0)) fun t5 =>
  wpB (ldv Try.prog 3 t5 w) fun t6 =>
  wpB (be Try.prog .eql 3 (.tmp 6) (.const (.int .i64 1)) t6 (.int .i64 1)) fun t7 =>
  cnd t7
  (P79_0 t1 (.int .i64 3) w Q)
  (wpB (pureRun Try.prog (Instr.fieldAt 29 t1 0)) fun t9 =>
  wpB (ldv Try.prog 3 t9 w) fun t10 =>
  CallR Try.prog 94 [t10] w fun t11 w =>
  cnd t11
  (P79_0 t1 (.int .i64 65535) w Q)
  (P79_0 t1 (.int .i64 0) w Q))
def L79_0 (x1 x3 : Value) (w : World) (Q : Value → World → Prop) : Prop :=
  wpB (pureRun Try.prog (Instr.fieldAt 29 x1 0)) fun t12 =>
  wpB (ldv Try.prog 3 t12 w) fun t13 =>
  CallR Try.prog 95 [t13, (.int .i64 1), (.int .i64 12)] w fun t14 w =>
  wpB (pureRun Try.prog (Op.unary .not t14)) fun t15 =>
  wpB (gd t15 false (pureRun Try.prog (Instr.fieldAt 29 x1 3))) fun t17 =>
  wpB (gd t15 false (ldv Try.prog 3 t17 w)) fun t18 =>
  gE t15 false (CallR Try.prog 95 [t18, (.int .i64 0), (gv t15 false x3)] w) (fun t20 w =>
  wpB (gd t15 false (pureRun Try.prog (Op.unary .not t20))) fun t21 =>
  wpB (pickv t15 (some (.bool true)) (some t21)) fun t22 =>
  wpB (gd t22 false (pureRun Try.prog (Instr.fieldAt 29 x1 0))) fun t24 =>
  wpB (gd t22 false (ldv Try.prog 3 t24 w)) fun t25 =>
  gE t22 false (CallR Try.prog 96 [t25] w) (fun t26 w =>
  wpB (gd t22 false (pureRun Try.prog (Op.unary .not t26))) fun t27 =>
  wpB (gd (gv t22 false t27) true (pureRun Try.prog (Instr.fieldAt 29 x1 4))) fun t29 =>
  wpB (gd (gv t22 false t27) true (ldv Try.prog 22 t29 w)) fun t30 =>
  wpB (gd (gv t22 false t27) true (be Try.prog .neq 22 (.tmp 30) (.const (.int .u64 0)) t30 (.int .u64 0))) fun t31 =>
  wpB (gd t22 false (pickv (gv t22 false t27) (some t31) (some (.bool false)))) fun t32 =>
  wpB (pickv t22 (some (.bool true)) (some t32)) fun t33 =>
  wpB (gd t33 false (pureRun Try.prog (Instr.fieldAt 29 x1 0))) fun t35 =>
  wpB (gd t33 false (ldv Try.prog 3 t35 w)) fun t36 =>
  wpB (gd t33 false (be Try.prog .neq 3 (.tmp 36) (.const (.int .i64 9)) t36 (.int .i64 9))) fun t37 =>
  wpB (gd (gv t33 false t37) true (pureRun Try.prog (Instr.fieldAt 29 x1 5))) fun t39 =>
  wpB (gd (gv t33 false t37) true (ldv Try.prog 22 t39 w)) fun t40 =>
  wpB (gd (gv t33 false t37) true (be Try.prog .neq 22 (.tmp 40) (.const (.int .u64 0)) t40 (.int .u64 0))) fun t41 =>
  wpB (gd t33 false (pickv (gv t33 false t37) (some t41) (some (.bool false)))) fun t42 =>
  wpB (pickv t33 (some (.bool true)) (some t42)) fun t43 =>
  cnd t43
  (Q (.bool false) w)
  (wpB (pureRun Try.prog (Instr.fieldAt 29 x1 0)) fun t44 =>
  wpB (ldv Try.prog 3 t44 w) fun t45 =>
  CallR Try.prog 53 [t45] w fun t46 w =>
  wpB (be Try.prog .eql 3 (.tmp 46) (.const (.int .i64 0)) t46 (.int .i64 0)) fun t47 =>
  cnd t47
  (wpB (pureRun Try.prog (Instr.fieldAt 29 x1 1)) fun t48 =>
  wpB (ldv Try.prog 3 t48 w) fun t49 =>
  wpB (be Try.prog .eql 3 (.tmp 49) (.const (.int .i64 0)) t49 (.int .i64 0)) fun t50 =>
  wpB (gd t50 true (pureRun Try.prog (Instr.fieldAt 29 x1 2))) fun t52 =>
  wpB (gd t50 true (ldv Try.prog 3 t52 w)) fun t53 =>
  wpB (gd t50 true (be Try.prog .eql 3 (.tmp 53) (.const (.int .i64 0)) t53 (.int .i64 0))) fun t54 =>
  wpB (pickv t50 (some t54) (some (.bool false))) fun t55 =>
  Q t55 w)
  (wpB (pureRun Try.prog (Instr.fieldAt 29 x1 1)) fun t56 =>
  wpB (ldv Try.prog 3 t56 w) fun t57 =>
  CallR Try.prog 95 [t57, (.int .i64 0), (.int .i64 63)] w fun t58 w =>
  wpB (gd t58 true (pureRun Try.prog (Instr.fieldAt 29 x1 2))) fun t60 =>
  wpB (gd t58 true (ldv Try.prog 3 t60 w)) fun t61 =>
  gE t58 true (CallR Try.prog 95 [t61, (.int .i64 0), (.int .i64 999)] w) (fun t62 w =>
  wpB (pickv t58 (some t62) (some (.bool false))) fun t63 =>
  Q t63 w) w))) w) w
theorem F79_ok {a0 : Value} {w : World} {Q : Value → World → Prop} (h : F79 a0 w Q) : CallR Try.prog 79 [a0] w Q :=
  call_ofE mixed entOk Try.func79 (c := C79) rfl H79 (Nat.le_of_ble_eq_true rfl) (by kernel_rfl) h
theorem L79_0_ok {x1 x3 : Value} {w : World} {Q : Value → World → Prop} (h : L79_0 x1 x3 w Q) : P79_0 x1 x3 w Q :=
  part_jnE mixed entOk Try.func79 H79 (by kernel_rfl) h

noncomputable def C80 : Code := (Try.f80.body).getD .skip
noncomputable def H80 : Hints := ⟨[], [(6, [0, 1, 6, 7, 8, 10]), (41, [8, 11])], [(12, (.leaf [0, 1, 2, 3, 4, 5, 6, 7, 8, 9, 10, 11, 12, 13]))]⟩
noncomputable def T80_0 : List It := [.jn (nav [1, 1, 1, 1] C80)]
noncomputable def T80_1 : List It := [.jn (nav [1, 1, 1, 1, 1, 1] C80)]
/-- (*rundale/rundaleref24.Model).Must, from a join on -/
def P80_0 (x0 x1 x6 x7 x8 x10 : Value) (w : World) (Q : Value → World → Prop) : Prop := Part Try.prog 80 T80_0 [0, 1, 6, 7, 8, 10] [x0, x1, x6, x7, x8, x10] w Q
/-- (*rundale/rundaleref24.Model).Must, from a join on -/
def P80_1 (x8 x11 : Value) (w : World) (Q : Value → World → Prop) : Prop := Part Try.prog 80 T80_1 [8, 11] [x8, x11] w Q
def F80 (a0 a1 a2 a3 : Value) (w : World) (Q : Value → World → Prop) : Prop :=
  effv Try.prog (Instr.box 29 a2) w fun t6 w =>
  effv Try.prog (Instr.box 27 a3) w fun t7 w =>
  effv Try.prog (Instr.alloc 32 true (.tuple #[])) w fun t8 w =>
  wpB (ldv Try.prog 29 t6 w) fun t13 =>
  wpB (ldv Try.prog 27 t7 w) fun t14 =>
  CallR Try.prog 97 [a0, t13, t14] w fun t15 w =>
  wpB (pureRun Try.prog (Op.unary .not t15)) fun t16 =>
  cnd t16
  (wpB (pureRun Try.prog (Instr.build 32 #[(0, (.int .i64 2))])) fun t17 =>
  effu Try.prog (Instr.storeAt 32 t8 t17) w fun w =>
  wpB (ldv Try.prog 32 t8 w) fun r8 => Q (.tuple #[r8, (.bool true)]) w)
  (wpB (pureRun Try.prog (Instr.fieldAt 29 t6 0)) fun t18 =>
  wpB (ldv Try.prog 3 t18 w) fun t19 =>
  CallR Try.prog 53 [t19] w fun t20 w =>
  wpB (be Try.prog .neq 3 (.tmp 20) (.const (.int .i64 0)) t20 (.int .i64 0)) fun t21 =>
  cnd t21
  (wpB (pureRun Try.prog (Instr.fieldAt 27 t7 0)) fun t23 =>
  wpB (ldv Try.prog 3 t23 w) fun t24 =>
  wpB (pureRun Try.prog (Instr.fieldAt 27 t7 1)) fun t25 =>
  wpB (ldv Try.prog 3 t25 w) fun t26 =>
  CallR Try.prog 98 [a0, t24, t26] w fun t27 w =>
  P80_0 a0 a1 t6 t7 t8 t27 w Q)
  (P80_0 a0 a1 t6 t7 t8 (.int .i64 (-1)) w Q))
def L80_0 (x0 x1 x6 x7 x8 x10 : Value) (w : World) (Q : Value → World → Prop) : Prop :=
  wpB (pureRun Try.prog (Instr.fieldAt 29 x6 0)) fun t28 =>
  wpB (ldv Try.prog 3 t28 w) fun t29 =>
  wpB (be Try.prog .eql 3 (.tmp 29) (.const (.int .i64 1)) t29 (.int .i64 1)) fun t37 =>
  cnd t37
  (wpB (pureRun Try.prog (Instr.build 32 #[])) fun t38 =>
  effu Try.prog (Instr.storeAt 32 x8 t38) w fun w =>
  wpB (ldv Try.prog 32 x8 w) fun r8 => Q (.tuple #[r8, (.bool false)]) w)
  (wpB (be Try.prog .eql 3 (.tmp 29) (.const (.int .i64 2)) t29 (.int .i64 2)) fun t40 =>
  cnd t40
  (wpB (pureRun Try.prog (Instr.fieldAt 29 x6 3)) fun t42 =>
  wpB (ldv Try.prog 3 t42 w.drew) fun t43 =>
  wpB (bp Try.prog .lss 3 t43 (.int .i64 1)) fun t44 =>
  wpB (gd t44 false (pureRun Try.prog (Instr.fieldAt 29 x6 3))) fun t46 =>
  wpB (gd t44 false (ldv Try.prog 3 t46 w.drew)) fun t47 =>
  wpB (gd t44 false (nilv (gv t44 false x0))) fun t49 =>
  wpB (gd t44 false (pureRun Try.prog (Instr.fieldAt 126 t49 0))) fun t50 =>
  wpB (gd t44 false (pureRun Try.prog (Instr.fieldAt 25 t50 2))) fun t51 =>
  wpB (gd t44 false (ldv Try.prog 3 t51 w.drew)) fun t52 =>
  wpB (gd t44 false (bp Try.prog .gtr 3 t47 t52)) fun t53 =>
  wpB (pickv t44 (some (.bool true)) (some t53)) fun t54 =>
  cnd t54
  (wpB (pureRun Try.prog (Instr.build 32 #[(0, (.int .i64 5))])) fun t55 =>
  effu Try.prog (Instr.storeAt 32 x8 t55) w.drew fun w =>
  wpB (ldv Try.prog 32 x8 w) fun r8_1 => Q (.tuple #[r8_1, (.bool true)]) w)
  (wpB (nilv x0) fun t58 =>
  wpB (pureRun Try.prog (Instr.fieldAt 126 t58 4)) fun t59 =>
  wpB (ldv Try.prog 124 t59 w.drew) fun t60 =>
  wpB (pureRun Try.prog (Instr.indexAt 124 t60 x10)) fun t62 =>
  wpB (pureRun Try.prog (Instr.fieldAt 138 t62 4)) fun t63 =>
  wpB (ldv Try.prog 4 t63 w.drew) fun t64 =>
  wpB (pureRun Try.prog (Op.unary .not t64)) fun t65 =>
  cnd t65
  (wpB (pureRun Try.prog (Instr.build 32 #[(0, (.int .i64 3))])) fun t66 =>
  effu Try.prog (Instr.storeAt 32 x8 t66) w.drew fun w =>
  wpB (ldv Try.prog 32 x8 w) fun r8_2 => Q (.tuple #[r8_2, (.bool true)]) w)
  (wpB (pureRun Try.prog (Instr.build 32 #[])) fun t67 =>
  effu Try.prog (Instr.storeAt 32 x8 t67) w.drew fun w =>
  wpB (ldv Try.prog 32 x8 w) fun r8_3 => Q (.tuple #[r8_3, (.bool false)]) w)))
  (wpB (be Try.prog .eql 3 (.tmp 29) (.const (.int .i64 3)) t29 (.int .i64 3)) fun t69 =>
  cnd t69
  (wpB (nilv x0) fun t71 =>
  wpB (pureRun Try.prog (Instr.fieldAt 126 t71 5)) fun t72 =>
  wpB (ldv Try.prog 36 t72 w) fun t73 =>
  wpB (pureRun Try.prog (Instr.indexAt 36 t73 x1)) fun t75 =>
  wpB (ldv Try.prog 3 t75 w) fun t76 =>
  wpB (be Try.prog .eql 3 (.tmp 76) (.const (.int .i64 15)) t76 (.int .i64 15)) fun t77 =>
  cnd t77
  (P80_1 x8 (.int .i64 8) w Q)
  (P80_1 x8 (.int .i64 0) w Q))
  (wpB (be Try.prog .eql 3 (.tmp 29) (.const (.int .i64 4)) t29 (.int .i64 4)) fun t79 =>
  cnd t79
  (wpB (nilv x0) fun t81 =>
  wpB (pureRun Try.prog (Instr.fieldAt 126 t81 5)) fun t82 =>
  wpB (ldv Try.prog 36 t82 w) fun t83 =>
  wpB (pureRun Try.prog (Instr.indexAt 36 t83 x1)) fun t85 =>
  wpB (ldv Try.prog 3 t85 w) fun t86 =>
  wpB (be Try.prog .eql 3 (.tmp 86) (.const (.int .i64 0)) t86 (.int .i64 0)) fun t87 =>
  cnd t87
  (P80_1 x8 (.int .i64 4) w Q)
  (P80_1 x8 (.int .i64 0) w Q))
  (wpB (be Try.prog .eql 3 (.tmp 29) (.const (.int .i64 5)) t29 (.int .i64 5)) fun t89 =>
  cnd t89
  (wpB (nilv x0) fun t92 =>
  wpB (pureRun Try.prog (Instr.fieldAt 126 t92 5)) fun t93 =>
  wpB (ldv Try.prog 36 t93 w) fun t94 =>
  wpB (pureRun Try.prog (Instr.indexAt 36 t94 x1)) fun t96 =>
  wpB (ldv Try.prog 3 t96 w) fun t97 =>
  wpB (be Try.prog .eql 3 (.tmp 97) (.const (.int .i64 0)) t97 (.int .i64 0)) fun t98 =>
  cnd t98
  (P80_1 x8 (.int .i64 4) w Q)
  (wpB (pureRun Try.prog (Instr.fieldAt 27 x7 0)) fun t102 =>
  wpB (ldv Try.prog 3 t102 w) fun t103 =>
  wpB (pureRun Try.prog (Instr.fieldAt 27 x7 1)) fun t104 =>
  wpB (ldv Try.prog 3 t104 w) fun t105 =>
  CallR Try.prog 99 [x0, x1, t103, t105] w fun t106 w =>
  cnd t106
  (P80_1 x8 (.int .i64 0) w Q)
  (wpB (nilv x0) fun t109 =>
  wpB (pureRun Try.prog (Instr.fieldAt 126 t109 6)) fun t110 =>
  wpB (ldv Try.prog 123 t110 w) fun t111 =>
  wpB (pureRun Try.prog (Instr.indexAt 123 t111 x1)) fun t113 =>
  wpB (ldv Try.prog 139 t113 w) fun t114 =>
  wpB (pureRun Try.prog (Builtin.len_ #[139] 3 #[t114])) fun t115 =>
  wpB (be Try.prog .eql 3 (.tmp 115) (.const (.int .i64 8)) t115 (.int .i64 8)) fun t116 =>
  cnd t116
  (P80_1 x8 (.int .i64 8) w Q)
  (wpB (nilv x0) fun t119 =>
  wpB (pureRun Try.prog (Instr.fieldAt 126 t119 4)) fun t120 =>
  wpB (ldv Try.prog 124 t120 w) fun t121 =>
  wpB (pureRun Try.prog (Instr.indexAt 124 t121 x10)) fun t123 =>
  wpB (pureRun Try.prog (Instr.fieldAt 138 t123 4)) fun t124 =>
  wpB (ldv Try.prog 4 t124 w) fun t125 =>
  wpB (pureRun Try.prog (Op.unary .not t125)) fun t126 =>
  cnd t126
  (P80_1 x8 (.int .i64 3) w Q)
  (P80_1 x8 (.int .i64 0) w Q)))))
  (wpB (be Try.prog .eql 3 (.tmp 29) (.const (.int .i64 10)) t29 (.int .i64 10)) fun t128 =>
  cnd t128
  (wpB (nilv x0) fun t130 =>
  wpB (pureRun Try.prog (Instr.fieldAt 126 t130 4)) fun t131 =>
  wpB (ldv Try.prog 124 t131 w) fun t132 =>
  wpB (pureRun Try.prog (Instr.indexAt 124 t132 x10)) fun t134 =>
  wpB (pureRun Try.prog (Instr.fieldAt 138 t134 4)) fun t135 =>
  wpB (ldv Try.prog 4 t135 w) fun t136 =>
  wpB (pureRun Try.prog (Op.unary .not t136)) fun t137 =>
  cnd t137
  (P80_1 x8 (.int .i64 3) w Q)
  (P80_1 x8 (.int .i64 0) w Q))
  (wpB (be Try.prog .eql 3 (.tmp 29) (.const (.int .i64 12)) t29 (.int .i64 12)) fun t139 =>
  cnd t139
  (wpB (nilv x0) fun t141 =>
  wpB (pureRun Try.prog (Instr.fieldAt 126 t141 4)) fun t142 =>
  wpB (ldv Try.prog 124 t142 w) fun t143 =>
  wpB (pureRun Try.prog (Instr.indexAt 124 t143 x10)) fun t145 =>
  wpB (pureRun Try.prog (Instr.fieldAt 138 t145 4)) fun t146 =>
  wpB (ldv Try.prog 4 t146 w) fun t147 =>
  wpB (pureRun Try.prog (Op.unary .not t147)) fun t148 =>
  cnd t148
  (wpB (pureRun Try.prog (Instr.build 32 #[(0, (.int .i64 3))])) fun t149 =>
  effu Try.prog (Instr.storeAt 32 x8 t149) w fun w =>
  wpB (ldv Try.prog 32 x8 w) fun r8_4 => Q (.tuple #[r8_4, (.bool true)]) w)
  (wpB (nilv x0) fun t151 =>
  wpB (pureRun Try.prog (Instr.fieldAt 126 t151 4)) fun t152 =>
  wpB (ldv Try.prog 124 t152 w) fun t153 =>
  wpB (pureRun Try.prog (Instr.indexAt 124 t153 x10)) fun t155 =>
  wpB (pureRun Try.prog (Instr.fieldAt 138 t155 3)) fun t156 =>
  wpB (ldv Try.prog 3 t156 w) fun t157 =>
  wpB (pureRun Try.prog (Instr.build 32 #[(2, t157)])) fun t158 =>
  effu Try.prog (Instr.storeAt 32 x8 t158) w fun w =>
  wpB (ldv Try.prog 32 x8 w) fun r8_5 => Q (.tuple #[r8_5, (.bool true)]) w))
  (wpB (be Try.prog .eql 3 (.tmp 29) (.const (.int .i64 11)) t29 (.int .i64 11)) fun t160 =>
  cnd t160
  (P80_1 x8 (.int .i64 0) w Q)
  (wpB (ldv Try.prog 29 x6 w) fun t33 =>
  wpB (ldv Try.prog 27 x7 w) fun t34 =>
  CallR Try.prog 100 [x0, x1, x10, t33, t34] w fun t35 w =>
  effu Try.prog (Instr.storeAt 32 x8 t35) w fun w =>
  wpB (ldv Try.prog 32 x8 w) fun r8_6 => Q (.tuple #[r8_6, (.bool true)]) w))))))))
def L80_1 (x8 x11 : Value) (w : World) (Q : Value → World → Prop) : Prop :=
  wpB (pureRun Try.prog (Instr.build 32 #[(0, x11)])) fun t162 =>
  effu Try.prog (Instr.storeAt 32 x8 t162) w fun w =>
  wpB (ldv Try.prog 32 x8 w) fun r8 => Q (.tuple #[r8, (.bool true)]) w
theorem F80_ok {a0 a1 a2 a3 : Value} {w : World} {Q : Value → World → Prop} (h : F80 a0 a1 a2 a3 w Q) : CallR Try.prog 80 [a0, a1, a2, a3] w Q :=
  call_ofE mixed entOk Try.func80 (c := C80) rfl H80 (Nat.le_of_ble_eq_true rfl) (by kernel_rfl) h
theorem L80_0_ok {x0 x1 x6 x7 x8 x10 : Value} {w : World} {Q : Value → World → Prop} (h : L80_0 x0 x1 x6 x7 x8 x10 w Q) : P80_0 x0 x1 x6 x7 x8 x10 w Q :=
  part_jnE mixed entOk Try.func80 H80 (by kernel_rfl) h
theorem L80_1_ok {x8 x11 : Value} {w : World} {Q : Value → World → Prop} (h : L80_1 x8 x11 w Q) : P80_1 x8 x11 w Q :=
  part_jnE mixed entOk Try.func80 H80 (by kernel_rfl) h

noncomputable def C81 : Code := (Try.f81.body).getD .skip
noncomputable def H81 : Hints := ⟨[], [(4, [0, 1, 6, 7, 8]), (22, [0, 6, 7, 8, 117]), (23, [0, 6, 8, 9, 10])], [(13, (.ask 3 18 (.leaf [0, 1, 2, 3, 4, 5, 6, 7, 8, 9, 10, 11, 12, 13, 14, 15, 16, 17, 18, 19, 20]) (.leaf [0, 1, 2, 4, 5, 6, 7, 9, 12, 14, 8, 10, 11, 13, 15, 16, 17, 18, 3, 19, 20]))), (16, (.leaf [0, 1, 2, 3, 4, 5, 6, 7])), (18, (.leaf [0, 1, 2, 3, 4, 5, 6, 7])), (22, (.ask 11 9 (.ask 13 9 (.leaf [0, 1, 2, 4, 7, 10, 12, 3, 5, 6, 8, 11, 13, 14, 9, 15, 16]) (.leaf [0, 1, 2, 4, 7, 10, 12, 3, 5, 6, 8, 11, 9, 15, 13, 14, 16])) (.ask 13 9 (.leaf [0, 1, 2, 4, 7, 10, 12, 3, 5, 6, 8, 13, 9, 15, 11, 14, 16]) (.leaf [0, 1, 2, 3, 4, 5, 6, 7, 8, 9, 10, 11, 12, 13, 14, 15, 16])))), (25, (.leaf [0, 1, 2, 3, 4, 5, 6, 7, 8, 9, 10, 11, 12, 13, 14, 15])), (27, (.leaf [0, 1, 2, 3, 4, 5, 6, 7, 8, 9, 10, 11, 12, 13, 14, 15, 16, 17])), (29, (.leaf [0, 1, 2, 3, 4, 5, 6, 7, 8, 9, 10, 11, 12, 13, 14, 15]))]⟩
noncomputable def T81_0 : List It := [.jn (nav [1, 1, 1] C81)]
noncomputable def T81_1 : List It := [.jn (nav [1, 1, 1, 1, 4, 1, 3, 1, 3, 1, 3, 1, 3, 1] C81), .blk 0]
noncomputable def T81_2 : List It := [.jn (nav [1, 1, 1, 1, 4, 1, 3, 1, 3, 1, 3, 1, 3, 1, 2, 1] C81), .blk 0]
/-- (*rundale/rundaleref24.Model).does, from a join on -/
def P81_0 (x0 x1 x6 x7 x8 : Value) (w : World) (Q : Value → World → Prop) : Prop := Part Try.prog 81 T81_0 [0, 1, 6, 7, 8] [x0, x1, x6, x7, x8] w Q
/-- (*rundale/rundaleref24.Model).does, from a join on -/
def P81_1 (x0 x6 x7 x8 x117 : Value) (w : World) (Q : Value → World → Prop) : Prop := Part Try.prog 81 T81_1 [0, 6, 7, 8, 117] [x0, x6, x7, x8, x117] w Q
/-- (*rundale/rundaleref24.Model).does, from a join on -/
def P81_2 (x0 x6 x8 x9 x10 : Value) (w : World) (Q : Value → World → Prop) : Prop := Part Try.prog 81 T81_2 [0, 6, 8, 9, 10] [x0, x6, x8, x9, x10] w Q
def F81 (a0 a1 a2 a3 : Value) (w : World) (Q : Value → World → Prop) : Prop :=
  effv Try.prog (Instr.box 29 a2) w fun t6 w =>
  effv Try.prog (Instr.box 27 a3) w fun t7 w =>
  wpB (pureRun Try.prog (Instr.fieldAt 29 t6 0)) fun t12 =>
  wpB (ldv Try.prog 3 t12 w) fun t13 =>
  CallR Try.prog 53 [t13] w fun t14 w =>
  wpB (be Try.prog .neq 3 (.tmp 14) (.const (.int .i64 0)) t14 (.int .i64 0)) fun t15 =>
  cnd t15
  (wpB (pureRun Try.prog (Instr.fieldAt 27 t7 0)) fun t17 =>
  wpB (ldv Try.prog 3 t17 w) fun t18 =>
  wpB (pureRun Try.prog (Instr.fieldAt 27 t7 1)) fun t19 =>
  wpB (ldv Try.prog 3 t19 w) fun t20 =>
  CallR Try.prog 98 [a0, t18, t20] w fun t21 w =>
  P81_0 a0 a1 t6 t7 t21 w Q)
  (P81_0 a0 a1 t6 t7 (.int .i64 (-1)) w Q)
def L81_0 (x0 x1 x6 x7 x8 : Value) (w : World) (Q : Value → World → Prop) : Prop :=
  wpB (pureRun Try.prog (Instr.fieldAt 29 x6 0)) fun t22 =>
  wpB (ldv Try.prog 3 t22 w) fun t23 =>
  wpB (be Try.prog .eql 3 (.tmp 23) (.const (.int .i64 3)) t23 (.int .i64 3)) fun t25 =>
  cnd t25
  (wpB (nilv x0) fun t27 =>
  wpB (pureRun Try.prog (Instr.fieldAt 126 t27 5)) fun t28 =>
  wpB (ldv Try.prog 36 t28 w) fun t29 =>
  wpB (pureRun Try.prog (Instr.indexAt 36 t29 x1)) fun t31 =>
  wpB (ldv Try.prog 3 t31 w) fun t32 =>
  wpB (bp Try.prog .add 3 t32 (.int .i64 1)) fun t33 =>
  wpB (pureRun Try.prog (Instr.indexAt 36 t29 x1)) fun t34 =>
  effu Try.prog (Instr.storeAt 3 t34 t33) w fun w =>
  Q (.tuple #[]) w)
  (wpB (be Try.prog .eql 3 (.tmp 23) (.const (.int .i64 4)) t23 (.int .i64 4)) fun t36 =>
  cnd t36
  (wpB (nilv x0) fun t38 =>
  wpB (pureRun Try.prog (Instr.fieldAt 126 t38 5)) fun t39 =>
  wpB (ldv Try.prog 36 t39 w) fun t40 =>
  wpB (pureRun Try.prog (Instr.indexAt 36 t40 x1)) fun t42 =>
  wpB (ldv Try.prog 3 t42 w) fun t43 =>
  wpB (bp Try.prog .sub 3 t43 (.int .i64 1)) fun t44 =>
  wpB (pureRun Try.prog (Instr.indexAt 36 t40 x1)) fun t45 =>
  effu Try.prog (Instr.storeAt 3 t45 t44) w fun w =>
  wpB (nilv x0) fun t47 =>
  wpB (pureRun Try.prog (Instr.fieldAt 126 t47 5)) fun t48 =>
  wpB (ldv Try.prog 36 t48 w) fun t49 =>
  wpB (pureRun Try.prog (Instr.indexAt 36 t49 x1)) fun t51 =>
  wpB (ldv Try.prog 3 t51 w) fun t52 =>
  wpB (be Try.prog .eql 3 (.tmp 52) (.const (.int .i64 0)) t52 (.int .i64 0)) fun t53 =>
  cnd t53
  (wpB (nilv x0) fun t55 =>
  wpB (pureRun Try.prog (Instr.fieldAt 126 t55 6)) fun t56 =>
  wpB (ldv Try.prog 123 t56 w) fun t57 =>
  wpB (pureRun Try.prog (Instr.indexAt 123 t57 x1)) fun t59 =>
  effu Try.prog (Instr.storeAt 139 t59 (.slice none 0 0)) w fun w =>
  Q (.tuple #[]) w)
  (Q (.tuple #[]) w))
  (wpB (be Try.prog .eql 3 (.tmp 23) (.const (.int .i64 5)) t23 (.int .i64 5)) fun t61 =>
  cnd t61
  (wpB (pureRun Try.prog (Instr.fieldAt 27 x7 0)) fun t64 =>
  wpB (ldv Try.prog 3 t64 w) fun t65 =>
  wpB (pureRun Try.prog (Instr.fieldAt 27 x7 1)) fun t66 =>
  wpB (ldv Try.prog 3 t66 w) fun t67 =>
  CallR Try.prog 99 [x0, x1, t65, t67] w fun t68 w =>
  wpB (pureRun Try.prog (Op.unary .not t68)) fun t69 =>
  cnd t69
  ((wpB (nilv x0) fun t71 =>
  wpB (pureRun Try.prog (Instr.fieldAt 126 t71 6)) fun t72 =>
  wpB (ldv Try.prog 123 t72 w.drew) fun t73 =>
  wpB (nilv x0) fun t76 =>
  wpB (pureRun Try.prog (Instr.fieldAt 126 t76 6)) fun t77 =>
  wpB (ldv Try.prog 123 t77 w.drew) fun t78 =>
  wpB (pureRun Try.prog (Instr.indexAt 123 t78 x1)) fun t80 =>
  wpB (ldv Try.prog 139 t80 w.drew) fun t81 =>
  wpB (pureRun Try.prog (Instr.fieldAt 27 x7 0)) fun t82 =>
  wpB (ldv Try.prog 3 t82 w.drew) fun t83 =>
  wpB (pureRun Try.prog (Instr.fieldAt 27 x7 1)) fun t84 =>
  wpB (ldv Try.prog 3 t84 w.drew) fun t85 =>
  wpB (pureRun Try.prog (Instr.build 142 #[(0, t83), (1, t85)])) fun t86 =>
  effv Try.prog (Instr.buildSlice 139 1 #[(0, t86)]) w.drew fun t87 w =>
  effv Try.prog (Builtin.append_ #[139, 139] 139 #[t81, t87]) w fun t88 w =>
  wpB (pureRun Try.prog (Instr.indexAt 123 t73 x1)) fun t89 =>
  effu Try.prog (Instr.storeAt 139 t89 t88) w fun w =>
  Q (.tuple #[]) w) ∧
  (wpB (nilv x0) fun t71_1 =>
  wpB (pureRun Try.prog (Instr.fieldAt 126 t71_1 6)) fun t72_1 =>
  wpB (nilv x0) fun t76_1 =>
  wpB (pureRun Try.prog (Instr.fieldAt 126 t76_1 6)) fun t77_1 =>
  wpB (pureRun Try.prog (Instr.fieldAt 27 x7 0)) fun t82_1 =>
  wpB (pureRun Try.prog (Instr.fieldAt 27 x7 1)) fun t84_1 =>
  wpB (ldv Try.prog 123 t77_1 w.drew) fun t78_1 =>
  wpB (pureRun Try.prog (Instr.indexAt 123 t78_1 x1)) fun t80_1 =>
  wpB (ldv Try.prog 139 t80_1 w.drew) fun t81_1 =>
  wpB (ldv Try.prog 3 t82_1 w.drew) fun t83_1 =>
  wpB (ldv Try.prog 3 t84_1 w.drew) fun t85_1 =>
  wpB (pureRun Try.prog (Instr.build 142 #[(0, t83_1), (1, t85_1)])) fun t86_1 =>
  effv Try.prog (Instr.buildSlice 139 1 #[(0, t86_1)]) w.drew fun t87_1 w =>
  effv Try.prog (Builtin.append_ #[139, 139] 139 #[t81_1, t87_1]) w fun t88_1 w =>
  wpB (ldv Try.prog 123 t72_1 w) fun t73_1 =>
  wpB (pureRun Try.prog (Instr.indexAt 123 t73_1 x1)) fun t89_1 =>
  effu Try.prog (Instr.storeAt 139 t89_1 t88_1) w fun w =>
  Q (.tuple #[]) w))
  (Q (.tuple #[]) w))
  (wpB (be Try.prog .eql 3 (.tmp 23) (.const (.int .i64 10)) t23 (.int .i64 10)) fun t91 =>
  cnd t91
  (wpB (nilv x0) fun t93 =>
  wpB (pureRun Try.prog (Instr.fieldAt 126 t93 4)) fun t94 =>
  wpB (ldv Try.prog 124 t94 w) fun t95 =>
  wpB (pureRun Try.prog (Instr.indexAt 124 t95 x8)) fun t97 =>
  wpB (pureRun Try.prog (Instr.fieldAt 138 t97 4)) fun t98 =>
  effu Try.prog (Instr.storeAt 4 t98 (.bool false)) w fun w =>
  wpB (nilv x0) fun t100 =>
  wpB (pureRun Try.prog (Instr.fieldAt 126 t100 2)) fun t101 =>
  wpB (ldv Try.prog 36 t101 w.drew) fun t102 =>
  wpB (pureRun Try.prog (Instr.fieldAt 27 x7 0)) fun t103 =>
  wpB (ldv Try.prog 3 t103 w.drew) fun t104 =>
  wpB (pureRun Try.prog (Instr.indexAt 36 t102 t104)) fun t105 =>
  effu Try.prog (Instr.storeAt 3 t105 (.int .i64 2)) w.drew fun w =>
  wpB (nilv x0) fun t107 =>
  wpB (pureRun Try.prog (Instr.fieldAt 126 t107 1)) fun t108 =>
  wpB (ldv Try.prog 4 t108 w) fun t109 =>
  cnd t109
  (wpB (nilv x0) fun t111 =>
  wpB (pureRun Try.prog (Instr.fieldAt 126 t111 2)) fun t112 =>
  wpB (ldv Try.prog 36 t112 w.drew) fun t113 =>
  wpB (pureRun Try.prog (Instr.fieldAt 27 x7 0)) fun t114 =>
  wpB (ldv Try.prog 3 t114 w.drew) fun t115 =>
  wpB (pureRun Try.prog (Instr.indexAt 36 t113 t115)) fun t116 =>
  effu Try.prog (Instr.storeAt 3 t116 (.int .i64 0)) w.drew fun w =>
  Q (.tuple #[]) w)
  (Q (.tuple #[]) w))
  (wpB (be Try.prog .eql 3 (.tmp 23) (.const (.int .i64 7)) t23 (.int .i64 7)) fun t118 =>
  cnd t118
  (P81_1 x0 x6 x7 x8 t118 w Q)
  (wpB (be Try.prog .eql 3 (.tmp 23) (.const (.int .i64 8)) t23 (.int .i64 8)) fun t119 =>
  cnd t119
  (P81_1 x0 x6 x7 x8 t119 w Q)
  (wpB (be Try.prog .eql 3 (.tmp 23) (.const (.int .i64 9)) t23 (.int .i64 9)) fun t120 =>
  P81_1 x0 x6 x7 x8 t120 w Q))))))
def L81_1 (x0 x6 x7 x8 x117 : Value) (w : World) (Q : Value → World → Prop) : Prop :=
  cnd x117
  (((wpB (nilv x0) fun t122 =>
  wpB (pureRun Try.prog (Instr.fieldAt 126 t122 4)) fun t123 =>
  wpB (pureRun Try.prog (Instr.fieldAt 27 x7 2)) fun t128 =>
  wpB (pureRun Try.prog (Instr.fieldAt 27 x7 3)) fun t131 =>
  wpB (pureRun Try.prog (Instr.fieldAt 29 x6 3)) fun t133 =>
  wpB (ldv Try.prog 124 t123 w.drew) fun t124 =>
  wpB (pureRun Try.prog (Instr.indexAt 124 t124 x8)) fun t126 =>
  wpB (ldv Try.prog 138 t126 w.drew) fun t127 =>
  wpB (ldv Try.prog 3 t128 w.drew) fun t129 =>
  wpB (ldv Try.prog 3 t131 w.drew) fun t132 =>
  wpB (ldv Try.prog 3 t133 w.drew) fun t134 =>
  wpB (bp Try.prog .add 3 t132 t134) fun t135 =>
  CallR Try.prog 101 [t127, t129] w.drew fun t130 w =>
  P81_2 x0 x6 x8 t130 t135 w Q) ∧
  (wpB (nilv x0) fun t122_1 =>
  wpB (pureRun Try.prog (Instr.fieldAt 126 t122_1 4)) fun t123_1 =>
  wpB (pureRun Try.prog (Instr.fieldAt 27 x7 2)) fun t128_1 =>
  wpB (pureRun Try.prog (Instr.fieldAt 27 x7 3)) fun t131_1 =>
  wpB (pureRun Try.prog (Instr.fieldAt 29 x6 3)) fun t133_1 =>
  wpB (ldv Try.prog 124 t123_1 w.drew) fun t124_1 =>
  wpB (pureRun Try.prog (Instr.indexAt 124 t124_1 x8)) fun t126_1 =>
  wpB (ldv Try.prog 138 t126_1 w.drew) fun t127_1 =>
  wpB (ldv Try.prog 3 t128_1 w.drew) fun t129_1 =>
  wpB (ldv Try.prog 3 t131_1 w.drew) fun t132_1 =>
  CallR Try.prog 101 [t127_1, t129_1] w.drew fun t130_1 w =>
  wpB (ldv Try.prog 3 t133_1 w) fun t134_1 =>
  wpB (bp Try.prog .add 3 t132_1 t134_1) fun t135_1 =>
  P81_2 x0 x6 x8 t130_1 t135_1 w Q)) ∧
  ((wpB (nilv x0) fun t122_2 =>
  wpB (pureRun Try.prog (Instr.fieldAt 126 t122_2 4)) fun t123_2 =>
  wpB (pureRun Try.prog (Instr.fieldAt 27 x7 2)) fun t128_2 =>
  wpB (pureRun Try.prog (Instr.fieldAt 27 x7 3)) fun t131_2 =>
  wpB (pureRun Try.prog (Instr.fieldAt 29 x6 3)) fun t133_2 =>
  wpB (ldv Try.prog 124 t123_2 w.drew) fun t124_2 =>
  wpB (pureRun Try.prog (Instr.indexAt 124 t124_2 x8)) fun t126_2 =>
  wpB (ldv Try.prog 138 t126_2 w.drew) fun t127_2 =>
  wpB (ldv Try.prog 3 t128_2 w.drew) fun t129_2 =>
  wpB (ldv Try.prog 3 t133_2 w.drew) fun t134_2 =>
  CallR Try.prog 101 [t127_2, t129_2] w.drew fun t130_2 w =>
  wpB (ldv Try.prog 3 t131_2 w) fun t132_2 =>
  wpB (bp Try.prog .add 3 t132_2 t134_2) fun t135_2 =>
  P81_2 x0 x6 x8 t130_2 t135_2 w Q) ∧
  (wpB (nilv x0) fun t122_3 =>
  wpB (pureRun Try.prog (Instr.fieldAt 126 t122_3 4)) fun t123_3 =>
  wpB (ldv Try.prog 124 t123_3 w.drew) fun t124_3 =>
  wpB (pureRun Try.prog (Instr.indexAt 124 t124_3 x8)) fun t126_3 =>
  wpB (ldv Try.prog 138 t126_3 w.drew) fun t127_3 =>
  wpB (pureRun Try.prog (Instr.fieldAt 27 x7 2)) fun t128_3 =>
  wpB (ldv Try.prog 3 t128_3 w.drew) fun t129_3 =>
  CallR Try.prog 101 [t127_3, t129_3] w.drew fun t130_3 w =>
  wpB (pureRun Try.prog (Instr.fieldAt 27 x7 3)) fun t131_3 =>
  wpB (ldv Try.prog 3 t131_3 w) fun t132_3 =>
  wpB (pureRun Try.prog (Instr.fieldAt 29 x6 3)) fun t133_3 =>
  wpB (ldv Try.prog 3 t133_3 w) fun t134_3 =>
  wpB (bp Try.prog .add 3 t132_3 t134_3) fun t135_3 =>
  P81_2 x0 x6 x8 t130_3 t135_3 w Q)))
  (Q (.tuple #[]) w)
def L81_2 (x0 x6 x8 x9 x10 : Value) (w : World) (Q : Value → World → Prop) : Prop :=
  wpB (nilv x0) fun t137 =>
  wpB (pureRun Try.prog (Instr.fieldAt 126 t137 4)) fun t138 =>
  wpB (ldv Try.prog 124 t138 w) fun t139 =>
  wpB (pureRun Try.prog (Instr.indexAt 124 t139 x8)) fun t141 =>
  wpB (pureRun Try.prog (Instr.fieldAt 138 t141 6)) fun t142 =>
  wpB (ldv Try.prog 96 t142 w) fun t143 =>
  wpB (pureRun Try.prog (Instr.indexAt 96 t143 x9)) fun t145 =>
  wpB (ldv Try.prog 112 t145 w) fun t146 =>
  wpB (pureRun Try.prog (Instr.indexAt 112 t146 x10)) fun t148 =>
  wpB (ldv Try.prog 22 t148 w) fun t149 =>
  wpB (pureRun Try.prog (Instr.fieldAt 29 x6 0)) fun t151 =>
  wpB (ldv Try.prog 3 t151 w) fun t152 =>
  wpB (be Try.prog .eql 3 (.tmp 152) (.const (.int .i64 7)) t152 (.int .i64 7)) fun t153 =>
  cnd t153
  (wpB (nilv x0) fun t155 =>
  wpB (pureRun Try.prog (Instr.fieldAt 126 t155 4)) fun t156 =>
  wpB (ldv Try.prog 124 t156 w.drew) fun t157 =>
  wpB (pureRun Try.prog (Instr.indexAt 124 t157 x8)) fun t159 =>
  wpB (pureRun Try.prog (Instr.fieldAt 138 t159 6)) fun t160 =>
  wpB (ldv Try.prog 96 t160 w.drew) fun t161 =>
  wpB (pureRun Try.prog (Instr.indexAt 96 t161 x9)) fun t163 =>
  wpB (ldv Try.prog 112 t163 w.drew) fun t164 =>
  wpB (pureRun Try.prog (Instr.fieldAt 29 x6 4)) fun t166 =>
  wpB (ldv Try.prog 22 t166 w.drew) fun t167 =>
  wpB (pureRun Try.prog (Instr.indexAt 112 t164 x10)) fun t168 =>
  effu Try.prog (Instr.storeAt 22 t168 t167) w.drew fun w =>
  Q (.tuple #[]) w)
  (wpB (pureRun Try.prog (Instr.fieldAt 29 x6 0)) fun t170 =>
  wpB (ldv Try.prog 3 t170 w) fun t171 =>
  wpB (be Try.prog .eql 3 (.tmp 171) (.const (.int .i64 8)) t171 (.int .i64 8)) fun t172 =>
  cnd t172
  (wpB (nilv x0) fun t174 =>
  wpB (pureRun Try.prog (Instr.fieldAt 126 t174 4)) fun t175 =>
  wpB (ldv Try.prog 124 t175 w.drew) fun t176 =>
  wpB (pureRun Try.prog (Instr.indexAt 124 t176 x8)) fun t178 =>
  wpB (pureRun Try.prog (Instr.fieldAt 138 t178 6)) fun t179 =>
  wpB (ldv Try.prog 96 t179 w.drew) fun t180 =>
  wpB (pureRun Try.prog (Instr.indexAt 96 t180 x9)) fun t182 =>
  wpB (ldv Try.prog 112 t182 w.drew) fun t183 =>
  wpB (pureRun Try.prog (Instr.fieldAt 29 x6 4)) fun t186 =>
  wpB (ldv Try.prog 22 t186 w.drew) fun t187 =>
  wpB (bp Try.prog .add 22 t149 t187) fun t188 =>
  wpB (pureRun Try.prog (Instr.indexAt 112 t183 x10)) fun t189 =>
  effu Try.prog (Instr.storeAt 22 t189 t188) w.drew fun w =>
  Q (.tuple #[]) w)
  (wpB (pureRun Try.prog (Instr.fieldAt 29 x6 4)) fun t192 =>
  wpB (ldv Try.prog 22 t192 w) fun t193 =>
  wpB (be Try.prog .eql 22 (.tmp 191) (.tmp 193) t149 t193) fun t194 =>
  cnd t194
  (wpB (nilv x0) fun t196 =>
  wpB (pureRun Try.prog (Instr.fieldAt 126 t196 4)) fun t197 =>
  wpB (ldv Try.prog 124 t197 w.drew) fun t198 =>
  wpB (pureRun Try.prog (Instr.indexAt 124 t198 x8)) fun t200 =>
  wpB (pureRun Try.prog (Instr.fieldAt 138 t200 6)) fun t201 =>
  wpB (ldv Try.prog 96 t201 w.drew) fun t202 =>
  wpB (pureRun Try.prog (Instr.indexAt 96 t202 x9)) fun t204 =>
  wpB (ldv Try.prog 112 t204 w.drew) fun t205 =>
  wpB (pureRun Try.prog (Instr.fieldAt 29 x6 5)) fun t207 =>
  wpB (ldv Try.prog 22 t207 w.drew) fun t208 =>
  wpB (pureRun Try.prog (Instr.indexAt 112 t205 x10)) fun t209 =>
  effu Try.prog (Instr.storeAt 22 t209 t208) w.drew fun w =>
  Q (.tuple #[]) w)
  (Q (.tuple #[]) w)))
theorem F81_ok {a0 a1 a2 a3 : Value} {w : World} {Q : Value → World → Prop} (h : F81 a0 a1 a2 a3 w Q) : CallR Try.prog 81 [a0, a1, a2, a3] w Q :=
  call_ofE mixed entOk Try.func81 (c := C81) rfl H81 (Nat.le_of_ble_eq_true rfl) (by kernel_rfl) h
theorem L81_0_ok {x0 x1 x6 x7 x8 : Value} {w : World} {Q : Value → World → Prop} (h : L81_0 x0 x1 x6 x7 x8 w Q) : P81_0 x0 x1 x6 x7 x8 w Q :=
  part_jnE mixed entOk Try.func81 H81 (by kernel_rfl) h
theorem L81_1_ok {x0 x6 x7 x8 x117 : Value} {w : World} {Q : Value → World → Prop} (h : L81_1 x0 x6 x7 x8 x117 w Q) : P81_1 x0 x6 x7 x8 x117 w Q :=
  part_jnE mixed entOk Try.func81 H81 (by kernel_rfl) h
theorem L81_2_ok {x0 x6 x8 x9 x10 : Value} {w : World} {Q : Value → World → Prop} (h : L81_2 x0 x6 x8 x9 x10 w Q) : P81_2 x0 x6 x8 x9 x10 w Q :=
  part_jnE mixed entOk Try.func81 H81 (by kernel_rfl) h

noncomputable def C82 : Code := (Try.f82.body).getD .skip
noncomputable def H82 : Hints := ⟨[], [], [(9, (.leaf [0, 1, 2, 3, 4, 5, 6, 7, 8, 9, 10, 11, 12, 13, 14])), (10, (.leaf [0, 1, 2, 3, 4, 5, 6, 7, 8, 9, 10, 11, 12, 13, 14]))]⟩
def F82 (a0 a1 a2 : Value) (w : World) (Q : Value → World → Prop) : Prop :=
  effv Try.prog (Instr.box 29 a1) w fun t4 w =>
  effv Try.prog (Instr.box 32 a2) w fun t5 w =>
  wpB (ldv Try.prog 32 t5 w) fun t9 =>
  wpB (pureRun Try.prog (Instr.build 32 #[(0, (.int .i64 7))])) fun t10 =>
  wpB (be Try.prog .eql 32 (.tmp 9) (.tmp 10) t9 t10) fun t11 =>
  cnd t11
  (wpB (nilv a0) fun t13 =>
  wpB (pureRun Try.prog (Instr.fieldAt 126 t13 1)) fun t14 =>
  wpB (ldv Try.prog 4 t14 w) fun t15 =>
  gE t15 false (CallR Try.prog 102 [(gv t15 false a0)] w) (fun t18 w =>
  wpB (gd t15 false (be Try.prog .eql 3 (.tmp 18) (.const (.int .i64 0)) t18 (.int .i64 0))) fun t19 =>
  wpB (pickv t15 (some (.bool true)) (some t19)) fun t20 =>
  Q t20 w) w)
  (wpB (pureRun Try.prog (Instr.fieldAt 32 t5 1)) fun t21 =>
  wpB (pureRun Try.prog (Instr.fieldAt 27 t21 0)) fun t22 =>
  wpB (ldv Try.prog 3 t22 w) fun t23 =>
  wpB (bp Try.prog .lss 3 t23 (.int .i64 0)) fun t25 =>
  wpB (gd t25 false (nilv (gv t25 false a0))) fun t29 =>
  wpB (gd t25 false (pureRun Try.prog (Instr.fieldAt 126 t29 0))) fun t30 =>
  wpB (gd t25 false (pureRun Try.prog (Instr.fieldAt 25 t30 3))) fun t31 =>
  wpB (gd t25 false (ldv Try.prog 3 t31 w)) fun t32 =>
  wpB (gd t25 false (bp Try.prog .geq 3 (gv t25 false t23) t32)) fun t33 =>
  wpB (pickv t25 (some (.bool true)) (some t33)) fun t34 =>
  wpB (gd t34 false (nilv (gv t34 false a0))) fun t37 =>
  wpB (gd t34 false (pureRun Try.prog (Instr.fieldAt 126 t37 2))) fun t38 =>
  wpB (gd t34 false (ldv Try.prog 36 t38 w)) fun t39 =>
  wpB (gd t34 false (pureRun Try.prog (Instr.indexAt 36 t39 (gv t34 false t23)))) fun t41 =>
  wpB (gd t34 false (ldv Try.prog 3 t41 w)) fun t42 =>
  wpB (gd t34 false (be Try.prog .neq 3 (.tmp 42) (.const (.int .i64 0)) t42 (.int .i64 0))) fun t43 =>
  wpB (pickv t34 (some (.bool true)) (some t43)) fun t44 =>
  cnd t44
  (Q (.bool false) w)
  (wpB (nilv a0) fun t46 =>
  wpB (pureRun Try.prog (Instr.fieldAt 126 t46 3)) fun t47 =>
  wpB (ldv Try.prog 36 t47 w) fun t48 =>
  wpB (pureRun Try.prog (Instr.indexAt 36 t48 t23)) fun t50 =>
  wpB (ldv Try.prog 3 t50 w) fun t51 =>
  CallR Try.prog 103 [t51] w fun t52 w =>
  wpB (ldv Try.prog 32 t5 w) fun t53 =>
  wpB (pureRun Try.prog (Instr.build 27 #[(0, t23), (1, t52)])) fun t56 =>
  wpB (pureRun Try.prog (Instr.build 32 #[(1, t56)])) fun t57 =>
  wpB (be Try.prog .neq 32 (.tmp 53) (.tmp 57) t53 t57) fun t58 =>
  cnd t58
  (Q (.bool false) w)
  (wpB (nilv a0) fun t60 =>
  wpB (pureRun Try.prog (Instr.fieldAt 126 t60 2)) fun t61 =>
  wpB (ldv Try.prog 36 t61 w.drew) fun t62 =>
  wpB (nilv a0) fun t65 =>
  wpB (pureRun Try.prog (Instr.fieldAt 126 t65 3)) fun t66 =>
  wpB (ldv Try.prog 36 t66 w.drew) fun t67 =>
  wpB (pureRun Try.prog (Instr.indexAt 36 t62 t23)) fun t70 =>
  effu Try.prog (Instr.storeAt 3 t70 (.int .i64 1)) w.drew fun w =>
  wpB (pureRun Try.prog (Instr.indexAt 36 t67 t23)) fun t71 =>
  effu Try.prog (Instr.storeAt 3 t71 t52) w fun w =>
  wpB (nilv a0) fun t74 =>
  wpB (pureRun Try.prog (Instr.fieldAt 126 t74 4)) fun t75 =>
  wpB (ldv Try.prog 124 t75 w.drew) fun t76 =>
  wpB (pureRun Try.prog (Instr.fieldAt 29 t4 3)) fun t79 =>
  wpB (ldv Try.prog 3 t79 w.drew) fun t80 =>
  wpB (pureRun Try.prog (Instr.build 138 #[(0, t23), (1, t52), (2, t80), (4, (.bool true))])) fun t81 =>
  effv Try.prog (Instr.buildSlice 124 1 #[(0, t81)]) w.drew fun t82 w =>
  effv Try.prog (Builtin.append_ #[124, 124] 124 #[t76, t82]) w fun t83 w =>
  wpB (nilv a0) fun t84 =>
  wpB (pureRun Try.prog (Instr.fieldAt 126 t84 4)) fun t85 =>
  effu Try.prog (Instr.storeAt 124 t85 t83) w fun w =>
  Q (.bool true) w)))
theorem F82_ok {a0 a1 a2 : Value} {w : World} {Q : Value → World → Prop} (h : F82 a0 a1 a2 w Q) : CallR Try.prog 82 [a0, a1, a2] w Q :=
  call_ofE mixed entOk Try.func82 (c := C82) rfl H82 (Nat.le_of_ble_eq_true rfl) (by kernel_rfl) h

noncomputable def C83 : Code := (Try.f83.body).getD .skip
noncomputable def H83 : Hints := ⟨[], [(9, [0, 7, 9, 10, 11, 12]), (16, [0, 9, 11, 12]), (17, [0, 9, 11, 12]), (18, [0, 9, 11]), (19, [])], [(6, (.leaf [0, 1, 2, 3, 4, 5, 6, 7, 8, 9, 10, 11])), (8, (.ask 23 29 (.ask 27 29 (.leaf [0, 1, 2, 3, 4, 5, 6, 7, 8, 9, 10, 11, 12, 13, 14, 15, 16, 17, 18, 19, 20, 21, 22, 23, 24, 25, 26, 27, 28, 29, 30, 31]) (.leaf [0, 1, 2, 4, 8, 9, 10, 12, 20, 21, 22, 24, 3, 5, 6, 7, 11, 13, 14, 15, 16, 17, 18, 19, 28, 23, 25, 26, 29, 27, 30, 31])) (.leaf [0, 1, 2, 4, 8, 9, 10, 12, 20, 21, 22, 24, 3, 5, 6, 7, 11, 13, 14, 15, 16, 17, 18, 19, 28, 29, 23, 25, 26, 27, 30, 31]))), (12, (.leaf [0, 1, 2, 3, 4, 5, 6, 7, 8, 9, 10, 11, 12, 13, 14, 15, 16, 17])), (13, (.leaf [0, 1, 2, 3, 4, 5, 6, 7, 8, 9, 10, 11, 12, 13, 14, 15, 16, 17, 18])), (15, (.ask 3 16 (.leaf [0, 1, 2, 3, 4, 5, 6, 7, 8, 9, 10, 11, 12, 13, 14, 15, 16, 17, 18, 19]) (.leaf [0, 1, 2, 4, 5, 6, 7, 9, 13, 8, 10, 11, 12, 14, 15, 16, 3, 17, 18, 19]))), (16, (.ask 3 20 (.leaf [0, 1, 2, 3, 4, 5, 6, 7, 8, 9, 10, 11, 12, 13, 14, 15, 16, 17, 18, 19, 20, 21, 22, 23]) (.leaf [0, 1, 2, 4, 5, 6, 7, 9, 13, 14, 15, 16, 8, 10, 11, 12, 17, 18, 19, 20, 3, 21, 22, 23]))), (17, (.ask 3 11 (.leaf [0, 1, 2, 3, 4, 5, 6, 7, 8, 9, 10, 11, 12, 13, 14]) (.leaf [0, 1, 2, 4, 5, 6, 7, 8, 10, 9, 11, 3, 12, 13, 14]))), (18, (.ask 3 15 (.leaf [0, 1, 2, 3, 4, 5, 6, 7, 8, 9, 10, 11, 12, 13, 14, 15, 16, 17, 18]) (.leaf [0, 1, 2, 4, 5, 6, 7, 9, 8, 10, 11, 12, 13, 14, 15, 3, 16, 17, 18])))]⟩
noncomputable def T83_0 : List It := [.jn (nav [1, 1, 1, 1, 1, 1, 1] C83)]
noncomputable def T83_1 : List It := [.jn (nav [1, 1, 1, 1, 1, 1, 1, 1, 1] C83)]
noncomputable def T83_2 : List It := [.jn (nav [1, 1, 1, 1, 1, 1, 1, 1, 0, 1, 3, 1, 1] C83), .jn (nav [1, 1, 1, 1, 1, 1, 1, 1, 1] C83)]
noncomputable def T83_3 : List It := [.jn (nav [1, 1, 1, 1, 1, 1, 1, 1, 1, 1] C83)]
noncomputable def T83_4 : List It := [.jn (nav [1, 1, 1, 1, 1, 1, 1, 1, 0, 1, 3, 1, 1, 1] C83), .jn (nav [1, 1, 1, 1, 1, 1, 1, 1, 1] C83)]
/-- (*rundale/rundaleref24.Model).alloc, from a join on -/
def P83_0 (x0 x7 x9 x10 x11 x12 : Value) (w : World) (Q : Value → World → Prop) : Prop := Part Try.prog 83 T83_0 [0, 7, 9, 10, 11, 12] [x0, x7, x9, x10, x11, x12] w Q
/-- (*rundale/rundaleref24.Model).alloc, from a join on -/
def P83_1 (x0 x9 x11 : Value) (w : World) (Q : Value → World → Prop) : Prop := Part Try.prog 83 T83_1 [0, 9, 11] [x0, x9, x11] w Q
/-- (*rundale/rundaleref24.Model).alloc, from a join on -/
def P83_2 (x0 x9 x11 x12 : Value) (w : World) (Q : Value → World → Prop) : Prop := Part Try.prog 83 T83_2 [0, 9, 11, 12] [x0, x9, x11, x12] w Q
/-- (*rundale/rundaleref24.Model).alloc, from a join on -/
def P83_3 (w : World) (Q : Value → World → Prop) : Prop := Part Try.prog 83 T83_3 [] [] w Q
/-- (*rundale/rundaleref24.Model).alloc, from a join on -/
def P83_4 (x0 x9 x11 x12 : Value) (w : World) (Q : Value → World → Prop) : Prop := Part Try.prog 83 T83_4 [0, 9, 11, 12] [x0, x9, x11, x12] w Q
def F83 (a0 a1 a2 a3 : Value) (w : World) (Q : Value → World → Prop) : Prop :=
  effv Try.prog (Instr.box 29 a1) w fun t5 w =>
  effv Try.prog (Instr.box 27 a2) w fun t6 w =>
  effv Try.prog (Instr.box 32 a3) w fun t7 w =>
  wpB (pureRun Try.prog (Instr.fieldAt 27 t6 0)) fun t14 =>
  wpB (ldv Try.prog 3 t14 w) fun t15 =>
  wpB (pureRun Try.prog (Instr.fieldAt 27 t6 1)) fun t16 =>
  wpB (ldv Try.prog 3 t16 w) fun t17 =>
  CallR Try.prog 98 [a0, t15, t17] w fun t18 w =>
  wpB (pureRun Try.prog (Instr.fieldAt 29 t5 3)) fun t21 =>
  wpB (ldv Try.prog 3 t21 w) fun t22 =>
  CallR Try.prog 104 [a0, t18, t22] w fun t23 w =>
  wpB (ldv Try.prog 32 t7 w) fun t24 =>
  wpB (pureRun Try.prog (Instr.build 32 #[(0, (.int .i64 6))])) fun t25 =>
  wpB (be Try.prog .eql 32 (.tmp 24) (.tmp 25) t24 t25) fun t26 =>
  cnd t26
  (wpB (pureRun Try.prog (Op.unary .not t23)) fun t28 =>
  Q t28 w)
  (wpB (pureRun Try.prog (Instr.fieldAt 27 t6 0)) fun t29 =>
  wpB (ldv Try.prog 3 t29 w) fun t30 =>
  wpB (pureRun Try.prog (Instr.fieldAt 27 t6 1)) fun t31 =>
  wpB (ldv Try.prog 3 t31 w) fun t32 =>
  wpB (pureRun Try.prog (Instr.fieldAt 32 t7 1)) fun t33 =>
  wpB (pureRun Try.prog (Instr.fieldAt 27 t33 2)) fun t34 =>
  wpB (ldv Try.prog 3 t34 w) fun t35 =>
  wpB (pureRun Try.prog (Instr.fieldAt 29 t5 3)) fun t36 =>
  wpB (ldv Try.prog 3 t36 w) fun t37 =>
  wpB (pureRun Try.prog (Instr.build 27 #[(0, t30), (1, t32), (2, t35), (4, t37)])) fun t38 =>
  effv Try.prog (Instr.alloc 27 true (.tuple #[])) w fun t11 w =>
  effu Try.prog (Instr.storeAt 27 t11 t38) w fun w =>
  wpB (nilv a0) fun t40 =>
  wpB (pureRun Try.prog (Instr.fieldAt 126 t40 4)) fun t41 =>
  wpB (ldv Try.prog 124 t41 w.drew) fun t42 =>
  wpB (pureRun Try.prog (Instr.indexAt 124 t42 t18)) fun t44 =>
  wpB (pureRun Try.prog (Instr.fieldAt 138 t44 2)) fun t45 =>
  wpB (ldv Try.prog 3 t45 w.drew) fun t46 =>
  wpB (pureRun Try.prog (Instr.fieldAt 29 t5 3)) fun t47 =>
  wpB (ldv Try.prog 3 t47 w.drew) fun t48 =>
  CallR Try.prog 105 [t46, t48] w.drew fun t49 w =>
  cnd t23
  (((wpB (nilv a0) fun t52 =>
  wpB (pureRun Try.prog (Instr.fieldAt 126 t52 4)) fun t53 =>
  wpB (ldv Try.prog 124 t53 w.drew) fun t54 =>
  wpB (pureRun Try.prog (Instr.indexAt 124 t54 t18)) fun t56 =>
  wpB (pureRun Try.prog (Instr.fieldAt 138 t56 5)) fun t57 =>
  wpB (ldv Try.prog 36 t57 w.drew) fun t58 =>
  wpB (nilv a0) fun t60 =>
  wpB (pureRun Try.prog (Instr.fieldAt 126 t60 4)) fun t61 =>
  wpB (ldv Try.prog 124 t61 w.drew) fun t62 =>
  wpB (pureRun Try.prog (Instr.indexAt 124 t62 t18)) fun t64 =>
  wpB (pureRun Try.prog (Instr.fieldAt 138 t64 5)) fun t65 =>
  wpB (ldv Try.prog 36 t65 w.drew) fun t66 =>
  wpB (pureRun Try.prog (Builtin.len_ #[36] 3 #[t66])) fun t67 =>
  wpB (bp Try.prog .sub 3 t67 (.int .i64 1)) fun t68 =>
  wpB (pureRun Try.prog (Instr.indexAt 36 t58 t68)) fun t69 =>
  wpB (ldv Try.prog 3 t69 w.drew) fun t70 =>
  wpB (nilv a0) fun t72 =>
  wpB (pureRun Try.prog (Instr.fieldAt 126 t72 4)) fun t73 =>
  wpB (ldv Try.prog 124 t73 w.drew) fun t74 =>
  wpB (pureRun Try.prog (Instr.indexAt 124 t74 t18)) fun t76 =>
  wpB (pureRun Try.prog (Instr.fieldAt 138 t76 3)) fun t77 =>
  wpB (ldv Try.prog 3 t77 w.drew) fun t78 =>
  wpB (pureRun Try.prog (Instr.fieldAt 27 t11 2)) fun t79 =>
  effu Try.prog (Instr.storeAt 3 t79 t70) w.drew fun w =>
  wpB (pureRun Try.prog (Instr.fieldAt 27 t11 3)) fun t80 =>
  effu Try.prog (Instr.storeAt 3 t80 t78) w fun w =>
  P83_0 a0 t7 t18 t23 t11 t49 w Q) ∧
  (wpB (nilv a0) fun t52_1 =>
  wpB (pureRun Try.prog (Instr.fieldAt 126 t52_1 4)) fun t53_1 =>
  wpB (nilv a0) fun t60_1 =>
  wpB (pureRun Try.prog (Instr.fieldAt 126 t60_1 4)) fun t61_1 =>
  wpB (nilv a0) fun t72_1 =>
  wpB (pureRun Try.prog (Instr.fieldAt 126 t72_1 4)) fun t73_1 =>
  wpB (ldv Try.prog 124 t53_1 w.drew) fun t54_1 =>
  wpB (pureRun Try.prog (Instr.indexAt 124 t54_1 t18)) fun t56_1 =>
  wpB (pureRun Try.prog (Instr.fieldAt 138 t56_1 5)) fun t57_1 =>
  wpB (ldv Try.prog 36 t57_1 w.drew) fun t58_1 =>
  wpB (ldv Try.prog 124 t61_1 w.drew) fun t62_1 =>
  wpB (pureRun Try.prog (Instr.indexAt 124 t62_1 t18)) fun t64_1 =>
  wpB (pureRun Try.prog (Instr.fieldAt 138 t64_1 5)) fun t65_1 =>
  wpB (ldv Try.prog 36 t65_1 w.drew) fun t66_1 =>
  wpB (pureRun Try.prog (Builtin.len_ #[36] 3 #[t66_1])) fun t67_1 =>
  wpB (bp Try.prog .sub 3 t67_1 (.int .i64 1)) fun t68_1 =>
  wpB (pureRun Try.prog (Instr.indexAt 36 t58_1 t68_1)) fun t69_1 =>
  wpB (ldv Try.prog 3 t69_1 w.drew) fun t70_1 =>
  wpB (pureRun Try.prog (Instr.fieldAt 27 t11 2)) fun t79_1 =>
  wpB (ldv Try.prog 124 t73_1 w.drew) fun t74_1 =>
  wpB (pureRun Try.prog (Instr.indexAt 124 t74_1 t18)) fun t76_1 =>
  wpB (pureRun Try.prog (Instr.fieldAt 138 t76_1 3)) fun t77_1 =>
  effu Try.prog (Instr.storeAt 3 t79_1 t70_1) w.drew fun w =>
  wpB (ldv Try.prog 3 t77_1 w) fun t78_1 =>
  wpB (pureRun Try.prog (Instr.fieldAt 27 t11 3)) fun t80_1 =>
  effu Try.prog (Instr.storeAt 3 t80_1 t78_1) w fun w =>
  P83_0 a0 t7 t18 t23 t11 t49 w Q)) ∧
  (wpB (nilv a0) fun t52_2 =>
  wpB (pureRun Try.prog (Instr.fieldAt 126 t52_2 4)) fun t53_2 =>
  wpB (nilv a0) fun t60_2 =>
  wpB (pureRun Try.prog (Instr.fieldAt 126 t60_2 4)) fun t61_2 =>
  wpB (nilv a0) fun t72_2 =>
  wpB (pureRun Try.prog (Instr.fieldAt 126 t72_2 4)) fun t73_2 =>
  wpB (ldv Try.prog 124 t53_2 w.drew) fun t54_2 =>
  wpB (pureRun Try.prog (Instr.indexAt 124 t54_2 t18)) fun t56_2 =>
  wpB (pureRun Try.prog (Instr.fieldAt 138 t56_2 5)) fun t57_2 =>
  wpB (ldv Try.prog 36 t57_2 w.drew) fun t58_2 =>
  wpB (ldv Try.prog 124 t61_2 w.drew) fun t62_2 =>
  wpB (pureRun Try.prog (Instr.indexAt 124 t62_2 t18)) fun t64_2 =>
  wpB (pureRun Try.prog (Instr.fieldAt 138 t64_2 5)) fun t65_2 =>
  wpB (ldv Try.prog 36 t65_2 w.drew) fun t66_2 =>
  wpB (pureRun Try.prog (Builtin.len_ #[36] 3 #[t66_2])) fun t67_2 =>
  wpB (bp Try.prog .sub 3 t67_2 (.int .i64 1)) fun t68_2 =>
  wpB (pureRun Try.prog (Instr.indexAt 36 t58_2 t68_2)) fun t69_2 =>
  wpB (ldv Try.prog 3 t69_2 w.drew) fun t70_2 =>
  wpB (pureRun Try.prog (Instr.fieldAt 27 t11 2)) fun t79_2 =>
  effu Try.prog (Instr.storeAt 3 t79_2 t70_2) w.drew fun w =>
  wpB (ldv Try.prog 124 t73_2 w) fun t74_2 =>
  wpB (pureRun Try.prog (Instr.indexAt 124 t74_2 t18)) fun t76_2 =>
  wpB (pureRun Try.prog (Instr.fieldAt 138 t76_2 3)) fun t77_2 =>
  wpB (ldv Try.prog 3 t77_2 w) fun t78_2 =>
  wpB (pureRun Try.prog (Instr.fieldAt 27 t11 3)) fun t80_2 =>
  effu Try.prog (Instr.storeAt 3 t80_2 t78_2) w fun w =>
  P83_0 a0 t7 t18 t23 t11 t49 w Q))
  (P83_0 a0 t7 t18 t23 t11 t49 w Q))
def L83_0 (x0 x7 x9 x10 x11 x12 : Value) (w : World) (Q : Value → World → Prop) : Prop :=
  wpB (ldv Try.prog 32 x7 w) fun t81 =>
  wpB (ldv Try.prog 27 x11 w) fun t82 =>
  wpB (pureRun Try.prog (Instr.build 32 #[(1, t82)])) fun t83 =>
  wpB (be Try.prog .neq 32 (.tmp 81) (.tmp 83) t81 t83) fun t84 =>
  cnd t84
  (Q (.bool false) w)
  (cnd x10
  (wpB (nilv x0) fun t87 =>
  wpB (pureRun Try.prog (Instr.fieldAt 126 t87 4)) fun t88 =>
  wpB (ldv Try.prog 124 t88 w.drew) fun t89 =>
  wpB (nilv x0) fun t92 =>
  wpB (pureRun Try.prog (Instr.fieldAt 126 t92 4)) fun t93 =>
  wpB (ldv Try.prog 124 t93 w.drew) fun t94 =>
  wpB (pureRun Try.prog (Instr.indexAt 124 t94 x9)) fun t96 =>
  wpB (pureRun Try.prog (Instr.fieldAt 138 t96 3)) fun t97 =>
  wpB (ldv Try.prog 3 t97 w.drew) fun t98 =>
  wpB (bp Try.prog .add 3 t98 x12) fun t100 =>
  wpB (pureRun Try.prog (Instr.indexAt 124 t89 x9)) fun t101 =>
  wpB (pureRun Try.prog (Instr.fieldAt 138 t101 3)) fun t102 =>
  effu Try.prog (Instr.storeAt 3 t102 t100) w.drew fun w =>
  P83_1 x0 x9 x11 w Q)
  (wpB (pureRun Try.prog (Instr.fieldAt 27 x11 2)) fun t103 =>
  wpB (ldv Try.prog 3 t103 w.drew) fun t104 =>
  wpB (bp Try.prog .lss 3 t104 (.int .i64 0)) fun t105 =>
  wpB (gd t105 false (pureRun Try.prog (Instr.fieldAt 27 x11 2))) fun t107 =>
  wpB (gd t105 false (ldv Try.prog 3 t107 w.drew)) fun t108 =>
  wpB (gd t105 false (nilv (gv t105 false x0))) fun t110 =>
  wpB (gd t105 false (pureRun Try.prog (Instr.fieldAt 126 t110 0))) fun t111 =>
  wpB (gd t105 false (pureRun Try.prog (Instr.fieldAt 25 t111 1))) fun t112 =>
  wpB (gd t105 false (ldv Try.prog 3 t112 w.drew)) fun t113 =>
  wpB (gd t105 false (bp Try.prog .geq 3 t108 t113)) fun t114 =>
  wpB (pickv t105 (some (.bool true)) (some t114)) fun t115 =>
  wpB (gd t115 false (pureRun Try.prog (Instr.fieldAt 27 x11 2))) fun t118 =>
  wpB (gd t115 false (ldv Try.prog 3 t118 w.drew)) fun t119 =>
  gE t115 false (CallR Try.prog 106 [(gv t115 false x0), t119] w.drew) (fun t120 w =>
  wpB (pickv t115 (some (.bool true)) (some t120)) fun t121 =>
  cnd t121
  (Q (.bool false) w)
  ((wpB (nilv x0) fun t123 =>
  wpB (pureRun Try.prog (Instr.fieldAt 126 t123 4)) fun t124 =>
  wpB (ldv Try.prog 124 t124 w.drew) fun t125 =>
  wpB (nilv x0) fun t128 =>
  wpB (pureRun Try.prog (Instr.fieldAt 126 t128 4)) fun t129 =>
  wpB (ldv Try.prog 124 t129 w.drew) fun t130 =>
  wpB (pureRun Try.prog (Instr.indexAt 124 t130 x9)) fun t132 =>
  wpB (pureRun Try.prog (Instr.fieldAt 138 t132 5)) fun t133 =>
  wpB (ldv Try.prog 36 t133 w.drew) fun t134 =>
  wpB (pureRun Try.prog (Instr.fieldAt 27 x11 2)) fun t135 =>
  wpB (ldv Try.prog 3 t135 w.drew) fun t136 =>
  effv Try.prog (Instr.buildSlice 36 1 #[(0, t136)]) w.drew fun t137 w =>
  effv Try.prog (Builtin.append_ #[36, 36] 36 #[t134, t137]) w fun t138 w =>
  wpB (pureRun Try.prog (Instr.indexAt 124 t125 x9)) fun t139 =>
  wpB (pureRun Try.prog (Instr.fieldAt 138 t139 5)) fun t140 =>
  effu Try.prog (Instr.storeAt 36 t140 t138) w fun w =>
  P83_2 x0 x9 x11 x12 w Q) ∧
  (wpB (nilv x0) fun t123_1 =>
  wpB (pureRun Try.prog (Instr.fieldAt 126 t123_1 4)) fun t124_1 =>
  wpB (nilv x0) fun t128_1 =>
  wpB (pureRun Try.prog (Instr.fieldAt 126 t128_1 4)) fun t129_1 =>
  wpB (pureRun Try.prog (Instr.fieldAt 27 x11 2)) fun t135_1 =>
  wpB (ldv Try.prog 124 t129_1 w.drew) fun t130_1 =>
  wpB (pureRun Try.prog (Instr.indexAt 124 t130_1 x9)) fun t132_1 =>
  wpB (pureRun Try.prog (Instr.fieldAt 138 t132_1 5)) fun t133_1 =>
  wpB (ldv Try.prog 36 t133_1 w.drew) fun t134_1 =>
  wpB (ldv Try.prog 3 t135_1 w.drew) fun t136_1 =>
  effv Try.prog (Instr.buildSlice 36 1 #[(0, t136_1)]) w.drew fun t137_1 w =>
  effv Try.prog (Builtin.append_ #[36, 36] 36 #[t134_1, t137_1]) w fun t138_1 w =>
  wpB (ldv Try.prog 124 t124_1 w) fun t125_1 =>
  wpB (pureRun Try.prog (Instr.indexAt 124 t125_1 x9)) fun t139_1 =>
  wpB (pureRun Try.prog (Instr.fieldAt 138 t139_1 5)) fun t140_1 =>
  effu Try.prog (Instr.storeAt 36 t140_1 t138_1) w fun w =>
  P83_2 x0 x9 x11 x12 w Q))) w.drew))
def L83_1 (x0 x9 x11 : Value) (w : World) (Q : Value → World → Prop) : Prop :=
  (wpB (nilv x0) fun t179 =>
  wpB (pureRun Try.prog (Instr.fieldAt 126 t179 4)) fun t180 =>
  wpB (ldv Try.prog 124 t180 w.drew) fun t181 =>
  wpB (nilv x0) fun t184 =>
  wpB (pureRun Try.prog (Instr.fieldAt 126 t184 4)) fun t185 =>
  wpB (ldv Try.prog 124 t185 w.drew) fun t186 =>
  wpB (pureRun Try.prog (Instr.indexAt 124 t186 x9)) fun t188 =>
  wpB (pureRun Try.prog (Instr.fieldAt 138 t188 7)) fun t189 =>
  wpB (ldv Try.prog 48 t189 w.drew) fun t190 =>
  wpB (ldv Try.prog 27 x11 w.drew) fun t191 =>
  effv Try.prog (Instr.buildSlice 48 1 #[(0, t191)]) w.drew fun t192 w =>
  effv Try.prog (Builtin.append_ #[48, 48] 48 #[t190, t192]) w fun t193 w =>
  wpB (pureRun Try.prog (Instr.indexAt 124 t181 x9)) fun t194 =>
  wpB (pureRun Try.prog (Instr.fieldAt 138 t194 7)) fun t195 =>
  effu Try.prog (Instr.storeAt 48 t195 t193) w fun w =>
  P83_3 w Q) ∧
  (wpB (nilv x0) fun t179_1 =>
  wpB (pureRun Try.prog (Instr.fieldAt 126 t179_1 4)) fun t180_1 =>
  wpB (nilv x0) fun t184_1 =>
  wpB (pureRun Try.prog (Instr.fieldAt 126 t184_1 4)) fun t185_1 =>
  wpB (ldv Try.prog 124 t185_1 w.drew) fun t186_1 =>
  wpB (pureRun Try.prog (Instr.indexAt 124 t186_1 x9)) fun t188_1 =>
  wpB (pureRun Try.prog (Instr.fieldAt 138 t188_1 7)) fun t189_1 =>
  wpB (ldv Try.prog 48 t189_1 w.drew) fun t190_1 =>
  wpB (ldv Try.prog 27 x11 w.drew) fun t191_1 =>
  effv Try.prog (Instr.buildSlice 48 1 #[(0, t191_1)]) w.drew fun t192_1 w =>
  effv Try.prog (Builtin.append_ #[48, 48] 48 #[t190_1, t192_1]) w fun t193_1 w =>
  wpB (ldv Try.prog 124 t180_1 w) fun t181_1 =>
  wpB (pureRun Try.prog (Instr.indexAt 124 t181_1 x9)) fun t194_1 =>
  wpB (pureRun Try.prog (Instr.fieldAt 138 t194_1 7)) fun t195_1 =>
  effu Try.prog (Instr.storeAt 48 t195_1 t193_1) w fun w =>
  P83_3 w Q)
def L83_2 (x0 x9 x11 x12 : Value) (w : World) (Q : Value → World → Prop) : Prop :=
  (wpB (nilv x0) fun t142 =>
  wpB (pureRun Try.prog (Instr.fieldAt 126 t142 4)) fun t143 =>
  wpB (ldv Try.prog 124 t143 w.drew) fun t144 =>
  wpB (nilv x0) fun t147 =>
  wpB (pureRun Try.prog (Instr.fieldAt 126 t147 4)) fun t148 =>
  wpB (ldv Try.prog 124 t148 w.drew) fun t149 =>
  wpB (pureRun Try.prog (Instr.indexAt 124 t149 x9)) fun t151 =>
  wpB (pureRun Try.prog (Instr.fieldAt 138 t151 6)) fun t152 =>
  wpB (ldv Try.prog 96 t152 w.drew) fun t153 =>
  wpB (nilv x0) fun t155 =>
  wpB (pureRun Try.prog (Instr.fieldAt 126 t155 0)) fun t156 =>
  wpB (pureRun Try.prog (Instr.fieldAt 25 t156 2)) fun t157 =>
  wpB (ldv Try.prog 3 t157 w.drew) fun t158 =>
  effv Try.prog (Instr.makeSlice 112 t158 t158) w.drew fun t159 w =>
  effv Try.prog (Instr.buildSlice 96 1 #[(0, t159)]) w fun t160 w =>
  effv Try.prog (Builtin.append_ #[96, 96] 96 #[t153, t160]) w fun t161 w =>
  wpB (pureRun Try.prog (Instr.indexAt 124 t144 x9)) fun t162 =>
  wpB (pureRun Try.prog (Instr.fieldAt 138 t162 6)) fun t163 =>
  effu Try.prog (Instr.storeAt 96 t163 t161) w fun w =>
  P83_4 x0 x9 x11 x12 w Q) ∧
  (wpB (nilv x0) fun t142_1 =>
  wpB (pureRun Try.prog (Instr.fieldAt 126 t142_1 4)) fun t143_1 =>
  wpB (nilv x0) fun t147_1 =>
  wpB (pureRun Try.prog (Instr.fieldAt 126 t147_1 4)) fun t148_1 =>
  wpB (nilv x0) fun t155_1 =>
  wpB (pureRun Try.prog (Instr.fieldAt 126 t155_1 0)) fun t156_1 =>
  wpB (pureRun Try.prog (Instr.fieldAt 25 t156_1 2)) fun t157_1 =>
  wpB (ldv Try.prog 124 t148_1 w.drew) fun t149_1 =>
  wpB (pureRun Try.prog (Instr.indexAt 124 t149_1 x9)) fun t151_1 =>
  wpB (pureRun Try.prog (Instr.fieldAt 138 t151_1 6)) fun t152_1 =>
  wpB (ldv Try.prog 96 t152_1 w.drew) fun t153_1 =>
  wpB (ldv Try.prog 3 t157_1 w.drew) fun t158_1 =>
  effv Try.prog (Instr.makeSlice 112 t158_1 t158_1) w.drew fun t159_1 w =>
  effv Try.prog (Instr.buildSlice 96 1 #[(0, t159_1)]) w fun t160_1 w =>
  effv Try.prog (Builtin.append_ #[96, 96] 96 #[t153_1, t160_1]) w fun t161_1 w =>
  wpB (ldv Try.prog 124 t143_1 w) fun t144_1 =>
  wpB (pureRun Try.prog (Instr.indexAt 124 t144_1 x9)) fun t162_1 =>
  wpB (pureRun Try.prog (Instr.fieldAt 138 t162_1 6)) fun t163_1 =>
  effu Try.prog (Instr.storeAt 96 t163_1 t161_1) w fun w =>
  P83_4 x0 x9 x11 x12 w Q)
def L83_3 (w : World) (Q : Value → World → Prop) : Prop :=
  Q (.bool true) w
def L83_4 (x0 x9 x11 x12 : Value) (w : World) (Q : Value → World → Prop) : Prop :=
  (wpB (nilv x0) fun t165 =>
  wpB (pureRun Try.prog (Instr.fieldAt 126 t165 4)) fun t166 =>
  wpB (ldv Try.prog 124 t166 w.drew) fun t167 =>
  wpB (nilv x0) fun t170 =>
  wpB (pureRun Try.prog (Instr.fieldAt 126 t170 0)) fun t171 =>
  wpB (pureRun Try.prog (Instr.fieldAt 25 t171 2)) fun t172 =>
  wpB (ldv Try.prog 3 t172 w.drew) fun t173 =>
  CallR Try.prog 107 [t173, x12] w.drew fun t175 w =>
  wpB (pureRun Try.prog (Instr.indexAt 124 t167 x9)) fun t176 =>
  wpB (pureRun Try.prog (Instr.fieldAt 138 t176 3)) fun t177 =>
  effu Try.prog (Instr.storeAt 3 t177 t175) w fun w =>
  P83_1 x0 x9 x11 w Q) ∧
  (wpB (nilv x0) fun t165_1 =>
  wpB (pureRun Try.prog (Instr.fieldAt 126 t165_1 4)) fun t166_1 =>
  wpB (nilv x0) fun t170_1 =>
  wpB (pureRun Try.prog (Instr.fieldAt 126 t170_1 0)) fun t171_1 =>
  wpB (pureRun Try.prog (Instr.fieldAt 25 t171_1 2)) fun t172_1 =>
  wpB (ldv Try.prog 3 t172_1 w.drew) fun t173_1 =>
  CallR Try.prog 107 [t173_1, x12] w.drew fun t175_1 w =>
  wpB (ldv Try.prog 124 t166_1 w) fun t167_1 =>
  wpB (pureRun Try.prog (Instr.indexAt 124 t167_1 x9)) fun t176_1 =>
  wpB (pureRun Try.prog (Instr.fieldAt 138 t176_1 3)) fun t177_1 =>
  effu Try.prog (Instr.storeAt 3 t177_1 t175_1) w fun w =>
  P83_1 x0 x9 x11 w Q)
theorem F83_ok {a0 a1 a2 a3 : Value} {w : World} {Q : Value → World → Prop} (h : F83 a0 a1 a2 a3 w Q) : CallR Try.prog 83 [a0, a1, a2, a3] w Q :=
  call_ofE mixed entOk Try.func83 (c := C83) rfl H83 (Nat.le_of_ble_eq_true rfl) (by kernel_rfl) h
theorem L83_0_ok {x0 x7 x9 x10 x11 x12 : Value} {w : World} {Q : Value → World → Prop} (h : L83_0 x0 x7 x9 x10 x11 x12 w Q) : P83_0 x0 x7 x9 x10 x11 x12 w Q :=
  part_jnE mixed entOk Try.func83 H83 (by kernel_rfl) h
theorem L83_1_ok {x0 x9 x11 : Value} {w : World} {Q : Value → World → Prop} (h : L83_1 x0 x9 x11 w Q) : P83_1 x0 x9 x11 w Q :=
  part_jnE mixed entOk Try.func83 H83 (by kernel_rfl) h
theorem L83_2_ok {x0 x9 x11 x12 : Value} {w : World} {Q : Value → World → Prop} (h : L83_2 x0 x9 x11 x12 w Q) : P83_2 x0 x9 x11 x12 w Q :=
  part_jnE mixed entOk Try.func83 H83 (by kernel_rfl) h
theorem L83_3_ok {w : World} {Q : Value → World → Prop} (h : L83_3  w Q) : P83_3  w Q :=
  part_jnE mixed entOk Try.func83 H83 (by kernel_rfl) h
theorem L83_4_ok {x0 x9 x11 x12 : Value} {w : World} {Q : Value → World → Prop} (h : L83_4 x0 x9 x11 x12 w Q) : P83_4 x0 x9 x11 x12 w Q :=
  part_jnE mixed entOk Try.func83 H83 (by kernel_rfl) h

noncomputable def C84 : Code := (Try.f84.body).getD .skip
noncomputable def H84 : Hints := ⟨[(2, [0, 1, 7, 8])], [], []⟩
noncomputable def T84_0 : List It := [.lp (nav [1, 0, 1, 4, 5] C84), .blk 0, .jn (nav [1, 1] C84)]
/-- slices.Index[[]int,int], from a loop's head on -/
def P84_0 (x0 x1 x7 x8 : Value) (w : World) (Q : Value → World → Prop) : Prop := Part Try.prog 84 T84_0 [0, 1, 7, 8] [x0, x1, x7, x8] w Q
def F84 (a0 a1 : Value) (w : World) (Q : Value → World → Prop) : Prop :=
  wpB (pureRun Try.prog (Builtin.len_ #[36] 3 #[a0])) fun t7 =>
  P84_0 a0 a1 t7 (.int .i64 0) w Q
def L84_0 (x0 x1 x7 x8 : Value) (w : World) (Q : Value → World → Prop) : Prop :=
  wpB (bp Try.prog .lss 3 x8 x7) fun t9 =>
  cnd t9
  (wpB (pureRun Try.prog (Instr.indexAt 36 x0 x8)) fun t14 =>
  wpB (ldv Try.prog 3 t14 w) fun t15 =>
  wpB (be Try.prog .eql 3 (.tmp 11) (.tmp 15) x1 t15) fun t16 =>
  cnd t16
  (Q x8 w)
  (wpB (bp Try.prog .add 3 x8 (.int .i64 1)) fun t18 =>
  P84_0 x0 x1 x7 t18 w Q))
  (Q (.int .i64 (-1)) w)
theorem F84_ok {a0 a1 : Value} {w : World} {Q : Value → World → Prop} (h : F84 a0 a1 w Q) : CallR Try.prog 84 [a0, a1] w Q :=
  call_ofE mixed entOk Try.func84 (c := C84) rfl H84 (Nat.le_of_ble_eq_true rfl) (by kernel_rfl) h
theorem L84_0_ok {x0 x1 x7 x8 : Value} {w : World} {Q : Value → World → Prop} (h : L84_0 x0 x1 x7 x8 w Q) : P84_0 x0 x1 x7 x8 w Q :=
  part_lpE mixed entOk Try.func84 H84 (by kernel_rfl) h

noncomputable def C85 : Code := (Try.f85.body).getD .skip
noncomputable def H85 : Hints := ⟨[], [], [(6, (.leaf [0, 1, 2, 3, 4, 5, 6, 7, 8, 9, 10]))]⟩
def F85 (a0 a1 a2 : Value) (w : World) (Q : Value → World → Prop) : Prop :=
  effv Try.prog (Instr.box 27 a1) w fun t4 w =>
  wpB (ldv Try.prog 27 t4 w) fun t9 =>
  CallR Try.prog 59 [t9] w fun t10 w =>
  CallR Try.prog 58 [a0, t10] w fun t11 w =>
  wpB (be Try.prog .eql 99 (.tmp 12) (.const (.pointer none)) t11 (.pointer none)) fun t13 =>
  cnd t13
  (Q (.bool false) w)
  (wpB (pureRun Try.prog (Instr.fieldAt 27 t4 4)) fun t14 =>
  wpB (ldv Try.prog 3 t14 w) fun t15 =>
  wpB (be Try.prog .eql 3 (.tmp 15) (.const (.int .i64 0)) t15 (.int .i64 0)) fun t16 =>
  cnd t16
  (wpB (pureRun Try.prog (Instr.fieldAt 27 t4 2)) fun t17 =>
  wpB (ldv Try.prog 3 t17 w) fun t18 =>
  wpB (be Try.prog .eql 3 (.tmp 18) (.const (.int .i64 0)) t18 (.int .i64 0)) fun t19 =>
  wpB (gd t19 true (pureRun Try.prog (Instr.fieldAt 27 t4 3))) fun t21 =>
  wpB (gd t19 true (ldv Try.prog 3 t21 w)) fun t22 =>
  wpB (gd t19 true (be Try.prog .eql 3 (.tmp 22) (.const (.int .i64 0)) t22 (.int .i64 0))) fun t23 =>
  wpB (pickv t19 (some t23) (some (.bool false))) fun t24 =>
  wpB (gd t24 true (be Try.prog .neq 3 (.tmp 26) (.const (.int .i64 2)) (gv t24 true a2) (.int .i64 2))) fun t27 =>
  wpB (pickv t24 (some t27) (some (.bool false))) fun t28 =>
  Q t28 w)
  (wpB (be Try.prog .neq 3 (.tmp 29) (.const (.int .i64 1)) a2 (.int .i64 1)) fun t30 =>
  wpB (gd t30 true (nilv (gv t30 true t11))) fun t33 =>
  wpB (gd t30 true (pureRun Try.prog (Instr.fieldAt 98 t33 5))) fun t34 =>
  wpB (gd t30 true (ldv Try.prog 48 t34 w.drew)) fun t35 =>
  wpB (gd t30 true (ldv Try.prog 27 t4 w.drew)) fun t36 =>
  gE t30 true (CallR Try.prog 108 [t35, t36] w.drew) (fun t37 w =>
  wpB (pickv t30 (some t37) (some (.bool false))) fun t38 =>
  Q t38 w) w.drew))
theorem F85_ok {a0 a1 a2 : Value} {w : World} {Q : Value → World → Prop} (h : F85 a0 a1 a2 w Q) : CallR Try.prog 85 [a0, a1, a2] w Q :=
  call_ofE mixed entOk Try.func85 (c := C85) rfl H85 (Nat.le_of_ble_eq_true rfl) (by kernel_rfl) h

noncomputable def C86 : Code := (Try.f86.body).getD .skip
noncomputable def H86 : Hints := ⟨[], [], [(1, (.leaf [0, 1, 2, 3, 4, 5, 6, 7, 8, 9, 10, 11, 12, 13, 14, 15, 16, 17, 18]))]⟩
def F86 (a0 a1 : Value) (w : World) (Q : Value → World → Prop) : Prop :=
  effv Try.prog (Instr.box 95 a1) w fun t3 w =>
  wpB (pureRun Try.prog (Instr.fieldAt 95 t3 0)) fun t6 =>
  wpB (ldv Try.prog 3 t6 w.drew) fun t7 =>
  CallR Try.prog 43 [a0, t7] w.drew fun t8 w =>
  wpB (gd t8 true (nilv (gv t8 true a0))) fun t11 =>
  wpB (gd t8 true (pureRun Try.prog (Instr.fieldAt 72 t11 2))) fun t12 =>
  wpB (gd t8 true (ldv Try.prog 68 t12 w)) fun t13 =>
  wpB (gd t8 true (pureRun Try.prog (Instr.fieldAt 95 t3 0))) fun t14 =>
  wpB (gd t8 true (ldv Try.prog 3 t14 w)) fun t15 =>
  wpB (gd t8 true (pureRun Try.prog (Instr.indexAt 68 t13 t15))) fun t16 =>
  wpB (gd t8 true (ldv Try.prog 80 t16 w)) fun t17 =>
  wpB (gd t8 true (pureRun Try.prog (Instr.fieldAt 95 t3 1))) fun t18 =>
  wpB (gd t8 true (ldv Try.prog 3 t18 w)) fun t19 =>
  wpB (gd t8 true (pureRun Try.prog (Instr.build 80 #[(0, (.int .i64 1)), (1, t19)]))) fun t20 =>
  wpB (gd t8 true (be Try.prog .eql 80 (.tmp 17) (.tmp 20) t17 t20)) fun t21 =>
  wpB (pickv t8 (some t21) (some (.bool false))) fun t22 =>
  Q t22 w
theorem F86_ok {a0 a1 : Value} {w : World} {Q : Value → World → Prop} (h : F86 a0 a1 w Q) : CallR Try.prog 86 [a0, a1] w Q :=
  call_ofE mixed entOk Try.func86 (c := C86) rfl H86 (Nat.le_of_ble_eq_true rfl) (by kernel_rfl) h

noncomputable def C87 : Code := (Try.f87.body).getD .skip
noncomputable def H87 : Hints := ⟨[(1, [0, 1, 2, 3, 8]), (4, [0, 1, 2, 3, 8, 9])], [], [(4, (.leaf [0, 1, 2, 3, 4, 5, 6, 7, 8, 9, 10, 11, 12, 13, 14, 15, 16])), (6, (.leaf [0, 1, 2, 3, 4, 5, 6, 7, 8, 9, 10, 11, 12, 13, 14, 15, 16, 17]))]⟩
noncomputable def T87_0 : List It := [.lp (nav [1, 4, 5] C87), .blk 0]
noncomputable def T87_1 : List It := [.lp (nav [1, 4, 5, 1, 0, 4, 1, 4, 5] C87), .blk 2, .blk 1, .jn (nav [1, 4, 5, 1, 1] C87), .lp (nav [1, 4, 5] C87), .blk 0]
/-- slices.insertionSortCmpFunc[rundale/order.Event], from a loop's head on -/
def P87_0 (x0 x1 x2 x3 x8 : Value) (w : World) (Q : Value → World → Prop) : Prop := Part Try.prog 87 T87_0 [0, 1, 2, 3, 8] [x0, x1, x2, x3, x8] w Q
/-- slices.insertionSortCmpFunc[rundale/order.Event], from a loop's head on -/
def P87_1 (x0 x1 x2 x3 x8 x9 : Value) (w : World) (Q : Value → World → Prop) : Prop := Part Try.prog 87 T87_1 [0, 1, 2, 3, 8, 9] [x0, x1, x2, x3, x8, x9] w Q
def F87 (a0 a1 a2 a3 : Value) (w : World) (Q : Value → World → Prop) : Prop :=
  wpB (bp Try.prog .add 3 a1 (.int .i64 1)) fun t11 =>
  P87_0 a0 a1 a2 a3 t11 w Q
def L87_0 (x0 x1 x2 x3 x8 : Value) (w : World) (Q : Value → World → Prop) : Prop :=
  wpB (bp Try.prog .lss 3 x8 x2) fun t14 =>
  cnd t14
  (P87_1 x0 x1 x2 x3 x8 x8 w Q)
  (Q (.tuple #[]) w)
def L87_1 (x0 x1 x2 x3 x8 x9 : Value) (w : World) (Q : Value → World → Prop) : Prop :=
  wpB (bp Try.prog .gtr 3 x9 x1) fun t20 =>
  wpB (gd t20 true (pureRun Try.prog (Instr.indexAt 56 (gv t20 true x0) (gv t20 true x9)))) fun t25 =>
  wpB (gd t20 true (ldv Try.prog 59 t25 w.drew)) fun t26 =>
  wpB (gd t20 true (bp Try.prog .sub 3 (gv t20 true x9) (.int .i64 1))) fun t29 =>
  wpB (gd t20 true (pureRun Try.prog (Instr.indexAt 56 (gv t20 true x0) t29))) fun t30 =>
  wpB (gd t20 true (ldv Try.prog 59 t30 w.drew)) fun t31 =>
  evG Try.prog (callK (entR 3 116) (some (gv t20 true x3)) (some [t26, t31])) t20 true w.drew fun t32 w =>
  wpB (gd t20 true (bp Try.prog .lss 3 t32 (.int .i64 0))) fun t33 =>
  wpB (pickv t20 (some t33) (some (.bool false))) fun t34 =>
  cnd t34
  (wpB (bp Try.prog .sub 3 x9 (.int .i64 1)) fun t41 =>
  wpB (bp Try.prog .sub 3 x9 (.int .i64 1)) fun t44 =>
  wpB (pureRun Try.prog (Instr.indexAt 56 x0 t44)) fun t45 =>
  wpB (ldv Try.prog 59 t45 w.drew) fun t46 =>
  wpB (pureRun Try.prog (Instr.indexAt 56 x0 x9)) fun t49 =>
  wpB (ldv Try.prog 59 t49 w.drew) fun t50 =>
  wpB (pureRun Try.prog (Instr.indexAt 56 x0 x9)) fun t51 =>
  effu Try.prog (Instr.storeAt 59 t51 t46) w.drew fun w =>
  wpB (pureRun Try.prog (Instr.indexAt 56 x0 t41)) fun t52 =>
  effu Try.prog (Instr.storeAt 59 t52 t50) w fun w =>
  wpB (bp Try.prog .sub 3 x9 (.int .i64 1)) fun t36 =>
  P87_1 x0 x1 x2 x3 x8 t36 w Q)
  (wpB (bp Try.prog .add 3 x8 (.int .i64 1)) fun t16 =>
  P87_0 x0 x1 x2 x3 t16 w Q)
theorem F87_ok {a0 a1 a2 a3 : Value} {w : World} {Q : Value → World → Prop} (h : F87 a0 a1 a2 a3 w Q) : CallR Try.prog 87 [a0, a1, a2, a3] w Q :=
  call_ofE mixed entOk Try.func87 (c := C87) rfl H87 (Nat.le_of_ble_eq_true rfl) (by kernel_rfl) h
theorem L87_0_ok {x0 x1 x2 x3 x8 : Value} {w : World} {Q : Value → World → Prop} (h : L87_0 x0 x1 x2 x3 x8 w Q) : P87_0 x0 x1 x2 x3 x8 w Q :=
  part_lpE mixed entOk Try.func87 H87 (by kernel_rfl) h
theorem L87_1_ok {x0 x1 x2 x3 x8 x9 : Value} {w : World} {Q : Value → World → Prop} (h : L87_1 x0 x1 x2 x3 x8 x9 w Q) : P87_1 x0 x1 x2 x3 x8 x9 w Q :=
  part_lpE mixed entOk Try.func87 H87 (by kernel_rfl) h

noncomputable def C89 : Code := (Try.f89.body).getD .skip
noncomputable def H89 : Hints := ⟨[], [], []⟩
def F89 (a0 a1 : Value) (w : World) (Q : Value → World → Prop) : Prop :=
  wpB (bp Try.prog .geq 3 a0 (.int .i64 0)) fun t6 =>
  wpB (gd t6 true (bp Try.prog .leq 3 (gv t6 true a0) (gv t6 true a1))) fun t10 =>
  wpB (pickv t6 (some t10) (some (.bool false))) fun t11 =>
  Q t11 w
theorem F89_ok {a0 a1 : Value} {w : World} {Q : Value → World → Prop} (h : F89 a0 a1 w Q) : CallR Try.prog 89 [a0, a1] w Q :=
  call_ofE mixed entOk Try.func89 (c := C89) rfl H89 (Nat.le_of_ble_eq_true rfl) (by kernel_rfl) h

noncomputable def C90 : Code := (Try.f90.body).getD .skip
noncomputable def H90 : Hints := ⟨[(2, [0, 3, 7, 8])], [], [(4, (.leaf [0, 1, 2, 3, 4, 5]))]⟩
noncomputable def T90_0 : List It := [.lp (nav [1, 0, 1, 4, 5] C90), .blk 0, .jn (nav [1, 1] C90)]
/-- slices.Index[[]rundale/model.name,rundale/model.name], from a loop's head on -/
def P90_0 (x0 x3 x7 x8 : Value) (w : World) (Q : Value → World → Prop) : Prop := Part Try.prog 90 T90_0 [0, 3, 7, 8] [x0, x3, x7, x8] w Q
def F90 (a0 a1 : Value) (w : World) (Q : Value → World → Prop) : Prop :=
  effv Try.prog (Instr.box 95 a1) w fun t3 w =>
  wpB (pureRun Try.prog (Builtin.len_ #[104] 3 #[a0])) fun t7 =>
  P90_0 a0 t3 t7 (.int .i64 0) w Q
def L90_0 (x0 x3 x7 x8 : Value) (w : World) (Q : Value → World → Prop) : Prop :=
  wpB (bp Try.prog .lss 3 x8 x7) fun t9 =>
  cnd t9
  (wpB (ldv Try.prog 95 x3 w.drew) fun t11 =>
  wpB (pureRun Try.prog (Instr.indexAt 104 x0 x8)) fun t14 =>
  wpB (ldv Try.prog 95 t14 w.drew) fun t15 =>
  wpB (be Try.prog .eql 95 (.tmp 11) (.tmp 15) t11 t15) fun t16 =>
  cnd t16
  (Q x8 w.drew)
  (wpB (bp Try.prog .add 3 x8 (.int .i64 1)) fun t18 =>
  P90_0 x0 x3 x7 t18 w.drew Q))
  (Q (.int .i64 (-1)) w)
theorem F90_ok {a0 a1 : Value} {w : World} {Q : Value → World → Prop} (h : F90 a0 a1 w Q) : CallR Try.prog 90 [a0, a1] w Q :=
  call_ofE mixed entOk Try.func90 (c := C90) rfl H90 (Nat.le_of_ble_eq_true rfl) (by kernel_rfl) h
theorem L90_0_ok {x0 x3 x7 x8 : Value} {w : World} {Q : Value → World → Prop} (h : L90_0 x0 x3 x7 x8 w Q) : P90_0 x0 x3 x7 x8 w Q :=
  part_lpE mixed entOk Try.func90 H90 (by kernel_rfl) h

noncomputable def C91 : Code := (Try.f91.body).getD .skip
noncomputable def H91 : Hints := ⟨[], [], []⟩
def F91 (a0 a1 a2 : Value) (w : World) (Q : Value → World → Prop) : Prop :=
  CallR Try.prog 92 [a0, a2] w fun t9 w =>
  gE t9 true (CallR Try.prog 93 [(gv t9 true a0), (gv t9 true a2)] w) (fun t13 w =>
  wpB (gd t9 true (pureRun Try.prog (Op.unary .not t13))) fun t14 =>
  wpB (pickv t9 (some t14) (some (.bool false))) fun t15 =>
  wpB (gd t15 true (bp Try.prog .geq 3 (gv t15 true a1) (.int .i64 0))) fun t18 =>
  wpB (pickv t15 (some t18) (some (.bool false))) fun t19 =>
  wpB (gd t19 true (bp Try.prog .sub 3 (gv t19 true a0) (gv t19 true a2))) fun t24 =>
  wpB (gd t19 true (bp Try.prog .leq 3 (gv t19 true a1) t24)) fun t25 =>
  wpB (pickv t19 (some t25) (some (.bool false))) fun t26 =>
  Q t26 w) w
theorem F91_ok {a0 a1 a2 : Value} {w : World} {Q : Value → World → Prop} (h : F91 a0 a1 a2 w Q) : CallR Try.prog 91 [a0, a1, a2] w Q :=
  call_ofE mixed entOk Try.func91 (c := C91) rfl H91 (Nat.le_of_ble_eq_true rfl) (by kernel_rfl) h

noncomputable def C92 : Code := (Try.f92.body).getD .skip
noncomputable def H92 : Hints := ⟨[], [], []⟩
def F92 (a0 a1 : Value) (w : World) (Q : Value → World → Prop) : Prop :=
  wpB (bp Try.prog .geq 3 a0 (.int .i64 1)) fun t6 =>
  wpB (gd t6 true (bp Try.prog .leq 3 (gv t6 true a0) (.int .i64 1024))) fun t9 =>
  wpB (pickv t6 (some t9) (some (.bool false))) fun t10 =>
  wpB (gd t10 true (bp Try.prog .geq 3 (gv t10 true a1) (.int .i64 1))) fun t13 =>
  wpB (pickv t10 (some t13) (some (.bool false))) fun t14 =>
  wpB (gd t14 true (bp Try.prog .leq 3 (gv t14 true a1) (gv t14 true a0))) fun t18 =>
  wpB (pickv t14 (some t18) (some (.bool false))) fun t19 =>
  Q t19 w
theorem F92_ok {a0 a1 : Value} {w : World} {Q : Value → World → Prop} (h : F92 a0 a1 w Q) : CallR Try.prog 92 [a0, a1] w Q :=
  call_ofE mixed entOk Try.func92 (c := C92) rfl H92 (Nat.le_of_ble_eq_true rfl) (by kernel_rfl) h

noncomputable def C93 : Code := (Try.f93.body).getD .skip
noncomputable def H93 : Hints := ⟨[], [], []⟩
def F93 (a0 a1 : Value) (w : World) (Q : Value → World → Prop) : Prop :=
  CallR Try.prog 92 [a0, a1] w fun t7 w =>
  wpB (gd t7 true (bp Try.prog .mul 3 (.int .i64 2) (gv t7 true a1))) fun t10 =>
  wpB (gd t7 true (bp Try.prog .gtr 3 t10 (gv t7 true a0))) fun t12 =>
  wpB (pickv t7 (some t12) (some (.bool false))) fun t13 =>
  Q t13 w
theorem F93_ok {a0 a1 : Value} {w : World} {Q : Value → World → Prop} (h : F93 a0 a1 w Q) : CallR Try.prog 93 [a0, a1] w Q :=
  call_ofE mixed entOk Try.func93 (c := C93) rfl H93 (Nat.le_of_ble_eq_true rfl) (by kernel_rfl) h

noncomputable def C94 : Code := (Try.f94.body).getD .skip
noncomputable def H94 : Hints := ⟨[], [], []⟩
def F94 (a0 : Value) (w : World) (Q : Value → World → Prop) : Prop :=
  wpB (be Try.prog .eql 3 (.tmp 3) (.const (.int .i64 1)) a0 (.int .i64 1)) fun t4 =>
  wpB (gd t4 false (be Try.prog .eql 3 (.tmp 6) (.const (.int .i64 2)) (gv t4 false a0) (.int .i64 2))) fun t7 =>
  wpB (pickv t4 (some (.bool true)) (some t7)) fun t8 =>
  wpB (gd t8 false (bp Try.prog .geq 3 (gv t8 false a0) (.int .i64 6))) fun t11 =>
  wpB (gd (gv t8 false t11) true (bp Try.prog .leq 3 (gv (gv t8 false t11) true a0) (.int .i64 9))) fun t14 =>
  wpB (gd t8 false (pickv (gv t8 false t11) (some t14) (some (.bool false)))) fun t15 =>
  wpB (pickv t8 (some (.bool true)) (some t15)) fun t16 =>
  Q t16 w
theorem F94_ok {a0 : Value} {w : World} {Q : Value → World → Prop} (h : F94 a0 w Q) : CallR Try.prog 94 [a0] w Q :=
  call_ofE mixed entOk Try.func94 (c := C94) rfl H94 (Nat.le_of_ble_eq_true rfl) (by kernel_rfl) h

noncomputable def C95 : Code := (Try.f95.body).getD .skip
noncomputable def H95 : Hints := ⟨[], [], []⟩
def F95 (a0 a1 a2 : Value) (w : World) (Q : Value → World → Prop) : Prop :=
  wpB (bp Try.prog .geq 3 a0 a1) fun t9 =>
  wpB (gd t9 true (bp Try.prog .leq 3 (gv t9 true a0) (gv t9 true a2))) fun t13 =>
  wpB (pickv t9 (some t13) (some (.bool false))) fun t14 =>
  Q t14 w
theorem F95_ok {a0 a1 a2 : Value} {w : World} {Q : Value → World → Prop} (h : F95 a0 a1 a2 w Q) : CallR Try.prog 95 [a0, a1, a2] w Q :=
  call_ofE mixed entOk Try.func95 (c := C95) rfl H95 (Nat.le_of_ble_eq_true rfl) (by kernel_rfl) h

noncomputable def C96 : Code := (Try.f96.body).getD .skip
noncomputable def H96 : Hints := ⟨[], [], []⟩
def F96 (a0 : Value) (w : World) (Q : Value → World → Prop) : Prop :=
  wpB (bp Try.prog .geq 3 a0 (.int .i64 7)) fun t4 =>
  wpB (gd t4 true (bp Try.prog .leq 3 (gv t4 true a0) (.int .i64 9))) fun t7 =>
  wpB (pickv t4 (some t7) (some (.bool false))) fun t8 =>
  Q t8 w
theorem F96_ok {a0 : Value} {w : World} {Q : Value → World → Prop} (h : F96 a0 w Q) : CallR Try.prog 96 [a0] w Q :=
  call_ofE mixed entOk Try.func96 (c := C96) rfl H96 (Nat.le_of_ble_eq_true rfl) (by kernel_rfl) h

noncomputable def C97 : Code := (Try.f97.body).getD .skip
noncomputable def H97 : Hints := ⟨[], [], []⟩
def F97 (a0 a1 a2 : Value) (w : World) (Q : Value → World → Prop) : Prop :=
  effv Try.prog (Instr.box 29 a1) w fun t4 w =>
  effv Try.prog (Instr.box 27 a2) w fun t5 w =>
  wpB (ldv Try.prog 27 t5 w) fun t11 =>
  CallR Try.prog 110 [a0, t11] w fun t12 w =>
  wpB (pureRun Try.prog (Instr.extract t12 0)) fun t13 =>
  wpB (pureRun Try.prog (Instr.extract t12 1)) fun t14 =>
  wpB (pureRun Try.prog (Instr.fieldAt 29 t4 0)) fun t15 =>
  wpB (ldv Try.prog 3 t15 w) fun t16 =>
  CallR Try.prog 53 [t16] w fun t17 w =>
  wpB (be Try.prog .eql 3 (.tmp 17) (.const (.int .i64 1)) t17 (.int .i64 1)) fun t19 =>
  cnd t19
  (Q t13 w)
  (wpB (be Try.prog .eql 3 (.tmp 17) (.const (.int .i64 2)) t17 (.int .i64 2)) fun t22 =>
  cnd t22
  (Q t14 w)
  (wpB (be Try.prog .eql 3 (.tmp 17) (.const (.int .i64 3)) t17 (.int .i64 3)) fun t25 =>
  cnd t25
  (wpB (pickv t13 (some (.bool true)) (some (gv t13 false t14))) fun t29 =>
  Q t29 w)
  (Q (.bool true) w)))
theorem F97_ok {a0 a1 a2 : Value} {w : World} {Q : Value → World → Prop} (h : F97 a0 a1 a2 w Q) : CallR Try.prog 97 [a0, a1, a2] w Q :=
  call_ofE mixed entOk Try.func97 (c := C97) rfl H97 (Nat.le_of_ble_eq_true rfl) (by kernel_rfl) h

noncomputable def C98 : Code := (Try.f98.body).getD .skip
noncomputable def H98 : Hints := ⟨[(2, [0, 1, 2, 7])], [], []⟩
noncomputable def T98_0 : List It := [.lp (nav [1, 0, 1, 4, 5] C98), .blk 0, .jn (nav [1, 1] C98)]
/-- (*rundale/rundaleref24.Model).find, from a loop's head on -/
def P98_0 (x0 x1 x2 x7 : Value) (w : World) (Q : Value → World → Prop) : Prop := Part Try.prog 98 T98_0 [0, 1, 2, 7] [x0, x1, x2, x7] w Q
def F98 (a0 a1 a2 : Value) (w : World) (Q : Value → World → Prop) : Prop :=
  P98_0 a0 a1 a2 (.int .i64 0) w Q
def L98_0 (x0 x1 x2 x7 : Value) (w : World) (Q : Value → World → Prop) : Prop :=
  wpB (nilv x0) fun t10 =>
  wpB (pureRun Try.prog (Instr.fieldAt 126 t10 4)) fun t11 =>
  wpB (ldv Try.prog 124 t11 w) fun t12 =>
  wpB (pureRun Try.prog (Builtin.len_ #[124] 3 #[t12])) fun t13 =>
  wpB (bp Try.prog .lss 3 x7 t13) fun t14 =>
  cnd t14
  (wpB (nilv x0) fun t18 =>
  wpB (pureRun Try.prog (Instr.fieldAt 126 t18 4)) fun t19 =>
  wpB (ldv Try.prog 124 t19 w) fun t20 =>
  wpB (pureRun Try.prog (Instr.indexAt 124 t20 x7)) fun t22 =>
  wpB (pureRun Try.prog (Instr.fieldAt 138 t22 0)) fun t23 =>
  wpB (ldv Try.prog 3 t23 w) fun t24 =>
  wpB (be Try.prog .eql 3 (.tmp 24) (.tmp 25) t24 x1) fun t26 =>
  wpB (gd t26 true (nilv (gv t26 true x0))) fun t29 =>
  wpB (gd t26 true (pureRun Try.prog (Instr.fieldAt 126 t29 4))) fun t30 =>
  wpB (gd t26 true (ldv Try.prog 124 t30 w)) fun t31 =>
  wpB (gd t26 true (pureRun Try.prog (Instr.indexAt 124 t31 (gv t26 true x7)))) fun t33 =>
  wpB (gd t26 true (pureRun Try.prog (Instr.fieldAt 138 t33 1))) fun t34 =>
  wpB (gd t26 true (ldv Try.prog 3 t34 w)) fun t35 =>
  wpB (gd t26 true (be Try.prog .eql 3 (.tmp 35) (.tmp 36) t35 (gv t26 true x2))) fun t37 =>
  wpB (pickv t26 (some t37) (some (.bool false))) fun t38 =>
  cnd t38
  (Q x7 w)
  (wpB (bp Try.prog .add 3 x7 (.int .i64 1)) fun t16 =>
  P98_0 x0 x1 x2 t16 w Q))
  (Q (.int .i64 (-1)) w)
theorem F98_ok {a0 a1 a2 : Value} {w : World} {Q : Value → World → Prop} (h : F98 a0 a1 a2 w Q) : CallR Try.prog 98 [a0, a1, a2] w Q :=
  call_ofE mixed entOk Try.func98 (c := C98) rfl H98 (Nat.le_of_ble_eq_true rfl) (by kernel_rfl) h
theorem L98_0_ok {x0 x1 x2 x7 : Value} {w : World} {Q : Value → World → Prop} (h : L98_0 x0 x1 x2 x7 w Q) : P98_0 x0 x1 x2 x7 w Q :=
  part_lpE mixed entOk Try.func98 H98 (by kernel_rfl) h

noncomputable def C99 : Code := (Try.f99.body).getD .skip
noncomputable def H99 : Hints := ⟨[(2, [0, 1, 2, 3, 9])], [], []⟩
noncomputable def T99_0 : List It := [.lp (nav [1, 0, 1, 4, 5] C99), .blk 0, .jn (nav [1, 1] C99)]
/-- (*rundale/rundaleref24.Model).holds, from a loop's head on -/
def P99_0 (x0 x1 x2 x3 x9 : Value) (w : World) (Q : Value → World → Prop) : Prop := Part Try.prog 99 T99_0 [0, 1, 2, 3, 9] [x0, x1, x2, x3, x9] w Q
def F99 (a0 a1 a2 a3 : Value) (w : World) (Q : Value → World → Prop) : Prop :=
  P99_0 a0 a1 a2 a3 (.int .i64 0) w Q
def L99_0 (x0 x1 x2 x3 x9 : Value) (w : World) (Q : Value → World → Prop) : Prop :=
  wpB (nilv x0) fun t12 =>
  wpB (pureRun Try.prog (Instr.fieldAt 126 t12 6)) fun t13 =>
  wpB (ldv Try.prog 123 t13 w) fun t14 =>
  wpB (pureRun Try.prog (Instr.indexAt 123 t14 x1)) fun t16 =>
  wpB (ldv Try.prog 139 t16 w) fun t17 =>
  wpB (pureRun Try.prog (Builtin.len_ #[139] 3 #[t17])) fun t18 =>
  wpB (bp Try.prog .lss 3 x9 t18) fun t19 =>
  cnd t19
  (wpB (nilv x0) fun t23 =>
  wpB (pureRun Try.prog (Instr.fieldAt 126 t23 6)) fun t24 =>
  wpB (ldv Try.prog 123 t24 w) fun t25 =>
  wpB (pureRun Try.prog (Instr.indexAt 123 t25 x1)) fun t27 =>
  wpB (ldv Try.prog 139 t27 w) fun t28 =>
  wpB (pureRun Try.prog (Instr.indexAt 139 t28 x9)) fun t30 =>
  wpB (ldv Try.prog 142 t30 w) fun t31 =>
  wpB (pureRun Try.prog (Instr.build 142 #[(0, x2), (1, x3)])) fun t34 =>
  wpB (be Try.prog .eql 142 (.tmp 31) (.tmp 34) t31 t34) fun t35 =>
  cnd t35
  (Q (.bool true) w)
  (wpB (bp Try.prog .add 3 x9 (.int .i64 1)) fun t21 =>
  P99_0 x0 x1 x2 x3 t21 w Q))
  (Q (.bool false) w)
theorem F99_ok {a0 a1 a2 a3 : Value} {w : World} {Q : Value → World → Prop} (h : F99 a0 a1 a2 a3 w Q) : CallR Try.prog 99 [a0, a1, a2, a3] w Q :=
  call_ofE mixed entOk Try.func99 (c := C99) rfl H99 (Nat.le_of_ble_eq_true rfl) (by kernel_rfl) h
theorem L99_0_ok {x0 x1 x2 x3 x9 : Value} {w : World} {Q : Value → World → Prop} (h : L99_0 x0 x1 x2 x3 x9 w Q) : P99_0 x0 x1 x2 x3 x9 w Q :=
  part_lpE mixed entOk Try.func99 H99 (by kernel_rfl) h

noncomputable def C100 : Code := (Try.f100.body).getD .skip
noncomputable def H100 : Hints := ⟨[], [(6, [8, 10, 11]), (9, [8, 10, 11, 57, 58]), (13, [10])], [(5, (.ask 3 17 (.ask 7 17 (.ask 21 17 (.ask 23 17 (.leaf [0, 1, 2, 4, 8, 9, 10, 12, 15, 20, 22, 3, 5, 6, 7, 11, 13, 14, 16, 21, 23, 24, 17, 18, 19, 25, 26, 27]) (.leaf [0, 1, 2, 4, 8, 9, 10, 12, 15, 20, 22, 3, 5, 6, 7, 11, 13, 14, 16, 21, 17, 18, 19, 23, 24, 25, 26, 27])) (.ask 23 17 (.leaf [0, 1, 2, 4, 8, 9, 10, 12, 15, 20, 22, 3, 5, 6, 7, 11, 13, 14, 16, 23, 17, 18, 19, 21, 24, 25, 26, 27]) (.leaf [0, 1, 2, 3, 4, 5, 6, 7, 8, 9, 10, 11, 12, 13, 14, 15, 16, 17, 18, 19, 20, 21, 22, 23, 24, 25, 26, 27]))) (.ask 21 17 (.ask 23 17 (.leaf [0, 1, 2, 4, 8, 9, 10, 12, 15, 20, 22, 3, 5, 6, 11, 13, 14, 16, 21, 23, 24, 17, 7, 18, 19, 25, 26, 27]) (.leaf [0, 1, 2, 4, 8, 9, 10, 12, 15, 20, 22, 3, 5, 6, 11, 13, 14, 16, 21, 17, 7, 18, 19, 23, 24, 25, 26, 27])) (.ask 23 17 (.leaf [0, 1, 2, 4, 8, 9, 10, 12, 15, 20, 22, 3, 5, 6, 11, 13, 14, 16, 23, 17, 7, 18, 19, 21, 24, 25, 26, 27]) (.leaf [0, 1, 2, 4, 8, 9, 10, 12, 15, 20, 22, 3, 5, 6, 11, 13, 14, 16, 17, 7, 18, 19, 21, 23, 24, 25, 26, 27])))) (.ask 21 17 (.ask 23 17 (.leaf [0, 1, 2, 4, 8, 9, 10, 12, 15, 20, 22, 11, 13, 14, 16, 21, 23, 24, 17, 3, 5, 6, 7, 18, 19, 25, 26, 27]) (.leaf [0, 1, 2, 4, 8, 9, 10, 12, 15, 20, 22, 11, 13, 14, 16, 21, 17, 3, 5, 6, 7, 18, 19, 23, 24, 25, 26, 27])) (.ask 23 17 (.leaf [0, 1, 2, 4, 8, 9, 10, 12, 15, 20, 22, 11, 13, 14, 16, 23, 17, 3, 5, 6, 7, 18, 19, 21, 24, 25, 26, 27]) (.leaf [0, 1, 2, 4, 8, 9, 10, 12, 15, 20, 22, 11, 13, 14, 16, 17, 3, 5, 6, 7, 18, 19, 21, 23, 24, 25, 26, 27])))))]⟩
noncomputable def T100_0 : List It := [.jn (nav [1, 1, 1] C100)]
noncomputable def T100_1 : List It := [.jn (nav [1, 1, 1, 0, 1, 4, 1] C100), .blk 1, .jn (nav [1, 1, 1, 1] C100)]
noncomputable def T100_2 : List It := [.jn (nav [1, 1, 1, 1] C100)]
/-- (*rundale/rundaleref24.Model).touch, from a join on -/
def P100_0 (x8 x10 x11 : Value) (w : World) (Q : Value → World → Prop) : Prop := Part Try.prog 100 T100_0 [8, 10, 11] [x8, x10, x11] w Q
/-- (*rundale/rundaleref24.Model).touch, from a join on -/
def P100_1 (x8 x10 x11 x57 x58 : Value) (w : World) (Q : Value → World → Prop) : Prop := Part Try.prog 100 T100_1 [8, 10, 11, 57, 58] [x8, x10, x11, x57, x58] w Q
/-- (*rundale/rundaleref24.Model).touch, from a join on -/
def P100_2 (x10 : Value) (w : World) (Q : Value → World → Prop) : Prop := Part Try.prog 100 T100_2 [10] [x10] w Q
def F100 (a0 a1 a2 a3 a4 : Value) (w : World) (Q : Value → World → Prop) : Prop :=
  effv Try.prog (Instr.box 29 a3) w fun t8 w =>
  effv Try.prog (Instr.box 27 a4) w fun t9 w =>
  effv Try.prog (Instr.alloc 32 true (.tuple #[])) w fun t10 w =>
  wpB (pureRun Try.prog (Instr.fieldAt 27 t9 0)) fun t15 =>
  wpB (ldv Try.prog 3 t15 w) fun t16 =>
  wpB (pureRun Try.prog (Instr.fieldAt 27 t9 1)) fun t17 =>
  wpB (ldv Try.prog 3 t17 w) fun t18 =>
  CallR Try.prog 99 [a0, a1, t16, t18] w fun t19 w =>
  wpB (pureRun Try.prog (Op.unary .not t19)) fun t20 =>
  cnd t20
  (wpB (pureRun Try.prog (Instr.build 32 #[(0, (.int .i64 4))])) fun t21 =>
  effu Try.prog (Instr.storeAt 32 t10 t21) w fun w =>
  wpB (ldv Try.prog 32 t10 w) fun r10 => Q r10 w)
  (wpB (pureRun Try.prog (Instr.fieldAt 29 t8 3)) fun t23 =>
  wpB (ldv Try.prog 3 t23 w) fun t24 =>
  wpB (pureRun Try.prog (Instr.fieldAt 27 t9 4)) fun t25 =>
  wpB (ldv Try.prog 3 t25 w) fun t26 =>
  wpB (bp Try.prog .geq 3 t24 t26) fun t27 =>
  cnd t27
  (wpB (pureRun Try.prog (Instr.build 32 #[(0, (.int .i64 5))])) fun t28 =>
  effu Try.prog (Instr.storeAt 32 t10 t28) w fun w =>
  wpB (ldv Try.prog 32 t10 w) fun r10_1 => Q r10_1 w)
  (((((wpB (nilv a0) fun t30 =>
  wpB (pureRun Try.prog (Instr.fieldAt 126 t30 4)) fun t31 =>
  wpB (nilv a0) fun t38 =>
  wpB (pureRun Try.prog (Instr.fieldAt 126 t38 4)) fun t39 =>
  wpB (pureRun Try.prog (Instr.fieldAt 27 t9 2)) fun t44 =>
  wpB (pureRun Try.prog (Instr.fieldAt 27 t9 3)) fun t49 =>
  wpB (pureRun Try.prog (Instr.fieldAt 29 t8 3)) fun t51 =>
  wpB (ldv Try.prog 124 t31 w.drew) fun t32 =>
  wpB (pureRun Try.prog (Instr.indexAt 124 t32 a2)) fun t34 =>
  wpB (pureRun Try.prog (Instr.fieldAt 138 t34 6)) fun t35 =>
  wpB (ldv Try.prog 96 t35 w.drew) fun t36 =>
  wpB (ldv Try.prog 124 t39 w.drew) fun t40 =>
  wpB (pureRun Try.prog (Instr.indexAt 124 t40 a2)) fun t42 =>
  wpB (ldv Try.prog 138 t42 w.drew) fun t43 =>
  wpB (ldv Try.prog 3 t44 w.drew) fun t45 =>
  wpB (ldv Try.prog 3 t49 w.drew) fun t50 =>
  wpB (ldv Try.prog 3 t51 w.drew) fun t52 =>
  wpB (bp Try.prog .add 3 t50 t52) fun t53 =>
  CallR Try.prog 101 [t43, t45] w.drew fun t46 w =>
  wpB (pureRun Try.prog (Instr.indexAt 96 t36 t46)) fun t47 =>
  wpB (ldv Try.prog 112 t47 w) fun t48 =>
  wpB (pureRun Try.prog (Instr.indexAt 112 t48 t53)) fun t54 =>
  wpB (ldv Try.prog 22 t54 w) fun t55 =>
  P100_0 t8 t10 t55 w Q) ∧
  (wpB (nilv a0) fun t30_1 =>
  wpB (pureRun Try.prog (Instr.fieldAt 126 t30_1 4)) fun t31_1 =>
  wpB (nilv a0) fun t38_1 =>
  wpB (pureRun Try.prog (Instr.fieldAt 126 t38_1 4)) fun t39_1 =>
  wpB (pureRun Try.prog (Instr.fieldAt 27 t9 2)) fun t44_1 =>
  wpB (pureRun Try.prog (Instr.fieldAt 27 t9 3)) fun t49_1 =>
  wpB (pureRun Try.prog (Instr.fieldAt 29 t8 3)) fun t51_1 =>
  wpB (ldv Try.prog 124 t31_1 w.drew) fun t32_1 =>
  wpB (pureRun Try.prog (Instr.indexAt 124 t32_1 a2)) fun t34_1 =>
  wpB (pureRun Try.prog (Instr.fieldAt 138 t34_1 6)) fun t35_1 =>
  wpB (ldv Try.prog 96 t35_1 w.drew) fun t36_1 =>
  wpB (ldv Try.prog 124 t39_1 w.drew) fun t40_1 =>
  wpB (pureRun Try.prog (Instr.indexAt 124 t40_1 a2)) fun t42_1 =>
  wpB (ldv Try.prog 138 t42_1 w.drew) fun t43_1 =>
  wpB (ldv Try.prog 3 t44_1 w.drew) fun t45_1 =>
  wpB (ldv Try.prog 3 t49_1 w.drew) fun t50_1 =>
  CallR Try.prog 101 [t43_1, t45_1] w.drew fun t46_1 w =>
  wpB (pureRun Try.prog (Instr.indexAt 96 t36_1 t46_1)) fun t47_1 =>
  wpB (ldv Try.prog 112 t47_1 w) fun t48_1 =>
  wpB (ldv Try.prog 3 t51_1 w) fun t52_1 =>
  wpB (bp Try.prog .add 3 t50_1 t52_1) fun t53_1 =>
  wpB (pureRun Try.prog (Instr.indexAt 112 t48_1 t53_1)) fun t54_1 =>
  wpB (ldv Try.prog 22 t54_1 w) fun t55_1 =>
  P100_0 t8 t10 t55_1 w Q)) ∧
  ((wpB (nilv a0) fun t30_2 =>
  wpB (pureRun Try.prog (Instr.fieldAt 126 t30_2 4)) fun t31_2 =>
  wpB (nilv a0) fun t38_2 =>
  wpB (pureRun Try.prog (Instr.fieldAt 126 t38_2 4)) fun t39_2 =>
  wpB (pureRun Try.prog (Instr.fieldAt 27 t9 2)) fun t44_2 =>
  wpB (pureRun Try.prog (Instr.fieldAt 27 t9 3)) fun t49_2 =>
  wpB (pureRun Try.prog (Instr.fieldAt 29 t8 3)) fun t51_2 =>
  wpB (ldv Try.prog 124 t31_2 w.drew) fun t32_2 =>
  wpB (pureRun Try.prog (Instr.indexAt 124 t32_2 a2)) fun t34_2 =>
  wpB (pureRun Try.prog (Instr.fieldAt 138 t34_2 6)) fun t35_2 =>
  wpB (ldv Try.prog 96 t35_2 w.drew) fun t36_2 =>
  wpB (ldv Try.prog 124 t39_2 w.drew) fun t40_2 =>
  wpB (pureRun Try.prog (Instr.indexAt 124 t40_2 a2)) fun t42_2 =>
  wpB (ldv Try.prog 138 t42_2 w.drew) fun t43_2 =>
  wpB (ldv Try.prog 3 t44_2 w.drew) fun t45_2 =>
  wpB (ldv Try.prog 3 t51_2 w.drew) fun t52_2 =>
  CallR Try.prog 101 [t43_2, t45_2] w.drew fun t46_2 w =>
  wpB (pureRun Try.prog (Instr.indexAt 96 t36_2 t46_2)) fun t47_2 =>
  wpB (ldv Try.prog 112 t47_2 w) fun t48_2 =>
  wpB (ldv Try.prog 3 t49_2 w) fun t50_2 =>
  wpB (bp Try.prog .add 3 t50_2 t52_2) fun t53_2 =>
  wpB (pureRun Try.prog (Instr.indexAt 112 t48_2 t53_2)) fun t54_2 =>
  wpB (ldv Try.prog 22 t54_2 w) fun t55_2 =>
  P100_0 t8 t10 t55_2 w Q) ∧
  (wpB (nilv a0) fun t30_3 =>
  wpB (pureRun Try.prog (Instr.fieldAt 126 t30_3 4)) fun t31_3 =>
  wpB (ldv Try.prog 124 t31_3 w.drew) fun t32_3 =>
  wpB (pureRun Try.prog (Instr.indexAt 124 t32_3 a2)) fun t34_3 =>
  wpB (pureRun Try.prog (Instr.fieldAt 138 t34_3 6)) fun t35_3 =>
  wpB (ldv Try.prog 96 t35_3 w.drew) fun t36_3 =>
  wpB (nilv a0) fun t38_3 =>
  wpB (pureRun Try.prog (Instr.fieldAt 126 t38_3 4)) fun t39_3 =>
  wpB (ldv Try.prog 124 t39_3 w.drew) fun t40_3 =>
  wpB (pureRun Try.prog (Instr.indexAt 124 t40_3 a2)) fun t42_3 =>
  wpB (ldv Try.prog 138 t42_3 w.drew) fun t43_3 =>
  wpB (pureRun Try.prog (Instr.fieldAt 27 t9 2)) fun t44_3 =>
  wpB (ldv Try.prog 3 t44_3 w.drew) fun t45_3 =>
  CallR Try.prog 101 [t43_3, t45_3] w.drew fun t46_3 w =>
  wpB (pureRun Try.prog (Instr.indexAt 96 t36_3 t46_3)) fun t47_3 =>
  wpB (ldv Try.prog 112 t47_3 w) fun t48_3 =>
  wpB (pureRun Try.prog (Instr.fieldAt 27 t9 3)) fun t49_3 =>
  wpB (ldv Try.prog 3 t49_3 w) fun t50_3 =>
  wpB (pureRun Try.prog (Instr.fieldAt 29 t8 3)) fun t51_3 =>
  wpB (ldv Try.prog 3 t51_3 w) fun t52_3 =>
  wpB (bp Try.prog .add 3 t50_3 t52_3) fun t53_3 =>
  wpB (pureRun Try.prog (Instr.indexAt 112 t48_3 t53_3)) fun t54_3 =>
  wpB (ldv Try.prog 22 t54_3 w) fun t55_3 =>
  P100_0 t8 t10 t55_3 w Q))) ∧
  (((wpB (nilv a0) fun t30_4 =>
  wpB (pureRun Try.prog (Instr.fieldAt 126 t30_4 4)) fun t31_4 =>
  wpB (nilv a0) fun t38_4 =>
  wpB (pureRun Try.prog (Instr.fieldAt 126 t38_4 4)) fun t39_4 =>
  wpB (pureRun Try.prog (Instr.fieldAt 27 t9 2)) fun t44_4 =>
  wpB (pureRun Try.prog (Instr.fieldAt 27 t9 3)) fun t49_4 =>
  wpB (pureRun Try.prog (Instr.fieldAt 29 t8 3)) fun t51_4 =>
  wpB (ldv Try.prog 124 t31_4 w.drew) fun t32_4 =>
  wpB (pureRun Try.prog (Instr.indexAt 124 t32_4 a2)) fun t34_4 =>
  wpB (pureRun Try.prog (Instr.fieldAt 138 t34_4 6)) fun t35_4 =>
  wpB (ldv Try.prog 124 t39_4 w.drew) fun t40_4 =>
  wpB (pureRun Try.prog (Instr.indexAt 124 t40_4 a2)) fun t42_4 =>
  wpB (ldv Try.prog 138 t42_4 w.drew) fun t43_4 =>
  wpB (ldv Try.prog 3 t44_4 w.drew) fun t45_4 =>
  wpB (ldv Try.prog 3 t49_4 w.drew) fun t50_4 =>
  wpB (ldv Try.prog 3 t51_4 w.drew) fun t52_4 =>
  wpB (bp Try.prog .add 3 t50_4 t52_4) fun t53_4 =>
  CallR Try.prog 101 [t43_4, t45_4] w.drew fun t46_4 w =>
  wpB (ldv Try.prog 96 t35_4 w) fun t36_4 =>
  wpB (pureRun Try.prog (Instr.indexAt 96 t36_4 t46_4)) fun t47_4 =>
  wpB (ldv Try.prog 112 t47_4 w) fun t48_4 =>
  wpB (pureRun Try.prog (Instr.indexAt 112 t48_4 t53_4)) fun t54_4 =>
  wpB (ldv Try.prog 22 t54_4 w) fun t55_4 =>
  P100_0 t8 t10 t55_4 w Q) ∧
  (wpB (nilv a0) fun t30_5 =>
  wpB (pureRun Try.prog (Instr.fieldAt 126 t30_5 4)) fun t31_5 =>
  wpB (nilv a0) fun t38_5 =>
  wpB (pureRun Try.prog (Instr.fieldAt 126 t38_5 4)) fun t39_5 =>
  wpB (pureRun Try.prog (Instr.fieldAt 27 t9 2)) fun t44_5 =>
  wpB (pureRun Try.prog (Instr.fieldAt 27 t9 3)) fun t49_5 =>
  wpB (pureRun Try.prog (Instr.fieldAt 29 t8 3)) fun t51_5 =>
  wpB (ldv Try.prog 124 t31_5 w.drew) fun t32_5 =>
  wpB (pureRun Try.prog (Instr.indexAt 124 t32_5 a2)) fun t34_5 =>
  wpB (pureRun Try.prog (Instr.fieldAt 138 t34_5 6)) fun t35_5 =>
  wpB (ldv Try.prog 124 t39_5 w.drew) fun t40_5 =>
  wpB (pureRun Try.prog (Instr.indexAt 124 t40_5 a2)) fun t42_5 =>
  wpB (ldv Try.prog 138 t42_5 w.drew) fun t43_5 =>
  wpB (ldv Try.prog 3 t44_5 w.drew) fun t45_5 =>
  wpB (ldv Try.prog 3 t49_5 w.drew) fun t50_5 =>
  CallR Try.prog 101 [t43_5, t45_5] w.drew fun t46_5 w =>
  wpB (ldv Try.prog 96 t35_5 w) fun t36_5 =>
  wpB (pureRun Try.prog (Instr.indexAt 96 t36_5 t46_5)) fun t47_5 =>
  wpB (ldv Try.prog 112 t47_5 w) fun t48_5 =>
  wpB (ldv Try.prog 3 t51_5 w) fun t52_5 =>
  wpB (bp Try.prog .add 3 t50_5 t52_5) fun t53_5 =>
  wpB (pureRun Try.prog (Instr.indexAt 112 t48_5 t53_5)) fun t54_5 =>
  wpB (ldv Try.prog 22 t54_5 w) fun t55_5 =>
  P100_0 t8 t10 t55_5 w Q)) ∧
  ((wpB (nilv a0) fun t30_6 =>
  wpB (pureRun Try.prog (Instr.fieldAt 126 t30_6 4)) fun t31_6 =>
  wpB (nilv a0) fun t38_6 =>
  wpB (pureRun Try.prog (Instr.fieldAt 126 t38_6 4)) fun t39_6 =>
  wpB (pureRun Try.prog (Instr.fieldAt 27 t9 2)) fun t44_6 =>
  wpB (pureRun Try.prog (Instr.fieldAt 27 t9 3)) fun t49_6 =>
  wpB (pureRun Try.prog (Instr.fieldAt 29 t8 3)) fun t51_6 =>
  wpB (ldv Try.prog 124 t31_6 w.drew) fun t32_6 =>
  wpB (pureRun Try.prog (Instr.indexAt 124 t32_6 a2)) fun t34_6 =>
  wpB (pureRun Try.prog (Instr.fieldAt 138 t34_6 6)) fun t35_6 =>
  wpB (ldv Try.prog 124 t39_6 w.drew) fun t40_6 =>
  wpB (pureRun Try.prog (Instr.indexAt 124 t40_6 a2)) fun t42_6 =>
  wpB (ldv Try.prog 138 t42_6 w.drew) fun t43_6 =>
  wpB (ldv Try.prog 3 t44_6 w.drew) fun t45_6 =>
  wpB (ldv Try.prog 3 t51_6 w.drew) fun t52_6 =>
  CallR Try.prog 101 [t43_6, t45_6] w.drew fun t46_6 w =>
  wpB (ldv Try.prog 96 t35_6 w) fun t36_6 =>
  wpB (pureRun Try.prog (Instr.indexAt 96 t36_6 t46_6)) fun t47_6 =>
  wpB (ldv Try.prog 112 t47_6 w) fun t48_6 =>
  wpB (ldv Try.prog 3 t49_6 w) fun t50_6 =>
  wpB (bp Try.prog .add 3 t50_6 t52_6) fun t53_6 =>
  wpB (pureRun Try.prog (Instr.indexAt 112 t48_6 t53_6)) fun t54_6 =>
  wpB (ldv Try.prog 22 t54_6 w) fun t55_6 =>
  P100_0 t8 t10 t55_6 w Q) ∧
  (wpB (nilv a0) fun t30_7 =>
  wpB (pureRun Try.prog (Instr.fieldAt 126 t30_7 4)) fun t31_7 =>
  wpB (nilv a0) fun t38_7 =>
  wpB (pureRun Try.prog (Instr.fieldAt 126 t38_7 4)) fun t39_7 =>
  wpB (pureRun Try.prog (Instr.fieldAt 27 t9 2)) fun t44_7 =>
  wpB (pureRun Try.prog (Instr.fieldAt 27 t9 3)) fun t49_7 =>
  wpB (pureRun Try.prog (Instr.fieldAt 29 t8 3)) fun t51_7 =>
  wpB (ldv Try.prog 124 t31_7 w.drew) fun t32_7 =>
  wpB (pureRun Try.prog (Instr.indexAt 124 t32_7 a2)) fun t34_7 =>
  wpB (pureRun Try.prog (Instr.fieldAt 138 t34_7 6)) fun t35_7 =>
  wpB (ldv Try.prog 124 t39_7 w.drew) fun t40_7 =>
  wpB (pureRun Try.prog (Instr.indexAt 124 t40_7 a2)) fun t42_7 =>
  wpB (ldv Try.prog 138 t42_7 w.drew) fun t43_7 =>
  wpB (ldv Try.prog 3 t44_7 w.drew) fun t45_7 =>
  CallR Try.prog 101 [t43_7, t45_7] w.drew fun t46_7 w =>
  wpB (ldv Try.prog 96 t35_7 w) fun t36_7 =>
  wpB (pureRun Try.prog (Instr.indexAt 96 t36_7 t46_7)) fun t47_7 =>
  wpB (ldv Try.prog 112 t47_7 w) fun t48_7 =>
  wpB (ldv Try.prog 3 t49_7 w) fun t50_7 =>
  wpB (ldv Try.prog 3 t51_7 w) fun t52_7 =>
  wpB (bp Try.prog .add 3 t50_7 t52_7) fun t53_7 =>
  wpB (pureRun Try.prog (Instr.indexAt 112 t48_7 t53_7)) fun t54_7 =>
  wpB (ldv Try.prog 22 t54_7 w) fun t55_7 =>
  P100_0 t8 t10 t55_7 w Q)))) ∧
  (((wpB (nilv a0) fun t30_8 =>
  wpB (pureRun Try.prog (Instr.fieldAt 126 t30_8 4)) fun t31_8 =>
  wpB (nilv a0) fun t38_8 =>
  wpB (pureRun Try.prog (Instr.fieldAt 126 t38_8 4)) fun t39_8 =>
  wpB (pureRun Try.prog (Instr.fieldAt 27 t9 2)) fun t44_8 =>
  wpB (pureRun Try.prog (Instr.fieldAt 27 t9 3)) fun t49_8 =>
  wpB (pureRun Try.prog (Instr.fieldAt 29 t8 3)) fun t51_8 =>
  wpB (ldv Try.prog 124 t39_8 w.drew) fun t40_8 =>
  wpB (pureRun Try.prog (Instr.indexAt 124 t40_8 a2)) fun t42_8 =>
  wpB (ldv Try.prog 138 t42_8 w.drew) fun t43_8 =>
  wpB (ldv Try.prog 3 t44_8 w.drew) fun t45_8 =>
  wpB (ldv Try.prog 3 t49_8 w.drew) fun t50_8 =>
  wpB (ldv Try.prog 3 t51_8 w.drew) fun t52_8 =>
  wpB (bp Try.prog .add 3 t50_8 t52_8) fun t53_8 =>
  CallR Try.prog 101 [t43_8, t45_8] w.drew fun t46_8 w =>
  wpB (ldv Try.prog 124 t31_8 w) fun t32_8 =>
  wpB (pureRun Try.prog (Instr.indexAt 124 t32_8 a2)) fun t34_8 =>
  wpB (pureRun Try.prog (Instr.fieldAt 138 t34_8 6)) fun t35_8 =>
  wpB (ldv Try.prog 96 t35_8 w) fun t36_8 =>
  wpB (pureRun Try.prog (Instr.indexAt 96 t36_8 t46_8)) fun t47_8 =>
  wpB (ldv Try.prog 112 t47_8 w) fun t48_8 =>
  wpB (pureRun Try.prog (Instr.indexAt 112 t48_8 t53_8)) fun t54_8 =>
  wpB (ldv Try.prog 22 t54_8 w) fun t55_8 =>
  P100_0 t8 t10 t55_8 w Q) ∧
  (wpB (nilv a0) fun t30_9 =>
  wpB (pureRun Try.prog (Instr.fieldAt 126 t30_9 4)) fun t31_9 =>
  wpB (nilv a0) fun t38_9 =>
  wpB (pureRun Try.prog (Instr.fieldAt 126 t38_9 4)) fun t39_9 =>
  wpB (pureRun Try.prog (Instr.fieldAt 27 t9 2)) fun t44_9 =>
  wpB (pureRun Try.prog (Instr.fieldAt 27 t9 3)) fun t49_9 =>
  wpB (pureRun Try.prog (Instr.fieldAt 29 t8 3)) fun t51_9 =>
  wpB (ldv Try.prog 124 t39_9 w.drew) fun t40_9 =>
  wpB (pureRun Try.prog (Instr.indexAt 124 t40_9 a2)) fun t42_9 =>
  wpB (ldv Try.prog 138 t42_9 w.drew) fun t43_9 =>
  wpB (ldv Try.prog 3 t44_9 w.drew) fun t45_9 =>
  wpB (ldv Try.prog 3 t49_9 w.drew) fun t50_9 =>
  CallR Try.prog 101 [t43_9, t45_9] w.drew fun t46_9 w =>
  wpB (ldv Try.prog 124 t31_9 w) fun t32_9 =>
  wpB (pureRun Try.prog (Instr.indexAt 124 t32_9 a2)) fun t34_9 =>
  wpB (pureRun Try.prog (Instr.fieldAt 138 t34_9 6)) fun t35_9 =>
  wpB (ldv Try.prog 96 t35_9 w) fun t36_9 =>
  wpB (pureRun Try.prog (Instr.indexAt 96 t36_9 t46_9)) fun t47_9 =>
  wpB (ldv Try.prog 112 t47_9 w) fun t48_9 =>
  wpB (ldv Try.prog 3 t51_9 w) fun t52_9 =>
  wpB (bp Try.prog .add 3 t50_9 t52_9) fun t53_9 =>
  wpB (pureRun Try.prog (Instr.indexAt 112 t48_9 t53_9)) fun t54_9 =>
  wpB (ldv Try.prog 22 t54_9 w) fun t55_9 =>
  P100_0 t8 t10 t55_9 w Q)) ∧
  ((wpB (nilv a0) fun t30_10 =>
  wpB (pureRun Try.prog (Instr.fieldAt 126 t30_10 4)) fun t31_10 =>
  wpB (nilv a0) fun t38_10 =>
  wpB (pureRun Try.prog (Instr.fieldAt 126 t38_10 4)) fun t39_10 =>
  wpB (pureRun Try.prog (Instr.fieldAt 27 t9 2)) fun t44_10 =>
  wpB (pureRun Try.prog (Instr.fieldAt 27 t9 3)) fun t49_10 =>
  wpB (pureRun Try.prog (Instr.fieldAt 29 t8 3)) fun t51_10 =>
  wpB (ldv Try.prog 124 t39_10 w.drew) fun t40_10 =>
  wpB (pureRun Try.prog (Instr.indexAt 124 t40_10 a2)) fun t42_10 =>
  wpB (ldv Try.prog 138 t42_10 w.drew) fun t43_10 =>
  wpB (ldv Try.prog 3 t44_10 w.drew) fun t45_10 =>
  wpB (ldv Try.prog 3 t51_10 w.drew) fun t52_10 =>
  CallR Try.prog 101 [t43_10, t45_10] w.drew fun t46_10 w =>
  wpB (ldv Try.prog 124 t31_10 w) fun t32_10 =>
  wpB (pureRun Try.prog (Instr.indexAt 124 t32_10 a2)) fun t34_10 =>
  wpB (pureRun Try.prog (Instr.fieldAt 138 t34_10 6)) fun t35_10 =>
  wpB (ldv Try.prog 96 t35_10 w) fun t36_10 =>
  wpB (pureRun Try.prog (Instr.indexAt 96 t36_10 t46_10)) fun t47_10 =>
  wpB (ldv Try.prog 112 t47_10 w) fun t48_10 =>
  wpB (ldv Try.prog 3 t49_10 w) fun t50_10 =>
  wpB (bp Try.prog .add 3 t50_10 t52_10) fun t53_10 =>
  wpB (pureRun Try.prog (Instr.indexAt 112 t48_10 t53_10)) fun t54_10 =>
  wpB (ldv Try.prog 22 t54_10 w) fun t55_10 =>
  P100_0 t8 t10 t55_10 w Q) ∧
  (wpB (nilv a0) fun t30_11 =>
  wpB (pureRun Try.prog (Instr.fieldAt 126 t30_11 4)) fun t31_11 =>
  wpB (nilv a0) fun t38_11 =>
  wpB (pureRun Try.prog (Instr.fieldAt 126 t38_11 4)) fun t39_11 =>
  wpB (pureRun Try.prog (Instr.fieldAt 27 t9 2)) fun t44_11 =>
  wpB (pureRun Try.prog (Instr.fieldAt 27 t9 3)) fun t49_11 =>
  wpB (pureRun Try.prog (Instr.fieldAt 29 t8 3)) fun t51_11 =>
  wpB (ldv Try.prog 124 t39_11 w.drew) fun t40_11 =>
  wpB (pureRun Try.prog (Instr.indexAt 124 t40_11 a2)) fun t42_11 =>
  wpB (ldv Try.prog 138 t42_11 w.drew) fun t43_11 =>
  wpB (ldv Try.prog 3 t44_11 w.drew) fun t45_11 =>
  CallR Try.prog 101 [t43_11, t45_11] w.drew fun t46_11 w =>
  wpB (ldv Try.prog 124 t31_11 w) fun t32_11 =>
  wpB (pureRun Try.prog (Instr.indexAt 124 t32_11 a2)) fun t34_11 =>
  wpB (pureRun Try.prog (Instr.fieldAt 138 t34_11 6)) fun t35_11 =>
  wpB (ldv Try.prog 96 t35_11 w) fun t36_11 =>
  wpB (pureRun Try.prog (Instr.indexAt 96 t36_11 t46_11)) fun t47_11 =>
  wpB (ldv Try.prog 112 t47_11 w) fun t48_11 =>
  wpB (ldv Try.prog 3 t49_11 w) fun t50_11 =>
  wpB (ldv Try.prog 3 t51_11 w) fun t52_11 =>
  wpB (bp Try.prog .add 3 t50_11 t52_11) fun t53_11 =>
  wpB (pureRun Try.prog (Instr.indexAt 112 t48_11 t53_11)) fun t54_11 =>
  wpB (ldv Try.prog 22 t54_11 w) fun t55_11 =>
  P100_0 t8 t10 t55_11 w Q)))))
def L100_0 (x8 x10 x11 : Value) (w : World) (Q : Value → World → Prop) : Prop :=
  wpB (pureRun Try.prog (Instr.fieldAt 29 x8 0)) fun t56 =>
  wpB (ldv Try.prog 3 t56 w) fun t57 =>
  wpB (be Try.prog .eql 3 (.tmp 57) (.const (.int .i64 6)) t57 (.int .i64 6)) fun t59 =>
  cnd t59
  (P100_1 x8 x10 x11 t57 t59 w Q)
  (wpB (be Try.prog .eql 3 (.tmp 57) (.const (.int .i64 8)) t57 (.int .i64 8)) fun t60 =>
  P100_1 x8 x10 x11 t57 t60 w Q)
def L100_1 (x8 x10 x11 x57 x58 : Value) (w : World) (Q : Value → World → Prop) : Prop :=
  cnd x58
  (wpB (pureRun Try.prog (Instr.build 32 #[(3, x11)])) fun t62 =>
  effu Try.prog (Instr.storeAt 32 x10 t62) w fun w =>
  wpB (ldv Try.prog 32 x10 w) fun r10 => Q r10 w)
  (wpB (be Try.prog .eql 3 (.tmp 57) (.const (.int .i64 9)) x57 (.int .i64 9)) fun t64 =>
  cnd t64
  (wpB (pureRun Try.prog (Instr.fieldAt 29 x8 4)) fun t66 =>
  wpB (ldv Try.prog 22 t66 w) fun t67 =>
  wpB (be Try.prog .eql 22 (.tmp 65) (.tmp 67) x11 t67) fun t68 =>
  cnd t68
  (wpB (pureRun Try.prog (Instr.build 32 #[(2, (.int .i64 1))])) fun t69 =>
  effu Try.prog (Instr.storeAt 32 x10 t69) w fun w =>
  wpB (ldv Try.prog 32 x10 w) fun r10_1 => Q r10_1 w)
  (P100_2 x10 w Q))
  (P100_2 x10 w Q))
def L100_2 (x10 : Value) (w : World) (Q : Value → World → Prop) : Prop :=
  wpB (pureRun Try.prog (Instr.build 32 #[])) fun t70 =>
  effu Try.prog (Instr.storeAt 32 x10 t70) w fun w =>
  wpB (ldv Try.prog 32 x10 w) fun r10 => Q r10 w
theorem F100_ok {a0 a1 a2 a3 a4 : Value} {w : World} {Q : Value → World → Prop} (h : F100 a0 a1 a2 a3 a4 w Q) : CallR Try.prog 100 [a0, a1, a2, a3, a4] w Q :=
  call_ofE mixed entOk Try.func100 (c := C100) rfl H100 (Nat.le_of_ble_eq_true rfl) (by kernel_rfl) h
theorem L100_0_ok {x8 x10 x11 : Value} {w : World} {Q : Value → World → Prop} (h : L100_0 x8 x10 x11 w Q) : P100_0 x8 x10 x11 w Q :=
  part_jnE mixed entOk Try.func100 H100 (by kernel_rfl) h
theorem L100_1_ok {x8 x10 x11 x57 x58 : Value} {w : World} {Q : Value → World → Prop} (h : L100_1 x8 x10 x11 x57 x58 w Q) : P100_1 x8 x10 x11 x57 x58 w Q :=
  part_jnE mixed entOk Try.func100 H100 (by kernel_rfl) h
theorem L100_2_ok {x10 : Value} {w : World} {Q : Value → World → Prop} (h : L100_2 x10 w Q) : P100_2 x10 w Q :=
  part_jnE mixed entOk Try.func100 H100 (by kernel_rfl) h

noncomputable def C101 : Code := (Try.f101.body).getD .skip
noncomputable def H101 : Hints := ⟨[(2, [1, 2, 5])], [], []⟩
noncomputable def T101_0 : List It := [.lp (nav [1, 0, 1, 4, 5] C101), .blk 0, .jn (nav [1, 1] C101)]
/-- (rundale/rundaleref24.Region).at, from a loop's head on -/
def P101_0 (x1 x2 x5 : Value) (w : World) (Q : Value → World → Prop) : Prop := Part Try.prog 101 T101_0 [1, 2, 5] [x1, x2, x5] w Q
def F101 (a0 a1 : Value) (w : World) (Q : Value → World → Prop) : Prop :=
  effv Try.prog (Instr.box 138 a0) w fun t2 w =>
  P101_0 a1 t2 (.int .i64 0) w Q
def L101_0 (x1 x2 x5 : Value) (w : World) (Q : Value → World → Prop) : Prop :=
  wpB (pureRun Try.prog (Instr.fieldAt 138 x2 5)) fun t7 =>
  wpB (ldv Try.prog 36 t7 w) fun t8 =>
  wpB (pureRun Try.prog (Builtin.len_ #[36] 3 #[t8])) fun t9 =>
  wpB (bp Try.prog .lss 3 x5 t9) fun t10 =>
  cnd t10
  (wpB (pureRun Try.prog (Instr.fieldAt 138 x2 5)) fun t13 =>
  wpB (ldv Try.prog 36 t13 w) fun t14 =>
  wpB (pureRun Try.prog (Instr.indexAt 36 t14 x5)) fun t16 =>
  wpB (ldv Try.prog 3 t16 w) fun t17 =>
  wpB (be Try.prog .eql 3 (.tmp 17) (.tmp 18) t17 x1) fun t19 =>
  cnd t19
  (Q x5 w)
  (wpB (bp Try.prog .add 3 x5 (.int .i64 1)) fun t12 =>
  P101_0 x1 x2 t12 w Q))
  (Q (.int .i64 (-1)) w)
theorem F101_ok {a0 a1 : Value} {w : World} {Q : Value → World → Prop} (h : F101 a0 a1 w Q) : CallR Try.prog 101 [a0, a1] w Q :=
  call_ofE mixed entOk Try.func101 (c := C101) rfl H101 (Nat.le_of_ble_eq_true rfl) (by kernel_rfl) h
theorem L101_0_ok {x1 x2 x5 : Value} {w : World} {Q : Value → World → Prop} (h : L101_0 x1 x2 x5 w Q) : P101_0 x1 x2 x5 w Q :=
  part_lpE mixed entOk Try.func101 H101 (by kernel_rfl) h

noncomputable def C102 : Code := (Try.f102.body).getD .skip
noncomputable def H102 : Hints := ⟨[(3, [0, 3, 4])], [(4, [0, 3, 4])], []⟩
noncomputable def T102_0 : List It := [.lp (nav [1, 1, 0, 1, 4, 5] C102), .blk 0, .jn (nav [1, 1, 1] C102)]
noncomputable def T102_1 : List It := [.jn (nav [1, 1, 0, 1, 4, 5, 1, 1] C102), .lp (nav [1, 1, 0, 1, 4, 5] C102), .blk 0, .jn (nav [1, 1, 1] C102)]
/-- (*rundale/rundaleref24.Model).Spare, from a loop's head on -/
def P102_0 (x0 x3 x4 : Value) (w : World) (Q : Value → World → Prop) : Prop := Part Try.prog 102 T102_0 [0, 3, 4] [x0, x3, x4] w Q
/-- (*rundale/rundaleref24.Model).Spare, from a join on -/
def P102_1 (x0 x3 x4 : Value) (w : World) (Q : Value → World → Prop) : Prop := Part Try.prog 102 T102_1 [0, 3, 4] [x0, x3, x4] w Q
def F102 (a0 : Value) (w : World) (Q : Value → World → Prop) : Prop :=
  P102_0 a0 (.int .i64 0) (.int .i64 0) w Q
def L102_0 (x0 x3 x4 : Value) (w : World) (Q : Value → World → Prop) : Prop :=
  wpB (nilv x0) fun t7 =>
  wpB (pureRun Try.prog (Instr.fieldAt 126 t7 2)) fun t8 =>
  wpB (ldv Try.prog 36 t8 w) fun t9 =>
  wpB (pureRun Try.prog (Builtin.len_ #[36] 3 #[t9])) fun t10 =>
  wpB (bp Try.prog .lss 3 x4 t10) fun t11 =>
  cnd t11
  (wpB (nilv x0) fun t15 =>
  wpB (pureRun Try.prog (Instr.fieldAt 126 t15 2)) fun t16 =>
  wpB (ldv Try.prog 36 t16 w) fun t17 =>
  wpB (pureRun Try.prog (Instr.indexAt 36 t17 x4)) fun t19 =>
  wpB (ldv Try.prog 3 t19 w) fun t20 =>
  wpB (be Try.prog .eql 3 (.tmp 20) (.const (.int .i64 0)) t20 (.int .i64 0)) fun t21 =>
  cnd t21
  (wpB (bp Try.prog .add 3 x3 (.int .i64 1)) fun t23 =>
  P102_1 x0 t23 x4 w Q)
  (P102_1 x0 x3 x4 w Q))
  (Q x3 w)
def L102_1 (x0 x3 x4 : Value) (w : World) (Q : Value → World → Prop) : Prop :=
  wpB (bp Try.prog .add 3 x4 (.int .i64 1)) fun t13 =>
  P102_0 x0 x3 t13 w Q
theorem F102_ok {a0 : Value} {w : World} {Q : Value → World → Prop} (h : F102 a0 w Q) : CallR Try.prog 102 [a0] w Q :=
  call_ofE mixed entOk Try.func102 (c := C102) rfl H102 (Nat.le_of_ble_eq_true rfl) (by kernel_rfl) h
theorem L102_0_ok {x0 x3 x4 : Value} {w : World} {Q : Value → World → Prop} (h : L102_0 x0 x3 x4 w Q) : P102_0 x0 x3 x4 w Q :=
  part_lpE mixed entOk Try.func102 H102 (by kernel_rfl) h
theorem L102_1_ok {x0 x3 x4 : Value} {w : World} {Q : Value → World → Prop} (h : L102_1 x0 x3 x4 w Q) : P102_1 x0 x3 x4 w Q :=
  part_jnE mixed entOk Try.func102 H102 (by kernel_rfl) h

noncomputable def C103 : Code := (Try.f103.body).getD .skip
noncomputable def H103 : Hints := ⟨[], [], []⟩
def F103 (a0 : Value) (w : World) (Q : Value → World → Prop) : Prop :=
  wpB (bp Try.prog .geq 3 a0 (.int .i64 4294967295)) fun t4 =>
  cnd t4
  (Q (.int .i64 0) w)
  (wpB (bp Try.prog .add 3 a0 (.int .i64 1)) fun t6 =>
  Q t6 w)
theorem F103_ok {a0 : Value} {w : World} {Q : Value → World → Prop} (h : F103 a0 w Q) : CallR Try.prog 103 [a0] w Q :=
  call_ofE mixed entOk Try.func103 (c := C103) rfl H103 (Nat.le_of_ble_eq_true rfl) (by kernel_rfl) h

noncomputable def C104 : Code := (Try.f104.body).getD .skip
noncomputable def H104 : Hints := ⟨[], [], [(2, (.ask 9 15 (.ask 11 15 (.leaf [0, 1, 2, 3, 4, 5, 6, 7, 8, 9, 10, 11, 12, 13, 14, 15, 16, 17, 18]) (.leaf [0, 1, 2, 3, 4, 5, 6, 7, 8, 10, 12, 14, 9, 13, 15, 11, 16, 17, 18])) (.ask 11 15 (.leaf [0, 1, 2, 3, 4, 5, 6, 7, 8, 10, 12, 14, 11, 13, 15, 9, 16, 17, 18]) (.leaf [0, 1, 2, 3, 4, 5, 6, 7, 8, 10, 12, 14, 13, 15, 9, 11, 16, 17, 18]))))]⟩
def F104 (a0 a1 a2 : Value) (w : World) (Q : Value → World → Prop) : Prop :=
  wpB (nilv a0) fun t9 =>
  wpB (pureRun Try.prog (Instr.fieldAt 126 t9 4)) fun t10 =>
  wpB (ldv Try.prog 124 t10 w) fun t11 =>
  wpB (pureRun Try.prog (Instr.indexAt 124 t11 a1)) fun t13 =>
  wpB (ldv Try.prog 138 t13 w) fun t14 =>
  effv Try.prog (Instr.alloc 138 true (.tuple #[])) w fun t7 w =>
  effu Try.prog (Instr.storeAt 138 t7 t14) w fun w =>
  ((wpB (pureRun Try.prog (Instr.fieldAt 138 t7 5)) fun t15 =>
  wpB (ldv Try.prog 36 t15 w.drew) fun t16 =>
  wpB (pureRun Try.prog (Builtin.len_ #[36] 3 #[t16])) fun t17 =>
  wpB (bp Try.prog .gtr 3 t17 (.int .i64 0)) fun t18 =>
  wpB (gd t18 true (nilv (gv t18 true a0))) fun t21 =>
  wpB (gd t18 true (pureRun Try.prog (Instr.fieldAt 126 t21 0))) fun t22 =>
  wpB (gd t18 true (pureRun Try.prog (Instr.fieldAt 25 t22 2))) fun t23 =>
  wpB (gd t18 true (ldv Try.prog 3 t23 w.drew)) fun t24 =>
  wpB (gd t18 true (pureRun Try.prog (Instr.fieldAt 138 t7 3))) fun t25 =>
  wpB (gd t18 true (ldv Try.prog 3 t25 w.drew)) fun t26 =>
  wpB (gd t18 true (pureRun Try.prog (Instr.fieldAt 138 t7 2))) fun t27 =>
  wpB (gd t18 true (ldv Try.prog 3 t27 w.drew)) fun t28 =>
  gE t18 true (CallR Try.prog 105 [t28, (gv t18 true a2)] w.drew) (fun t30 w =>
  gE t18 true (CallR Try.prog 111 [t24, t26, t30] w) (fun t31 w =>
  wpB (pickv t18 (some t31) (some (.bool false))) fun t32 =>
  Q t32 w) w) w.drew) ∧
  (wpB (pureRun Try.prog (Instr.fieldAt 138 t7 5)) fun t15_1 =>
  wpB (ldv Try.prog 36 t15_1 w.drew) fun t16_1 =>
  wpB (pureRun Try.prog (Builtin.len_ #[36] 3 #[t16_1])) fun t17_1 =>
  wpB (bp Try.prog .gtr 3 t17_1 (.int .i64 0)) fun t18_1 =>
  wpB (gd t18_1 true (nilv (gv t18_1 true a0))) fun t21_1 =>
  wpB (gd t18_1 true (pureRun Try.prog (Instr.fieldAt 126 t21_1 0))) fun t22_1 =>
  wpB (gd t18_1 true (pureRun Try.prog (Instr.fieldAt 25 t22_1 2))) fun t23_1 =>
  wpB (gd t18_1 true (pureRun Try.prog (Instr.fieldAt 138 t7 3))) fun t25_1 =>
  wpB (gd t18_1 true (pureRun Try.prog (Instr.fieldAt 138 t7 2))) fun t27_1 =>
  wpB (gd t18_1 true (ldv Try.prog 3 t23_1 w.drew)) fun t24_1 =>
  wpB (gd t18_1 true (ldv Try.prog 3 t27_1 w.drew)) fun t28_1 =>
  gE t18_1 true (CallR Try.prog 105 [t28_1, (gv t18_1 true a2)] w.drew) (fun t30_1 w =>
  wpB (gd t18_1 true (ldv Try.prog 3 t25_1 w)) fun t26_1 =>
  gE t18_1 true (CallR Try.prog 111 [t24_1, t26_1, t30_1] w) (fun t31_1 w =>
  wpB (pickv t18_1 (some t31_1) (some (.bool false))) fun t32_1 =>
  Q t32_1 w) w) w.drew)) ∧
  ((wpB (pureRun Try.prog (Instr.fieldAt 138 t7 5)) fun t15_2 =>
  wpB (ldv Try.prog 36 t15_2 w.drew) fun t16_2 =>
  wpB (pureRun Try.prog (Builtin.len_ #[36] 3 #[t16_2])) fun t17_2 =>
  wpB (bp Try.prog .gtr 3 t17_2 (.int .i64 0)) fun t18_2 =>
  wpB (gd t18_2 true (nilv (gv t18_2 true a0))) fun t21_2 =>
  wpB (gd t18_2 true (pureRun Try.prog (Instr.fieldAt 126 t21_2 0))) fun t22_2 =>
  wpB (gd t18_2 true (pureRun Try.prog (Instr.fieldAt 25 t22_2 2))) fun t23_2 =>
  wpB (gd t18_2 true (pureRun Try.prog (Instr.fieldAt 138 t7 3))) fun t25_2 =>
  wpB (gd t18_2 true (pureRun Try.prog (Instr.fieldAt 138 t7 2))) fun t27_2 =>
  wpB (gd t18_2 true (ldv Try.prog 3 t25_2 w.drew)) fun t26_2 =>
  wpB (gd t18_2 true (ldv Try.prog 3 t27_2 w.drew)) fun t28_2 =>
  gE t18_2 true (CallR Try.prog 105 [t28_2, (gv t18_2 true a2)] w.drew) (fun t30_2 w =>
  wpB (gd t18_2 true (ldv Try.prog 3 t23_2 w)) fun t24_2 =>
  gE t18_2 true (CallR Try.prog 111 [t24_2, t26_2, t30_2] w) (fun t31_2 w =>
  wpB (pickv t18_2 (some t31_2) (some (.bool false))) fun t32_2 =>
  Q t32_2 w) w) w.drew) ∧
  (wpB (pureRun Try.prog (Instr.fieldAt 138 t7 5)) fun t15_3 =>
  wpB (ldv Try.prog 36 t15_3 w.drew) fun t16_3 =>
  wpB (pureRun Try.prog (Builtin.len_ #[36] 3 #[t16_3])) fun t17_3 =>
  wpB (bp Try.prog .gtr 3 t17_3 (.int .i64 0)) fun t18_3 =>
  wpB (gd t18_3 true (nilv (gv t18_3 true a0))) fun t21_3 =>
  wpB (gd t18_3 true (pureRun Try.prog (Instr.fieldAt 126 t21_3 0))) fun t22_3 =>
  wpB (gd t18_3 true (pureRun Try.prog (Instr.fieldAt 25 t22_3 2))) fun t23_3 =>
  wpB (gd t18_3 true (pureRun Try.prog (Instr.fieldAt 138 t7 3))) fun t25_3 =>
  wpB (gd t18_3 true (pureRun Try.prog (Instr.fieldAt 138 t7 2))) fun t27_3 =>
  wpB (gd t18_3 true (ldv Try.prog 3 t27_3 w.drew)) fun t28_3 =>
  gE t18_3 true (CallR Try.prog 105 [t28_3, (gv t18_3 true a2)] w.drew) (fun t30_3 w =>
  wpB (gd t18_3 true (ldv Try.prog 3 t23_3 w)) fun t24_3 =>
  wpB (gd t18_3 true (ldv Try.prog 3 t25_3 w)) fun t26_3 =>
  gE t18_3 true (CallR Try.prog 111 [t24_3, t26_3, t30_3] w) (fun t31_3 w =>
  wpB (pickv t18_3 (some t31_3) (some (.bool false))) fun t32_3 =>
  Q t32_3 w) w) w.drew))
theorem F104_ok {a0 a1 a2 : Value} {w : World} {Q : Value → World → Prop} (h : F104 a0 a1 a2 w Q) : CallR Try.prog 104 [a0, a1, a2] w Q :=
  call_ofE mixed entOk Try.func104 (c := C104) rfl H104 (Nat.le_of_ble_eq_true rfl) (by kernel_rfl) h

noncomputable def C105 : Code := (Try.f105.body).getD .skip
noncomputable def H105 : Hints := ⟨[(5, [0, 1, 5, 6]), (8, [1, 5])], [], []⟩
noncomputable def T105_0 : List It := [.lp (nav [1, 1, 1, 0, 1, 4, 5] C105), .blk 0, .jn (nav [1, 1, 1, 1] C105)]
noncomputable def T105_1 : List It := [.lp (nav [1, 1, 1, 1, 0, 4, 5] C105), .blk 2, .jn (nav [1, 1, 1, 1, 1] C105)]
/-- rundale/rundaleref1.Round, from a loop's head on -/
def P105_0 (x0 x1 x5 x6 : Value) (w : World) (Q : Value → World → Prop) : Prop := Part Try.prog 105 T105_0 [0, 1, 5, 6] [x0, x1, x5, x6] w Q
/-- rundale/rundaleref1.Round, from a loop's head on -/
def P105_1 (x1 x5 : Value) (w : World) (Q : Value → World → Prop) : Prop := Part Try.prog 105 T105_1 [1, 5] [x1, x5] w Q
def F105 (a0 a1 : Value) (w : World) (Q : Value → World → Prop) : Prop :=
  CallR Try.prog 24 [a1, (.int .i64 1), (.int .i64 1024)] w fun t8 w =>
  wpB (pureRun Try.prog (Op.unary .not t8)) fun t9 =>
  cnd t9
  (Q (.int .i64 0) w)
  (P105_0 a0 a1 (.int .i64 1) (.int .i64 0) w Q)
def L105_0 (x0 x1 x5 x6 : Value) (w : World) (Q : Value → World → Prop) : Prop :=
  wpB (bp Try.prog .lss 3 x6 x0) fun t12 =>
  wpB (gd t12 true (bp Try.prog .lss 3 (gv t12 true x6) (.int .i64 3))) fun t15 =>
  wpB (pickv t12 (some t15) (some (.bool false))) fun t16 =>
  cnd t16
  (wpB (bp Try.prog .mul 3 (.int .i64 2) x5) fun t20 =>
  wpB (bp Try.prog .add 3 x6 (.int .i64 1)) fun t18 =>
  P105_0 x0 x1 t20 t18 w Q)
  (P105_1 x1 x5 w Q)
def L105_1 (x1 x5 : Value) (w : World) (Q : Value → World → Prop) : Prop :=
  wpB (bp Try.prog .rem 3 x1 x5) fun t23 =>
  wpB (be Try.prog .neq 3 (.tmp 23) (.const (.int .i64 0)) t23 (.int .i64 0)) fun t24 =>
  cnd t24
  (wpB (bp Try.prog .add 3 x1 (.int .i64 1)) fun t26 =>
  P105_1 t26 x5 w Q)
  (Q x1 w)
theorem F105_ok {a0 a1 : Value} {w : World} {Q : Value → World → Prop} (h : F105 a0 a1 w Q) : CallR Try.prog 105 [a0, a1] w Q :=
  call_ofE mixed entOk Try.func105 (c := C105) rfl H105 (Nat.le_of_ble_eq_true rfl) (by kernel_rfl) h
theorem L105_0_ok {x0 x1 x5 x6 : Value} {w : World} {Q : Value → World → Prop} (h : L105_0 x0 x1 x5 x6 w Q) : P105_0 x0 x1 x5 x6 w Q :=
  part_lpE mixed entOk Try.func105 H105 (by kernel_rfl) h
theorem L105_1_ok {x1 x5 : Value} {w : World} {Q : Value → World → Prop} (h : L105_1 x1 x5 w Q) : P105_1 x1 x5 w Q :=
  part_lpE mixed entOk Try.func105 H105 (by kernel_rfl) h

noncomputable def C106 : Code := (Try.f106.body).getD .skip
noncomputable def H106 : Hints := ⟨[(2, [0, 1, 5])], [], []⟩
noncomputable def T106_0 : List It := [.lp (nav [1, 0, 1, 4, 5] C106), .blk 0, .jn (nav [1, 1] C106)]
/-- (*rundale/rundaleref24.Model).taken, from a loop's head on -/
def P106_0 (x0 x1 x5 : Value) (w : World) (Q : Value → World → Prop) : Prop := Part Try.prog 106 T106_0 [0, 1, 5] [x0, x1, x5] w Q
def F106 (a0 a1 : Value) (w : World) (Q : Value → World → Prop) : Prop :=
  P106_0 a0 a1 (.int .i64 0) w Q
def L106_0 (x0 x1 x5 : Value) (w : World) (Q : Value → World → Prop) : Prop :=
  wpB (nilv x0) fun t8 =>
  wpB (pureRun Try.prog (Instr.fieldAt 126 t8 4)) fun t9 =>
  wpB (ldv Try.prog 124 t9 w) fun t10 =>
  wpB (pureRun Try.prog (Builtin.len_ #[124] 3 #[t10])) fun t11 =>
  wpB (bp Try.prog .lss 3 x5 t11) fun t12 =>
  cnd t12
  (wpB (nilv x0) fun t16 =>
  wpB (pureRun Try.prog (Instr.fieldAt 126 t16 4)) fun t17 =>
  wpB (ldv Try.prog 124 t17 w) fun t18 =>
  wpB (pureRun Try.prog (Instr.indexAt 124 t18 x5)) fun t20 =>
  wpB (pureRun Try.prog (Instr.fieldAt 138 t20 4)) fun t21 =>
  wpB (ldv Try.prog 4 t21 w) fun t22 =>
  wpB (gd t22 true (nilv (gv t22 true x0))) fun t25 =>
  wpB (gd t22 true (pureRun Try.prog (Instr.fieldAt 126 t25 4))) fun t26 =>
  wpB (gd t22 true (ldv Try.prog 124 t26 w)) fun t27 =>
  wpB (gd t22 true (pureRun Try.prog (Instr.indexAt 124 t27 (gv t22 true x5)))) fun t29 =>
  wpB (gd t22 true (ldv Try.prog 138 t29 w)) fun t30 =>
  gE t22 true (CallR Try.prog 101 [t30, (gv t22 true x1)] w) (fun t32 w =>
  wpB (gd t22 true (bp Try.prog .geq 3 t32 (.int .i64 0))) fun t33 =>
  wpB (pickv t22 (some t33) (some (.bool false))) fun t34 =>
  cnd t34
  (Q (.bool true) w)
  (wpB (bp Try.prog .add 3 x5 (.int .i64 1)) fun t14 =>
  P106_0 x0 x1 t14 w Q)) w)
  (Q (.bool false) w)
theorem F106_ok {a0 a1 : Value} {w : World} {Q : Value → World → Prop} (h : F106 a0 a1 w Q) : CallR Try.prog 106 [a0, a1] w Q :=
  call_ofE mixed entOk Try.func106 (c := C106) rfl H106 (Nat.le_of_ble_eq_true rfl) (by kernel_rfl) h
theorem L106_0_ok {x0 x1 x5 : Value} {w : World} {Q : Value → World → Prop} (h : L106_0 x0 x1 x5 w Q) : P106_0 x0 x1 x5 w Q :=
  part_lpE mixed entOk Try.func106 H106 (by kernel_rfl) h

noncomputable def C107 : Code := (Try.f107.body).getD .skip
noncomputable def H107 : Hints := ⟨[], [], []⟩
def F107 (a0 a1 : Value) (w : World) (Q : Value → World → Prop) : Prop :=
  CallR Try.prog 112 [a0, a1] w fun t7 w =>
  wpB (pureRun Try.prog (Op.unary .not t7)) fun t8 =>
  cnd t8
  (Q (.int .i64 0) w)
  (CallR Try.prog 113 [a0, a1] w fun t11 w =>
  cnd t11
  (Q a0 w)
  (Q a1 w))
theorem F107_ok {a0 a1 : Value} {w : World} {Q : Value → World → Prop} (h : F107 a0 a1 w Q) : CallR Try.prog 107 [a0, a1] w Q :=
  call_ofE mixed entOk Try.func107 (c := C107) rfl H107 (Nat.le_of_ble_eq_true rfl) (by kernel_rfl) h

noncomputable def C108 : Code := (Try.f108.body).getD .skip
noncomputable def H108 : Hints := ⟨[], [], []⟩
def F108 (a0 a1 : Value) (w : World) (Q : Value → World → Prop) : Prop :=
  effv Try.prog (Instr.box 27 a1) w fun t3 w =>
  wpB (ldv Try.prog 27 t3 w) fun t6 =>
  CallR Try.prog 114 [a0, t6] w fun t7 w =>
  wpB (bp Try.prog .geq 3 t7 (.int .i64 0)) fun t8 =>
  Q t8 w
theorem F108_ok {a0 a1 : Value} {w : World} {Q : Value → World → Prop} (h : F108 a0 a1 w Q) : CallR Try.prog 108 [a0, a1] w Q :=
  call_ofE mixed entOk Try.func108 (c := C108) rfl H108 (Nat.le_of_ble_eq_true rfl) (by kernel_rfl) h

noncomputable def C110 : Code := (Try.f110.body).getD .skip
noncomputable def H110 : Hints := ⟨[(6, [0, 3, 6, 7, 8])], [], [(8, (.leaf [0, 1, 2, 3, 4, 5, 6, 7, 8, 9, 10, 11, 12]))]⟩
noncomputable def T110_0 : List It := [.lp (nav [1, 1, 1, 1, 0, 1, 4, 5] C110), .blk 0, .jn (nav [1, 1, 1, 1, 1] C110)]
/-- (*rundale/rundaleref24.Model).known, from a loop's head on -/
def P110_0 (x0 x3 x6 x7 x8 : Value) (w : World) (Q : Value → World → Prop) : Prop := Part Try.prog 110 T110_0 [0, 3, 6, 7, 8] [x0, x3, x6, x7, x8] w Q
def F110 (a0 a1 : Value) (w : World) (Q : Value → World → Prop) : Prop :=
  effv Try.prog (Instr.box 27 a1) w fun t3 w =>
  wpB (pureRun Try.prog (Instr.fieldAt 27 t3 0)) fun t10 =>
  wpB (ldv Try.prog 3 t10 w) fun t11 =>
  wpB (pureRun Try.prog (Instr.fieldAt 27 t3 1)) fun t12 =>
  wpB (ldv Try.prog 3 t12 w) fun t13 =>
  CallR Try.prog 98 [a0, t11, t13] w fun t14 w =>
  wpB (bp Try.prog .lss 3 t14 (.int .i64 0)) fun t16 =>
  cnd t16
  (Q (.tuple #[(.bool false), (.bool false)]) w)
  (wpB (pureRun Try.prog (Instr.fieldAt 27 t3 2)) fun t17 =>
  wpB (ldv Try.prog 3 t17 w) fun t18 =>
  wpB (be Try.prog .eql 3 (.tmp 18) (.const (.int .i64 0)) t18 (.int .i64 0)) fun t19 =>
  wpB (gd t19 true (pureRun Try.prog (Instr.fieldAt 27 t3 3))) fun t21 =>
  wpB (gd t19 true (ldv Try.prog 3 t21 w)) fun t22 =>
  wpB (gd t19 true (be Try.prog .eql 3 (.tmp 22) (.const (.int .i64 0)) t22 (.int .i64 0))) fun t23 =>
  wpB (pickv t19 (some t23) (some (.bool false))) fun t24 =>
  wpB (gd t24 true (pureRun Try.prog (Instr.fieldAt 27 t3 4))) fun t26 =>
  wpB (gd t24 true (ldv Try.prog 3 t26 w)) fun t27 =>
  wpB (gd t24 true (be Try.prog .eql 3 (.tmp 27) (.const (.int .i64 0)) t27 (.int .i64 0))) fun t28 =>
  wpB (pickv t24 (some t28) (some (.bool false))) fun t29 =>
  P110_0 a0 t3 t14 t29 (.int .i64 0) w Q)
def L110_0 (x0 x3 x6 x7 x8 : Value) (w : World) (Q : Value → World → Prop) : Prop :=
  wpB (nilv x0) fun t32 =>
  wpB (pureRun Try.prog (Instr.fieldAt 126 t32 4)) fun t33 =>
  wpB (ldv Try.prog 124 t33 w) fun t34 =>
  wpB (pureRun Try.prog (Instr.indexAt 124 t34 x6)) fun t36 =>
  wpB (pureRun Try.prog (Instr.fieldAt 138 t36 7)) fun t37 =>
  wpB (ldv Try.prog 48 t37 w) fun t38 =>
  wpB (pureRun Try.prog (Builtin.len_ #[48] 3 #[t38])) fun t39 =>
  wpB (bp Try.prog .lss 3 x8 t39) fun t40 =>
  cnd t40
  (wpB (nilv x0) fun t44 =>
  wpB (pureRun Try.prog (Instr.fieldAt 126 t44 4)) fun t45 =>
  wpB (ldv Try.prog 124 t45 w.drew) fun t46 =>
  wpB (pureRun Try.prog (Instr.indexAt 124 t46 x6)) fun t48 =>
  wpB (pureRun Try.prog (Instr.fieldAt 138 t48 7)) fun t49 =>
  wpB (ldv Try.prog 48 t49 w.drew) fun t50 =>
  wpB (pureRun Try.prog (Instr.indexAt 48 t50 x8)) fun t52 =>
  wpB (ldv Try.prog 27 t52 w.drew) fun t53 =>
  wpB (ldv Try.prog 27 x3 w.drew) fun t54 =>
  wpB (be Try.prog .eql 27 (.tmp 53) (.tmp 54) t53 t54) fun t55 =>
  cnd t55
  (Q (.tuple #[x7, (.bool true)]) w.drew)
  (wpB (bp Try.prog .add 3 x8 (.int .i64 1)) fun t42 =>
  P110_0 x0 x3 x6 x7 t42 w.drew Q))
  (Q (.tuple #[x7, (.bool false)]) w)
theorem F110_ok {a0 a1 : Value} {w : World} {Q : Value → World → Prop} (h : F110 a0 a1 w Q) : CallR Try.prog 110 [a0, a1] w Q :=
  call_ofE mixed entOk Try.func110 (c := C110) rfl H110 (Nat.le_of_ble_eq_true rfl) (by kernel_rfl) h
theorem L110_0_ok {x0 x3 x6 x7 x8 : Value} {w : World} {Q : Value → World → Prop} (h : L110_0 x0 x3 x6 x7 x8 w Q) : P110_0 x0 x3 x6 x7 x8 w Q :=
  part_lpE mixed entOk Try.func110 H110 (by kernel_rfl) h

noncomputable def C111 : Code := (Try.f111.body).getD .skip
noncomputable def H111 : Hints := ⟨[], [], []⟩
def F111 (a0 a1 a2 : Value) (w : World) (Q : Value → World → Prop) : Prop :=
  CallR Try.prog 112 [a0, a2] w fun t9 w =>
  gE t9 true (CallR Try.prog 113 [(gv t9 true a0), (gv t9 true a2)] w) (fun t13 w =>
  wpB (gd t9 true (pureRun Try.prog (Op.unary .not t13))) fun t14 =>
  wpB (pickv t9 (some t14) (some (.bool false))) fun t15 =>
  wpB (gd t15 true (bp Try.prog .geq 3 (gv t15 true a1) (.int .i64 0))) fun t18 =>
  wpB (pickv t15 (some t18) (some (.bool false))) fun t19 =>
  wpB (gd t19 true (bp Try.prog .sub 3 (gv t19 true a0) (gv t19 true a2))) fun t24 =>
  wpB (gd t19 true (bp Try.prog .leq 3 (gv t19 true a1) t24)) fun t25 =>
  wpB (pickv t19 (some t25) (some (.bool false))) fun t26 =>
  Q t26 w) w
theorem F111_ok {a0 a1 a2 : Value} {w : World} {Q : Value → World → Prop} (h : F111 a0 a1 a2 w Q) : CallR Try.prog 111 [a0, a1, a2] w Q :=
  call_ofE mixed entOk Try.func111 (c := C111) rfl H111 (Nat.le_of_ble_eq_true rfl) (by kernel_rfl) h

noncomputable def C112 : Code := (Try.f112.body).getD .skip
noncomputable def H112 : Hints := ⟨[], [], []⟩
def F112 (a0 a1 : Value) (w : World) (Q : Value → World → Prop) : Prop :=
  CallR Try.prog 24 [a0, (.int .i64 1), (.int .i64 1024)] w fun t6 w =>
  gE t6 true (CallR Try.prog 24 [(gv t6 true a1), (.int .i64 1), (gv t6 true a0)] w) (fun t10 w =>
  wpB (pickv t6 (some t10) (some (.bool false))) fun t11 =>
  Q t11 w) w
theorem F112_ok {a0 a1 : Value} {w : World} {Q : Value → World → Prop} (h : F112 a0 a1 w Q) : CallR Try.prog 112 [a0, a1] w Q :=
  call_ofE mixed entOk Try.func112 (c := C112) rfl H112 (Nat.le_of_ble_eq_true rfl) (by kernel_rfl) h

noncomputable def C113 : Code := (Try.f113.body).getD .skip
noncomputable def H113 : Hints := ⟨[], [], []⟩
def F113 (a0 a1 : Value) (w : World) (Q : Value → World → Prop) : Prop :=
  CallR Try.prog 112 [a0, a1] w fun t7 w =>
  wpB (gd t7 true (bp Try.prog .sub 3 (gv t7 true a0) (gv t7 true a1))) fun t12 =>
  wpB (gd t7 true (bp Try.prog .gtr 3 (gv t7 true a1) t12)) fun t13 =>
  wpB (pickv t7 (some t13) (some (.bool false))) fun t14 =>
  Q t14 w
theorem F113_ok {a0 a1 : Value} {w : World} {Q : Value → World → Prop} (h : F113 a0 a1 w Q) : CallR Try.prog 113 [a0, a1] w Q :=
  call_ofE mixed entOk Try.func113 (c := C113) rfl H113 (Nat.le_of_ble_eq_true rfl) (by kernel_rfl) h

noncomputable def C114 : Code := (Try.f114.body).getD .skip
noncomputable def H114 : Hints := ⟨[(2, [0, 3, 7, 8])], [], [(4, (.leaf [0, 1, 2, 3, 4, 5]))]⟩
noncomputable def T114_0 : List It := [.lp (nav [1, 0, 1, 4, 5] C114), .blk 0, .jn (nav [1, 1] C114)]
/-- slices.Index[[]rundale/api.Handle,rundale/api.Handle], from a loop's head on -/
def P114_0 (x0 x3 x7 x8 : Value) (w : World) (Q : Value → World → Prop) : Prop := Part Try.prog 114 T114_0 [0, 3, 7, 8] [x0, x3, x7, x8] w Q
def F114 (a0 a1 : Value) (w : World) (Q : Value → World → Prop) : Prop :=
  effv Try.prog (Instr.box 27 a1) w fun t3 w =>
  wpB (pureRun Try.prog (Builtin.len_ #[48] 3 #[a0])) fun t7 =>
  P114_0 a0 t3 t7 (.int .i64 0) w Q
def L114_0 (x0 x3 x7 x8 : Value) (w : World) (Q : Value → World → Prop) : Prop :=
  wpB (bp Try.prog .lss 3 x8 x7) fun t9 =>
  cnd t9
  (wpB (ldv Try.prog 27 x3 w.drew) fun t11 =>
  wpB (pureRun Try.prog (Instr.indexAt 48 x0 x8)) fun t14 =>
  wpB (ldv Try.prog 27 t14 w.drew) fun t15 =>
  wpB (be Try.prog .eql 27 (.tmp 11) (.tmp 15) t11 t15) fun t16 =>
  cnd t16
  (Q x8 w.drew)
  (wpB (bp Try.prog .add 3 x8 (.int .i64 1)) fun t18 =>
  P114_0 x0 x3 x7 t18 w.drew Q))
  (Q (.int .i64 (-1)) w)
theorem F114_ok {a0 a1 : Value} {w : World} {Q : Value → World → Prop} (h : F114 a0 a1 w Q) : CallR Try.prog 114 [a0, a1] w Q :=
  call_ofE mixed entOk Try.func114 (c := C114) rfl H114 (Nat.le_of_ble_eq_true rfl) (by kernel_rfl) h
theorem L114_0_ok {x0 x3 x7 x8 : Value} {w : World} {Q : Value → World → Prop} (h : L114_0 x0 x3 x7 x8 w Q) : P114_0 x0 x3 x7 x8 w Q :=
  part_lpE mixed entOk Try.func114 H114 (by kernel_rfl) h

end Go.Proofs.Yteapggpkgfiacaa

namespace Go.Proofs.Yteapggpkgfiacaa
open Go Ev Go.RowKit
set_option linter.unusedSimpArgs false
set_option linter.unusedVariables false
set_option maxRecDepth 10000

def ofK (k : Int) : Int := if k = 2 ∨ k = 10 ∨ k = 12 then 1 else if 6 ≤ k ∧ k ≤ 9 then 2 else if k = 5 then 3 else 0
def nB (k : Int) : Bool := decide (k = 1 ∨ k = 2 ∨ (6 ≤ k ∧ k ≤ 9))
def vB (k : Int) : Bool := decide (7 ≤ k ∧ k ≤ 9)
def wB (k : Int) : Bool := decide (k = 9)
theorem kind_cases (k : Int) : k = 1 ∨ k = 2 ∨ k = 3 ∨ k = 4 ∨ k = 5 ∨ k = 6 ∨ k = 7 ∨ k = 8 ∨ k = 9 ∨ k = 10 ∨ k = 11 ∨ k = 12 ∨ (k < 1 ∨ 12 < k) := by omega
theorem eqf {k c : Int} (h : k ≠ c) : (k == c) = false := by simpa using h
theorem c_Of (k : Int) (w : World) : CallR Try.prog 53 [.int .i64 k] w fun v w' => v = .int .i64 (ofK k) ∧ w' = w := by
  rcases kind_cases k with rfl | rfl | rfl | rfl | rfl | rfl | rfl | rfl | rfl | rfl | rfl | rfl | h
  all_goals
    apply F53_ok
    try simp -implicitDefEqProofs [F53]
    try rw [eqf (show k ≠ 2 by omega), eqf (show k ≠ 10 by omega), eqf (show k ≠ 12 by omega)]
    try simp -implicitDefEqProofs only [cnd_false]
    try apply L53_0_ok
    try simp -implicitDefEqProofs [L53_0]
    try rw [eqf (show k ≠ 6 by omega), eqf (show k ≠ 7 by omega), eqf (show k ≠ 8 by omega), eqf (show k ≠ 9 by omega)]
    try simp -implicitDefEqProofs only [cnd_false]
    try apply L53_1_ok
    try simp -implicitDefEqProofs [L53_1]
    try rw [eqf (show k ≠ 5 by omega)]
    try simp -implicitDefEqProofs only [cnd_false]
    try (simp [ofK]; done)
    try (rw [ofK, if_neg (by omega), if_neg (by omega), if_neg (by omega)])
theorem c_HasN (k : Int) (w : World) : CallR Try.prog 94 [.int .i64 k] w fun v w' => v = .bool (nB k) ∧ w' = w := by
  apply F94_ok
  by_cases h1 : k = 1 <;> by_cases h2 : k = 2 <;> by_cases h6 : 6 ≤ k <;> by_cases h9 : k ≤ 9 <;> simp -implicitDefEqProofs [F94, h1, h2, h6, h9, eqf, nB] <;> omega
theorem c_HasV (k : Int) (w : World) : CallR Try.prog 96 [.int .i64 k] w fun v w' => v = .bool (vB k) ∧ w' = w := by
  apply F96_ok
  by_cases h6 : 7 ≤ k <;> by_cases h9 : k ≤ 9 <;> simp -implicitDefEqProofs [F96, h6, h9, vB]
def nameK (k : Int) : ByteArray :=
  if k = 1 then { data := #[99, 114, 101, 97, 116, 101] } else if k = 2 then { data := #[97, 108, 108, 111, 99] } else if k = 3 then { data := #[112, 105, 110] } else if k = 4 then { data := #[117, 110, 112, 105, 110] }
  else if k = 5 then { data := #[104, 111, 108, 100] } else if k = 6 then { data := #[108, 111, 97, 100] } else if k = 7 then { data := #[115, 116, 111, 114, 101] } else if k = 8 then { data := #[97, 100, 100] }
  else if k = 9 then { data := #[99, 97, 115] } else if k = 10 then { data := #[102, 114, 101, 101] } else if k = 11 then { data := #[99, 111, 108, 108, 101, 99, 116] } else if k = 12 then { data := #[115, 116, 97, 116, 115] } else { data := #[] }
def formC (k : Int) : List Value := [.string (nameK k), .int .i64 (ofK k), .bool (nB k), .bool (vB k), .bool (wB k)]
theorem formC_out {k : Int} (h : k < 1 ∨ 12 < k) : formC k = [.string { data := #[] }, .int .i64 0, .bool false, .bool false, .bool false] := by
  have e1 : nameK k = { data := #[] } := by
    unfold nameK
    rw [if_neg (by omega), if_neg (by omega), if_neg (by omega), if_neg (by omega), if_neg (by omega), if_neg (by omega), if_neg (by omega), if_neg (by omega), if_neg (by omega), if_neg (by omega), if_neg (by omega), if_neg (by omega)]
  have e2 : ofK k = 0 := by rw [ofK, if_neg (by omega), if_neg (by omega), if_neg (by omega)]
  have e3 : nB k = false := by simp [nB]; omega
  have e4 : vB k = false := by simp [vB]; omega
  have e5 : wB k = false := by simp [wB]; omega
  rw [formC, e1, e2, e3, e4, e5]
theorem c_formOf (k : Int) (w : World) : CallR Try.prog 70 [.int .i64 k] w fun v w' => v = .agg (formC k).toArray ∧ Chg [] w w' := by
  have hb : ∀ w' : World, w' = w → Chg [] w w' := fun w' h => h ▸ Chg.refl _ _
  have hch : ∀ c1 c2 c3 : Array Value, Chg [] w (put ((w.alloc (.cells c1 116)).alloc (.cells c2 116)) w.heap.size c3 116) := fun c1 c2 c3 => (((Chg.refl [] w).alloc _).alloc _).put (.inr (Nat.le_refl _)) _ _
  rcases kind_cases k with rfl | rfl | rfl | rfl | rfl | rfl | rfl | rfl | rfl | rfl | rfl | rfl | h
  case inr.inr.inr.inr.inr.inr.inr.inr.inr.inr.inr.inr =>
    apply F70_ok
    rw [formC_out h]
    rcases h with h | h
    · have h' : k < 1 := h
      simp -implicitDefEqProofs [F70, h', ia_134, ld_116, st_116, hch]
    · have h1 : ¬ k < 1 := by omega
      have h2 : (13 : Int) ≤ k := by omega
      simp -implicitDefEqProofs [F70, h1, h2, ia_134, ld_116, st_116, hch]
  all_goals
    apply F70_ok
    simp -implicitDefEqProofs [F70, ia_134, ld_116, st_116, formC, nameK, ofK, nB, vB, wB, hch]
theorem c_opOf (k : Int) (w : World) : CallR Try.prog 42 [.int .i64 k] w fun v w' => v = .int .i64 (ofK k) ∧ Chg [] w w' := by
  apply F42_ok
  refine (c_formOf k w).mono ?_
  rintro v w1 ⟨rfl, hc⟩
  simp -implicitDefEqProofs [F42, formC, hc]
end Go.Proofs.Yteapggpkgfiacaa

namespace Go.Proofs.Yteapggpkgfiacaa
open Go Ev Go.RowKit
set_option linter.unusedSimpArgs false
set_option linter.unusedVariables false
set_option maxRecDepth 10000

/-- an operation: kind, from, at, n, v, w -/
abbrev OpV := Int × Int × Int × Int × Int × Int
def opC (o : OpV) : List Value := [.int .i64 o.1, .int .i64 o.2.1, .int .i64 o.2.2.1, .int .i64 o.2.2.2.1, .int .u64 o.2.2.2.2.1, .int .u64 o.2.2.2.2.2]
end Go.Proofs.Yteapggpkgfiacaa

namespace Go.Proofs.Yteapggpkgfiacaa
open Go Ev Go.RowKit
set_option linter.unusedSimpArgs false
set_option linter.unusedVariables false
set_option maxRecDepth 10000

theorem tup0 (a b : Value) : pureRun Try.prog (Instr.extract (.tuple #[a, b]) 0) = some a := by rw [pr_extract]; rfl
theorem tup1 (a b : Value) : pureRun Try.prog (Instr.extract (.tuple #[a, b]) 1) = some b := by rw [pr_extract]; rfl
theorem c_within (n m : Int) (w : World) : CallR Try.prog 89 [.int .i64 n, .int .i64 m] w fun v w' => v = .bool (decide (0 ≤ n ∧ n ≤ m)) ∧ w' = w := by
  apply F89_ok
  by_cases h : 0 ≤ n
  · have e : decide (0 ≤ n ∧ n ≤ m) = decide (n ≤ m) := by simp [h]
    simp -implicitDefEqProofs only [F89, zS, h, e, and_self]
    exact ⟨by simp, trivial⟩
  · simp -implicitDefEqProofs only [F89, zS, h, false_and, and_self]
theorem c_in18 (n a m : Int) (w : World) : CallR Try.prog 95 [.int .i64 n, .int .i64 a, .int .i64 m] w fun v w' => v = .bool (decide (a ≤ n ∧ n ≤ m)) ∧ w' = w := by
  apply F95_ok
  by_cases h : a ≤ n
  · simp -implicitDefEqProofs only [F95, zS, h, true_and, and_self]
  · simp -implicitDefEqProofs only [F95, zS, h, false_and, and_self]
def frM (k : Int) : Int := if ofK k = 0 then 0 else 63
def atM (k : Int) : Int := if ofK k = 0 then 0 else 999
def nM (k : Int) : Int := if k = 1 then 3 else if nB k then 65535 else 0
/-- may an operation be? -/
def mayO (o : OpV) : Bool := decide ((1 ≤ o.1 ∧ o.1 ≤ 12) ∧ (0 ≤ o.2.1 ∧ o.2.1 ≤ frM o.1) ∧ (0 ≤ o.2.2.1 ∧ o.2.2.1 ≤ atM o.1) ∧ (0 ≤ o.2.2.2.1 ∧ o.2.2.2.1 ≤ nM o.1) ∧ (vB o.1 = true ∨ o.2.2.2.2.1 = 0) ∧ (wB o.1 = true ∨ o.2.2.2.2.2 = 0))
theorem op_0 (o : OpV) : (opC o).toArray[0 + 0]? = some (.int .i64 o.1) := rfl
theorem op_1 (o : OpV) : (opC o).toArray[0 + 1]? = some (.int .i64 o.2.1) := rfl
theorem op_2 (o : OpV) : (opC o).toArray[0 + 2]? = some (.int .i64 o.2.2.1) := rfl
theorem op_3 (o : OpV) : (opC o).toArray[0 + 3]? = some (.int .i64 o.2.2.2.1) := rfl
theorem op_4 (o : OpV) : (opC o).toArray[0 + 4]? = some (.int .u64 o.2.2.2.2.1) := rfl
theorem op_5 (o : OpV) : (opC o).toArray[0 + 5]? = some (.int .u64 o.2.2.2.2.2) := rfl
theorem form_0 (k : Int) : (formC k).toArray[0 + 0]? = some (.string (nameK k)) := rfl
theorem form_1 (k : Int) : (formC k).toArray[0 + 1]? = some (.int .i64 (ofK k)) := rfl
theorem form_2 (k : Int) : (formC k).toArray[0 + 2]? = some (.bool (nB k)) := rfl
theorem form_3 (k : Int) : (formC k).toArray[0 + 3]? = some (.bool (vB k)) := rfl
theorem form_4 (k : Int) : (formC k).toArray[0 + 4]? = some (.bool (wB k)) := rfl
theorem name_ne (k : Int) : (!((nameK k).toList == (({ data := #[] } : ByteArray)).toList)) = decide (1 ≤ k ∧ k ≤ 12) := by
  have e : (({ data := #[] } : ByteArray)).toList = [] := ByteArray.toList_mk []
  rw [e]
  rcases kind_cases k with rfl | rfl | rfl | rfl | rfl | rfl | rfl | rfl | rfl | rfl | rfl | rfl | h
  case inr.inr.inr.inr.inr.inr.inr.inr.inr.inr.inr.inr =>
    have := formC_out h
    have e2 : nameK k = { data := #[] } := by
      have h0 := congrArg (fun l : List Value => l[0]?) this
      simp [formC] at h0; exact h0
    rw [e2, e]
    have : ¬ (1 ≤ k ∧ k ≤ 12) := by omega
    simp [this]
  all_goals decide +kernel
theorem mayO_eq (o : OpV) {b : Bool} (h : ((1 ≤ o.1 ∧ o.1 ≤ 12) ∧ (0 ≤ o.2.1 ∧ o.2.1 ≤ frM o.1) ∧ (0 ≤ o.2.2.1 ∧ o.2.2.1 ≤ atM o.1) ∧ (0 ≤ o.2.2.2.1 ∧ o.2.2.2.1 ≤ nM o.1) ∧ (vB o.1 = true ∨ o.2.2.2.2.1 = 0) ∧ (wB o.1 = true ∨ o.2.2.2.2.2 = 0)) ↔ b = true) : mayO o = b := by
  unfold mayO
  cases b
  · exact decide_eq_false fun h' => by have := h.1 h'; cases this
  · exact decide_eq_true (h.2 rfl)
set_option maxHeartbeats 1000000 in
theorem l_opMay1 {w w0 : World} (hw0 : Chg [] w0 w) {o : OpV} {g1 g3 : Nat} (h1 : hp w g1 = some (.cells (opC o).toArray 29)) (h3 : hp w g3 = some (.cells (formC o.1).toArray 116)) :
    P71_1 (.pointer (some ⟨g1, 0, none⟩)) (.pointer (some ⟨g3, 0, none⟩)) (.int .i64 (frM o.1)) (.int .i64 (atM o.1)) (.int .i64 (nM o.1)) w fun v w' => v = .bool (mayO o) ∧ Chg [] w0 w' := by
  apply L71_1_ok
  by_cases k1 : 1 ≤ o.1 ∧ o.1 ≤ 12
  rotate_left
  · simp -implicitDefEqProofs only [L71_1, zS, fa_116_0, ld_9, h3, form_0, be_neqstr, name_ne, k1]
    exact ⟨by rw [mayO_eq o (b := false) ⟨fun h => absurd h.1 k1, fun h => by cases h⟩], hw0⟩
  simp -implicitDefEqProofs only [L71_1, zS, fa_116_0, ld_9, h3, form_0, be_neqstr, name_ne, decide_eq_true k1, fa_29_1, ld_3, h1, op_1]
  refine (c_within _ _ _).step ?_
  by_cases k2 : 0 ≤ o.2.1 ∧ o.2.1 ≤ frM o.1
  rotate_left
  · simp -implicitDefEqProofs only [decide_eq_false k2, zS]
    exact ⟨by rw [mayO_eq o (b := false) ⟨fun h => absurd h.2.1 k2, fun h => by cases h⟩], hw0⟩
  simp -implicitDefEqProofs only [decide_eq_true k2, zS, fa_29_2, ld_3, h1, op_2]
  refine (c_within _ _ _).step ?_
  by_cases k3 : 0 ≤ o.2.2.1 ∧ o.2.2.1 ≤ atM o.1
  rotate_left
  · simp -implicitDefEqProofs only [decide_eq_false k3, zS]
    exact ⟨by rw [mayO_eq o (b := false) ⟨fun h => absurd h.2.2.1 k3, fun h => by cases h⟩], hw0⟩
  simp -implicitDefEqProofs only [decide_eq_true k3, zS, fa_29_3, ld_3, h1, op_3]
  refine (c_within _ _ _).step ?_
  by_cases k4 : 0 ≤ o.2.2.2.1 ∧ o.2.2.2.1 ≤ nM o.1
  rotate_left
  · simp -implicitDefEqProofs only [decide_eq_false k4, zS]
    exact ⟨by rw [mayO_eq o (b := false) ⟨fun h => absurd h.2.2.2.1 k4, fun h => by cases h⟩], hw0⟩
  simp -implicitDefEqProofs only [decide_eq_true k4, zS, fa_116_3, ld_4, h3, form_3]
  have last : ∀ b : Bool, (vB o.1 = true ∨ o.2.2.2.2.1 = 0) → ((wB o.1 = true ∨ o.2.2.2.2.2 = 0) ↔ b = true) → mayO o = b := fun b h5 h6 => mayO_eq o ⟨fun h => h6.1 h.2.2.2.2.2, fun h => ⟨k1, k2, k3, k4, h5, h6.2 h⟩⟩
  have no5 : ¬ (vB o.1 = true ∨ o.2.2.2.2.1 = 0) → mayO o = false := fun h5 => mayO_eq o ⟨fun h => absurd h.2.2.2.2.1 h5, fun h => by cases h⟩
  cases hv : vB o.1 with
  | true =>
    rw [hv] at last
    cases hww : wB o.1 with
    | true =>
      rw [hww] at last
      simp -implicitDefEqProofs only [zS, fa_116_4, ld_4, h3, form_4, hww]
      exact ⟨by rw [last true (.inl rfl) (by simp)], hw0⟩
    | false =>
      rw [hww] at last
      simp -implicitDefEqProofs only [zS, fa_116_4, ld_4, h3, form_4, hww, fa_29_5, ld_22, h1, op_5]
      exact ⟨by rw [last (o.2.2.2.2.2 == 0) (.inl rfl) (by simp)], hw0⟩
  | false =>
    rw [hv] at last no5
    by_cases k5 : o.2.2.2.2.1 = 0
    rotate_left
    · simp -implicitDefEqProofs only [zS, fa_29_4, ld_22, h1, op_4, eqf k5]
      exact ⟨by rw [no5 (by simp [k5])], hw0⟩
    have k5' : (o.2.2.2.2.1 == 0) = true := by rw [k5]; rfl
    cases hww : wB o.1 with
    | true =>
      rw [hww] at last
      simp -implicitDefEqProofs only [zS, fa_29_4, ld_22, h1, op_4, k5', fa_116_4, ld_4, h3, form_4, hww]
      exact ⟨by rw [last true (.inr k5) (by simp)], hw0⟩
    | false =>
      rw [hww] at last
      simp -implicitDefEqProofs only [zS, fa_29_4, ld_22, h1, op_4, k5', fa_116_4, ld_4, h3, form_4, hww, fa_29_5, ld_22, h1, op_5]
      exact ⟨by rw [last (o.2.2.2.2.2 == 0) (.inr k5) (by simp)], hw0⟩
theorem c_opMay (o : OpV) (w : World) : CallR Try.prog 71 [.agg (opC o).toArray] w fun v w' => v = .bool (mayO o) ∧ Chg [] w w' := by
  apply F71_ok
  have h1 : hp (w.alloc (.cells (opC o).toArray 29)) w.heap.size = some (.cells (opC o).toArray 29) := by rw [alloc_heap, if_pos rfl]
  have hc1 : Chg [] w (w.alloc (.cells (opC o).toArray 29)) := (Chg.refl _ _).alloc _
  have hlt : w.heap.size < (w.alloc (.cells (opC o).toArray 29)).heap.size := by simp
  simp -implicitDefEqProofs only [F71, effv_box, cells_agg, zS, fa_29_0, ld_3, h1, op_0]
  generalize w.alloc (.cells (opC o).toArray 29) = w1 at *
  generalize hg : w.heap.size = g1 at *
  refine (c_formOf o.1 w1).mono ?_
  rintro v w2 ⟨rfl, hc2⟩
  simp -implicitDefEqProofs only [al_116]
  rw [st_116 (by rfl) (by rfl) (by rw [alloc_heap, if_pos rfl]; rfl) (by rw [alloc_heap, if_pos rfl]; rfl), alloc_heap, if_pos rfl]
  simp -implicitDefEqProofs only [getE_some]
  generalize hz : w2.alloc _ = wa
  have hca : Chg [] w2 wa := by rw [← hz]; exact (Chg.refl _ _).alloc _
  have hza : wa.heap.size = w2.heap.size + 1 := by rw [← hz]; simp
  have hcp : Chg [] w2 (put wa w2.heap.size (formC o.1).toArray 116) := hca.put (.inr (Nat.le_refl _)) _ _
  have h3 : hp (put wa w2.heap.size (formC o.1).toArray 116) w2.heap.size = some (.cells (formC o.1).toArray 116) := by rw [put_heap, if_pos rfl, if_pos (by omega)]
  have h1 := (hc2.trans hcp).at h1 (by simp)
  have hcc := (hc1.trans hc2).trans hcp
  clear hz hca hza hcp
  generalize put wa w2.heap.size (formC o.1).toArray 116 = w3 at *
  generalize w2.heap.size = g3 at *
  simp -implicitDefEqProofs only [zS, fa_116_1, ld_3, h3, form_1]
  have zero : ∀ f a : Int, f = frM o.1 → a = atM o.1 → P71_0 (.pointer (some ⟨g1, 0, none⟩)) (.pointer (some ⟨g3, 0, none⟩)) (.int .i64 f) (.int .i64 a) (.int .i64 0) w3 fun v w' => v = .bool (mayO o) ∧ Chg [] w w' := by
    intro f a hf ha
    subst hf; subst ha
    apply L71_0_ok
    by_cases k1 : o.1 = 1
    · have k1' : (o.1 == 1) = true := by rw [k1]; rfl
      have e : (3 : Int) = nM o.1 := by simp [nM, k1]
      simp -implicitDefEqProofs only [L71_0, zS, fa_29_0, ld_3, h1, op_0, k1']
      rw [e]
      exact l_opMay1 hcc h1 h3
    · cases hn : nB o.1 with
      | true =>
        have e : (65535 : Int) = nM o.1 := by simp [nM, k1, hn]
        simp -implicitDefEqProofs only [L71_0, zS, fa_29_0, ld_3, h1, op_0, eqf k1, fa_116_2, ld_4, h3, form_2, hn]
        rw [e]
        exact l_opMay1 hcc h1 h3
      | false =>
        have e : (0 : Int) = nM o.1 := by simp [nM, k1, hn]
        simp -implicitDefEqProofs only [L71_0, zS, fa_29_0, ld_3, h1, op_0, eqf k1, fa_116_2, ld_4, h3, form_2, hn]
        have := l_opMay1 (w0 := w) hcc h1 h3
        rw [← e] at this
        exact this
  by_cases k : ofK o.1 = 0
  · have k' : (ofK o.1 != 0) = false := by rw [k]; rfl
    simp -implicitDefEqProofs only [k', zS]
    exact zero 0 0 (by simp [frM, k]) (by simp [atM, k])
  · simp -implicitDefEqProofs only [bne_iff_ne.2 k, zS]
    exact zero 63 999 (by simp [frM, k]) (by simp [atM, k])
set_option maxHeartbeats 1000000 in
theorem l_refMay {w : World} {o : OpV} {g1 : Nat} (h1 : hp w g1 = some (.cells (opC o).toArray 29)) :
    P79_0 (.pointer (some ⟨g1, 0, none⟩)) (.int .i64 (nM o.1)) w fun v w' => v = .bool (mayO o) ∧ w' = w := by
  apply L79_0_ok
  simp -implicitDefEqProofs only [L79_0, zS, fa_29_0, ld_3, h1, op_0]
  refine (c_in18 _ _ _ _).step ?_
  have no : ¬ ((1 ≤ o.1 ∧ o.1 ≤ 12) ∧ (0 ≤ o.2.1 ∧ o.2.1 ≤ frM o.1) ∧ (0 ≤ o.2.2.1 ∧ o.2.2.1 ≤ atM o.1) ∧ (0 ≤ o.2.2.2.1 ∧ o.2.2.2.1 ≤ nM o.1) ∧ (vB o.1 = true ∨ o.2.2.2.2.1 = 0) ∧ (wB o.1 = true ∨ o.2.2.2.2.2 = 0)) → mayO o = false := fun h => mayO_eq o ⟨fun h' => absurd h' h, fun h => by cases h⟩
  by_cases k1 : 1 ≤ o.1 ∧ o.1 ≤ 12
  rotate_left
  · simp -implicitDefEqProofs only [decide_eq_false k1, zS]
    exact ⟨by rw [no fun h => k1 h.1], trivial⟩
  simp -implicitDefEqProofs only [decide_eq_true k1, zS, fa_29_3, ld_3, h1, op_3]
  refine (c_in18 _ _ _ _).step ?_
  by_cases k4 : 0 ≤ o.2.2.2.1 ∧ o.2.2.2.1 ≤ nM o.1
  rotate_left
  · simp -implicitDefEqProofs only [decide_eq_false k4, zS]
    exact ⟨by rw [no fun h => k4 h.2.2.2.1], trivial⟩
  simp -implicitDefEqProofs only [decide_eq_true k4, zS, fa_29_0, ld_3, h1, op_0]
  refine (c_HasV _ _).step ?_
  -- what is left once v and w were looked at
  have rest : (vB o.1 = true ∨ o.2.2.2.2.1 = 0) → (wB o.1 = true ∨ o.2.2.2.2.2 = 0) →
      (wpB (pureRun Try.prog (Instr.fieldAt 29 (.pointer (some ⟨g1, 0, none⟩)) 0)) fun t44 =>
       wpB (ldv Try.prog 3 t44 w) fun t45 =>
       CallR Try.prog 53 [t45] w fun t46 w1 =>
       wpB (be Try.prog .eql 3 (.tmp 46) (.const (.int .i64 0)) t46 (.int .i64 0)) fun t47 =>
       cnd t47
        (wpB (pureRun Try.prog (Instr.fieldAt 29 (.pointer (some ⟨g1, 0, none⟩)) 1)) fun t48 =>
         wpB (ldv Try.prog 3 t48 w1) fun t49 =>
         wpB (be Try.prog .eql 3 (.tmp 49) (.const (.int .i64 0)) t49 (.int .i64 0)) fun t50 =>
         wpB (gd t50 true (pureRun Try.prog (Instr.fieldAt 29 (.pointer (some ⟨g1, 0, none⟩)) 2))) fun t52 =>
         wpB (gd t50 true (ldv Try.prog 3 t52 w1)) fun t53 =>
         wpB (gd t50 true (be Try.prog .eql 3 (.tmp 53) (.const (.int .i64 0)) t53 (.int .i64 0))) fun t54 =>
         wpB (pickv t50 (some t54) (some (.bool false))) fun t55 => t55 = .bool (mayO o) ∧ w1 = w)
        (wpB (pureRun Try.prog (Instr.fieldAt 29 (.pointer (some ⟨g1, 0, none⟩)) 1)) fun t56 =>
         wpB (ldv Try.prog 3 t56 w1) fun t57 =>
         CallR Try.prog 95 [t57, .int .i64 0, .int .i64 63] w1 fun t58 w' =>
         wpB (gd t58 true (pureRun Try.prog (Instr.fieldAt 29 (.pointer (some ⟨g1, 0, none⟩)) 2))) fun t60 =>
         wpB (gd t58 true (ldv Try.prog 3 t60 w')) fun t61 =>
         gE t58 true (CallR Try.prog 95 [t61, .int .i64 0, .int .i64 999] w') (fun t62 w' =>
         wpB (pickv t58 (some t62) (some (.bool false))) fun t63 => t63 = .bool (mayO o) ∧ w' = w) w')) := by
    intro h5 h6
    simp -implicitDefEqProofs only [zS, fa_29_0, ld_3, h1, op_0]
    refine (c_Of _ _).step ?_
    have fin : ∀ b : Bool, (((0 ≤ o.2.1 ∧ o.2.1 ≤ frM o.1) ∧ (0 ≤ o.2.2.1 ∧ o.2.2.1 ≤ atM o.1)) ↔ b = true) → mayO o = b := fun b h => mayO_eq o ⟨fun h' => h.1 ⟨h'.2.1, h'.2.2.1⟩, fun h' => ⟨k1, (h.2 h').1, (h.2 h').2, k4, h5, h6⟩⟩
    by_cases k : ofK o.1 = 0
    · have k' : (ofK o.1 == 0) = true := by rw [k]; rfl
      have ef : frM o.1 = 0 := by simp [frM, k]
      have ea : atM o.1 = 0 := by simp [atM, k]
      rw [ef, ea] at fin
      by_cases z1 : o.2.1 = 0
      · have z1' : (o.2.1 == 0) = true := by rw [z1]; rfl
        simp -implicitDefEqProofs only [k', zS, fa_29_1, fa_29_2, ld_3, h1, op_1, op_2, z1']
        exact ⟨by rw [fin (o.2.2.1 == 0) (by simp; omega)], trivial⟩
      · simp -implicitDefEqProofs only [k', zS, fa_29_1, fa_29_2, ld_3, h1, op_1, op_2, eqf z1]
        exact ⟨by rw [fin false (by simp; omega)], trivial⟩
    · have ef : frM o.1 = 63 := by simp [frM, k]
      have ea : atM o.1 = 999 := by simp [atM, k]
      rw [ef, ea] at fin
      simp -implicitDefEqProofs only [eqf k, zS, fa_29_1, fa_29_2, ld_3, h1, op_1, op_2]
      refine (c_in18 _ _ _ _).step ?_
      by_cases z1 : 0 ≤ o.2.1 ∧ o.2.1 ≤ 63
      · simp -implicitDefEqProofs only [decide_eq_true z1, zS, fa_29_2, ld_3, h1, op_2]
        refine (c_in18 _ _ _ _).step ?_
        simp -implicitDefEqProofs only [zS]
        exact ⟨by rw [fin (decide (0 ≤ o.2.2.1 ∧ o.2.2.1 ≤ 999)) (by simp; omega)], trivial⟩
      · simp -implicitDefEqProofs only [decide_eq_false z1, zS]
        exact ⟨by rw [fin false (by simp; omega)], trivial⟩
  simp -implicitDefEqProofs only [zS, fa_29_0, ld_3, h1, op_0] at rest
  have wq : wB o.1 = decide (o.1 = 9) := rfl
  have six : (vB o.1 = true ∨ o.2.2.2.2.1 = 0) → (o.1 = 9 ∨ o.2.2.2.2.2 = 0 → wB o.1 = true ∨ o.2.2.2.2.2 = 0) := fun _ h => by rw [wq]; simpa using h
  by_cases k9 : o.1 = 9
  · have k9' : (o.1 != 9) = false := by rw [k9]; rfl
    have hv : vB o.1 = true := by rw [k9]; decide
    rw [hv]
    have := rest (.inl hv) (.inl (by rw [wq]; simpa using k9))
    simp -implicitDefEqProofs only [zS, fa_29_0, ld_3, h1, op_0, k9']
    exact this
  · cases hv : vB o.1 with
    | true =>
      by_cases k5 : o.2.2.2.2.2 = 0
      · have k5' : (o.2.2.2.2.2 != 0) = false := by rw [k5]; rfl
        have := rest (.inl hv) (.inr k5)
        simp -implicitDefEqProofs only [zS, fa_29_0, fa_29_5, ld_3, ld_22, h1, op_0, op_5, bne_iff_ne.2 k9, k5']
        exact this
      · simp -implicitDefEqProofs only [zS, fa_29_0, fa_29_5, ld_3, ld_22, h1, op_0, op_5, bne_iff_ne.2 k9, bne_iff_ne.2 k5]
        exact ⟨by rw [no fun h => by have := h.2.2.2.2.2; rw [wq] at this; simp [k9, k5] at this], trivial⟩
    | false =>
      by_cases k6 : o.2.2.2.2.1 = 0
      · have k6' : (o.2.2.2.2.1 != 0) = false := by rw [k6]; rfl
        by_cases k5 : o.2.2.2.2.2 = 0
        · have k5' : (o.2.2.2.2.2 != 0) = false := by rw [k5]; rfl
          have := rest (.inr k6) (.inr k5)
          simp -implicitDefEqProofs only [zS, fa_29_0, fa_29_4, fa_29_5, ld_3, ld_22, h1, op_0, op_4, op_5, bne_iff_ne.2 k9, k5', k6']
          exact this
        · simp -implicitDefEqProofs only [zS, fa_29_0, fa_29_4, fa_29_5, ld_3, ld_22, h1, op_0, op_4, op_5, bne_iff_ne.2 k9, bne_iff_ne.2 k5, k6']
          exact ⟨by rw [no fun h => by have := h.2.2.2.2.2; rw [wq] at this; simp [k9, k5] at this], trivial⟩
      · simp -implicitDefEqProofs only [zS, fa_29_0, fa_29_4, ld_3, ld_22, h1, op_0, op_4, bne_iff_ne.2 k6]
        exact ⟨by rw [no fun h => by have := h.2.2.2.2.1; rw [hv] at this; simp [k6] at this], trivial⟩
theorem c_refMay (o : OpV) (w : World) : CallR Try.prog 79 [.agg (opC o).toArray] w fun v w' => v = .bool (mayO o) ∧ Chg [] w w' := by
  apply F79_ok
  have h1 : hp (w.alloc (.cells (opC o).toArray 29)) w.heap.size = some (.cells (opC o).toArray 29) := by rw [alloc_heap, if_pos rfl]
  have hc1 : Chg [] w (w.alloc (.cells (opC o).toArray 29)) := (Chg.refl _ _).alloc _
  have fin : P79_0 (.pointer (some ⟨w.heap.size, 0, none⟩)) (.int .i64 (nM o.1)) (w.alloc (.cells (opC o).toArray 29)) fun v w' => v = .bool (mayO o) ∧ Chg [] w w' := by
    have := l_refMay h1
    exact Part.mono this fun v w' ⟨h, e⟩ => ⟨h, by rw [e]; exact hc1⟩
  by_cases k1 : o.1 = 1
  · have k1' : (o.1 == 1) = true := by rw [k1]; rfl
    have e : nM o.1 = 3 := by simp [nM, k1]
    simp -implicitDefEqProofs only [F79, effv_box, cells_agg, zS, fa_29_0, ld_3, h1, op_0, k1']
    rw [e] at fin
    exact fin
  · simp -implicitDefEqProofs only [F79, effv_box, cells_agg, zS, fa_29_0, ld_3, h1, op_0, eqf k1]
    refine (c_HasN _ _).step ?_
    cases hn : nB o.1 with
    | true =>
      have e : nM o.1 = 65535 := by simp [nM, k1, hn]
      rw [e] at fin
      simp -implicitDefEqProofs only [zS]
      exact fin
    | false =>
      have e : nM o.1 = 0 := by simp [nM, k1, hn]
      rw [e] at fin
      simp -implicitDefEqProofs only [zS]
      exact fin
end Go.Proofs.Yteapggpkgfiacaa

namespace Go.Proofs.Yteapggpkgfiacaa
open Go Ev Go.RowKit
set_option linter.unusedSimpArgs false
set_option linter.unusedVariables false
set_option maxRecDepth 10000

theorem tmod_cases2 (a m : Int) (hm : 0 < m) : (0 ≤ a.tmod m ∧ a.tmod m = a % m) ∨ (a.tmod m < 0 ∧ a.tmod m + m = a % m) := by
  have h1 := Int.emod_lt_of_pos a hm
  have h2 := Int.emod_nonneg a (b := m) (by omega)
  rcases Int.lt_or_le a 0 with h | h
  · have h5 := Int.tmod_eq_emod (a := a) (b := m)
    by_cases hd : 0 ≤ a ∨ m ∣ a
    · rw [if_pos hd] at h5
      left; omega
    · rw [if_neg hd] at h5
      have h6 : (m.natAbs : Int) = m := by omega
      rw [h6] at h5
      right; omega
  · left
    rw [Int.tmod_eq_emod_of_nonneg h]; omega
theorem c_Number (a m : Int) (w : World) (hm : 0 < m) (hm2 : m ≤ 4611686018427387904) : CallR Try.prog 7 [.int .i64 a, .int .i64 m] w fun v w' => v = .int .i64 (a % m) ∧ w' = w := by
  apply F7_ok
  have hlt := Int.emod_lt_of_pos a hm
  have hge := Int.emod_nonneg a (b := m) (by omega)
  simp -implicitDefEqProofs only [F7, bp_rem (show m ≠ 0 by omega), zS]
  rcases tmod_cases2 a m hm with ⟨h1, h2⟩ | ⟨h1, h2⟩
  · simp -implicitDefEqProofs only [show ¬ a.tmod m < 0 by omega, zS]
    apply L7_0_ok
    simp -implicitDefEqProofs only [L7_0, h2, and_self]
  · simp -implicitDefEqProofs only [h1, zS, bp_add]
    apply L7_0_ok
    simp -implicitDefEqProofs only [L7_0, h2, wrapi (n := a % m) (by omega) (by omega), and_self]
end Go.Proofs.Yteapggpkgfiacaa

namespace Go.Proofs.Yteapggpkgfiacaa.Ev
open Go Go.RowKit
set_option linter.unusedSimpArgs false
set_option linter.unusedVariables false

abbrev Fp := Nat → Prop
def FDis (F G : Fp) : Prop := ∀ k, F k → G k → False
def none' : Fp := fun _ => False
/-- but for F, and new blocks, all is as it was -/
structure ChgP (F : Fp) (w w' : World) : Prop where
  os : w'.os = w.os
  tape : w'.tape = w.tape
  output : w'.output = w.output
  size : w.heap.size ≤ w'.heap.size
  block : ∀ k, k < w.heap.size → ¬ F k → hp w' k = hp w k
/-- a thing that stood on F stands on F' now; nothing else was turned -/
structure UpdP (F F' : Fp) (w w' : World) : Prop where
  chg : ChgP F w w'
  sub : ∀ k, F' k → F k ∨ w.heap.size ≤ k
theorem ChgP.refl (F : Fp) (w : World) : ChgP F w w := ⟨rfl, rfl, rfl, Nat.le_refl _, fun _ _ _ => rfl⟩
theorem ChgP.mono {F G : Fp} {w w' : World} (h : ChgP F w w') (hs : ∀ k, F k → G k) : ChgP G w w' := ⟨h.os, h.tape, h.output, h.size, fun k hk hn => h.block k hk fun hm => hn (hs k hm)⟩
theorem ChgP.of {S : List Nat} {w w' : World} (h : Chg S w w') : ChgP (· ∈ S) w w' := ⟨h.os, h.tape, h.output, h.size, fun k hk hn => h.block k hk hn⟩
theorem ChgP.of0 {w w' : World} (h : Chg [] w w') (F : Fp) : ChgP F w w' := ⟨h.os, h.tape, h.output, h.size, fun k hk _ => h.block k hk (by simp)⟩
theorem UpdP.refl (F : Fp) (w : World) : UpdP F F w w := ⟨ChgP.refl _ _, fun k hk => .inl hk⟩
theorem UpdP.trans {F G H : Fp} {a b c : World} (h : UpdP F G a b) (k : UpdP G H b c) : UpdP F H a c :=
  ⟨⟨k.chg.os.trans h.chg.os, k.chg.tape.trans h.chg.tape, k.chg.output.trans h.chg.output, Nat.le_trans h.chg.size k.chg.size, fun i hi hn =>
    (k.chg.block i (Nat.lt_of_lt_of_le hi h.chg.size) fun hg => by rcases h.sub i hg with h1 | h1; exact hn h1; omega).trans (h.chg.block i hi hn)⟩,
   fun i hi => by
    rcases k.sub i hi with h1 | h1
    · exact h.sub i h1
    · exact .inr (Nat.le_trans h.chg.size h1)⟩
theorem UpdP.of0 {F : Fp} {a b : World} (k : Chg [] a b) : UpdP F F a b := ⟨ChgP.of0 k F, fun i hi => .inl hi⟩
theorem ChgP.at {F : Fp} {w w' : World} (h : ChgP F w w') {b : Nat} {o : Obj} (hb : hp w b = some o) (hn : ¬ F b) : hp w' b = some o := by rw [h.block b (blk_lt hb) hn]; exact hb
theorem ChgP.row {F : Fp} {w w' : World} {base : Nat} {e : TypeId} {z : Nat} {v : Value} {n : Nat} {xs : List Value} (h : w.ownsRow base e z v n xs) (hc : ChgP F w w') (hn : ∀ k, v.ownBlock = some k → ¬ F k) : w'.ownsRow base e z v n xs := by
  refine ⟨h.1, h.2.imp id fun ⟨g, cap, cur, h1, h2, h3, h4⟩ => ⟨g, cap, cur, h1, h2, ?_, h4⟩⟩
  exact hc.at h3 (hn g (by rw [h1]; rfl))
/-- what a value may be: in a world, standing on blocks -/
abbrev Th := World → Fp → Value → Prop
structure OwnT (P : Th) : Prop where
  frame : ∀ {w w' : World} {F G : Fp} {v : Value}, P w F v → ChgP G w w' → FDis F G → P w' F v
  lt : ∀ {w : World} {F : Fp} {v : Value}, P w F v → ∀ k, F k → k < w.heap.size
  one : ∀ {w : World} {F : Fp} {v : Value}, P w F v → v.cells = #[v] ∧ v.oneCell' = true
/-- a value that stands on nothing -/
def isV (u : Value) : Th := fun _ F v => v = u ∧ ∀ k, ¬ F k
theorem good_isV {u : Value} (h : u.cells = #[u] ∧ u.oneCell' = true) : OwnT (isV u) :=
  ⟨fun h _ _ => h, fun h k hk => absurd hk (h.2 k), fun h' => by rw [h'.1]; exact h⟩
/-- cells, each of its kind, each apart from the others -/
structure Parts (w : World) (Ps : List Th) (xs : List Value) (Fs : Nat → Fp) : Prop where
  len : Ps.length = xs.length
  each : ∀ (k : Nat) (P : Th) (v : Value), Ps[k]? = some P → xs[k]? = some v → P w (Fs k) v
  dis : ∀ j k, j < Ps.length → k < Ps.length → j ≠ k → FDis (Fs j) (Fs k)
def under (n : Nat) (Fs : Nat → Fp) : Fp := fun b => ∃ k, k < n ∧ Fs k b
def fset (Fs : Nat → Fp) (k : Nat) (F : Fp) : Nat → Fp := fun j => if j = k then F else Fs j
theorem Parts.frame {w w' : World} {Ps : List Th} {xs : List Value} {Fs : Nat → Fp} {G : Fp} (h : Parts w Ps xs Fs) (hg : ∀ P ∈ Ps, OwnT P) (hc : ChgP G w w') (hd : FDis (under Ps.length Fs) G) : Parts w' Ps xs Fs :=
  ⟨h.len, fun k P v hP hv => (hg P (List.mem_of_getElem? hP)).frame (h.each k P v hP hv) hc fun b h1 h2 => hd b ⟨k, (List.getElem?_eq_some_iff.1 hP).1, h1⟩ h2, h.dis⟩
theorem Parts.lt {w : World} {Ps : List Th} {xs : List Value} {Fs : Nat → Fp} (h : Parts w Ps xs Fs) (hg : ∀ P ∈ Ps, OwnT P) : ∀ b, under Ps.length Fs b → b < w.heap.size := fun b ⟨k, hk, hb⟩ => by
  obtain ⟨P, hP⟩ : ∃ P, Ps[k]? = some P := ⟨_, List.getElem?_eq_getElem hk⟩
  obtain ⟨v, hv⟩ : ∃ v, xs[k]? = some v := ⟨_, List.getElem?_eq_getElem (by rw [← h.len]; exact hk)⟩
  exact (hg P (List.mem_of_getElem? hP)).lt (h.each k P v hP hv) b hb
theorem Parts.set {w w' : World} {Ps : List Th} {xs : List Value} {Fs : Nat → Fp} {k : Nat} {F' : Fp} {P' : Th} {v' : Value} (h : Parts w Ps xs Fs) (hg : ∀ P ∈ Ps, OwnT P) (hk : k < Ps.length) (u : UpdP (Fs k) F' w w') (hv : P' w' F' v') :
    Parts w' (Ps.set k P') (xs.set k v') (fset Fs k F') := by
  have apart : ∀ j, j < Ps.length → j ≠ k → FDis (Fs j) F' := fun j hj hne b h1 h2 => by
    rcases u.sub b h2 with h3 | h3
    · exact h.dis j k hj hk hne b h1 h3
    · have := h.lt hg b ⟨j, hj, h1⟩; omega
  refine ⟨by simp [h.len], fun j P v hP hv' => ?_, fun i j hi hj hij => ?_⟩
  · rw [List.getElem?_set] at hP hv'
    by_cases hjk : k = j
    · subst hjk
      rw [if_pos rfl, if_pos hk] at hP
      rw [if_pos rfl, if_pos (by rw [← h.len]; exact hk)] at hv'
      cases hP; cases hv'
      simpa [fset] using hv
    · rw [if_neg hjk] at hP hv'
      have hj := (List.getElem?_eq_some_iff.1 hP).1
      simp only [fset, if_neg (Ne.symm hjk)]
      exact (hg P (List.mem_of_getElem? hP)).frame (h.each j P v hP hv') u.chg (h.dis j k hj hk (Ne.symm hjk))
  · simp only [List.length_set] at hi hj
    unfold fset
    by_cases h1 : i = k
    · rw [if_pos h1, if_neg (by omega)]
      exact fun b a c => apart j hj (by omega) b c a
    · rw [if_neg h1]
      by_cases h2 : j = k
      · rw [if_pos h2]; exact apart i hi h1
      · rw [if_neg h2]; exact h.dis i j hi hj hij
theorem under_set {n k : Nat} {Fs : Nat → Fp} {F' : Fp} (b : Nat) (h : under n (fset Fs k F') b) : F' b ∨ under n Fs b := by
  obtain ⟨j, hj, hb⟩ := h
  unfold fset at hb
  split at hb
  · exact .inl hb
  · exact .inr ⟨j, hj, hb⟩
theorem Parts.app {w : World} {Ps Qs : List Th} {xs ys : List Value} {Fs Gs : Nat → Fp} (h : Parts w Ps xs Fs) (k : Parts w Qs ys Gs) (hd : FDis (under Ps.length Fs) (under Qs.length Gs)) :
    Parts w (Ps ++ Qs) (xs ++ ys) fun j => if j < Ps.length then Fs j else Gs (j - Ps.length) := by
  refine ⟨by simp [h.len, k.len], fun j P v hP hv => ?_, fun i j hi hj hij => ?_⟩
  · by_cases hj : j < Ps.length
    · rw [List.getElem?_append_left hj] at hP
      rw [List.getElem?_append_left (by rw [← h.len]; exact hj)] at hv
      simp only [if_pos hj]
      exact h.each j P v hP hv
    · rw [List.getElem?_append_right (by omega)] at hP
      rw [List.getElem?_append_right (by rw [← h.len]; omega), ← h.len] at hv
      simp only [if_neg hj]
      exact k.each _ P v hP hv
  · simp only [List.length_append] at hi hj
    by_cases h1 : i < Ps.length
    · by_cases h2 : j < Ps.length
      · simp only [if_pos h1, if_pos h2]; exact h.dis i j h1 h2 hij
      · simp only [if_pos h1, if_neg h2]
        exact fun b a c => hd b ⟨i, h1, a⟩ ⟨_, by omega, c⟩
    · by_cases h2 : j < Ps.length
      · simp only [if_neg h1, if_pos h2]
        exact fun b a c => hd b ⟨j, h2, c⟩ ⟨_, by omega, a⟩
      · simp only [if_neg h1, if_neg h2]
        exact k.dis _ _ (by omega) (by omega) (by omega)
theorem under_app {n m : Nat} {Fs Gs : Nat → Fp} (b : Nat) : under (n + m) (fun j => if j < n then Fs j else Gs (j - n)) b ↔ under n Fs b ∨ under m Gs b := by
  constructor
  · rintro ⟨j, hj, hb⟩
    by_cases h : j < n
    · rw [if_pos h] at hb; exact .inl ⟨j, h, hb⟩
    · rw [if_neg h] at hb; exact .inr ⟨j - n, by omega, hb⟩
  · rintro (⟨j, hj, hb⟩ | ⟨j, hj, hb⟩)
    · exact ⟨j, by omega, by simp only [if_pos hj]; exact hb⟩
    · exact ⟨n + j, by omega, by simp only [if_neg (show ¬ n + j < n by omega), Nat.add_sub_cancel_left]; exact hb⟩
def isRow (e : TypeId) (z n : Nat) (Ps : List Th) : Th := fun w F x => ∃ (xs : List Value) (Fs : Nat → Fp), w.ownsRow 0 e z x n xs ∧ Parts w Ps xs Fs ∧ (∀ b, under Ps.length Fs b → x.ownBlock ≠ some b) ∧ ∀ b, F b ↔ x.ownBlock = some b ∨ under Ps.length Fs b
theorem good_isRow {e : TypeId} {z n : Nat} {Ps : List Th} (hg : ∀ P ∈ Ps, OwnT P) : OwnT (isRow e z n Ps) := by
  refine ⟨fun ⟨xs, Fs, h1, h2, h3, h4⟩ hc hd => ⟨xs, Fs, hc.row h1 fun k hk hG => hd k ((h4 k).2 (.inl hk)) hG, h2.frame hg hc fun b a c => hd b ((h4 b).2 (.inr a)) c, h3, h4⟩, fun ⟨xs, Fs, h1, h2, h3, h4⟩ k hk => ?_, fun ⟨xs, Fs, h1, _⟩ => ?_⟩
  · rcases (h4 k).1 hk with h | h
    · exact (h1.lt k h).2
    · exact h2.lt hg k h
  · rcases h1.2 with ⟨rfl, _⟩ | ⟨g, cap, cur, rfl, _⟩ <;> exact ⟨rfl, rfl⟩
theorem isRow.nil {e : TypeId} {z : Nat} {w : World} : isRow e z 0 [] w none' (.slice none 0 0) :=
  ⟨[], fun _ => none', World.ownsRow_nil _ _ _ _, ⟨rfl, fun k P v h => by simp at h, fun j k h => by simp at h⟩, fun b ⟨k, hk, _⟩ => by simp at hk, fun b => ⟨fun h => h.elim, fun h => by rcases h with h | ⟨k, hk, _⟩; cases h; simp at hk⟩⟩
theorem ChgP.put (w : World) (g : Nat) (c : Array Value) (e : TypeId) : ChgP (fun b => b = g) w (Ev.put w g c e) := (ChgP.of (S := [g]) ((Chg.refl _ _).put (.inl (by simp)) c e)).mono fun k hk => by simpa using hk
theorem UpdP.put {F F' : Fp} {w w1 : World} (u : UpdP F F' w w1) {g : Nat} (hg : F' g) (c : Array Value) (e : TypeId) : UpdP F F' w (Ev.put w1 g c e) :=
  u.trans ⟨(ChgP.put w1 g c e).mono fun k hk => by rw [hk]; exact hg, fun k hk => .inl hk⟩
theorem set_same {α : Type} {l : List α} {k : Nat} {v : α} (h : l[k]? = some v) : l.set k v = l := by
  apply List.ext_getElem?
  intro j
  rw [List.getElem?_set]
  split
  · rename_i e; subst e
    rw [if_pos (List.getElem?_eq_some_iff.1 h).1, h]
  · rfl
/-- a row of which one cell's thing was turned -/
theorem isRow.turn {e : TypeId} {z n : Nat} {Ps : List Th} {w w1 : World} {F F' : Fp} {x v : Value} {xs : List Value} {Fs : Nat → Fp} {k : Nat} {P' : Th} (h1 : w.ownsRow 0 e z x n xs) (h2 : Parts w Ps xs Fs) (h3 : ∀ b, under Ps.length Fs b → x.ownBlock ≠ some b) (h4 : ∀ b, F b ↔ x.ownBlock = some b ∨ under Ps.length Fs b)
    (hg : ∀ P ∈ Ps, OwnT P) (hk : k < Ps.length) (u : UpdP (Fs k) F' w w1) (hv : P' w1 F' v) :
    w1.ownsRow 0 e z x n xs ∧ Parts w1 (Ps.set k P') (xs.set k v) (fset Fs k F') ∧ (∀ b, under (Ps.set k P').length (fset Fs k F') b → x.ownBlock ≠ some b) ∧ UpdP F (fun b => x.ownBlock = some b ∨ under (Ps.set k P').length (fset Fs k F') b) w w1 := by
  refine ⟨u.chg.row h1 fun b hb hf => h3 b ⟨k, hk, hf⟩ hb, h2.set hg hk u hv, fun b hb hx => ?_, u.chg.mono fun b hb => (h4 b).2 (.inr ⟨k, hk, hb⟩), fun b hb => ?_⟩
  · rw [List.length_set] at hb
    rcases under_set b hb with h | h
    · rcases u.sub b h with h5 | h5
      · exact h3 b ⟨k, hk, h5⟩ hx
      · have := (h1.lt b hx).2; omega
    · exact h3 b h hx
  · rcases hb with hb | hb
    · exact .inl ((h4 b).2 (.inl hb))
    · rw [List.length_set] at hb
      rcases under_set b hb with h | h
      · rcases u.sub b h with h5 | h5
        · exact .inl ((h4 b).2 (.inr ⟨k, hk, h5⟩))
        · exact .inr h5
      · exact .inl ((h4 b).2 (.inr h))
/-- a cell of a row: where it stands, what it is; what comes of the row when it is turned -/
theorem isRow.cell {e : TypeId} {z n : Nat} {Ps : List Th} {w : World} {F : Fp} {x : Value} (h : isRow e z n Ps w F x) (hg : ∀ P ∈ Ps, OwnT P) {k : Nat} {P : Th} (hP : Ps[k]? = some P) :
    ∃ (g c : Nat) (v : Value) (Fk : Fp), x = .slice (some ⟨g, 0, none⟩) n c ∧ F g ∧ ¬ Fk g ∧ (∀ b, Fk b → F b) ∧ ldC (hp w g) k = some v ∧ P w Fk v ∧
      (∀ w1 F' P', UpdP Fk F' w w1 → P' w1 F' v → ∃ F1, isRow e z n (Ps.set k P') w1 F1 x ∧ UpdP F F1 w w1) ∧
      (∀ w1 F' P' v', UpdP Fk F' w w1 → OwnT P' → P' w1 F' v' → okC (hp w1 g) (k + 1) = true ∧ ∃ F1, isRow e z n (Ps.set k P') (put w1 g ((getC (hp w1 g)).setIfInBounds k v') (getE (hp w1 g))) F1 x ∧ UpdP F F1 w (put w1 g ((getC (hp w1 g)).setIfInBounds k v') (getE (hp w1 g)))) := by
  obtain ⟨xs, Fs, h1, h2, h3, h4⟩ := h
  have hk := (List.getElem?_eq_some_iff.1 hP).1
  have hkx : k < xs.length := by rw [← h2.len]; exact hk
  obtain ⟨v, hv⟩ : ∃ v, xs[k]? = some v := ⟨_, List.getElem?_eq_getElem hkx⟩
  have hnz := h1.1
  obtain ⟨g, cap, hx, hld⟩ : ∃ g cap, x = .slice (some ⟨g, 0, none⟩) n cap ∧ ldC (hp w g) k = some v := by
    rcases h1.2 with ⟨rfl, h0⟩ | ⟨g, cap, cur, rfl, hbg, hgc, hnc, hcm, hcs, htake⟩
    · subst h0; omega
    · refine ⟨g, cap, rfl, ?_⟩
      have hg' : hp w g = some (.cells cur e (0, 0)) := hgc
      rw [hg', ldC_some]
      have := hv
      rw [← htake, List.getElem?_take, if_pos (by omega)] at this
      simpa using this
  subst hx
  have hown : (Value.slice (some ⟨g, 0, none⟩) n cap).ownBlock = some g := rfl
  refine ⟨g, cap, v, Fs k, rfl, (h4 g).2 (.inl hown), fun hf => h3 g ⟨k, hk, hf⟩ hown, fun b hb => (h4 b).2 (.inr ⟨k, hk, hb⟩), hld, h2.each k P v hP hv, fun w1 F' P' u hp' => ?_, fun w1 F' P' v' u hgp hp' => ?_⟩
  · obtain ⟨a, b, c, d⟩ := isRow.turn h1 h2 h3 h4 hg hk u hp'
    rw [set_same hv] at b
    exact ⟨_, ⟨xs, _, a, b, c, fun _ => Iff.rfl⟩, d⟩
  · obtain ⟨a, b, c, d⟩ := isRow.turn h1 h2 h3 h4 hg hk u hp'
    obtain ⟨p1, p2⟩ := ownsRow_put (vs := [v']) a hown (o := k) (by simp; omega)
    refine ⟨p2, _, ⟨xs.set k v', fset Fs k F', ?_, b.frame (fun Q hQ => ?_) (ChgP.put w1 g _ _) (fun i hi hj => c i hi (by rw [hj]; exact hown)), c, fun _ => Iff.rfl⟩, d.put (.inl hown) _ _⟩
    · rw [← set_eq xs k v' hkx]; exact p1
    · rcases List.mem_or_eq_of_mem_set hQ with hq | hq
      · exact hg Q hq
      · rw [hq]; exact hgp
def isAt (e : TypeId) (g : Nat) (Ps : List Th) (w : World) (F : Fp) : Prop := ∃ (xs : List Value) (Fs : Nat → Fp), hp w g = some (.cells xs.toArray e) ∧ Parts w Ps xs Fs ∧ ¬ under Ps.length Fs g ∧ ∀ b, F b ↔ b = g ∨ under Ps.length Fs b
theorem isAt.frame {e : TypeId} {g : Nat} {Ps : List Th} {w w' : World} {F G : Fp} (h : isAt e g Ps w F) (hg : ∀ P ∈ Ps, OwnT P) (hc : ChgP G w w') (hd : FDis F G) : isAt e g Ps w' F := by
  obtain ⟨xs, Fs, h1, h2, h3, h4⟩ := h
  exact ⟨xs, Fs, hc.at h1 fun hG => hd g ((h4 g).2 (.inl rfl)) hG, h2.frame hg hc fun b a c => hd b ((h4 b).2 (.inr a)) c, h3, h4⟩
theorem isAt.lt {e : TypeId} {g : Nat} {Ps : List Th} {w : World} {F : Fp} (h : isAt e g Ps w F) (hg : ∀ P ∈ Ps, OwnT P) : ∀ k, F k → k < w.heap.size := fun k hk => by
  obtain ⟨xs, Fs, h1, h2, h3, h4⟩ := h
  rcases (h4 k).1 hk with h | h
  · subst h; exact blk_lt h1
  · exact h2.lt hg k h
/-- a cell of a block: what it is; what comes of the block when it is turned -/
theorem isAt.cell {e : TypeId} {g : Nat} {Ps : List Th} {w : World} {F : Fp} (h : isAt e g Ps w F) (hg : ∀ P ∈ Ps, OwnT P) {k : Nat} {P : Th} (hP : Ps[k]? = some P) :
    ∃ (v : Value) (Fk : Fp), F g ∧ ¬ Fk g ∧ (∀ b, Fk b → F b) ∧ ldC (hp w g) k = some v ∧ P w Fk v ∧
      (∀ w1 F' P', UpdP Fk F' w w1 → P' w1 F' v → ∃ F1, isAt e g (Ps.set k P') w1 F1 ∧ UpdP F F1 w w1) ∧
      (∀ w1 F' P' v', UpdP Fk F' w w1 → OwnT P' → P' w1 F' v' → okC (hp w1 g) (k + 1) = true ∧ ∃ F1, isAt e g (Ps.set k P') (put w1 g ((getC (hp w1 g)).setIfInBounds k v') (getE (hp w1 g))) F1 ∧ UpdP F F1 w (put w1 g ((getC (hp w1 g)).setIfInBounds k v') (getE (hp w1 g)))) := by
  obtain ⟨xs, Fs, h1, h2, h3, h4⟩ := h
  have hk := (List.getElem?_eq_some_iff.1 hP).1
  have hkx : k < xs.length := by rw [← h2.len]; exact hk
  obtain ⟨v, hv⟩ : ∃ v, xs[k]? = some v := ⟨_, List.getElem?_eq_getElem hkx⟩
  have main : ∀ {w1 : World} {F' : Fp} {P' : Th} {v' : Value}, UpdP (Fs k) F' w w1 → P' w1 F' v' → hp w1 g = some (.cells xs.toArray e) ∧ Parts w1 (Ps.set k P') (xs.set k v') (fset Fs k F') ∧ ¬ under (Ps.set k P').length (fset Fs k F') g ∧ UpdP F (fun b => b = g ∨ under (Ps.set k P').length (fset Fs k F') b) w w1 := by
    intro w1 F' P' v' u hp'
    refine ⟨u.chg.at h1 fun hf => h3 ⟨k, hk, hf⟩, h2.set hg hk u hp', fun hb => ?_, u.chg.mono fun b hb => (h4 b).2 (.inr ⟨k, hk, hb⟩), fun b hb => ?_⟩
    · rw [List.length_set] at hb
      rcases under_set g hb with h | h
      · rcases u.sub g h with h5 | h5
        · exact h3 ⟨k, hk, h5⟩
        · have := blk_lt h1; omega
      · exact h3 h
    · rcases hb with hb | hb
      · exact .inl ((h4 b).2 (.inl hb))
      · rw [List.length_set] at hb
        rcases under_set b hb with h | h
        · rcases u.sub b h with h5 | h5
          · exact .inl ((h4 b).2 (.inr ⟨k, hk, h5⟩))
          · exact .inr h5
        · exact .inl ((h4 b).2 (.inr h))
  refine ⟨v, Fs k, (h4 g).2 (.inl rfl), fun hf => h3 ⟨k, hk, hf⟩, fun b hb => (h4 b).2 (.inr ⟨k, hk, hb⟩), by rw [h1, ldC_some]; simpa using hv, h2.each k P v hP hv, fun w1 F' P' u hp' => ?_, fun w1 F' P' v' u hgp hp' => ?_⟩
  · obtain ⟨a, b, c, d⟩ := main (v' := v) u hp'
    rw [set_same hv] at b
    exact ⟨_, ⟨xs, _, a, b, c, fun _ => Iff.rfl⟩, d⟩
  · obtain ⟨a, b, c, d⟩ := main u hp'
    refine ⟨by rw [a]; simp; omega, _, ⟨xs.set k v', fset Fs k F', ?_, b.frame (fun Q hQ => ?_) (ChgP.put w1 g _ _) (fun i hi hj => c (by rw [← hj]; exact hi)), c, fun _ => Iff.rfl⟩, d.put (.inl rfl) _ _⟩
    · rw [a, getC_some, getE_some, put_same (blk_lt a)]
      simp
    · rcases List.mem_or_eq_of_mem_set hQ with hq | hq
      · exact hg Q hq
      · rw [hq]; exact hgp
/-- a new block -/
theorem isAt.new {e : TypeId} {Ps : List Th} {w : World} {xs : List Value} {Fs : Nat → Fp} (hp' : Parts w Ps xs Fs) (hg : ∀ P ∈ Ps, OwnT P) : isAt e w.heap.size Ps (w.alloc (.cells xs.toArray e)) (fun b => b = w.heap.size ∨ under Ps.length Fs b) := by
  refine ⟨xs, Fs, by rw [alloc_heap, if_pos rfl], hp'.frame hg (ChgP.of0 ((Chg.refl _ _).alloc _) none') (fun _ _ h => h), fun h => ?_, fun _ => Iff.rfl⟩
  have := hp'.lt hg _ h
  omega
/-- the row that comes of a push -/
theorem isRow.grow {e : TypeId} {z n m : Nat} {Ps Qs : List Th} {w w' : World} {F G : Fp} {x x' : Value} {ys : List Value} {Gs : Nat → Fp} (h : isRow e z n Ps w F x) (hg : ∀ P ∈ Ps, OwnT P) (hq : ∀ P ∈ Qs, OwnT P) (hy : Parts w Qs ys Gs) (hG : ∀ b, G b ↔ under Qs.length Gs b) (hd : FDis F G)
    (ho : ∀ xs, w.ownsRow 0 e z x n xs → w'.ownsRow 0 e z x' (n + m) (xs ++ ys)) (hgr : w.grownBy w' x.ownBlock) (hnb : NewB w x x') :
    ∃ F', isRow e z (n + m) (Ps ++ Qs) w' F' x' ∧ UpdP (fun b => F b ∨ G b) F' w w' ∧ ChgP F w w' := by
  obtain ⟨xs, Fs, h1, h2, h3, h4⟩ := h
  have hc : ChgP (fun b => x.ownBlock = some b) w w' := ⟨hgr.os, hgr.tape, hgr.output, hgr.size, fun k hk hn => hgr.block k hk fun e => hn e.symm⟩
  have hc' : ChgP F w w' := hc.mono fun b hb => (h4 b).2 (.inl hb)
  have a2 := h2.frame hg hc fun b hb hx => h3 b hb hx
  have b2 := hy.frame hq hc fun b hb hx => hd b ((h4 b).2 (.inl hx)) ((hG b).2 hb)
  have hdd : FDis (under Ps.length Fs) (under Qs.length Gs) := fun b hb hc => hd b ((h4 b).2 (.inr hb)) ((hG b).2 hc)
  have hnew : ∀ b, under (Ps ++ Qs).length (fun j => if j < Ps.length then Fs j else Gs (j - Ps.length)) b → x'.ownBlock ≠ some b := fun b hb hx' => by
    rw [List.length_append] at hb
    rcases (under_app b).1 hb with h | h
    · rcases hnb b hx' with h5 | h5
      · exact h3 b h h5
      · have := h2.lt hg b h; omega
    · rcases hnb b hx' with h5 | h5
      · exact hd b ((h4 b).2 (.inl h5)) ((hG b).2 h)
      · have := hy.lt hq b h; omega
  refine ⟨_, ⟨xs ++ ys, _, ho xs h1, a2.app b2 hdd, hnew, fun _ => Iff.rfl⟩, ⟨hc'.mono fun b hb => .inl hb, fun b hb => ?_⟩, hc'⟩
  rcases hb with hb | hb
  · rcases hnb b hb with h5 | h5
    · exact .inl (.inl ((h4 b).2 (.inl h5)))
    · exact .inr h5
  · rw [List.length_append] at hb
    rcases (under_app b).1 hb with h | h
    · exact .inl (.inl ((h4 b).2 (.inr h)))
    · exact .inl (.inr ((hG b).2 h))
theorem flatM_len {α β : Type} {f : α → List β} {z : Nat} (h : ∀ x, (f x).length = z) : ∀ L : List α, (L.flatMap f).length = L.length * z
  | [] => by simp
  | x :: xs => by rw [List.flatMap_cons, List.length_append, h x, flatM_len h xs, List.length_cons, Nat.add_mul]; omega
theorem flatM_get {α β : Type} {f : α → List β} {z : Nat} (h : ∀ x, (f x).length = z) : ∀ (L : List α) (i : Nat) (x : α), L[i]? = some x → ∀ k, k < z → (L.flatMap f)[i * z + k]? = (f x)[k]?
  | [], i, x, hx, k, hk => by simp at hx
  | y :: ys, 0, x, hx, k, hk => by
    simp at hx; subst hx
    rw [List.flatMap_cons, Nat.zero_mul, Nat.zero_add, List.getElem?_append_left (by rw [h]; exact hk)]
  | y :: ys, i + 1, x, hx, k, hk => by
    rw [List.flatMap_cons, show (i + 1) * z + k = (f y).length + (i * z + k) by rw [h, Nat.add_mul]; omega, List.getElem?_append_right (by omega), Nat.add_sub_cancel_left]
    exact flatM_get h ys i x (by simpa using hx) k hk
theorem flatM_set {α β : Type} {f : α → List β} {z : Nat} (h : ∀ x, (f x).length = z) {k : Nat} {p : β} (hk : k < z) {x x' : α} (hx : f x' = (f x).set k p) : ∀ (L : List α) (i : Nat), L[i]? = some x → (L.flatMap f).set (i * z + k) p = (L.set i x').flatMap f
  | [], i, hi => by simp at hi
  | y :: ys, 0, hi => by
    simp at hi; subst hi
    rw [List.flatMap_cons, Nat.zero_mul, Nat.zero_add, List.set_append_left _ _ (by rw [h]; exact hk), List.set_cons_zero, List.flatMap_cons, hx]
  | y :: ys, i + 1, hi => by
    rw [List.flatMap_cons, show (i + 1) * z + k = (f y).length + (i * z + k) by rw [h, Nat.add_mul]; omega, List.set_append_right _ _ (by omega), Nat.add_sub_cancel_left, flatM_set h hk hx ys i (by simpa using hi), List.set_cons_succ, List.flatMap_cons]
theorem isRow.rd {e : TypeId} {z n : Nat} {Ps : List Th} {w : World} {F : Fp} {x : Value} (h : isRow e z n Ps w F x) :
    ∃ A c xs Fs, x = .slice A n c ∧ RdV w A xs ∧ xs.length = n * z ∧ Parts w Ps xs Fs ∧ ∀ b, under Ps.length Fs b → F b := by
  obtain ⟨xs, Fs, h1, h2, h3, h4⟩ := h
  obtain ⟨A, c, e1, e2, _⟩ := rdV_of_own h1
  exact ⟨A, c, xs, Fs, e1, e2, h1.1, h2, fun b hb => (h4 b).2 (.inr hb)⟩
theorem Parts.flat {w : World} {us xs : List Value} {Fs : Nat → Fp} (h : Parts w (us.map isV) xs Fs) : xs = us := by
  apply List.ext_getElem?
  intro k
  rcases Nat.lt_or_ge k us.length with hk | hk
  · have hkx : k < xs.length := by have := h.len; simp at this; omega
    have := h.each k (isV us[k]) xs[k] (by simp [hk]) (List.getElem?_eq_getElem hkx)
    rw [List.getElem?_eq_getElem hkx, List.getElem?_eq_getElem hk, this.1]
  · have := h.len
    simp at this
    rw [List.getElem?_eq_none (by omega), List.getElem?_eq_none (by omega)]
theorem Parts.ofFlat {w : World} (us : List Value) : Parts w (us.map isV) us fun _ => none' :=
  ⟨by simp, fun k P v hP hv => by
    rw [List.getElem?_map, hv] at hP
    cases hP
    exact ⟨rfl, fun _ h => h⟩, fun _ _ _ _ _ b h _ => h⟩
theorem good_flat {us : List Value} (h : ∀ u ∈ us, u.cells = #[u] ∧ u.oneCell' = true) : ∀ P ∈ us.map isV, OwnT P := fun P hP => by
  obtain ⟨u, hu, rfl⟩ := List.mem_map.1 hP
  exact good_isV (h u hu)
/-- a row of cells that own nothing -/
theorem flat_own {e : TypeId} {z n : Nat} {us : List Value} {w : World} {F : Fp} {x : Value} (h : isRow e z n (us.map isV) w F x) : w.ownsRow 0 e z x n us ∧ ∀ b, F b → x.ownBlock = some b := by
  obtain ⟨xs, Fs, h1, h2, h3, h4⟩ := h
  rw [h2.flat] at h1
  refine ⟨h1, fun b hb => ?_⟩
  rcases (h4 b).1 hb with h5 | ⟨k, hk, hb'⟩
  · exact h5
  · obtain ⟨P, hP⟩ : ∃ P, (us.map isV)[k]? = some P := ⟨_, List.getElem?_eq_getElem hk⟩
    obtain ⟨v, hv⟩ : ∃ v, xs[k]? = some v := ⟨_, List.getElem?_eq_getElem (by rw [← h2.len]; exact hk)⟩
    have := h2.each k P v hP hv
    obtain ⟨u, _, rfl⟩ := List.mem_map.1 (List.mem_of_getElem? hP)
    exact absurd hb' (this.2 b)
theorem own_flat {e : TypeId} {z n : Nat} {us : List Value} {w : World} {x : Value} {base : Nat} (h : w.ownsRow base e z x n us) : isRow e z n (us.map isV) w (fun b => x.ownBlock = some b) x :=
  ⟨us, fun _ => none', ownsRow_mono h (Nat.zero_le _), Parts.ofFlat us, fun b ⟨_, _, hb⟩ => hb.elim, fun b => ⟨fun h => .inl h, fun h => by rcases h with h | ⟨_, _, h⟩; exact h; exact h.elim⟩⟩
end Go.Proofs.Yteapggpkgfiacaa.Ev


namespace Go.Proofs.Yteapggpkgfiacaa
open Go Ev Go.RowKit
set_option linter.unusedSimpArgs false
set_option linter.unusedVariables false
set_option maxRecDepth 10000

abbrev HnV := Int × Int × Int × Int × Int
abbrev NmV := Int × Int
def hnC (h : HnV) : List Value := [.int .i64 h.1, .int .i64 h.2.1, .int .i64 h.2.2.1, .int .i64 h.2.2.2.1, .int .i64 h.2.2.2.2]
def nmC (n : NmV) : List Value := [.int .i64 n.1, .int .i64 n.2]
/-- a region -/
structure RgV where
  nm : NmV
  cls : Int
  off : Int
  chunks : List Int
  words : List (List Int)
  objs : List HnV
/-- a worker's hand -/
structure HdV where
  depth : Int
  holds : List NmV
abbrev CfV := Int × Int × Int × Int × Int × Int
def cfC (c : CfV) : List Value := [.int .i64 c.1, .int .i64 c.2.1, .int .i64 c.2.2.1, .int .i64 c.2.2.2.1, .int .i64 c.2.2.2.2.1, .int .i64 c.2.2.2.2.2]
/-- the model -/
structure MdV where
  c : CfV
  loose : Bool
  slots : List NmV
  rgs : List RgV
  hands : List HdV
def u64s (l : List Int) : List Value := l.map (Value.int .u64)
def slotsT (L : List NmV) : Th := isRow 80 2 L.length ((L.flatMap nmC).map isV)
def namesT (L : List NmV) : Th := isRow 95 2 L.length ((L.flatMap nmC).map isV)
def intsT (L : List Int) : Th := isRow 3 1 L.length ((ints L).map isV)
def wordT (L : List Int) : Th := isRow 22 1 L.length ((u64s L).map isV)
def wordsT (L : List (List Int)) : Th := isRow 112 1 L.length (L.map wordT)
def objsT (L : List HnV) : Th := isRow 27 5 L.length ((L.flatMap hnC).map isV)
def iT (x : Int) : Th := isV (.int .i64 x)
def rgT (r : RgV) : List Th := [iT r.nm.1, iT r.nm.2, iT r.cls, iT r.off, intsT r.chunks, wordsT r.words, objsT r.objs]
def hdT (h : HdV) : List Th := [iT h.depth, namesT h.holds]
def rgsT (L : List RgV) : Th := isRow 98 7 L.length (L.flatMap rgT)
def handsT (L : List HdV) : Th := isRow 106 2 L.length (L.flatMap hdT)
def mdT (m : MdV) : List Th := (cfC m.c).map isV ++ [isV (.bool m.loose), slotsT m.slots, rgsT m.rgs, handsT m.hands]
/-- the model stands in a block -/
def MdI (w : World) (g : Nat) (m : MdV) (F : Fp) : Prop := isAt 72 g (mdT m) w F
theorem good_int (k : IntKind) (x : Int) : OwnT (isV (.int k x)) := good_isV ⟨rfl, rfl⟩
theorem good_ints {us : List Value} (h : ∀ u ∈ us, ∃ k x, u = .int k x) : ∀ P ∈ us.map isV, OwnT P := good_flat fun u hu => by
  obtain ⟨k, x, rfl⟩ := h u hu; exact ⟨rfl, rfl⟩
theorem nmC_int (L : List NmV) : ∀ u ∈ L.flatMap nmC, ∃ k x, u = .int k x := fun u hu => by
  obtain ⟨n, _, hn⟩ := List.mem_flatMap.1 hu
  simp only [nmC, List.mem_cons, List.not_mem_nil, or_false] at hn
  rcases hn with rfl | rfl <;> exact ⟨_, _, rfl⟩
theorem hnC_int (L : List HnV) : ∀ u ∈ L.flatMap hnC, ∃ k x, u = .int k x := fun u hu => by
  obtain ⟨n, _, hn⟩ := List.mem_flatMap.1 hu
  simp only [hnC, List.mem_cons, List.not_mem_nil, or_false] at hn
  rcases hn with rfl | rfl | rfl | rfl | rfl <;> exact ⟨_, _, rfl⟩
theorem ints_int (L : List Int) : ∀ u ∈ ints L, ∃ k x, u = .int k x := fun u hu => by
  obtain ⟨n, _, rfl⟩ := List.mem_map.1 hu; exact ⟨_, _, rfl⟩
theorem u64s_int (L : List Int) : ∀ u ∈ u64s L, ∃ k x, u = .int k x := fun u hu => by
  obtain ⟨n, _, rfl⟩ := List.mem_map.1 hu; exact ⟨_, _, rfl⟩
theorem good_slots (L : List NmV) : OwnT (slotsT L) := good_isRow (good_ints (nmC_int L))
theorem good_names (L : List NmV) : OwnT (namesT L) := good_isRow (good_ints (nmC_int L))
theorem good_intsT (L : List Int) : OwnT (intsT L) := good_isRow (good_ints (ints_int L))
theorem good_word (L : List Int) : OwnT (wordT L) := good_isRow (good_ints (u64s_int L))
theorem good_words (L : List (List Int)) : OwnT (wordsT L) := good_isRow fun P hP => by
  obtain ⟨l, _, rfl⟩ := List.mem_map.1 hP; exact good_word l
theorem good_objs (L : List HnV) : OwnT (objsT L) := good_isRow (good_ints (hnC_int L))
theorem good_rg (r : RgV) : ∀ P ∈ rgT r, OwnT P := fun P hP => by
  simp only [rgT, List.mem_cons, List.not_mem_nil, or_false] at hP
  rcases hP with rfl | rfl | rfl | rfl | rfl | rfl | rfl
  · exact good_int _ _
  · exact good_int _ _
  · exact good_int _ _
  · exact good_int _ _
  · exact good_intsT _
  · exact good_words _
  · exact good_objs _
theorem good_hd (h : HdV) : ∀ P ∈ hdT h, OwnT P := fun P hP => by
  simp only [hdT, List.mem_cons, List.not_mem_nil, or_false] at hP
  rcases hP with rfl | rfl
  · exact good_int _ _
  · exact good_names _
theorem good_rgL (L : List RgV) : ∀ P ∈ L.flatMap rgT, OwnT P := fun P hP => by
  obtain ⟨r, _, hr⟩ := List.mem_flatMap.1 hP; exact good_rg r P hr
theorem good_hdL (L : List HdV) : ∀ P ∈ L.flatMap hdT, OwnT P := fun P hP => by
  obtain ⟨r, _, hr⟩ := List.mem_flatMap.1 hP; exact good_hd r P hr
theorem good_rgs (L : List RgV) : OwnT (rgsT L) := good_isRow (good_rgL L)
theorem good_hands (L : List HdV) : OwnT (handsT L) := good_isRow (good_hdL L)
theorem good_md (m : MdV) : ∀ P ∈ mdT m, OwnT P := fun P hP => by
  rcases List.mem_append.1 hP with h | h
  · refine good_ints (fun u hu => ?_) P h
    simp only [cfC, List.mem_cons, List.not_mem_nil, or_false] at hu
    rcases hu with rfl | rfl | rfl | rfl | rfl | rfl <;> exact ⟨_, _, rfl⟩
  · simp only [List.mem_cons, List.not_mem_nil, or_false] at h
    rcases h with rfl | rfl | rfl | rfl
    · exact good_isV ⟨rfl, rfl⟩
    · exact good_slots _
    · exact good_rgs _
    · exact good_hands _
theorem rgT_len (r : RgV) : (rgT r).length = 7 := rfl
theorem hdT_len (h : HdV) : (hdT h).length = 2 := rfl
theorem nmC_len (n : NmV) : (nmC n).length = 2 := rfl
theorem hnC_len (h : HnV) : (hnC h).length = 5 := rfl
theorem MdI.keep {w w' : World} {g : Nat} {m : MdV} {F : Fp} (h : MdI w g m F) (hc : Chg [] w w') : MdI w' g m F := isAt.frame h (good_md m) (ChgP.of0 hc none') fun _ _ h => h
/-- what is read of the model: its cells -/
structure MdR (w : World) (g : Nat) (m : MdV) (s r h : Value) : Prop where
  c : ∀ k, k < 6 → ldC (hp w g) (0 + k) = (cfC m.c)[k]?
  l : ldC (hp w g) (0 + 6) = some (.bool m.loose)
  sl : ldC (hp w g) (0 + 7) = some s
  rl : ldC (hp w g) (0 + 8) = some r
  hl : ldC (hp w g) (0 + 9) = some h
  sT : ∃ F, slotsT m.slots w F s
  rT : ∃ F, rgsT m.rgs w F r
  hT : ∃ F, handsT m.hands w F h
theorem MdI.rd {w : World} {g : Nat} {m : MdV} {F : Fp} (h : MdI w g m F) : ∃ s r h, MdR w g m s r h := by
  obtain ⟨sv, _, _, _, _, hs, hS, _⟩ := isAt.cell h (good_md m) (k := 7) (P := slotsT m.slots) rfl
  obtain ⟨rv, _, _, _, _, hr, hR, _⟩ := isAt.cell h (good_md m) (k := 8) (P := rgsT m.rgs) rfl
  obtain ⟨hv, _, _, _, _, hh, hH, _⟩ := isAt.cell h (good_md m) (k := 9) (P := handsT m.hands) rfl
  obtain ⟨lv, _, _, _, _, hl, hL, _⟩ := isAt.cell h (good_md m) (k := 6) (P := isV (.bool m.loose)) rfl
  refine ⟨sv, rv, hv, fun k hk => ?_, hl.trans (by rw [hL.1]), hs, hr, hh, ⟨_, hS⟩, ⟨_, hR⟩, ⟨_, hH⟩⟩
  obtain ⟨u, hu⟩ : ∃ u, (cfC m.c)[k]? = some u := ⟨_, List.getElem?_eq_getElem (by simpa [cfC] using hk)⟩
  have hP : (mdT m)[k]? = some (isV u) := by
    rw [mdT, List.getElem?_append_left (by simpa [cfC] using hk), List.getElem?_map, hu]; rfl
  obtain ⟨cv, _, _, _, _, hc, hC, _⟩ := isAt.cell h (good_md m) hP
  rw [Nat.zero_add, hc, hC.1, hu]
theorem MdR.keep {w w' : World} {g : Nat} {m : MdV} {s r h : Value} (k : MdR w g m s r h) (hc : Chg [] w w') : MdR w' g m s r h := by
  have e : ∀ i u, ldC (hp w g) i = some u → hp w' g = hp w g := fun i u hu => hc.block g (by
    rcases Nat.lt_or_ge g w.heap.size with h | h
    · exact h
    · have : hp w g = none := by simp [hp]; omega
      rw [this] at hu; cases hu) (by simp)
  have e := e _ _ k.sl
  obtain ⟨F, hF⟩ := k.sT
  obtain ⟨G, hG⟩ := k.rT
  obtain ⟨H, hH⟩ := k.hT
  exact ⟨fun i hi => by rw [e]; exact k.c i hi, by rw [e]; exact k.l, by rw [e]; exact k.sl, by rw [e]; exact k.rl, by rw [e]; exact k.hl,
    ⟨F, (good_slots _).frame hF (ChgP.of0 hc none') fun _ _ h => h⟩, ⟨G, (good_rgs _).frame hG (ChgP.of0 hc none') fun _ _ h => h⟩, ⟨H, (good_hands _).frame hH (ChgP.of0 hc none') fun _ _ h => h⟩⟩
end Go.Proofs.Yteapggpkgfiacaa

namespace Go.Proofs.Yteapggpkgfiacaa
open Go Ev Go.RowKit
set_option linter.unusedSimpArgs false
set_option linter.unusedVariables false
set_option maxRecDepth 10000

theorem slots_sh {w : World} {L : List NmV} {s : Value} (h : ∃ F, slotsT L w F s) : ∃ A c, s = .slice A L.length c ∧ RdV w A (L.flatMap nmC) := by
  obtain ⟨F, h⟩ := h
  obtain ⟨h1, _⟩ := flat_own h
  obtain ⟨A, c, e, r, _⟩ := rdV_of_own h1
  exact ⟨A, c, e, r⟩
theorem rgs_sh {w : World} {L : List RgV} {s : Value} (h : ∃ F, rgsT L w F s) : ∃ A c, s = .slice A L.length c := by
  obtain ⟨F, h⟩ := h
  obtain ⟨A, c, _, _, e, _⟩ := isRow.rd h
  exact ⟨A, c, e⟩
theorem hands_sh {w : World} {L : List HdV} {s : Value} (h : ∃ F, handsT L w F s) : ∃ A c, s = .slice A L.length c := by
  obtain ⟨F, h⟩ := h
  obtain ⟨A, c, _, _, e, _⟩ := isRow.rd h
  exact ⟨A, c, e⟩
theorem c_mSlot {w : World} {g : Nat} {m : MdV} {s r h : Value} (M : MdR w g m s r h) (n : Int) : CallR Try.prog 43 [.pointer (some ⟨g, 0, none⟩), .int .i64 n] w fun v w' => v = .bool (decide (0 ≤ n ∧ n < m.slots.length)) ∧ w' = w := by
  apply F43_ok
  obtain ⟨A, c, rfl, _⟩ := slots_sh M.sT
  by_cases h0 : 0 ≤ n
  · simp -implicitDefEqProofs only [F43, zS, h0, nilv_some, fa_72_2, ld_68, M.sl, len_68]
    exact ⟨by simp, trivial⟩
  · simp -implicitDefEqProofs only [F43, zS, h0]
    exact ⟨by simp, trivial⟩
/-- a name's region: its place -/
def findR (L : List RgV) (n : NmV) : Option Nat := L.findIdx? (fun r => decide (r.nm = n))
theorem box_nm {w : World} (n : NmV) : hp (w.alloc (.cells (nmC n).toArray 95)) w.heap.size = some (.cells (nmC n).toArray 95) := by rw [alloc_heap, if_pos rfl]
/-- a region in the row: its cells -/
structure RgR (w : World) (b o : Nat) (r : RgV) (cv wv ov : Value) : Prop where
  c0 : ldC (hp w b) (o + 0) = some (.int .i64 r.nm.1)
  c1 : ldC (hp w b) (o + 1) = some (.int .i64 r.nm.2)
  c2 : ldC (hp w b) (o + 2) = some (.int .i64 r.cls)
  c3 : ldC (hp w b) (o + 3) = some (.int .i64 r.off)
  c4 : ldC (hp w b) (o + 4) = some cv
  c5 : ldC (hp w b) (o + 5) = some wv
  c6 : ldC (hp w b) (o + 6) = some ov
  cT : ∃ F, intsT r.chunks w F cv
  wT : ∃ F, wordsT r.words w F wv
  oT : ∃ F, objsT r.objs w F ov
theorem rg_at {w : World} {L : List RgV} {F : Fp} {x : Value} (h : rgsT L w F x) {i : Nat} {r : RgV} (hr : L[i]? = some r) : ∃ b c, x = .slice (some ⟨b, 0, none⟩) L.length c ∧ ∃ cv wv ov, RgR w b (i * 7) r cv wv ov := by
  have get : ∀ k, k < 7 → (L.flatMap rgT)[i * 7 + k]? = (rgT r)[k]? := fun k hk => flatM_get rgT_len L i r hr k hk
  obtain ⟨b, c, v0, F0, e0, _, _, _, l0, t0, _⟩ := isRow.cell h (good_rgL L) (get 0 (by omega))
  obtain ⟨b1, c1, v1, F1, e1, _, _, _, l1, t1, _⟩ := isRow.cell h (good_rgL L) (get 1 (by omega))
  obtain ⟨b2, c2, v2, F2, e2, _, _, _, l2, t2, _⟩ := isRow.cell h (good_rgL L) (get 2 (by omega))
  obtain ⟨b3, c3, v3, F3, e3, _, _, _, l3, t3, _⟩ := isRow.cell h (good_rgL L) (get 3 (by omega))
  obtain ⟨b4, c4, v4, F4, e4, _, _, _, l4, t4, _⟩ := isRow.cell h (good_rgL L) (get 4 (by omega))
  obtain ⟨b5, c5, v5, F5, e5, _, _, _, l5, t5, _⟩ := isRow.cell h (good_rgL L) (get 5 (by omega))
  obtain ⟨b6, c6, v6, F6, e6, _, _, _, l6, t6, _⟩ := isRow.cell h (good_rgL L) (get 6 (by omega))
  subst e0
  cases e1; cases e2; cases e3; cases e4; cases e5; cases e6
  rw [t0.1] at l0; rw [t1.1] at l1; rw [t2.1] at l2; rw [t3.1] at l3
  exact ⟨b, c, rfl, v4, v5, v6, l0, l1, l2, l3, l4, l5, l6, ⟨F4, t4⟩, ⟨F5, t5⟩, ⟨F6, t6⟩⟩
theorem findR_none {L : List RgV} {n : NmV} (h : ∀ (j : Nat) (r : RgV), L[j]? = some r → r.nm ≠ n) : findR L n = none := by
  rw [findR, List.findIdx?_eq_none_iff]
  intro r hr
  obtain ⟨j, hj⟩ := List.getElem?_of_mem hr
  simpa using h j r hj
theorem findR_some {L : List RgV} {n : NmV} {i : Nat} {r : RgV} (hi : L[i]? = some r) (hr : r.nm = n) (h : ∀ (j : Nat) (r : RgV), j < i → L[j]? = some r → r.nm ≠ n) : findR L n = some i := by
  have hil := (List.getElem?_eq_some_iff.1 hi).1
  rw [findR, List.findIdx?_eq_some_iff_getElem]
  refine ⟨hil, ?_, fun j hj => ?_⟩
  · rw [List.getElem?_eq_getElem hil] at hi; cases hi; simpa using hr
  · simpa using h j _ hj (List.getElem?_eq_getElem (by omega))
theorem ldL_two {x : Option Obj} {o : Nat} {a b : Value} (h0 : ldC x (o + 0) = some a) (h1 : ldC x (o + 1) = some b) : ldL x o 2 = some [a, b] := ldL_take 2 o [a, b] rfl fun j u hj => by
  rcases j with _ | _ | j
  · simp at hj; subst hj; exact h0
  · simp at hj; subst hj; exact h1
  · simp at hj
theorem nm_beq (a b : NmV) : ((a.1 == b.1) && ((a.2 == b.2) && true)) = decide (a = b) := by
  obtain ⟨a1, a2⟩ := a; obtain ⟨b1, b2⟩ := b
  by_cases h1 : a1 = b1 <;> by_cases h2 : a2 = b2 <;> simp [h1, h2]
set_option maxHeartbeats 1000000 in
theorem c_mRegion {w : World} {g : Nat} {m : MdV} {s r h : Value} (M : MdR w g m s r h) (n : NmV) (hl : m.rgs.length ≤ 1000000) : CallR Try.prog 58 [.pointer (some ⟨g, 0, none⟩), .agg (nmC n).toArray] w fun v w' =>
    Chg [] w w' ∧ ((findR m.rgs n = none ∧ v = .pointer none) ∨ ∃ i rg b c, findR m.rgs n = some i ∧ m.rgs[i]? = some rg ∧ r = .slice (some ⟨b, 0, none⟩) m.rgs.length c ∧ v = .pointer (some ⟨b, i * 7, none⟩)) := by
  apply F58_ok
  have hbox := box_nm (w := w) n
  have hc0 : Chg [] w (w.alloc (.cells (nmC n).toArray 95)) := (Chg.refl _ _).alloc _
  simp -implicitDefEqProofs only [F58, effv_box, cells_agg]
  generalize w.alloc (.cells (nmC n).toArray 95) = w0 at *
  have M0 := M.keep hc0
  obtain ⟨A, c, hr⟩ := rgs_sh M0.rT
  generalize w.heap.size = gb at *
  have hrl := M0.rl
  rw [hr] at hrl
  simp -implicitDefEqProofs only [zS, nilv_some, fa_72_3, ld_69, hrl, len_69]
  have main : ∀ (d i : Nat) (w1 : World), Chg [] w0 w1 → (∀ (j : Nat) (r : RgV), j < i → m.rgs[j]? = some r → r.nm ≠ n) → i + d = m.rgs.length →
      P58_0 (.pointer (some ⟨g, 0, none⟩)) (.pointer (some ⟨gb, 0, none⟩)) (.int .i64 m.rgs.length) (.int .i64 i) w1 fun v w' =>
    Chg [] w w' ∧ ((findR m.rgs n = none ∧ v = .pointer none) ∨ ∃ i rg b c, findR m.rgs n = some i ∧ m.rgs[i]? = some rg ∧ r = .slice (some ⟨b, 0, none⟩) m.rgs.length c ∧ v = .pointer (some ⟨b, i * 7, none⟩)) := by
    intro d
    induction d with
    | zero =>
      intro i w1 hc hn hi
      apply L58_0_ok
      have : ¬ (i : Int) < m.rgs.length := by omega
      simp -implicitDefEqProofs only [L58_0, zS, this]
      exact ⟨hc0.trans hc, .inl ⟨findR_none fun j r hj => hn j r (by have := (List.getElem?_eq_some_iff.1 hj).1; omega) hj, by first | rfl | trivial⟩⟩
    | succ d ih =>
      intro i w1 hc hn hi
      apply L58_0_ok
      have hlt : (i : Int) < m.rgs.length := by omega
      obtain ⟨rg, hrg⟩ : ∃ rg, m.rgs[i]? = some rg := ⟨_, List.getElem?_eq_getElem (by omega)⟩
      have M1 := M0.keep hc
      obtain ⟨F, hF⟩ := M1.rT
      obtain ⟨b, c', hx, cv, wv, ov, R⟩ := rg_at hF hrg
      have hrl1 := M1.rl
      rw [hx] at hrl1
      have hb1 := hc.at hbox (by simp)
      have ia := ia_69 (b := b) (p := 0) (n := m.rgs.length) (c := c') (j := .i64) (i := (i : Int)) (by omega) (by omega)
      rw [Int.toNat_natCast, Nat.zero_add] at ia
      have e0 : ldC (hp w1 gb) 0 = some (.int .i64 n.1) := by rw [hb1]; rfl
      have e1 : ldC (hp w1 gb) (0 + 1) = some (.int .i64 n.2) := by rw [hb1]; rfl
      have hbe : be Try.prog .eql 95 (.tmp 21) (.tmp 22) (.agg #[.int .i64 rg.nm.1, .int .i64 rg.nm.2]) (.agg #[.int .i64 n.1, .int .i64 n.2]) = some (.bool (decide (rg.nm = n))) := by
        rw [← nm_beq]; exact be_eql_95
      have lr := ldL_two (o := i * 7 + 0) R.c0 R.c1
      have ln := ldL_two (o := 0) e0 e1
      simp -implicitDefEqProofs only [L58_0, zS, hlt, nilv_some, fa_72_3, ld_69, hrl1, ia, fa_98_0, ld_95, lr, ln, Option.map_some, hbe]
      by_cases hnm : rg.nm = n
      · simp -implicitDefEqProofs only [hnm, decide_true, zS, ia]
        exact ⟨hc0.trans hc.drew, .inr ⟨i, rg, b, c', findR_some hrg hnm hn, hrg, hx, rfl⟩⟩
      · simp -implicitDefEqProofs only [hnm, decide_false, zS, bp_add, wrapi (n := (i : Int) + 1) (by omega) (by omega)]
        have := ih (i + 1) w1.drew hc.drew (fun j r hj hr => by
          rcases Nat.lt_or_ge j i with h1 | h1
          · exact hn j r h1 hr
          · have : j = i := by omega
            subst this
            rw [hrg] at hr; cases hr; exact hnm) (by omega)
        rw [Int.natCast_add i 1] at this
        exact this
  exact main m.rgs.length 0 w0 (Chg.refl _ _) (fun j r hj => by omega) (by omega)
end Go.Proofs.Yteapggpkgfiacaa

namespace Go.Proofs.Yteapggpkgfiacaa
open Go Ev Go.RowKit
set_option linter.unusedSimpArgs false
set_option linter.unusedVariables false
set_option maxRecDepth 10000

/-- a slot is read -/
theorem slot_at {w : World} {A : Option Addr} {c : Nat} {L : List NmV} (h : RdV w A (L.flatMap nmC)) {i : Nat} {p : NmV} (hp' : L[i]? = some p) :
    ∃ b o, pureRun Try.prog (Instr.indexAt 68 (.slice A L.length c) (.int .i64 i)) = some (.pointer (some ⟨b, o, none⟩)) ∧ ldC (hp w b) (o + 0) = some (.int .i64 p.1) ∧ ldC (hp w b) (o + 1) = some (.int .i64 p.2) := by
  have hi := (List.getElem?_eq_some_iff.1 hp').1
  obtain ⟨b, o, h1, h2, _⟩ := h.elem (P := Try.prog) (c := c) (n := L.length) (i := (i : Int)) (j := .i64) Try.underlying68 sz_80 (by omega) (by rw [flatM_len nmC_len]; exact Nat.le_refl _) (by omega) (by omega)
  rw [Int.toNat_natCast] at h2
  exact ⟨b, o, h1, (h2 0 (by omega)).trans (flatM_get nmC_len L i p hp' 0 (by omega)), (h2 1 (by omega)).trans (flatM_get nmC_len L i p hp' 1 (by omega))⟩
theorem c_mNameOf (h : HnV) (w : World) : CallR Try.prog 59 [.agg (hnC h).toArray] w fun v w' => v = .agg (nmC (h.1, h.2.1)).toArray ∧ Chg [] w w' := by
  apply F59_ok
  simp -implicitDefEqProofs only [F59, effv_box, cells_agg, al_95, alloc_size]
  generalize hw : (w.alloc (.cells (hnC h).toArray 27)).alloc _ = w1
  have hc : Chg [] w w1 := by rw [← hw]; exact ((Chg.refl _ _).alloc _).alloc _
  have a1 : hp w1 w.heap.size = some (.cells (hnC h).toArray 27) := by rw [← hw, alloc_heap, alloc_size, if_neg (by omega), alloc_heap, if_pos rfl]
  have a2 : hp w1 (w.heap.size + 1) = some (.cells #[.int .i64 0, .int .i64 0] 95) := by rw [← hw, alloc_heap, alloc_size, if_pos rfl]
  clear hw
  have e0 : (hnC h).toArray[0 + 0]? = some (.int .i64 h.1) := rfl
  have e1 : (hnC h).toArray[0 + 1]? = some (.int .i64 h.2.1) := rfl
  simp -implicitDefEqProofs only [zS, fa_27_0, fa_27_1, ld_3, a1, e0, e1, bd_95_0_1]
  rw [st_95 (by rfl) (by rfl) (by rw [a2]; rfl) (by rw [a2]; rfl), a2]
  simp -implicitDefEqProofs only [getE_some]
  have f2 : hp (put w1 (w.heap.size + 1) #[.int .i64 h.1, .int .i64 h.2.1] 95) (w.heap.size + 1) = some (.cells #[.int .i64 h.1, .int .i64 h.2.1] 95) := put_same (blk_lt a2) _ _
  rw [ldv_whole (c := #[.int .i64 h.1, .int .i64 h.2.1]) ag_95 sz_95 f2, wpB_some']
  exact ⟨rfl, hc.put (.inr (by omega)) _ _⟩
def isLv (m : MdV) (n : NmV) : Bool := decide (0 ≤ n.1 ∧ n.1 < m.slots.length) && decide (m.slots[n.1.toNat]? = some (1, n.2))
set_option maxHeartbeats 1000000 in
theorem c_mIsLive {w : World} {g : Nat} {m : MdV} {s r h : Value} (M : MdR w g m s r h) (n : NmV) : CallR Try.prog 86 [.pointer (some ⟨g, 0, none⟩), .agg (nmC n).toArray] w fun v w' => v = .bool (isLv m n) ∧ Chg [] w w' := by
  apply F86_ok
  have hbox := box_nm (w := w) n
  have hc0 : Chg [] w (w.alloc (.cells (nmC n).toArray 95)) := (Chg.refl _ _).alloc _
  simp -implicitDefEqProofs only [F86, effv_box, cells_agg]
  generalize w.alloc (.cells (nmC n).toArray 95) = w0 at *
  have M0 := (M.keep hc0).keep (Chg.refl _ _).drew
  have hbd : hp w0.drew w.heap.size = some (.cells (nmC n).toArray 95) := hbox
  have hcd := hc0.drew
  have e0 : (nmC n).toArray[0 + 0]? = some (.int .i64 n.1) := rfl
  have e1 : (nmC n).toArray[0 + 1]? = some (.int .i64 n.2) := rfl
  simp -implicitDefEqProofs only [zS, fa_95_0, ld_3, hbox, e0]
  generalize w0.drew = w1 at *
  refine (c_mSlot M0 n.1).step ?_
  obtain ⟨A, c, rfl, hR⟩ := slots_sh M0.sT
  by_cases hn : 0 ≤ n.1 ∧ n.1 < m.slots.length
  · obtain ⟨p, hp'⟩ : ∃ p, m.slots[n.1.toNat]? = some p := ⟨_, List.getElem?_eq_getElem (by omega)⟩
    obtain ⟨b, o, q1, q2, q3⟩ := slot_at (c := c) hR hp'
    have hcast : ((n.1.toNat : Nat) : Int) = n.1 := by omega
    rw [hcast] at q1
    have lr := ldL_two q2 q3
    have hbe : be Try.prog .eql 80 (.tmp 17) (.tmp 20) (.agg #[.int .i64 p.1, .int .i64 p.2]) (.agg #[.int .i64 1, .int .i64 n.2]) = some (.bool (decide (p = (1, n.2)))) := by
      rw [← nm_beq]; exact be_eql_80
    simp -implicitDefEqProofs only [zS, hn, and_self, decide_true, nilv_some, fa_72_2, ld_68, M0.sl, fa_95_0, fa_95_1, ld_3, hbd, e0, e1, q1, ld_80, lr, Option.map_some, bd_80_0_1, hbe]
    refine ⟨?_, hcd⟩
    rw [isLv, hp', decide_eq_true hn, Bool.true_and]
    simp
  · simp -implicitDefEqProofs only [zS, hn, decide_false]
    exact ⟨by simp [isLv, hn], hcd⟩
def spareN (L : List NmV) : Nat := (L.filter fun p => decide (p.1 = 0)).length
theorem spareN_snoc (L : List NmV) (p : NmV) : spareN (L ++ [p]) = spareN L + if p.1 = 0 then 1 else 0 := by
  simp only [spareN, List.filter_append, List.length_append]
  by_cases h : p.1 = 0 <;> simp [h]
set_option maxHeartbeats 1000000 in
theorem c_mSpare {w : World} {g : Nat} {m : MdV} {s r h : Value} (M : MdR w g m s r h) (hl : m.slots.length ≤ 1000000) : CallR Try.prog 73 [.pointer (some ⟨g, 0, none⟩)] w fun v w' => v = .int .i64 (spareN m.slots) ∧ Chg [] w w' := by
  apply F73_ok
  obtain ⟨A, c, hs, hR⟩ := slots_sh M.sT
  have hsl := M.sl
  rw [hs] at hsl
  simp -implicitDefEqProofs only [F73, zS, nilv_some, fa_72_2, ld_68, hsl, len_68]
  have main : ∀ (d i : Nat) (w1 : World), Chg [] w w1 → i + d = m.slots.length →
      P73_0 (.int .i64 (spareN (m.slots.take i))) (.slice A m.slots.length c) (.int .i64 m.slots.length) (.int .i64 i) w1 fun v w' => v = .int .i64 (spareN m.slots) ∧ Chg [] w w' := by
    intro d
    induction d with
    | zero =>
      intro i w1 hc hi
      apply L73_0_ok
      have : ¬ (i : Int) < m.slots.length := by omega
      simp -implicitDefEqProofs only [L73_0, zS, this]
      rw [List.take_of_length_le (by omega)]
      exact ⟨rfl, hc⟩
    | succ d ih =>
      intro i w1 hc hi
      apply L73_0_ok
      have hlt : (i : Int) < m.slots.length := by omega
      have hil : i < m.slots.length := by omega
      obtain ⟨b, o, q1, q2, q3⟩ := slot_at (c := c) (hR.keep hc.below) (List.getElem?_eq_getElem hil)
      have lr := ldL_two q2 q3
      have hle : spareN (m.slots.take i) ≤ i := by
        have := List.length_filter_le (fun p : NmV => decide (p.1 = 0)) (m.slots.take i)
        simp only [spareN]; simp at this ⊢; omega
      have hsn : spareN (m.slots.take (i + 1)) = spareN (m.slots.take i) + if (m.slots[i]).1 = 0 then 1 else 0 := by
        rw [List.take_add_one, List.getElem?_eq_getElem hil]
        exact spareN_snoc _ _
      generalize m.slots[i] = p at *
      simp -implicitDefEqProofs only [L73_0, zS, hlt, q1, ld_80, lr, Option.map_some, al_80]
      rw [st_80 (by rfl) (by rfl) (by rw [alloc_heap, if_pos rfl]; rfl) (by rw [alloc_heap, if_pos rfl]; rfl), alloc_heap, if_pos rfl]
      simp -implicitDefEqProofs only [getE_some]
      generalize hz : w1.alloc _ = wa
      have hca : Chg [] w1 wa := by rw [← hz]; exact (Chg.refl _ _).alloc _
      have hza : wa.heap.size = w1.heap.size + 1 := by rw [← hz]; simp
      have hcp : Chg [] w1 (put wa w1.heap.size [Value.int .i64 p.1, Value.int .i64 p.2].toArray 80) := hca.put (.inr (Nat.le_refl _)) _ _
      have h8 : hp (put wa w1.heap.size [Value.int .i64 p.1, Value.int .i64 p.2].toArray 80) w1.heap.size = some (.cells [Value.int .i64 p.1, Value.int .i64 p.2].toArray 80) := by rw [put_heap, if_pos rfl, if_pos (by omega)]
      generalize put wa w1.heap.size [Value.int .i64 p.1, Value.int .i64 p.2].toArray 80 = w2 at *
      have e0 : ([Value.int .i64 p.1, Value.int .i64 p.2].toArray)[0 + 0]? = some (Value.int .i64 p.1) := rfl
      have hc2 := hc.trans hcp
      have one : ∀ k : Nat, k = spareN (m.slots.take (i + 1)) → P73_1 (.int .i64 k) (.slice A m.slots.length c) (.int .i64 m.slots.length) (.int .i64 i) w2 fun v w' => v = .int .i64 (spareN m.slots) ∧ Chg [] w w' := by
        rintro k rfl
        apply L73_1_ok
        simp -implicitDefEqProofs only [L73_1, zS, bp_add, wrapi (n := (i : Int) + 1) (by omega) (by omega)]
        have := ih (i + 1) w2 hc2 (by omega)
        rw [Int.natCast_add i 1] at this
        exact this
      by_cases hp0 : p.1 = 0
      · have e1 : (p.1 == 0) = true := by rw [hp0]; rfl
        simp -implicitDefEqProofs only [zS, fa_80_0, ld_3, h8, e0, e1, bp_add, wrapi (n := (spareN (m.slots.take i) : Int) + 1) (by omega) (by omega)]
        have := one (spareN (m.slots.take i) + 1) (by rw [hsn, if_pos hp0])
        rw [Int.natCast_add _ 1] at this
        exact this
      · simp -implicitDefEqProofs only [zS, fa_80_0, ld_3, h8, e0, eqf hp0]
        exact one _ (by rw [hsn, if_neg hp0]; rfl)
  exact main m.slots.length 0 w (Chg.refl _ _) (by omega)
end Go.Proofs.Yteapggpkgfiacaa

namespace Go.Proofs.Yteapggpkgfiacaa
open Go Ev Go.RowKit
set_option linter.unusedSimpArgs false
set_option linter.unusedVariables false
set_option maxRecDepth 10000

/-- where an item stands first; -1 -/
def ixOf {α : Type} [DecidableEq α] (L : List α) (x : α) : Int := match L.findIdx? (fun y => decide (y = x)) with | some i => (i : Int) | none => -1
theorem ixOf_none {α : Type} [DecidableEq α] {L : List α} {x : α} (h : ∀ (j : Nat) (y : α), L[j]? = some y → y ≠ x) : ixOf L x = -1 := by
  have : L.findIdx? (fun y => decide (y = x)) = none := by
    rw [List.findIdx?_eq_none_iff]
    intro r hr
    obtain ⟨j, hj⟩ := List.getElem?_of_mem hr
    simpa using h j r hj
  rw [ixOf, this]
theorem ixOf_some {α : Type} [DecidableEq α] {L : List α} {x y : α} {i : Nat} (hi : L[i]? = some y) (hy : y = x) (h : ∀ (j : Nat) (y : α), j < i → L[j]? = some y → y ≠ x) : ixOf L x = i := by
  have hil := (List.getElem?_eq_some_iff.1 hi).1
  have : L.findIdx? (fun y => decide (y = x)) = some i := by
    rw [List.findIdx?_eq_some_iff_getElem]
    refine ⟨hil, ?_, fun j hj => ?_⟩
    · rw [List.getElem?_eq_getElem hil] at hi; cases hi; simpa using hy
    · simpa using h j _ hj (List.getElem?_eq_getElem (by omega))
  rw [ixOf, this]
theorem ixOf_mem {α : Type} [DecidableEq α] (L : List α) (x : α) : decide (0 ≤ ixOf L x) = decide (x ∈ L) := by
  by_cases h : x ∈ L
  · rw [decide_eq_true h]
    unfold ixOf
    split
    · simp
    · rename_i he
      rw [List.findIdx?_eq_none_iff] at he
      have := he x h
      simp at this
  · rw [decide_eq_false h, ixOf_none fun j y hj e => by subst e; exact h (List.mem_of_getElem? hj)]
    simp
theorem hn_beq (a b : HnV) : ((a.1 == b.1) && ((a.2.1 == b.2.1) && ((a.2.2.1 == b.2.2.1) && ((a.2.2.2.1 == b.2.2.2.1) && ((a.2.2.2.2 == b.2.2.2.2) && true))))) = decide (a = b) := by
  obtain ⟨a1, a2, a3, a4, a5⟩ := a; obtain ⟨b1, b2, b3, b4, b5⟩ := b
  by_cases h1 : a1 = b1 <;> by_cases h2 : a2 = b2 <;> by_cases h3 : a3 = b3 <;> by_cases h4 : a4 = b4 <;> by_cases h5 : a5 = b5 <;> simp [h1, h2, h3, h4, h5]
set_option maxHeartbeats 1000000 in
theorem c_nIndex {w : World} {A : Option Addr} {c : Nat} {L : List NmV} (hR : RdV w A (L.flatMap nmC)) (hl : L.length ≤ 1000000) (x : NmV) : CallR Try.prog 90 [.slice A L.length c, .agg (nmC x).toArray] w fun v w' => v = .int .i64 (ixOf L x) ∧ Chg [] w w' := by
  apply F90_ok
  have hbox : hp (w.alloc (.cells (nmC x).toArray 95)) w.heap.size = some (.cells (nmC x).toArray 95) := by rw [alloc_heap, if_pos rfl]
  have hc0 : Chg [] w (w.alloc (.cells (nmC x).toArray 95)) := (Chg.refl _ _).alloc _
  simp -implicitDefEqProofs only [F90, effv_box, cells_agg, wpB_some', len_104]
  generalize w.alloc (.cells (nmC x).toArray 95) = w0 at *
  generalize w.heap.size = gb at *
  have main : ∀ (d i : Nat) (w1 : World), Chg [] w w1 → hp w1 gb = some (.cells (nmC x).toArray 95) → (∀ (j : Nat) (y : NmV), j < i → L[j]? = some y → y ≠ x) → i + d = L.length →
      P90_0 (.slice A L.length c) (.pointer (some ⟨gb, 0, none⟩)) (.int .i64 L.length) (.int .i64 i) w1 fun v w' => v = .int .i64 (ixOf L x) ∧ Chg [] w w' := by
    intro d
    induction d with
    | zero =>
      intro i w1 hc hb hn hi
      apply L90_0_ok
      have : ¬ (i : Int) < L.length := by omega
      simp -implicitDefEqProofs only [L90_0, zS, this]
      rw [ixOf_none fun j y hj => hn j y (by have := (List.getElem?_eq_some_iff.1 hj).1; omega) hj]
      exact ⟨rfl, hc⟩
    | succ d ih =>
      intro i w1 hc hb hn hi
      apply L90_0_ok
      have hlt : (i : Int) < L.length := by omega
      have hil : i < L.length := by omega
      obtain ⟨y, hy⟩ : ∃ y, L[i]? = some y := ⟨_, List.getElem?_eq_getElem hil⟩
      obtain ⟨b, o, q1, _, q3, _⟩ := (hR.keep hc.drew.below).elem (P := Try.prog) (c := c) (n := L.length) (i := (i : Int)) (j := .i64) Try.underlying104 sz_95 (by omega) (by rw [flat_len nmC_len]; exact Nat.le_refl _) (by omega) (by omega)
      have hyl : L[i] = y := by rw [List.getElem?_eq_getElem hil] at hy; exact Option.some.inj hy
      rw [Int.toNat_natCast, flat_at nmC_len L i hil, hyl] at q3
      have lx := ldv_whole (t := 95) (c := (nmC x).toArray) ag_95 (show (Try.prog.info? 95).map (·.size) = some (nmC x).toArray.size from sz_95) (show hp w1.drew gb = _ from hb)
      have ly : ldv Try.prog 95 (.pointer (some ⟨b, o, none⟩)) w1.drew = some (.agg (nmC y).toArray) := by rw [ld_95, q3]; rfl
      have hbe : be Try.prog .eql 95 (.tmp 11) (.tmp 15) (.agg (nmC x).toArray) (.agg (nmC y).toArray) = some (.bool (decide (x = y))) := by
        rw [← nm_beq]; exact be_eql_95
      simp -implicitDefEqProofs only [L90_0, zS, hlt, lx, q1, ly, hbe]
      by_cases hxy : x = y
      · simp -implicitDefEqProofs only [hxy, decide_true, zS]
        rw [← hxy, ixOf_some hy hxy.symm hn]
        exact ⟨rfl, hc.drew⟩
      · simp -implicitDefEqProofs only [hxy, decide_false, zS, bp_add, wrapi (n := (i : Int) + 1) (by omega) (by omega)]
        have := ih (i + 1) w1.drew hc.drew hb (fun j z hj hz => by
          rcases Nat.lt_or_ge j i with h1 | h1
          · exact hn j z h1 hz
          · have : j = i := by omega
            subst this
            rw [hy] at hz; cases hz; exact fun e => hxy e.symm) (by omega)
        rw [Int.natCast_add i 1] at this
        exact this
  exact main L.length 0 w0 hc0 hbox (fun j r hj => by omega) (by omega)
set_option maxHeartbeats 1000000 in
theorem c_hIndex {w : World} {A : Option Addr} {c : Nat} {L : List HnV} (hR : RdV w A (L.flatMap hnC)) (hl : L.length ≤ 1000000) (x : HnV) : CallR Try.prog 114 [.slice A L.length c, .agg (hnC x).toArray] w fun v w' => v = .int .i64 (ixOf L x) ∧ Chg [] w w' := by
  apply F114_ok
  have hbox : hp (w.alloc (.cells (hnC x).toArray 27)) w.heap.size = some (.cells (hnC x).toArray 27) := by rw [alloc_heap, if_pos rfl]
  have hc0 : Chg [] w (w.alloc (.cells (hnC x).toArray 27)) := (Chg.refl _ _).alloc _
  simp -implicitDefEqProofs only [F114, effv_box, cells_agg, wpB_some', len_48]
  generalize w.alloc (.cells (hnC x).toArray 27) = w0 at *
  generalize w.heap.size = gb at *
  have main : ∀ (d i : Nat) (w1 : World), Chg [] w w1 → hp w1 gb = some (.cells (hnC x).toArray 27) → (∀ (j : Nat) (y : HnV), j < i → L[j]? = some y → y ≠ x) → i + d = L.length →
      P114_0 (.slice A L.length c) (.pointer (some ⟨gb, 0, none⟩)) (.int .i64 L.length) (.int .i64 i) w1 fun v w' => v = .int .i64 (ixOf L x) ∧ Chg [] w w' := by
    intro d
    induction d with
    | zero =>
      intro i w1 hc hb hn hi
      apply L114_0_ok
      have : ¬ (i : Int) < L.length := by omega
      simp -implicitDefEqProofs only [L114_0, zS, this]
      rw [ixOf_none fun j y hj => hn j y (by have := (List.getElem?_eq_some_iff.1 hj).1; omega) hj]
      exact ⟨rfl, hc⟩
    | succ d ih =>
      intro i w1 hc hb hn hi
      apply L114_0_ok
      have hlt : (i : Int) < L.length := by omega
      have hil : i < L.length := by omega
      obtain ⟨y, hy⟩ : ∃ y, L[i]? = some y := ⟨_, List.getElem?_eq_getElem hil⟩
      obtain ⟨b, o, q1, _, q3, _⟩ := (hR.keep hc.drew.below).elem (P := Try.prog) (c := c) (n := L.length) (i := (i : Int)) (j := .i64) Try.underlying48 sz_27 (by omega) (by rw [flat_len hnC_len]; exact Nat.le_refl _) (by omega) (by omega)
      have hyl : L[i] = y := by rw [List.getElem?_eq_getElem hil] at hy; exact Option.some.inj hy
      rw [Int.toNat_natCast, flat_at hnC_len L i hil, hyl] at q3
      have lx := ldv_whole (t := 27) (c := (hnC x).toArray) ag_27 (show (Try.prog.info? 27).map (·.size) = some (hnC x).toArray.size from sz_27) (show hp w1.drew gb = _ from hb)
      have ly : ldv Try.prog 27 (.pointer (some ⟨b, o, none⟩)) w1.drew = some (.agg (hnC y).toArray) := by rw [ld_27, q3]; rfl
      have hbe : be Try.prog .eql 27 (.tmp 11) (.tmp 15) (.agg (hnC x).toArray) (.agg (hnC y).toArray) = some (.bool (decide (x = y))) := by
        rw [← hn_beq]; exact be_eql_27
      simp -implicitDefEqProofs only [L114_0, zS, hlt, lx, q1, ly, hbe]
      by_cases hxy : x = y
      · simp -implicitDefEqProofs only [hxy, decide_true, zS]
        rw [← hxy, ixOf_some hy hxy.symm hn]
        exact ⟨rfl, hc.drew⟩
      · simp -implicitDefEqProofs only [hxy, decide_false, zS, bp_add, wrapi (n := (i : Int) + 1) (by omega) (by omega)]
        have := ih (i + 1) w1.drew hc.drew hb (fun j z hj hz => by
          rcases Nat.lt_or_ge j i with h1 | h1
          · exact hn j z h1 hz
          · have : j = i := by omega
            subst this
            rw [hy] at hz; cases hz; exact fun e => hxy e.symm) (by omega)
        rw [Int.natCast_add i 1] at this
        exact this
  exact main L.length 0 w0 hc0 hbox (fun j r hj => by omega) (by omega)
theorem c_nContains {w : World} {A : Option Addr} {c : Nat} {L : List NmV} (hR : RdV w A (L.flatMap nmC)) (hl : L.length ≤ 1000000) (x : NmV) : CallR Try.prog 72 [.slice A L.length c, .agg (nmC x).toArray] w fun v w' => v = .bool (decide (x ∈ L)) ∧ Chg [] w w' := by
  apply F72_ok
  have hbox : hp (w.alloc (.cells (nmC x).toArray 95)) w.heap.size = some (.cells (nmC x).toArray 95) := by rw [alloc_heap, if_pos rfl]
  have hc0 : Chg [] w (w.alloc (.cells (nmC x).toArray 95)) := (Chg.refl _ _).alloc _
  simp -implicitDefEqProofs only [F72, effv_box, cells_agg]
  generalize w.alloc (.cells (nmC x).toArray 95) = w0 at *
  simp -implicitDefEqProofs only [ldv_whole (t := 95) (c := (nmC x).toArray) ag_95 (show (Try.prog.info? 95).map (·.size) = some (nmC x).toArray.size from sz_95) hbox, wpB_some']
  refine (c_nIndex (c := c) (hR.keep hc0.below) hl x).mono ?_
  rintro _ w1 ⟨rfl, c1⟩
  simp -implicitDefEqProofs only [zS, bp_geq]
  exact ⟨by rw [ixOf_mem]; congr, hc0.trans c1⟩
theorem c_hContains {w : World} {A : Option Addr} {c : Nat} {L : List HnV} (hR : RdV w A (L.flatMap hnC)) (hl : L.length ≤ 1000000) (x : HnV) : CallR Try.prog 108 [.slice A L.length c, .agg (hnC x).toArray] w fun v w' => v = .bool (decide (x ∈ L)) ∧ Chg [] w w' := by
  apply F108_ok
  have hbox : hp (w.alloc (.cells (hnC x).toArray 27)) w.heap.size = some (.cells (hnC x).toArray 27) := by rw [alloc_heap, if_pos rfl]
  have hc0 : Chg [] w (w.alloc (.cells (hnC x).toArray 27)) := (Chg.refl _ _).alloc _
  simp -implicitDefEqProofs only [F108, effv_box, cells_agg]
  generalize w.alloc (.cells (hnC x).toArray 27) = w0 at *
  simp -implicitDefEqProofs only [ldv_whole (t := 27) (c := (hnC x).toArray) ag_27 (show (Try.prog.info? 27).map (·.size) = some (hnC x).toArray.size from sz_27) hbox, wpB_some']
  refine (c_hIndex (c := c) (hR.keep hc0.below) hl x).mono ?_
  rintro _ w1 ⟨rfl, c1⟩
  simp -implicitDefEqProofs only [zS, bp_geq]
  exact ⟨by rw [ixOf_mem]; congr, hc0.trans c1⟩
end Go.Proofs.Yteapggpkgfiacaa

namespace Go.Proofs.Yteapggpkgfiacaa
open Go Ev Go.RowKit
set_option linter.unusedSimpArgs false
set_option linter.unusedVariables false
set_option maxRecDepth 10000

theorem objs_sh {w : World} {L : List HnV} {s : Value} (h : ∃ F, objsT L w F s) : ∃ A c, s = .slice A L.length c ∧ RdV w A (L.flatMap hnC) := by
  obtain ⟨F, h⟩ := h
  obtain ⟨h1, _⟩ := flat_own h
  obtain ⟨A, c, e, r, _⟩ := rdV_of_own h1
  exact ⟨A, c, e, r⟩
theorem ints_sh {w : World} {L : List Int} {s : Value} (h : ∃ F, intsT L w F s) : ∃ A c, s = .slice A L.length c ∧ RdI .i64 w A L := by
  obtain ⟨F, h⟩ := h
  obtain ⟨h1, _⟩ := flat_own h
  obtain ⟨_, A, c, e, r, _⟩ := rd_of_own h1
  exact ⟨A, c, e, r⟩
/-- is a handle one of what an operation is of? -/
def knownV (m : MdV) (h : HnV) (of : Int) : Bool := match findR m.rgs (h.1, h.2.1) with
  | none => false
  | some i => if h.2.2.2.2 = 0 then decide (h.2.2.1 = 0) && (decide (h.2.2.2.1 = 0) && decide (of ≠ 2)) else decide (of ≠ 1) && (match m.rgs[i]? with | some r => decide (h ∈ r.objs) | none => false)
set_option maxHeartbeats 2000000 in
theorem c_mKnown {w : World} {g : Nat} {m : MdV} {s r hh : Value} (M : MdR w g m s r hh) (h : HnV) (of : Int) (hl : m.rgs.length ≤ 1000000) (ho : ∀ rg ∈ m.rgs, rg.objs.length ≤ 1000000) : CallR Try.prog 85 [.pointer (some ⟨g, 0, none⟩), .agg (hnC h).toArray, .int .i64 of] w fun v w' => v = .bool (knownV m h of) ∧ Chg [] w w' := by
  apply F85_ok
  have hbox : hp (w.alloc (.cells (hnC h).toArray 27)) w.heap.size = some (.cells (hnC h).toArray 27) := by rw [alloc_heap, if_pos rfl]
  have hc0 : Chg [] w (w.alloc (.cells (hnC h).toArray 27)) := (Chg.refl _ _).alloc _
  simp -implicitDefEqProofs only [F85, effv_box, cells_agg]
  generalize w.alloc (.cells (hnC h).toArray 27) = w0 at *
  generalize w.heap.size = gb at *
  have ldh : ∀ w', hp w' gb = some (.cells (hnC h).toArray 27) → ldv Try.prog 27 (.pointer (some ⟨gb, 0, none⟩)) w' = some (.agg (hnC h).toArray) := fun w' hw => ldv_whole (t := 27) (c := (hnC h).toArray) ag_27 (show (Try.prog.info? 27).map (·.size) = some (hnC h).toArray.size from sz_27) hw
  simp -implicitDefEqProofs only [ldh _ hbox, wpB_some']
  refine (c_mNameOf h w0).mono ?_
  rintro _ w1 ⟨rfl, c1⟩
  refine (c_mRegion ((M.keep hc0).keep c1) (h.1, h.2.1) hl).mono ?_
  rintro v w2 ⟨c2, hv⟩
  have c02 := hc0.trans (c1.trans c2)
  have M2 := M.keep c02
  have hb2 := (c1.trans c2).at hbox (by simp)
  rcases hv with ⟨hf, rfl⟩ | ⟨i, rg, b, c, hf, hrg, hr, rfl⟩
  · simp -implicitDefEqProofs only [zS, be_eqlp Try.underlying99, Option.isNone_none]
    refine ⟨?_, c02⟩
    simp [knownV, hf]
  · obtain ⟨F, hF⟩ := M2.rT
    obtain ⟨b', c', hr', cv, wv, ov, R⟩ := rg_at hF hrg
    rw [hr] at hr'
    cases hr'
    have e2 : (hnC h).toArray[0 + 2]? = some (.int .i64 h.2.2.1) := rfl
    have e3 : (hnC h).toArray[0 + 3]? = some (.int .i64 h.2.2.2.1) := rfl
    have e4 : (hnC h).toArray[0 + 4]? = some (.int .i64 h.2.2.2.2) := rfl
    by_cases h4 : h.2.2.2.2 = 0
    · have k4 : (h.2.2.2.2 == 0) = true := by rw [h4]; rfl
      have kv : knownV m h of = (decide (h.2.2.1 = 0) && (decide (h.2.2.2.1 = 0) && decide (of ≠ 2))) := by rw [knownV, hf]; simp only [h4, if_true]
      by_cases h2 : h.2.2.1 = 0
      · have k2 : (h.2.2.1 == 0) = true := by rw [h2]; rfl
        by_cases h3 : h.2.2.2.1 = 0
        · have k3 : (h.2.2.2.1 == 0) = true := by rw [h3]; rfl
          simp -implicitDefEqProofs only [zS, be_eqlp Try.underlying99, Option.isNone_some, fa_27_4, fa_27_2, fa_27_3, ld_3, hb2, e4, e2, e3, k4, k2, k3]
          refine ⟨?_, c02⟩
          rw [kv]; by_cases h5 : of = 2 <;> simp [h2, h3, h5]
        · simp -implicitDefEqProofs only [zS, be_eqlp Try.underlying99, Option.isNone_some, fa_27_4, fa_27_2, fa_27_3, ld_3, hb2, e4, e2, e3, k4, k2, eqf h3]
          refine ⟨?_, c02⟩
          rw [kv]; simp [h3]
      · simp -implicitDefEqProofs only [zS, be_eqlp Try.underlying99, Option.isNone_some, fa_27_4, fa_27_2, fa_27_3, ld_3, hb2, e4, e2, e3, k4, eqf h2]
        refine ⟨?_, c02⟩
        rw [kv]; simp [h2]
    · have kv : knownV m h of = (decide (of ≠ 1) && decide (h ∈ rg.objs)) := by rw [knownV, hf]; simp only [h4, if_false, hrg]
      by_cases h5 : of = 1
      · have k5 : (of != 1) = false := by rw [h5]; rfl
        simp -implicitDefEqProofs only [zS, be_eqlp Try.underlying99, Option.isNone_some, fa_27_4, ld_3, hb2, e4, eqf h4, k5]
        refine ⟨?_, c02.drew⟩
        rw [kv]; simp [h5]
      · have k5 : (of != 1) = true := bne_iff_ne.2 h5
        obtain ⟨A, co, hov, hR⟩ := objs_sh R.oT
        have R6 := R.c6
        rw [hov] at R6
        have R6d : ldC (hp w2.drew b) (i * 7 + 6) = some (.slice A rg.objs.length co) := R6
        simp -implicitDefEqProofs only [zS, be_eqlp Try.underlying99, Option.isNone_some, fa_27_4, ld_3, hb2, e4, eqf h4, k5, nilv_some, fa_98_5, ld_48, R6d, R6, ldh w2.drew hb2]
        refine (c_hContains (c := co) (hR.keep (Chg.refl [] _).drew.below) (ho rg (List.mem_of_getElem? hrg)) h).mono ?_
        rintro _ w3 ⟨rfl, c3⟩
        refine ⟨?_, c02.trans ((Chg.refl _ _).drew.trans c3)⟩
        rw [kv]; simp [h5]
end Go.Proofs.Yteapggpkgfiacaa

namespace Go.Proofs.Yteapggpkgfiacaa
open Go Ev Go.RowKit
set_option linter.unusedSimpArgs false
set_option linter.unusedVariables false
set_option maxRecDepth 10000

def rightV (w n : Int) : Bool := decide (1 ≤ w ∧ w ≤ 1024 ∧ 1 ≤ n ∧ n ≤ w)
theorem c_sRight (a n : Int) (w : World) : CallR Try.prog 92 [.int .i64 a, .int .i64 n] w fun v w' => v = .bool (rightV a n) ∧ w' = w := by
  apply F92_ok
  by_cases h1 : 1 ≤ a
  · by_cases h2 : a ≤ 1024
    · by_cases h3 : 1 ≤ n
      · simp -implicitDefEqProofs only [F92, zS, bp_geq, bp_leq, h1, h2, h3]
        exact ⟨by simp [rightV, h1, h2, h3], trivial⟩
      · simp -implicitDefEqProofs only [F92, zS, bp_geq, bp_leq, h1, h2, h3]
        exact ⟨by simp [rightV, h3], trivial⟩
    · simp -implicitDefEqProofs only [F92, zS, bp_geq, bp_leq, h1, h2]
      exact ⟨by simp [rightV, h2], trivial⟩
  · simp -implicitDefEqProofs only [F92, zS, bp_geq, bp_leq, h1]
    exact ⟨by simp [rightV, h1], trivial⟩
def aloneV (w n : Int) : Bool := rightV w n && decide (w < 2 * n)
theorem right_iff {a n : Int} (h : rightV a n = true) : 1 ≤ a ∧ a ≤ 1024 ∧ 1 ≤ n ∧ n ≤ a := of_decide_eq_true h
theorem c_sAlone (a n : Int) (w : World) : CallR Try.prog 93 [.int .i64 a, .int .i64 n] w fun v w' => v = .bool (aloneV a n) ∧ w' = w := by
  apply F93_ok
  simp -implicitDefEqProofs only [F93]
  refine (c_sRight a n w).step ?_
  cases hr : rightV a n with
  | true =>
    have := right_iff hr
    simp -implicitDefEqProofs only [zS, bp_mul, wrapi (n := 2 * n) (by omega) (by omega)]
    exact ⟨by simp [aloneV, hr], trivial⟩
  | false =>
    simp -implicitDefEqProofs only [zS]
    exact ⟨by simp [aloneV, hr], trivial⟩
def fitsV (w off n : Int) : Bool := rightV w n && (!aloneV w n && (decide (0 ≤ off) && decide (off ≤ w - n)))
theorem c_sFits (a off n : Int) (w : World) : CallR Try.prog 91 [.int .i64 a, .int .i64 off, .int .i64 n] w fun v w' => v = .bool (fitsV a off n) ∧ w' = w := by
  apply F91_ok
  simp -implicitDefEqProofs only [F91]
  refine (c_sRight a n w).step ?_
  cases hr : rightV a n with
  | true =>
    have := right_iff hr
    simp -implicitDefEqProofs only [zS]
    refine (c_sAlone a n w).step ?_
    cases ha : aloneV a n with
    | true =>
      simp -implicitDefEqProofs only [zS]
      exact ⟨by simp [fitsV, ha], trivial⟩
    | false =>
      by_cases h0 : 0 ≤ off
      · simp -implicitDefEqProofs only [zS, bp_geq, bp_leq, bp_sub, h0, wrapi (n := a - n) (by omega) (by omega)]
        exact ⟨by simp [fitsV, hr, ha, h0], trivial⟩
      · simp -implicitDefEqProofs only [zS, bp_geq, h0]
        exact ⟨by simp [fitsV, h0], trivial⟩
  | false =>
    simp -implicitDefEqProofs only [zS]
    exact ⟨by simp [fitsV, hr], trivial⟩
def afterV (w n : Int) : Int := if rightV w n then (if aloneV w n then w else n) else 0
theorem c_sAfter (a n : Int) (w : World) : CallR Try.prog 78 [.int .i64 a, .int .i64 n] w fun v w' => v = .int .i64 (afterV a n) ∧ w' = w := by
  apply F78_ok
  simp -implicitDefEqProofs only [F78]
  refine (c_sRight a n w).step ?_
  cases hr : rightV a n with
  | true =>
    simp -implicitDefEqProofs only [zS]
    refine (c_sAlone a n w).step ?_
    cases ha : aloneV a n with
    | true =>
      simp -implicitDefEqProofs only [zS]
      exact ⟨by simp [afterV, hr, ha], trivial⟩
    | false =>
      simp -implicitDefEqProofs only [zS]
      exact ⟨by simp [afterV, hr, ha], trivial⟩
  | false =>
    simp -implicitDefEqProofs only [zS]
    exact ⟨by simp [afterV, hr], trivial⟩
def roundS (s n : Int) : Int := (n + s - 1) / s * s
def stepOf (cls : Int) : Int := if cls ≤ 0 then 1 else if cls = 1 then 2 else if cls = 2 then 4 else 8
def roundV (cls n : Int) : Int := if n < 1 ∨ 1024 < n then 0 else roundS (stepOf cls) n
theorem quo_nn {a b : Int} (h : 0 ≤ a) : a.tdiv b = a / b := Int.tdiv_eq_ediv_of_nonneg h
theorem shl_lit {P : Program} {t : TypeId} (k : Nat) (hk : k ≤ 3) : bp P .shl t (.int .i64 1) (.int .i64 k) = some (.int .i64 (2 ^ k)) := by
  rw [bp_shl (by omega)]
  have : k = 0 ∨ k = 1 ∨ k = 2 ∨ k = 3 := by omega
  rcases this with rfl | rfl | rfl | rfl <;> rfl
set_option maxHeartbeats 1000000 in
theorem c_sRound (cls n : Int) (w : World) : CallR Try.prog 74 [.int .i64 cls, .int .i64 n] w fun v w' => v = .int .i64 (roundV cls n) ∧ w' = w := by
  apply F74_ok
  by_cases h1 : n < 1
  · simp -implicitDefEqProofs only [F74, zS, h1]
    exact ⟨by rw [roundV, if_pos (.inl h1)], trivial⟩
  by_cases h2 : 1024 < n
  · simp -implicitDefEqProofs only [F74, zS, h1, h2]
    exact ⟨by rw [roundV, if_pos (.inr h2)], trivial⟩
  have hk : ∃ k : Nat, k ≤ 3 ∧ stepOf cls = 2 ^ k ∧ (if (3 : Int) < (if (0 : Int) > cls then 0 else cls) then (3 : Int) else (if (0 : Int) > cls then 0 else cls)) = (k : Int) := by
    by_cases c0 : cls ≤ 0
    · refine ⟨0, by omega, by rw [stepOf, if_pos c0]; rfl, ?_⟩
      have : (if (0 : Int) > cls then 0 else cls) = 0 := by split <;> omega
      rw [this]; rfl
    · have e : (if (0 : Int) > cls then 0 else cls) = cls := by rw [if_neg (by omega)]
      rw [e, stepOf, if_neg c0]
      by_cases c1 : cls = 1
      · exact ⟨1, by omega, by rw [if_pos c1]; rfl, by rw [if_neg (by omega), c1]; rfl⟩
      · rw [if_neg c1]
        by_cases c2 : cls = 2
        · exact ⟨2, by omega, by rw [if_pos c2]; rfl, by rw [if_neg (by omega), c2]; rfl⟩
        · refine ⟨3, by omega, by rw [if_neg c2]; rfl, ?_⟩
          split <;> omega
  obtain ⟨k, k3, hs, hk⟩ := hk
  have hs1 : (1 : Int) ≤ 2 ^ k ∧ (2 : Int) ^ k ≤ 8 := by
    have : k = 0 ∨ k = 1 ∨ k = 2 ∨ k = 3 := by omega
    rcases this with rfl | rfl | rfl | rfl <;> decide
  have hv : roundV cls n = roundS (2 ^ k) n := by rw [roundV, if_neg (by omega), hs]
  have hb : 0 ≤ roundS (2 ^ k) n ∧ roundS (2 ^ k) n ≤ 2000 := by
    have h3 := Int.ediv_mul_le (n + 2 ^ k - 1) (b := 2 ^ k) (by omega)
    have h4 := Int.ediv_nonneg (a := n + 2 ^ k - 1) (b := 2 ^ k) (by omega) (by omega)
    have h5 := Int.mul_nonneg h4 (show (0 : Int) ≤ 2 ^ k by omega)
    exact ⟨h5, by simp only [roundS]; omega⟩
  have hq : 0 ≤ (n + 2 ^ k - 1) / 2 ^ k ∧ (n + 2 ^ k - 1) / 2 ^ k ≤ 2000 := by
    have h4 := Int.ediv_nonneg (a := n + 2 ^ k - 1) (b := 2 ^ k) (by omega) (by omega)
    have h5 := Int.ediv_le_self (a := n + 2 ^ k - 1) (2 ^ k) (by omega)
    omega
  have hsl := shl_lit (P := Try.prog) (t := 3) k k3
  generalize (2 : Int) ^ k = st at *
  have e1 := @roundS st n
  simp -implicitDefEqProofs only [F74, zS, h1, h2, pr_max, pr_min, hk, hsl, bp_add, bp_sub, wrapi (n := n + st) (by omega) (by omega), wrapi (n := n + st - 1) (by omega) (by omega), bp_quo (show st ≠ 0 by omega), quo_nn (show 0 ≤ n + st - 1 by omega), wrapi (n := (n + st - 1) / st) (by omega) (by omega), bp_mul]
  have : (n + st - 1) / st * st = roundS st n := rfl
  rw [this, wrapi (by omega) (by omega), hv]
  exact ⟨rfl, trivial⟩
end Go.Proofs.Yteapggpkgfiacaa

namespace Go.Proofs.Yteapggpkgfiacaa
open Go Ev Go.RowKit
set_option linter.unusedSimpArgs false
set_option linter.unusedVariables false
set_option maxRecDepth 10000

theorem RgR.keep {w w' : World} {b o : Nat} {r : RgV} {cv wv ov : Value} (k : RgR w b o r cv wv ov) (hc : Chg [] w w') : RgR w' b o r cv wv ov := by
  have e : hp w' b = hp w b := hc.block b (by
    rcases Nat.lt_or_ge b w.heap.size with h | h
    · exact h
    · have : hp w b = none := by simp [hp]; omega
      have hu := k.c0
      rw [this] at hu; cases hu) (by simp)
  obtain ⟨F, hF⟩ := k.cT
  obtain ⟨G, hG⟩ := k.wT
  obtain ⟨H, hH⟩ := k.oT
  exact ⟨by rw [e]; exact k.c0, by rw [e]; exact k.c1, by rw [e]; exact k.c2, by rw [e]; exact k.c3, by rw [e]; exact k.c4, by rw [e]; exact k.c5, by rw [e]; exact k.c6,
    ⟨F, (good_intsT _).frame hF (ChgP.of0 hc none') fun _ _ h => h⟩, ⟨G, (good_words _).frame hG (ChgP.of0 hc none') fun _ _ h => h⟩, ⟨H, (good_objs _).frame hH (ChgP.of0 hc none') fun _ _ h => h⟩⟩
/-- the last of the chunks; -1 -/
def newV (l : List Int) : Int := if l.length = 0 then -1 else l.getD (l.length - 1) 0
theorem c_mNewest {w : World} {b o : Nat} {r : RgV} {cv wv ov : Value} (R : RgR w b o r cv wv ov) (hl : r.chunks.length ≤ 1000000) : CallR Try.prog 76 [.pointer (some ⟨b, o, none⟩)] w fun v w' => v = .int .i64 (newV r.chunks) ∧ Chg [] w w' := by
  apply F76_ok
  obtain ⟨A, c, hcv, hR⟩ := ints_sh R.cT
  have R4 := R.c4
  rw [hcv] at R4
  have R4d : ldC (hp w.drew b) (o + 4) = some (.slice A r.chunks.length c) := R4
  by_cases h0 : r.chunks.length = 0
  · have e : ((r.chunks.length : Int) == 0) = true := by rw [h0]; rfl
    simp -implicitDefEqProofs only [F76, zS, nilv_some, fa_98_3, ld_36, R4, len_36, e]
    exact ⟨by rw [newV, if_pos h0], Chg.refl _ _⟩
  · have e : ((r.chunks.length : Int) == 0) = false := beq_eq_false_iff_ne.2 (by omega)
    have hn : (r.chunks.length : Int) - 1 = ((r.chunks.length - 1 : Nat) : Int) := by omega
    obtain ⟨q, q1, q2⟩ := (hR.drew).at (P := Try.prog) (c := c) (j := .i64) Try.underlying36 Try.underlying3 sz_3 (i := ((r.chunks.length - 1 : Nat) : Int)) (by omega) (by omega)
    rw [Int.toNat_natCast] at q2
    simp -implicitDefEqProofs only [F76, zS, nilv_some, fa_98_3, ld_36, R4, R4d, len_36, e, bp_sub, hn, wrapi (n := ((r.chunks.length - 1 : Nat) : Int)) (by omega) (by omega), q1, ld_3, q2]
    exact ⟨by rw [newV, if_neg h0], (Chg.refl _ _).drew⟩
def rfitsV (r : RgV) (words need : Int) : Bool := decide (0 < r.chunks.length) && fitsV words r.off need
theorem c_mFits {w : World} {b o : Nat} {r : RgV} {cv wv ov : Value} (R : RgR w b o r cv wv ov) (words need : Int) : CallR Try.prog 75 [.pointer (some ⟨b, o, none⟩), .int .i64 words, .int .i64 need] w fun v w' => v = .bool (rfitsV r words need) ∧ w' = w := by
  apply F75_ok
  obtain ⟨A, c, hcv, hR⟩ := ints_sh R.cT
  have R4 := R.c4
  rw [hcv] at R4
  by_cases h0 : (0 : Int) < r.chunks.length
  · simp -implicitDefEqProofs only [F75, zS, nilv_some, fa_98_3, fa_98_2, ld_36, ld_3, R4, R.c3, len_36, h0]
    refine (c_sFits words r.off need w).step ?_
    have h1 : 0 < r.chunks.length := by omega
    simp -implicitDefEqProofs only [zS, rfitsV, h1, decide_true, Bool.true_and]
    exact ⟨trivial, trivial⟩
  · have h1 : ¬ 0 < r.chunks.length := by omega
    simp -implicitDefEqProofs only [F75, zS, nilv_some, fa_98_3, ld_36, R4, len_36, h0]
    exact ⟨by rw [rfitsV, decide_eq_false h1]; rfl, trivial⟩
/-- a hand's cells -/
structure HdR (w : World) (b o : Nat) (d : HdV) (nv : Value) : Prop where
  c0 : ldC (hp w b) (o + 0) = some (.int .i64 d.depth)
  c1 : ldC (hp w b) (o + 1) = some nv
  nT : ∃ F, namesT d.holds w F nv
theorem hd_at {w : World} {L : List HdV} {F : Fp} {x : Value} (h : handsT L w F x) {i : Nat} {d : HdV} (hr : L[i]? = some d) : ∃ b c, x = .slice (some ⟨b, 0, none⟩) L.length c ∧ ∃ nv, HdR w b (i * 2) d nv := by
  have get : ∀ k, k < 2 → (L.flatMap hdT)[i * 2 + k]? = (hdT d)[k]? := fun k hk => flatM_get hdT_len L i d hr k hk
  obtain ⟨b, c, v0, F0, e0, _, _, _, l0, t0, _⟩ := isRow.cell h (good_hdL L) (get 0 (by omega))
  obtain ⟨b1, c1, v1, F1, e1, _, _, _, l1, t1, _⟩ := isRow.cell h (good_hdL L) (get 1 (by omega))
  subst e0
  cases e1
  rw [t0.1] at l0
  exact ⟨b, c, rfl, v1, l0, l1, ⟨F1, t1⟩⟩
theorem names_sh {w : World} {L : List NmV} {s : Value} (h : ∃ F, namesT L w F s) : ∃ A c, s = .slice A L.length c ∧ RdV w A (L.flatMap nmC) := by
  obtain ⟨F, h⟩ := h
  obtain ⟨h1, _⟩ := flat_own h
  obtain ⟨A, c, e, r, _⟩ := rdV_of_own h1
  exact ⟨A, c, e, r⟩
end Go.Proofs.Yteapggpkgfiacaa

namespace Go.Proofs.Yteapggpkgfiacaa
open Go Ev Go.RowKit
set_option linter.unusedSimpArgs false
set_option linter.unusedVariables false
set_option maxRecDepth 10000

def mayV (m : MdV) (n : Int) (o : OpV) : Bool := decide (0 ≤ n) && (decide (n < m.hands.length) && mayO o)
set_option maxHeartbeats 1000000 in
theorem c_mMay {w : World} {g : Nat} {m : MdV} {s r h : Value} (M : MdR w g m s r h) (n : Int) (o : OpV) : CallR Try.prog 44 [.pointer (some ⟨g, 0, none⟩), .int .i64 n, .agg (opC o).toArray] w fun v w' => v = .bool (mayV m n o) ∧ Chg [] w w' := by
  apply F44_ok
  have hbox : hp (w.alloc (.cells (opC o).toArray 29)) w.heap.size = some (.cells (opC o).toArray 29) := by rw [alloc_heap, if_pos rfl]
  have hc0 : Chg [] w (w.alloc (.cells (opC o).toArray 29)) := (Chg.refl _ _).alloc _
  simp -implicitDefEqProofs only [F44, effv_box, cells_agg]
  generalize w.alloc (.cells (opC o).toArray 29) = w0 at *
  have M0 := M.keep hc0
  obtain ⟨A, c, hh⟩ := hands_sh M0.hT
  have hl := M0.hl
  rw [hh] at hl
  by_cases h0 : 0 ≤ n
  · by_cases h1 : n < (m.hands.length : Int)
    · have lo := ldv_whole (t := 29) (c := (opC o).toArray) ag_29 (show (Try.prog.info? 29).map (·.size) = some (opC o).toArray.size from sz_29) hbox
      simp -implicitDefEqProofs only [zS, bp_geq, h0, nilv_some, fa_72_4, ld_70, hl, len_70, h1, lo]
      refine (c_opMay o w0).mono ?_
      rintro _ w1 ⟨rfl, c1⟩
      simp -implicitDefEqProofs only [zS, mayV, h0, h1, decide_true, Bool.true_and]
      exact ⟨trivial, hc0.trans c1⟩
    · simp -implicitDefEqProofs only [zS, bp_geq, h0, nilv_some, fa_72_4, ld_70, hl, len_70, h1]
      exact ⟨by rw [mayV, decide_eq_false h1]; simp, hc0⟩
  · simp -implicitDefEqProofs only [zS, bp_geq, h0]
    exact ⟨by rw [mayV, decide_eq_false h0]; simp, hc0⟩
end Go.Proofs.Yteapggpkgfiacaa

