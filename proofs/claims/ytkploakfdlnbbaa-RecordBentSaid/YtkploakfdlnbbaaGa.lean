/- The formulas of functions of the given program, by program (gen.py). -/
import Derived.Test.YtkploakfdlnbbaaEv8
import Derived.Test.YtkploakfdlnbbaaChecked
import Derived.Eval
namespace Go.Proofs.Ytkploakfdlnbbaa
open Go Ev
set_option linter.unusedVariables false
set_option maxRecDepth 100000
theorem mixed : Try.prog.follows .mixedOrders = true := Checked.mixed Try.checked
theorem entOk : EntOk Try.prog (entR 3 80) := entOk_of (by kernel_rfl)
/-! ### rundale/rundalelaw3.SizeSays: function 3 -/
noncomputable def C3 : Code := (Try.f3.body).getD .skip
noncomputable def H3 : Hints := ⟨[], [], []⟩
def F3 (a0 a1 a2 a3 a4 : Value) (w : World) (Q : Value → World → Prop) : Prop :=
  CallR Try.prog 14 [] w fun t12 w =>
  wpB (pureRun Try.prog (Op.unary .not t12)) fun t14 =>
  cnd t14
  (Q (Go.Value.bool false) w)
  (gE t12 true (CallR Try.prog 15 [(gv t12 true a0), (gv t12 true a1)] w) (fun t19 w =>
  gE t12 true (CallR Try.prog 16 [(gv t12 true a0), (gv t12 true a1)] w) (fun t22 w =>
  wpB (gd t12 true (be Try.prog .eql 3 (.tmp 19) (.tmp 22) t19 t22)) fun t23 =>
  wpB (pickv t12 (some t23) (some (Go.Value.bool false))) fun t24 =>
  gE t24 true (CallR Try.prog 17 [(gv t24 true a2), (gv t24 true a4)] w) (fun t28 w =>
  gE t24 true (CallR Try.prog 18 [(gv t24 true a2), (gv t24 true a4)] w) (fun t31 w =>
  wpB (gd t24 true (be Try.prog .eql 4 (.tmp 28) (.tmp 31) t28 t31)) fun t32 =>
  wpB (pickv t24 (some t32) (some (Go.Value.bool false))) fun t33 =>
  gE t33 true (CallR Try.prog 19 [(gv t33 true a2), (gv t33 true a3), (gv t33 true a4)] w) (fun t38 w =>
  gE t33 true (CallR Try.prog 20 [(gv t33 true a2), (gv t33 true a3), (gv t33 true a4)] w) (fun t42 w =>
  wpB (gd t33 true (be Try.prog .eql 4 (.tmp 38) (.tmp 42) t38 t42)) fun t43 =>
  wpB (pickv t33 (some t43) (some (Go.Value.bool false))) fun t44 =>
  gE t44 true (CallR Try.prog 21 [(gv t44 true a2), (gv t44 true a4)] w) (fun t48 w =>
  gE t44 true (CallR Try.prog 22 [(gv t44 true a2), (gv t44 true a4)] w) (fun t51 w =>
  wpB (gd t44 true (be Try.prog .eql 3 (.tmp 48) (.tmp 51) t48 t51)) fun t52 =>
  wpB (pickv t44 (some t52) (some (Go.Value.bool false))) fun t53 =>
  Q t53 w) w) w) w) w) w) w) w) w)
theorem F3_ok {a0 a1 a2 a3 a4 : Value} {w : World} {Q : Value → World → Prop} (h : F3 a0 a1 a2 a3 a4 w Q) : CallR Try.prog 3 [a0, a1, a2, a3, a4] w Q :=
  have e : evC Try.prog (entR 3 80) 3 54 H3 Q C3 [] (entryE 0 [a0, a1, a2, a3, a4]) w (contT Try.prog (entR 3 80) 3 54 H3 Try.f3.results.toList Q []) = F3 a0 a1 a2 a3 a4 w Q := by kernel_rfl
  call_of (fn := Try.f3) mixed entOk Try.func3 (c := C3) rfl H3 (Nat.le_of_ble_eq_true rfl) (e.mpr h)

/-! ### rundale/rundalelaw3.SizeRounds: function 4 -/
noncomputable def C4 : Code := (Try.f4.body).getD .skip
noncomputable def H4 : Hints := ⟨[], [], []⟩
def F4 (a0 a1 : Value) (w : World) (Q : Value → World → Prop) : Prop :=
  CallR Try.prog 14 [] w fun t9 w =>
  wpB (pureRun Try.prog (Op.unary .not t9)) fun t11 =>
  cnd t11
  (Q (Go.Value.bool false) w)
  (CallR Try.prog 23 [a0, (Go.Value.int Go.IntKind.i64 4)] w fun t13 w =>
  CallR Try.prog 23 [a1, (Go.Value.int Go.IntKind.i64 1016)] w fun t15 w =>
  wpB (bp Try.prog .add 3 (Go.Value.int Go.IntKind.i64 1) t15) fun t16 =>
  wpB (pureRun Try.prog (convert 3 27 t13)) fun t18 =>
  wpB (bp Try.prog .shl 3 (Go.Value.int Go.IntKind.i64 1) t18) fun t19 =>
  CallR Try.prog 15 [t13, t16] w fun t22 w =>
  wpB (gd t9 true (bp Try.prog .geq 3 (gv t9 true t22) (gv t9 true t16))) fun t27 =>
  wpB (pickv t9 (some t27) (some (Go.Value.bool false))) fun t28 =>
  wpB (gd t28 true (bp Try.prog .add 3 (gv t28 true t16) (gv t28 true t19))) fun t33 =>
  wpB (gd t28 true (bp Try.prog .lss 3 (gv t28 true t22) t33)) fun t34 =>
  wpB (pickv t28 (some t34) (some (Go.Value.bool false))) fun t35 =>
  wpB (gd t35 true (bp Try.prog .rem 3 (gv t35 true t22) (gv t35 true t19))) fun t39 =>
  wpB (gd t35 true (be Try.prog .eql 3 (.tmp 39) (.const (Go.Value.int Go.IntKind.i64 0)) t39 (Go.Value.int Go.IntKind.i64 0))) fun t40 =>
  wpB (pickv t35 (some t40) (some (Go.Value.bool false))) fun t41 =>
  gE t41 true (CallR Try.prog 15 [(gv t41 true t13), (gv t41 true t22)] w) (fun t45 w =>
  wpB (gd t41 true (be Try.prog .eql 3 (.tmp 45) (.tmp 46) t45 (gv t41 true t22))) fun t47 =>
  wpB (pickv t41 (some t47) (some (Go.Value.bool false))) fun t48 =>
  wpB (gd t48 true (bp Try.prog .add 3 (gv t48 true t13) (Go.Value.int Go.IntKind.i64 1))) fun t51 =>
  gE t48 true (CallR Try.prog 15 [t51, (gv t48 true t16)] w) (fun t53 w =>
  wpB (gd t48 true (bp Try.prog .geq 3 t53 (gv t48 true t22))) fun t55 =>
  wpB (pickv t48 (some t55) (some (Go.Value.bool false))) fun t56 =>
  wpB (gd t56 true (bp Try.prog .add 3 (gv t56 true t16) (Go.Value.int Go.IntKind.i64 1))) fun t60 =>
  gE t56 true (CallR Try.prog 15 [(gv t56 true t13), t60] w) (fun t61 w =>
  wpB (gd t56 true (bp Try.prog .geq 3 t61 (gv t56 true t22))) fun t63 =>
  wpB (pickv t56 (some t63) (some (Go.Value.bool false))) fun t64 =>
  gE t64 true (CallR Try.prog 15 [(Go.Value.int Go.IntKind.i64 0), (gv t64 true t16)] w) (fun t67 w =>
  wpB (gd t64 true (be Try.prog .eql 3 (.tmp 67) (.tmp 68) t67 (gv t64 true t16))) fun t69 =>
  wpB (pickv t64 (some t69) (some (Go.Value.bool false))) fun t70 =>
  wpB (gd t70 true (pureRun Try.prog (Op.unary .neg (gv t70 true t13)))) fun t73 =>
  gE t70 true (CallR Try.prog 15 [t73, (gv t70 true t16)] w) (fun t75 w =>
  wpB (gd t70 true (be Try.prog .eql 3 (.tmp 75) (.tmp 76) t75 (gv t70 true t16))) fun t77 =>
  wpB (pickv t70 (some t77) (some (Go.Value.bool false))) fun t78 =>
  wpB (gd t78 true (bp Try.prog .add 3 (Go.Value.int Go.IntKind.i64 3) (gv t78 true t13))) fun t81 =>
  gE t78 true (CallR Try.prog 15 [t81, (gv t78 true t16)] w) (fun t83 w =>
  gE t78 true (CallR Try.prog 15 [(Go.Value.int Go.IntKind.i64 3), (gv t78 true t16)] w) (fun t85 w =>
  wpB (gd t78 true (be Try.prog .eql 3 (.tmp 83) (.tmp 85) t83 t85)) fun t86 =>
  wpB (pickv t78 (some t86) (some (Go.Value.bool false))) fun t87 =>
  wpB (gd t87 true (bp Try.prog .sub 3 (Go.Value.int Go.IntKind.i64 1) (gv t87 true t16))) fun t91 =>
  gE t87 true (CallR Try.prog 15 [(gv t87 true t13), t91] w) (fun t92 w =>
  wpB (gd t87 true (be Try.prog .eql 3 (.tmp 92) (.const (Go.Value.int Go.IntKind.i64 0)) t92 (Go.Value.int Go.IntKind.i64 0))) fun t93 =>
  wpB (pickv t87 (some t93) (some (Go.Value.bool false))) fun t94 =>
  wpB (gd t94 true (bp Try.prog .add 3 (Go.Value.int Go.IntKind.i64 1024) (gv t94 true t16))) fun t98 =>
  gE t94 true (CallR Try.prog 15 [(gv t94 true t13), t98] w) (fun t99 w =>
  wpB (gd t94 true (be Try.prog .eql 3 (.tmp 99) (.const (Go.Value.int Go.IntKind.i64 0)) t99 (Go.Value.int Go.IntKind.i64 0))) fun t100 =>
  wpB (pickv t94 (some t100) (some (Go.Value.bool false))) fun t101 =>
  Q t101 w) w) w) w) w) w) w) w) w) w)
theorem F4_ok {a0 a1 : Value} {w : World} {Q : Value → World → Prop} (h : F4 a0 a1 w Q) : CallR Try.prog 4 [a0, a1] w Q :=
  have e : evC Try.prog (entR 3 80) 4 102 H4 Q C4 [] (entryE 0 [a0, a1]) w (contT Try.prog (entR 3 80) 4 102 H4 Try.f4.results.toList Q []) = F4 a0 a1 w Q := by kernel_rfl
  call_of (fn := Try.f4) mixed entOk Try.func4 (c := C4) rfl H4 (Nat.le_of_ble_eq_true rfl) (e.mpr h)

/-! ### rundale/rundalelaw3.SizeFills: function 5 -/
noncomputable def C5 : Code := (Try.f5.body).getD .skip
noncomputable def H5 : Hints := ⟨[(9, [0, 1, 5, 6, 7])], [(10, [0, 1, 5, 6, 7])], []⟩
noncomputable def T5_0 : List It := [.lp (nav [1, 1, 1, 1, 1, 1, 0, 1, 4, 5] C5), .blk 0, .jn (nav [1, 1, 1, 1, 1, 1, 1] C5)]
noncomputable def T5_1 : List It := [.jn (nav [1, 1, 1, 1, 1, 1, 0, 1, 4, 5, 1, 1] C5), .lp (nav [1, 1, 1, 1, 1, 1, 0, 1, 4, 5] C5), .blk 0, .jn (nav [1, 1, 1, 1, 1, 1, 1] C5)]
/-- rundale/rundalelaw3.SizeFills, from a loop's head on -/
def P5_0 (x0 x1 x5 x6 x7 : Value) (w : World) (Q : Value → World → Prop) : Prop := Part Try.prog 5 T5_0 [0, 1, 5, 6, 7] [x0, x1, x5, x6, x7] w Q
/-- rundale/rundalelaw3.SizeFills, from a join on -/
def P5_1 (x0 x1 x5 x6 x7 : Value) (w : World) (Q : Value → World → Prop) : Prop := Part Try.prog 5 T5_1 [0, 1, 5, 6, 7] [x0, x1, x5, x6, x7] w Q
def F5 (a0 a1 : Value) (w : World) (Q : Value → World → Prop) : Prop :=
  CallR Try.prog 14 [] w fun t10 w =>
  wpB (pureRun Try.prog (Op.unary .not t10)) fun t12 =>
  cnd t12
  (Q (Go.Value.bool false) w)
  (CallR Try.prog 23 [a0, (Go.Value.int Go.IntKind.i64 20)] w fun t14 w =>
  wpB (bp Try.prog .mul 3 (Go.Value.int Go.IntKind.i64 8) t14) fun t15 =>
  wpB (bp Try.prog .add 3 (Go.Value.int Go.IntKind.i64 8) t15) fun t16 =>
  wpB (pureRun Try.prog (Builtin.len_ #[28] 3 #[a1])) fun t18 =>
  wpB (bp Try.prog .gtr 3 t18 (Go.Value.int Go.IntKind.i64 100)) fun t19 =>
  cnd t19
  (Q t10 w)
  (P5_0 t16 a1 t10 (Go.Value.int Go.IntKind.i64 0) (Go.Value.int Go.IntKind.i64 0) w Q))
def L5_0 (x0 x1 x5 x6 x7 : Value) (w : World) (Q : Value → World → Prop) : Prop :=
  wpB (pureRun Try.prog (Builtin.len_ #[28] 3 #[x1])) fun t23 =>
  wpB (bp Try.prog .lss 3 x7 t23) fun t24 =>
  cnd t24
  (wpB (bp Try.prog .rem 3 x7 (Go.Value.int Go.IntKind.i64 4)) fun t28 =>
  wpB (pureRun Try.prog (Instr.indexAt 28 x1 x7)) fun t31 =>
  wpB (ldv Try.prog 3 t31 w) fun t32 =>
  CallR Try.prog 23 [t32, x0] w fun t34 w =>
  wpB (bp Try.prog .add 3 (Go.Value.int Go.IntKind.i64 1) t34) fun t35 =>
  CallR Try.prog 15 [t28, t35] w fun t36 w =>
  wpB (bp Try.prog .lss 3 t36 (Go.Value.int Go.IntKind.i64 1)) fun t38 =>
  wpB (gd t38 false (bp Try.prog .gtr 3 (gv t38 false t36) (gv t38 false x0))) fun t42 =>
  wpB (pickv t38 (some (Go.Value.bool true)) (some t42)) fun t43 =>
  cnd t43
  (Q (Go.Value.bool false) w)
  (CallR Try.prog 19 [x0, x6, t36] w fun t47 w =>
  CallR Try.prog 17 [x0, t36] w fun t50 w =>
  wpB (bp Try.prog .mul 3 (Go.Value.int Go.IntKind.i64 2) t36) fun t52 =>
  wpB (bp Try.prog .gtr 3 t52 x0) fun t54 =>
  wpB (be Try.prog .neq 4 (.tmp 50) (.tmp 54) t50 t54) fun t55 =>
  gE t55 false (CallR Try.prog 17 [(gv t55 false x0), (gv t55 false t36)] w) (fun t59 w =>
  gE (gv (gv t55 false t59) true (gv (gv t55 false t59) true t47)) false (CallR Try.prog 21 [(gv (gv (gv t55 false t59) true (gv (gv t55 false t59) true t47)) false x0), (gv (gv (gv t55 false t59) true (gv (gv t55 false t59) true t47)) false t36)] w) (fun t65 w =>
  wpB (gd (gv (gv t55 false t59) true (gv (gv t55 false t59) true t47)) false (be Try.prog .neq 3 (.tmp 65) (.tmp 66) t65 (gv (gv (gv t55 false t59) true (gv (gv t55 false t59) true t47)) false x0))) fun t67 =>
  wpB (gd (gv t55 false t59) true (pickv (gv (gv t55 false t59) true (gv (gv t55 false t59) true t47)) (some (Go.Value.bool true)) (some t67))) fun t68 =>
  wpB (gd t55 false (pickv (gv t55 false t59) (some t68) (some (Go.Value.bool false)))) fun t69 =>
  wpB (pickv t55 (some (Go.Value.bool true)) (some t69)) fun t70 =>
  wpB (gd (gv t70 false (gv t70 false t47)) true (bp Try.prog .add 3 (gv (gv t70 false (gv t70 false t47)) true x6) (gv (gv t70 false (gv t70 false t47)) true t36))) fun t76 =>
  wpB (gd (gv t70 false (gv t70 false t47)) true (bp Try.prog .gtr 3 t76 (gv (gv t70 false (gv t70 false t47)) true x0))) fun t78 =>
  wpB (gd t70 false (pickv (gv t70 false (gv t70 false t47)) (some t78) (some (Go.Value.bool false)))) fun t79 =>
  wpB (pickv t70 (some (Go.Value.bool true)) (some t79)) fun t80 =>
  cnd t80
  (Q (Go.Value.bool false) w)
  (cnd t47
  (wpB (bp Try.prog .add 3 x6 t36) fun t88 =>
  P5_1 x0 x1 x5 t88 x7 w Q)
  (CallR Try.prog 21 [x0, t36] w fun t92 w =>
  wpB (bp Try.prog .lss 3 t92 t36) fun t94 =>
  gE t94 false (CallR Try.prog 21 [(gv t94 false x0), (gv t94 false t36)] w) (fun t98 w =>
  wpB (gd t94 false (bp Try.prog .gtr 3 t98 (gv t94 false x0))) fun t100 =>
  wpB (pickv t94 (some (Go.Value.bool true)) (some t100)) fun t101 =>
  cnd t101
  (Q (Go.Value.bool false) w)
  (CallR Try.prog 21 [x0, t36] w fun t83 w =>
  P5_1 x0 x1 x5 t83 x7 w Q)) w))) w) w))
  (wpB (gd x5 true (bp Try.prog .leq 3 (gv x5 true x6) (gv x5 true x0))) fun t106 =>
  wpB (pickv x5 (some t106) (some (Go.Value.bool false))) fun t107 =>
  Q t107 w)
def L5_1 (x0 x1 x5 x6 x7 : Value) (w : World) (Q : Value → World → Prop) : Prop :=
  wpB (bp Try.prog .add 3 x7 (Go.Value.int Go.IntKind.i64 1)) fun t26 =>
  P5_0 x0 x1 x5 x6 t26 w Q
theorem F5_ok {a0 a1 : Value} {w : World} {Q : Value → World → Prop} (h : F5 a0 a1 w Q) : CallR Try.prog 5 [a0, a1] w Q :=
  have e : evC Try.prog (entR 3 80) 5 108 H5 Q C5 [] (entryE 0 [a0, a1]) w (contT Try.prog (entR 3 80) 5 108 H5 Try.f5.results.toList Q []) = F5 a0 a1 w Q := by kernel_rfl
  call_of (fn := Try.f5) mixed entOk Try.func5 (c := C5) rfl H5 (Nat.le_of_ble_eq_true rfl) (e.mpr h)
theorem L5_0_ok {x0 x1 x5 x6 x7 : Value} {w : World} {Q : Value → World → Prop} (h : L5_0 x0 x1 x5 x6 x7 w Q) : P5_0 x0 x1 x5 x6 x7 w Q :=
  have e : evC Try.prog (entR 3 80) 5 108 H5 Q (nav [1, 1, 1, 1, 1, 1, 0, 1, 4, 5] C5) T5_0 (unpack [0, 1, 5, 6, 7] [x0, x1, x5, x6, x7]) w (contT Try.prog (entR 3 80) 5 108 H5 Try.f5.results.toList Q T5_0) = L5_0 x0 x1 x5 x6 x7 w Q := by kernel_rfl
  part_lp (fn := Try.f5) mixed entOk Try.func5 H5 (c := (nav [1, 1, 1, 1, 1, 1, 0, 1, 4, 5] C5)) (t := [.blk 0, .jn (nav [1, 1, 1, 1, 1, 1, 1] C5)]) (e.mpr h)
theorem L5_1_ok {x0 x1 x5 x6 x7 : Value} {w : World} {Q : Value → World → Prop} (h : L5_1 x0 x1 x5 x6 x7 w Q) : P5_1 x0 x1 x5 x6 x7 w Q :=
  have e : evC Try.prog (entR 3 80) 5 108 H5 Q (nav [1, 1, 1, 1, 1, 1, 0, 1, 4, 5, 1, 1] C5) [.lp (nav [1, 1, 1, 1, 1, 1, 0, 1, 4, 5] C5), .blk 0, .jn (nav [1, 1, 1, 1, 1, 1, 1] C5)] (unpack [0, 1, 5, 6, 7] [x0, x1, x5, x6, x7]) w (contT Try.prog (entR 3 80) 5 108 H5 Try.f5.results.toList Q [.lp (nav [1, 1, 1, 1, 1, 1, 0, 1, 4, 5] C5), .blk 0, .jn (nav [1, 1, 1, 1, 1, 1, 1] C5)]) = L5_1 x0 x1 x5 x6 x7 w Q := by kernel_rfl
  part_jn (fn := Try.f5) mixed entOk Try.func5 H5 (c := (nav [1, 1, 1, 1, 1, 1, 0, 1, 4, 5, 1, 1] C5)) (t := [.lp (nav [1, 1, 1, 1, 1, 1, 0, 1, 4, 5] C5), .blk 0, .jn (nav [1, 1, 1, 1, 1, 1, 1] C5)]) (e.mpr h)

/-! ### rundale/rundalelaw3.SizeEdges: function 6 -/
noncomputable def C6 : Code := (Try.f6.body).getD .skip
noncomputable def H6 : Hints := ⟨[], [], []⟩
def F6 (a0 a1 a2 : Value) (w : World) (Q : Value → World → Prop) : Prop :=
  CallR Try.prog 14 [] w fun t12 w =>
  wpB (pureRun Try.prog (Op.unary .not t12)) fun t14 =>
  cnd t14
  (Q (Go.Value.bool false) w)
  (CallR Try.prog 23 [a0, (Go.Value.int Go.IntKind.i64 128)] w fun t16 w =>
  wpB (bp Try.prog .add 3 (Go.Value.int Go.IntKind.i64 1) t16) fun t17 =>
  wpB (bp Try.prog .mul 3 (Go.Value.int Go.IntKind.i64 8) t17) fun t18 =>
  wpB (bp Try.prog .add 3 t18 (Go.Value.int Go.IntKind.i64 1)) fun t21 =>
  CallR Try.prog 23 [a1, t21] w fun t22 w =>
  CallR Try.prog 23 [a2, t18] w fun t25 w =>
  wpB (bp Try.prog .add 3 (Go.Value.int Go.IntKind.i64 1) t25) fun t26 =>
  wpB (bp Try.prog .sub 3 t18 t22) fun t29 =>
  wpB (bp Try.prog .quo 3 t18 (Go.Value.int Go.IntKind.i64 2)) fun t31 =>
  wpB (pureRun Try.prog (Builtin.min_ #[3, 3] 3 #[t29, t31])) fun t32 =>
  gE t12 true (CallR Try.prog 19 [(gv t12 true t18), (gv t12 true t22), (gv t12 true t26)] w) (fun t38 w =>
  wpB (gd t12 true (bp Try.prog .leq 3 (gv t12 true t26) (gv t12 true t32))) fun t41 =>
  wpB (gd t12 true (be Try.prog .eql 4 (.tmp 38) (.tmp 41) t38 t41)) fun t42 =>
  wpB (pickv t12 (some t42) (some (Go.Value.bool false))) fun t43 =>
  wpB (gd t43 true (bp Try.prog .quo 3 (gv t43 true t18) (Go.Value.int Go.IntKind.i64 2))) fun t47 =>
  gE t43 true (CallR Try.prog 17 [(gv t43 true t18), t47] w) (fun t48 w =>
  wpB (gd t43 true (pureRun Try.prog (Op.unary .not t48))) fun t49 =>
  wpB (pickv t43 (some t49) (some (Go.Value.bool false))) fun t50 =>
  wpB (gd t50 true (bp Try.prog .quo 3 (gv t50 true t18) (Go.Value.int Go.IntKind.i64 2))) fun t54 =>
  wpB (gd t50 true (bp Try.prog .add 3 t54 (Go.Value.int Go.IntKind.i64 1))) fun t55 =>
  gE t50 true (CallR Try.prog 17 [(gv t50 true t18), t55] w) (fun t56 w =>
  wpB (pickv t50 (some t56) (some (Go.Value.bool false))) fun t57 =>
  wpB (gd t57 true (bp Try.prog .quo 3 (gv t57 true t18) (Go.Value.int Go.IntKind.i64 2))) fun t61 =>
  gE t57 true (CallR Try.prog 21 [(gv t57 true t18), t61] w) (fun t62 w =>
  wpB (gd t57 true (bp Try.prog .quo 3 (gv t57 true t18) (Go.Value.int Go.IntKind.i64 2))) fun t64 =>
  wpB (gd t57 true (be Try.prog .eql 3 (.tmp 62) (.tmp 64) t62 t64)) fun t65 =>
  wpB (pickv t57 (some t65) (some (Go.Value.bool false))) fun t66 =>
  wpB (gd t66 true (bp Try.prog .quo 3 (gv t66 true t18) (Go.Value.int Go.IntKind.i64 2))) fun t70 =>
  wpB (gd t66 true (bp Try.prog .add 3 t70 (Go.Value.int Go.IntKind.i64 1))) fun t71 =>
  gE t66 true (CallR Try.prog 21 [(gv t66 true t18), t71] w) (fun t72 w =>
  wpB (gd t66 true (be Try.prog .eql 3 (.tmp 72) (.tmp 73) t72 (gv t66 true t18))) fun t74 =>
  wpB (pickv t66 (some t74) (some (Go.Value.bool false))) fun t75 =>
  wpB (gd t75 true (bp Try.prog .sub 3 (Go.Value.int Go.IntKind.i64 (-1)) (gv t75 true t22))) fun t79 =>
  gE t75 true (CallR Try.prog 19 [(gv t75 true t18), t79, (gv t75 true t26)] w) (fun t81 w =>
  wpB (gd t75 true (pureRun Try.prog (Op.unary .not t81))) fun t82 =>
  wpB (pickv t75 (some t82) (some (Go.Value.bool false))) fun t83 =>
  wpB (gd t83 true (bp Try.prog .add 3 (gv t83 true t18) (gv t83 true t26))) fun t88 =>
  gE t83 true (CallR Try.prog 19 [(gv t83 true t18), t88, (gv t83 true t26)] w) (fun t90 w =>
  wpB (gd t83 true (pureRun Try.prog (Op.unary .not t90))) fun t91 =>
  wpB (pickv t83 (some t91) (some (Go.Value.bool false))) fun t92 =>
  gE t92 true (CallR Try.prog 19 [(gv t92 true t18), (Go.Value.int Go.IntKind.i64 0), (Go.Value.int Go.IntKind.i64 0)] w) (fun t95 w =>
  wpB (gd t92 true (pureRun Try.prog (Op.unary .not t95))) fun t96 =>
  wpB (pickv t92 (some t96) (some (Go.Value.bool false))) fun t97 =>
  gE t97 true (CallR Try.prog 21 [(gv t97 true t18), (Go.Value.int Go.IntKind.i64 0)] w) (fun t100 w =>
  wpB (gd t97 true (be Try.prog .eql 3 (.tmp 100) (.const (Go.Value.int Go.IntKind.i64 0)) t100 (Go.Value.int Go.IntKind.i64 0))) fun t101 =>
  wpB (pickv t97 (some t101) (some (Go.Value.bool false))) fun t102 =>
  wpB (gd t102 true (bp Try.prog .add 3 (gv t102 true t18) (gv t102 true t26))) fun t107 =>
  gE t102 true (CallR Try.prog 21 [(gv t102 true t18), t107] w) (fun t108 w =>
  wpB (gd t102 true (be Try.prog .eql 3 (.tmp 108) (.const (Go.Value.int Go.IntKind.i64 0)) t108 (Go.Value.int Go.IntKind.i64 0))) fun t109 =>
  wpB (pickv t102 (some t109) (some (Go.Value.bool false))) fun t110 =>
  gE t110 true (CallR Try.prog 17 [(Go.Value.int Go.IntKind.i64 0), (Go.Value.int Go.IntKind.i64 1)] w) (fun t112 w =>
  wpB (gd t110 true (pureRun Try.prog (Op.unary .not t112))) fun t113 =>
  wpB (pickv t110 (some t113) (some (Go.Value.bool false))) fun t114 =>
  wpB (gd t114 true (pureRun Try.prog (Op.unary .neg (gv t114 true t26)))) fun t118 =>
  gE t114 true (CallR Try.prog 17 [(gv t114 true t18), t118] w) (fun t119 w =>
  wpB (gd t114 true (pureRun Try.prog (Op.unary .not t119))) fun t120 =>
  wpB (pickv t114 (some t120) (some (Go.Value.bool false))) fun t121 =>
  Q t121 w) w) w) w) w) w) w) w) w) w) w) w) w)
theorem F6_ok {a0 a1 a2 : Value} {w : World} {Q : Value → World → Prop} (h : F6 a0 a1 a2 w Q) : CallR Try.prog 6 [a0, a1, a2] w Q :=
  have e : evC Try.prog (entR 3 80) 6 122 H6 Q C6 [] (entryE 0 [a0, a1, a2]) w (contT Try.prog (entR 3 80) 6 122 H6 Try.f6.results.toList Q []) = F6 a0 a1 a2 w Q := by kernel_rfl
  call_of (fn := Try.f6) mixed entOk Try.func6 (c := C6) rfl H6 (Nat.le_of_ble_eq_true rfl) (e.mpr h)

/-! ### rundale/rundalelaw21.TurnsTell: function 7 -/
noncomputable def C7 : Code := (Try.f7.body).getD .skip
noncomputable def H7 : Hints := ⟨[], [], []⟩
def F7 (a0 a1 : Value) (w : World) (Q : Value → World → Prop) : Prop :=
  CallR Try.prog 24 [] w fun t6 w =>
  wpB (pureRun Try.prog (Op.unary .not t6)) fun t8 =>
  cnd t8
  (Q (Go.Value.bool false) w)
  (wpB (pureRun Try.prog (Builtin.len_ #[28] 3 #[a0])) fun t10 =>
  wpB (bp Try.prog .gtr 3 t10 (Go.Value.int Go.IntKind.i64 200)) fun t11 =>
  cnd t11
  (Q t6 w)
  (gE t6 true (effv Try.prog (Builtin.append_ #[28, 28] 28 #[(Go.Value.slice none 0 0), (gv t6 true a0)]) w) (fun t16 w =>
  gE t6 true (CallR Try.prog 25 [t16] w) (fun t17 w =>
  gE t6 true (CallR Try.prog 26 [(gv t6 true a0)] w) (fun t19 w =>
  wpB (gd t6 true (be Try.prog .eql 3 (.tmp 17) (.tmp 19) t17 t19)) fun t20 =>
  wpB (pickv t6 (some t20) (some (Go.Value.bool false))) fun t21 =>
  gE t21 true (effv Try.prog (Builtin.append_ #[28, 28] 28 #[(Go.Value.slice none 0 0), (gv t21 true a0)]) w) (fun t24 w =>
  gE t21 true (CallR Try.prog 27 [t24, (gv t21 true a1)] w) (fun t26 w =>
  gE t21 true (CallR Try.prog 28 [(gv t21 true a0), (gv t21 true a1)] w) (fun t29 w =>
  wpB (gd t21 true (be Try.prog .eql 3 (.tmp 26) (.tmp 29) t26 t29)) fun t30 =>
  wpB (pickv t21 (some t30) (some (Go.Value.bool false))) fun t31 =>
  Q t31 w) w) w) w) w) w) w))
theorem F7_ok {a0 a1 : Value} {w : World} {Q : Value → World → Prop} (h : F7 a0 a1 w Q) : CallR Try.prog 7 [a0, a1] w Q :=
  have e : evC Try.prog (entR 3 80) 7 32 H7 Q C7 [] (entryE 0 [a0, a1]) w (contT Try.prog (entR 3 80) 7 32 H7 Try.f7.results.toList Q []) = F7 a0 a1 w Q := by kernel_rfl
  call_of (fn := Try.f7) mixed entOk Try.func7 (c := C7) rfl H7 (Nat.le_of_ble_eq_true rfl) (e.mpr h)

/-! ### rundale/rundalelaw21.TurnsFair: function 8 -/
noncomputable def C8 : Code := (Try.f8.body).getD .skip
noncomputable def H8 : Hints := ⟨[(13, [9, 10, 11, 12, 13, 14, 15, 16]), (19, [9, 10, 11, 12, 15, 17])], [(27, [9, 10, 12, 18, 19])], [(15, (.leaf [0, 1, 2, 3, 4, 5, 6, 7, 8, 9, 10, 11, 12, 13, 14, 15, 16, 17, 18, 19, 20, 21, 22, 23, 24, 25, 26, 27, 28, 29, 30, 31, 32, 33, 34, 35, 36, 37, 38])), (21, (.leaf [0, 1, 2, 3, 4, 5, 6, 7, 8, 9, 10, 11, 12, 13, 14, 15, 16, 17, 18]))]⟩
noncomputable def T8_0 : List It := [.lp (nav [1, 1, 1, 1, 1, 1, 1, 1, 1, 1, 0, 1, 4, 5] C8), .blk 0, .jn (nav [1, 1, 1, 1, 1, 1, 1, 1, 1, 1, 1] C8)]
noncomputable def T8_1 : List It := [.lp (nav [1, 1, 1, 1, 1, 1, 1, 1, 1, 1, 1, 0, 1, 4, 5] C8), .blk 2, .jn (nav [1, 1, 1, 1, 1, 1, 1, 1, 1, 1, 1, 1] C8)]
noncomputable def T8_2 : List It := [.jn (nav [1, 1, 1, 1, 1, 1, 1, 1, 1, 1, 1, 1, 1, 1, 1] C8)]
/-- rundale/rundalelaw21.TurnsFair, from a loop's head on -/
def P8_0 (x9 x10 x11 x12 x13 x14 x15 x16 : Value) (w : World) (Q : Value → World → Prop) : Prop := Part Try.prog 8 T8_0 [9, 10, 11, 12, 13, 14, 15, 16] [x9, x10, x11, x12, x13, x14, x15, x16] w Q
/-- rundale/rundalelaw21.TurnsFair, from a loop's head on -/
def P8_1 (x9 x10 x11 x12 x15 x17 : Value) (w : World) (Q : Value → World → Prop) : Prop := Part Try.prog 8 T8_1 [9, 10, 11, 12, 15, 17] [x9, x10, x11, x12, x15, x17] w Q
/-- rundale/rundalelaw21.TurnsFair, from a join on -/
def P8_2 (x9 x10 x12 x18 x19 : Value) (w : World) (Q : Value → World → Prop) : Prop := Part Try.prog 8 T8_2 [9, 10, 12, 18, 19] [x9, x10, x12, x18, x19] w Q
def F8 (a0 a1 a2 a3 : Value) (w : World) (Q : Value → World → Prop) : Prop :=
  CallR Try.prog 24 [] w fun t20 w =>
  wpB (pureRun Try.prog (Op.unary .not t20)) fun t22 =>
  cnd t22
  (Q (Go.Value.bool false) w)
  (CallR Try.prog 23 [a0, (Go.Value.int Go.IntKind.i64 64)] w fun t24 w =>
  wpB (bp Try.prog .add 3 (Go.Value.int Go.IntKind.i64 1) t24) fun t25 =>
  CallR Try.prog 23 [a1, (Go.Value.int Go.IntKind.i64 500)] w fun t27 w =>
  CallR Try.prog 29 [t25, t27] w fun t30 w =>
  CallR Try.prog 30 [a3, t25, t27] w fun t34 w =>
  CallR Try.prog 23 [a2, (Go.Value.int Go.IntKind.i64 50)] w fun t39 w =>
  wpB (bp Try.prog .add 3 t27 t39) fun t40 =>
  CallR Try.prog 30 [a3, t25, t40] w fun t41 w =>
  wpB (pureRun Try.prog (Builtin.len_ #[28] 3 #[t30])) fun t43 =>
  wpB (be Try.prog .neq 3 (.tmp 43) (.tmp 44) t43 t27) fun t45 =>
  wpB (gd t45 false (pureRun Try.prog (Builtin.len_ #[28] 3 #[(gv t45 false t34)]))) fun t48 =>
  wpB (gd t45 false (be Try.prog .neq 3 (.tmp 48) (.tmp 49) t48 (gv t45 false t27))) fun t50 =>
  wpB (pickv t45 (some (Go.Value.bool true)) (some t50)) fun t51 =>
  wpB (gd t51 false (pureRun Try.prog (Builtin.len_ #[28] 3 #[(gv t51 false t41)]))) fun t54 =>
  wpB (gd t51 false (bp Try.prog .lss 3 t54 (gv t51 false t27))) fun t56 =>
  wpB (pickv t51 (some (Go.Value.bool true)) (some t56)) fun t57 =>
  cnd t57
  (Q (Go.Value.bool false) w)
  (effv Try.prog (Instr.makeSlice 28 t25 t25) w fun t59 w =>
  P8_0 t20 t25 t27 t30 t34 t41 t59 (Go.Value.int Go.IntKind.i64 0) w Q))
def L8_0 (x9 x10 x11 x12 x13 x14 x15 x16 : Value) (w : World) (Q : Value → World → Prop) : Prop :=
  wpB (bp Try.prog .lss 3 x16 x11) fun t62 =>
  cnd t62
  (wpB (pureRun Try.prog (Instr.indexAt 28 x12 x16)) fun t67 =>
  wpB (ldv Try.prog 3 t67 w.drew) fun t68 =>
  wpB (bp Try.prog .lss 3 t68 (Go.Value.int Go.IntKind.i64 0)) fun t69 =>
  wpB (gd t69 false (pureRun Try.prog (Instr.indexAt 28 (gv t69 false x12) (gv t69 false x16)))) fun t73 =>
  wpB (gd t69 false (ldv Try.prog 3 t73 w.drew)) fun t74 =>
  wpB (gd t69 false (bp Try.prog .geq 3 t74 (gv t69 false x10))) fun t76 =>
  wpB (pickv t69 (some (Go.Value.bool true)) (some t76)) fun t77 =>
  wpB (gd t77 false (pureRun Try.prog (Instr.indexAt 28 (gv t77 false x13) (gv t77 false x16)))) fun t81 =>
  wpB (gd t77 false (ldv Try.prog 3 t81 w.drew)) fun t82 =>
  wpB (gd t77 false (bp Try.prog .lss 3 t82 (Go.Value.int Go.IntKind.i64 0))) fun t83 =>
  wpB (pickv t77 (some (Go.Value.bool true)) (some t83)) fun t84 =>
  wpB (gd t84 false (pureRun Try.prog (Instr.indexAt 28 (gv t84 false x13) (gv t84 false x16)))) fun t88 =>
  wpB (gd t84 false (ldv Try.prog 3 t88 w.drew)) fun t89 =>
  wpB (gd t84 false (bp Try.prog .geq 3 t89 (gv t84 false x10))) fun t91 =>
  wpB (pickv t84 (some (Go.Value.bool true)) (some t91)) fun t92 =>
  wpB (gd t92 false (pureRun Try.prog (Instr.indexAt 28 (gv t92 false x13) (gv t92 false x16)))) fun t96 =>
  wpB (gd t92 false (ldv Try.prog 3 t96 w.drew)) fun t97 =>
  wpB (gd t92 false (pureRun Try.prog (Instr.indexAt 28 (gv t92 false x14) (gv t92 false x16)))) fun t100 =>
  wpB (gd t92 false (ldv Try.prog 3 t100 w.drew)) fun t101 =>
  wpB (gd t92 false (be Try.prog .neq 3 (.tmp 97) (.tmp 101) t97 t101)) fun t102 =>
  wpB (pickv t92 (some (Go.Value.bool true)) (some t102)) fun t103 =>
  cnd t103
  (Q (Go.Value.bool false) w.drew)
  (wpB (pureRun Try.prog (Instr.indexAt 28 x12 x16)) fun t107 =>
  wpB (ldv Try.prog 3 t107 w.drew) fun t108 =>
  wpB (pureRun Try.prog (Instr.indexAt 28 x15 t108)) fun t109 =>
  wpB (ldv Try.prog 3 t109 w.drew) fun t110 =>
  wpB (bp Try.prog .add 3 t110 (Go.Value.int Go.IntKind.i64 1)) fun t111 =>
  wpB (pureRun Try.prog (Instr.indexAt 28 x15 t108)) fun t112 =>
  effu Try.prog (Instr.storeAt 3 t112 t111) w.drew fun w =>
  wpB (bp Try.prog .add 3 x16 (Go.Value.int Go.IntKind.i64 1)) fun t64 =>
  P8_0 x9 x10 x11 x12 x13 x14 x15 t64 w Q))
  (P8_1 x9 x10 x11 x12 x15 (Go.Value.int Go.IntKind.i64 0) w Q)
def L8_1 (x9 x10 x11 x12 x15 x17 : Value) (w : World) (Q : Value → World → Prop) : Prop :=
  wpB (bp Try.prog .lss 3 x17 x10) fun t115 =>
  cnd t115
  (wpB (pureRun Try.prog (Instr.indexAt 28 x15 x17)) fun t120 =>
  wpB (ldv Try.prog 3 t120 w.drew) fun t121 =>
  wpB (bp Try.prog .quo 3 x11 x10) fun t124 =>
  wpB (be Try.prog .neq 3 (.tmp 121) (.tmp 124) t121 t124) fun t125 =>
  wpB (gd t125 true (pureRun Try.prog (Instr.indexAt 28 (gv t125 true x15) (gv t125 true x17)))) fun t129 =>
  wpB (gd t125 true (ldv Try.prog 3 t129 w.drew)) fun t130 =>
  wpB (gd t125 true (bp Try.prog .quo 3 (gv t125 true x11) (gv t125 true x10))) fun t133 =>
  wpB (gd t125 true (bp Try.prog .add 3 t133 (Go.Value.int Go.IntKind.i64 1))) fun t134 =>
  wpB (gd t125 true (be Try.prog .neq 3 (.tmp 130) (.tmp 134) t130 t134)) fun t135 =>
  wpB (pickv t125 (some t135) (some (Go.Value.bool false))) fun t136 =>
  cnd t136
  (Q (Go.Value.bool false) w.drew)
  (wpB (bp Try.prog .add 3 x17 (Go.Value.int Go.IntKind.i64 1)) fun t117 =>
  P8_1 x9 x10 x11 x12 x15 t117 w.drew Q))
  (wpB (bp Try.prog .sub 3 x10 (Go.Value.int Go.IntKind.i64 1)) fun t139 =>
  wpB (pureRun Try.prog (Builtin.min_ #[3, 3] 3 #[x11, t139])) fun t140 =>
  wpB (bp Try.prog .gtr 3 x10 (Go.Value.int Go.IntKind.i64 1)) fun t142 =>
  cnd t142
  (wpB (bp Try.prog .sub 3 x11 (Go.Value.int Go.IntKind.i64 1)) fun t144 =>
  wpB (pureRun Try.prog (Builtin.max_ #[3, 3] 3 #[t144, (Go.Value.int Go.IntKind.i64 0)])) fun t145 =>
  P8_2 x9 x10 x12 t140 t145 w Q)
  (P8_2 x9 x10 x12 t140 (Go.Value.int Go.IntKind.i64 0) w Q))
def L8_2 (x9 x10 x12 x18 x19 : Value) (w : World) (Q : Value → World → Prop) : Prop :=
  gE x9 true (CallR Try.prog 27 [(gv x9 true x12), (gv x9 true x10)] w) (fun t150 w =>
  wpB (gd x9 true (be Try.prog .eql 3 (.tmp 150) (.tmp 151) t150 (gv x9 true x18))) fun t152 =>
  wpB (pickv x9 (some t152) (some (Go.Value.bool false))) fun t153 =>
  gE t153 true (CallR Try.prog 25 [(gv t153 true x12)] w) (fun t156 w =>
  wpB (gd t153 true (be Try.prog .eql 3 (.tmp 156) (.tmp 157) t156 (gv t153 true x19))) fun t158 =>
  wpB (pickv t153 (some t158) (some (Go.Value.bool false))) fun t159 =>
  Q t159 w) w) w
theorem F8_ok {a0 a1 a2 a3 : Value} {w : World} {Q : Value → World → Prop} (h : F8 a0 a1 a2 a3 w Q) : CallR Try.prog 8 [a0, a1, a2, a3] w Q :=
  have e : evC Try.prog (entR 3 80) 8 160 H8 Q C8 [] (entryE 0 [a0, a1, a2, a3]) w (contT Try.prog (entR 3 80) 8 160 H8 Try.f8.results.toList Q []) = F8 a0 a1 a2 a3 w Q := by kernel_rfl
  call_of (fn := Try.f8) mixed entOk Try.func8 (c := C8) rfl H8 (Nat.le_of_ble_eq_true rfl) (e.mpr h)
theorem L8_0_ok {x9 x10 x11 x12 x13 x14 x15 x16 : Value} {w : World} {Q : Value → World → Prop} (h : L8_0 x9 x10 x11 x12 x13 x14 x15 x16 w Q) : P8_0 x9 x10 x11 x12 x13 x14 x15 x16 w Q :=
  have e : evC Try.prog (entR 3 80) 8 160 H8 Q (nav [1, 1, 1, 1, 1, 1, 1, 1, 1, 1, 0, 1, 4, 5] C8) T8_0 (unpack [9, 10, 11, 12, 13, 14, 15, 16] [x9, x10, x11, x12, x13, x14, x15, x16]) w (contT Try.prog (entR 3 80) 8 160 H8 Try.f8.results.toList Q T8_0) = L8_0 x9 x10 x11 x12 x13 x14 x15 x16 w Q := by kernel_rfl
  part_lp (fn := Try.f8) mixed entOk Try.func8 H8 (c := (nav [1, 1, 1, 1, 1, 1, 1, 1, 1, 1, 0, 1, 4, 5] C8)) (t := [.blk 0, .jn (nav [1, 1, 1, 1, 1, 1, 1, 1, 1, 1, 1] C8)]) (e.mpr h)
theorem L8_1_ok {x9 x10 x11 x12 x15 x17 : Value} {w : World} {Q : Value → World → Prop} (h : L8_1 x9 x10 x11 x12 x15 x17 w Q) : P8_1 x9 x10 x11 x12 x15 x17 w Q :=
  have e : evC Try.prog (entR 3 80) 8 160 H8 Q (nav [1, 1, 1, 1, 1, 1, 1, 1, 1, 1, 1, 0, 1, 4, 5] C8) T8_1 (unpack [9, 10, 11, 12, 15, 17] [x9, x10, x11, x12, x15, x17]) w (contT Try.prog (entR 3 80) 8 160 H8 Try.f8.results.toList Q T8_1) = L8_1 x9 x10 x11 x12 x15 x17 w Q := by kernel_rfl
  part_lp (fn := Try.f8) mixed entOk Try.func8 H8 (c := (nav [1, 1, 1, 1, 1, 1, 1, 1, 1, 1, 1, 0, 1, 4, 5] C8)) (t := [.blk 2, .jn (nav [1, 1, 1, 1, 1, 1, 1, 1, 1, 1, 1, 1] C8)]) (e.mpr h)
theorem L8_2_ok {x9 x10 x12 x18 x19 : Value} {w : World} {Q : Value → World → Prop} (h : L8_2 x9 x10 x12 x18 x19 w Q) : P8_2 x9 x10 x12 x18 x19 w Q :=
  have e : evC Try.prog (entR 3 80) 8 160 H8 Q (nav [1, 1, 1, 1, 1, 1, 1, 1, 1, 1, 1, 1, 1, 1, 1] C8) [] (unpack [9, 10, 12, 18, 19] [x9, x10, x12, x18, x19]) w (contT Try.prog (entR 3 80) 8 160 H8 Try.f8.results.toList Q []) = L8_2 x9 x10 x12 x18 x19 w Q := by kernel_rfl
  part_jn (fn := Try.f8) mixed entOk Try.func8 H8 (c := (nav [1, 1, 1, 1, 1, 1, 1, 1, 1, 1, 1, 1, 1, 1, 1] C8)) (t := []) (e.mpr h)

/-! ### rundale/rundalelaw21.TurnsBursts: function 9 -/
noncomputable def C9 : Code := (Try.f9.body).getD .skip
noncomputable def H9 : Hints := ⟨[(10, [1, 5, 6, 7, 8, 9, 10, 11]), (16, [1, 5, 6, 7, 8, 9, 10, 11, 12, 13])], [(23, [1, 5, 6, 7, 8, 10, 11, 12]), (24, [1, 5, 6, 7, 8, 9, 10, 11, 12])], [(18, (.leaf [0, 1, 2, 3, 4, 5, 6, 7, 8, 9]))]⟩
noncomputable def T9_0 : List It := [.lp (nav [1, 1, 1, 1, 1, 1, 1, 0, 1, 4, 5] C9), .blk 0, .jn (nav [1, 1, 1, 1, 1, 1, 1, 1] C9)]
noncomputable def T9_1 : List It := [.lp (nav [1, 1, 1, 1, 1, 1, 1, 0, 1, 4, 5, 1, 0, 4, 1, 1, 0, 1, 4, 5] C9), .blk 2, .jn (nav [1, 1, 1, 1, 1, 1, 1, 0, 1, 4, 5, 1, 0, 4, 1, 1, 1] C9), .blk 1, .jn (nav [1, 1, 1, 1, 1, 1, 1, 0, 1, 4, 5, 1, 1] C9), .lp (nav [1, 1, 1, 1, 1, 1, 1, 0, 1, 4, 5] C9), .blk 0, .jn (nav [1, 1, 1, 1, 1, 1, 1, 1] C9)]
noncomputable def T9_2 : List It := [.jn (nav [1, 1, 1, 1, 1, 1, 1, 0, 1, 4, 5, 1, 0, 4, 1, 1, 1, 0, 1, 2, 1] C9), .jn (nav [1, 1, 1, 1, 1, 1, 1, 0, 1, 4, 5, 1, 0, 4, 1, 1, 1, 1] C9), .blk 1, .jn (nav [1, 1, 1, 1, 1, 1, 1, 0, 1, 4, 5, 1, 1] C9), .lp (nav [1, 1, 1, 1, 1, 1, 1, 0, 1, 4, 5] C9), .blk 0, .jn (nav [1, 1, 1, 1, 1, 1, 1, 1] C9)]
noncomputable def T9_3 : List It := [.jn (nav [1, 1, 1, 1, 1, 1, 1, 0, 1, 4, 5, 1, 0, 4, 1, 1, 1, 1] C9), .blk 1, .jn (nav [1, 1, 1, 1, 1, 1, 1, 0, 1, 4, 5, 1, 1] C9), .lp (nav [1, 1, 1, 1, 1, 1, 1, 0, 1, 4, 5] C9), .blk 0, .jn (nav [1, 1, 1, 1, 1, 1, 1, 1] C9)]
/-- rundale/rundalelaw21.TurnsBursts, from a loop's head on -/
def P9_0 (x1 x5 x6 x7 x8 x9 x10 x11 : Value) (w : World) (Q : Value → World → Prop) : Prop := Part Try.prog 9 T9_0 [1, 5, 6, 7, 8, 9, 10, 11] [x1, x5, x6, x7, x8, x9, x10, x11] w Q
/-- rundale/rundalelaw21.TurnsBursts, from a loop's head on -/
def P9_1 (x1 x5 x6 x7 x8 x9 x10 x11 x12 x13 : Value) (w : World) (Q : Value → World → Prop) : Prop := Part Try.prog 9 T9_1 [1, 5, 6, 7, 8, 9, 10, 11, 12, 13] [x1, x5, x6, x7, x8, x9, x10, x11, x12, x13] w Q
/-- rundale/rundalelaw21.TurnsBursts, from a join on -/
def P9_2 (x1 x5 x6 x7 x8 x10 x11 x12 : Value) (w : World) (Q : Value → World → Prop) : Prop := Part Try.prog 9 T9_2 [1, 5, 6, 7, 8, 10, 11, 12] [x1, x5, x6, x7, x8, x10, x11, x12] w Q
/-- rundale/rundalelaw21.TurnsBursts, from a join on -/
def P9_3 (x1 x5 x6 x7 x8 x9 x10 x11 x12 : Value) (w : World) (Q : Value → World → Prop) : Prop := Part Try.prog 9 T9_3 [1, 5, 6, 7, 8, 9, 10, 11, 12] [x1, x5, x6, x7, x8, x9, x10, x11, x12] w Q
def F9 (a0 a1 : Value) (w : World) (Q : Value → World → Prop) : Prop :=
  CallR Try.prog 24 [] w fun t14 w =>
  wpB (pureRun Try.prog (Op.unary .not t14)) fun t16 =>
  cnd t16
  (Q (Go.Value.bool false) w)
  (wpB (pureRun Try.prog (Builtin.len_ #[28] 3 #[a1])) fun t18 =>
  wpB (bp Try.prog .gtr 3 t18 (Go.Value.int Go.IntKind.i64 20)) fun t19 =>
  cnd t19
  (Q t14 w)
  (CallR Try.prog 23 [a0, (Go.Value.int Go.IntKind.i64 5)] w fun t22 w =>
  wpB (bp Try.prog .add 3 (Go.Value.int Go.IntKind.i64 1) t22) fun t23 =>
  effv Try.prog (Builtin.append_ #[28, 28] 28 #[(Go.Value.slice none 0 0), a1]) w fun t26 w =>
  CallR Try.prog 31 [t23, t26] w fun t27 w =>
  P9_0 a1 t14 t23 t27 (Go.Value.int Go.IntKind.i64 0) (Go.Value.int Go.IntKind.i64 (-1)) (Go.Value.int Go.IntKind.i64 0) (Go.Value.int Go.IntKind.i64 0) w Q))
def L9_0 (x1 x5 x6 x7 x8 x9 x10 x11 : Value) (w : World) (Q : Value → World → Prop) : Prop :=
  wpB (pureRun Try.prog (Builtin.len_ #[28] 3 #[x1])) fun t30 =>
  wpB (bp Try.prog .lss 3 x11 t30) fun t31 =>
  cnd t31
  (wpB (pureRun Try.prog (Instr.indexAt 28 x1 x11)) fun t36 =>
  wpB (ldv Try.prog 3 t36 w) fun t37 =>
  wpB (pureRun Try.prog (Builtin.max_ #[3, 3] 3 #[t37, (Go.Value.int Go.IntKind.i64 0)])) fun t38 =>
  wpB (pureRun Try.prog (Builtin.min_ #[3, 3] 3 #[t38, (Go.Value.int Go.IntKind.i64 1000)])) fun t39 =>
  wpB (pureRun Try.prog (Builtin.len_ #[28] 3 #[x7])) fun t42 =>
  wpB (bp Try.prog .sub 3 t42 x8) fun t44 =>
  wpB (bp Try.prog .gtr 3 t39 t44) fun t45 =>
  cnd t45
  (Q (Go.Value.bool false) w)
  (P9_1 x1 x5 x6 x7 x8 x9 x10 x11 t39 (Go.Value.int Go.IntKind.i64 0) w Q))
  (wpB (gd x5 true (pureRun Try.prog (Builtin.len_ #[28] 3 #[(gv x5 true x7)]))) fun t84 =>
  wpB (gd x5 true (be Try.prog .eql 3 (.tmp 82) (.tmp 84) (gv x5 true x8) t84)) fun t85 =>
  wpB (pickv x5 (some t85) (some (Go.Value.bool false))) fun t86 =>
  gE t86 true (CallR Try.prog 25 [(gv t86 true x7)] w) (fun t89 w =>
  wpB (gd t86 true (be Try.prog .eql 3 (.tmp 89) (.tmp 90) t89 (gv t86 true x10))) fun t91 =>
  wpB (pickv t86 (some t91) (some (Go.Value.bool false))) fun t92 =>
  Q t92 w) w)
def L9_1 (x1 x5 x6 x7 x8 x9 x10 x11 x12 x13 : Value) (w : World) (Q : Value → World → Prop) : Prop :=
  wpB (bp Try.prog .lss 3 x13 x12) fun t48 =>
  cnd t48
  (wpB (bp Try.prog .add 3 x8 x13) fun t54 =>
  wpB (pureRun Try.prog (Instr.indexAt 28 x7 t54)) fun t55 =>
  wpB (ldv Try.prog 3 t55 w.drew) fun t56 =>
  wpB (bp Try.prog .rem 3 x11 x6) fun t59 =>
  wpB (be Try.prog .neq 3 (.tmp 56) (.tmp 59) t56 t59) fun t60 =>
  cnd t60
  (Q (Go.Value.bool false) w.drew)
  (wpB (bp Try.prog .add 3 x13 (Go.Value.int Go.IntKind.i64 1)) fun t50 =>
  P9_1 x1 x5 x6 x7 x8 x9 x10 x11 x12 t50 w.drew Q))
  (wpB (bp Try.prog .gtr 3 x12 (Go.Value.int Go.IntKind.i64 0)) fun t62 =>
  cnd t62
  (wpB (bp Try.prog .geq 3 x9 (Go.Value.int Go.IntKind.i64 0)) fun t64 =>
  wpB (gd t64 true (bp Try.prog .rem 3 (gv t64 true x11) (gv t64 true x6))) fun t69 =>
  wpB (gd t64 true (be Try.prog .neq 3 (.tmp 66) (.tmp 69) (gv t64 true x9) t69)) fun t70 =>
  wpB (pickv t64 (some t70) (some (Go.Value.bool false))) fun t71 =>
  cnd t71
  (wpB (bp Try.prog .add 3 x10 (Go.Value.int Go.IntKind.i64 1)) fun t73 =>
  P9_2 x1 x5 x6 x7 x8 t73 x11 x12 w Q)
  (P9_2 x1 x5 x6 x7 x8 x10 x11 x12 w Q))
  (P9_3 x1 x5 x6 x7 x8 x9 x10 x11 x12 w Q))
def L9_2 (x1 x5 x6 x7 x8 x10 x11 x12 : Value) (w : World) (Q : Value → World → Prop) : Prop :=
  wpB (bp Try.prog .rem 3 x11 x6) fun t76 =>
  P9_3 x1 x5 x6 x7 x8 t76 x10 x11 x12 w Q
def L9_3 (x1 x5 x6 x7 x8 x9 x10 x11 x12 : Value) (w : World) (Q : Value → World → Prop) : Prop :=
  wpB (bp Try.prog .add 3 x8 x12) fun t79 =>
  wpB (bp Try.prog .add 3 x11 (Go.Value.int Go.IntKind.i64 1)) fun t33 =>
  P9_0 x1 x5 x6 x7 t79 x9 x10 t33 w Q
theorem F9_ok {a0 a1 : Value} {w : World} {Q : Value → World → Prop} (h : F9 a0 a1 w Q) : CallR Try.prog 9 [a0, a1] w Q :=
  have e : evC Try.prog (entR 3 80) 9 93 H9 Q C9 [] (entryE 0 [a0, a1]) w (contT Try.prog (entR 3 80) 9 93 H9 Try.f9.results.toList Q []) = F9 a0 a1 w Q := by kernel_rfl
  call_of (fn := Try.f9) mixed entOk Try.func9 (c := C9) rfl H9 (Nat.le_of_ble_eq_true rfl) (e.mpr h)
theorem L9_0_ok {x1 x5 x6 x7 x8 x9 x10 x11 : Value} {w : World} {Q : Value → World → Prop} (h : L9_0 x1 x5 x6 x7 x8 x9 x10 x11 w Q) : P9_0 x1 x5 x6 x7 x8 x9 x10 x11 w Q :=
  have e : evC Try.prog (entR 3 80) 9 93 H9 Q (nav [1, 1, 1, 1, 1, 1, 1, 0, 1, 4, 5] C9) T9_0 (unpack [1, 5, 6, 7, 8, 9, 10, 11] [x1, x5, x6, x7, x8, x9, x10, x11]) w (contT Try.prog (entR 3 80) 9 93 H9 Try.f9.results.toList Q T9_0) = L9_0 x1 x5 x6 x7 x8 x9 x10 x11 w Q := by kernel_rfl
  part_lp (fn := Try.f9) mixed entOk Try.func9 H9 (c := (nav [1, 1, 1, 1, 1, 1, 1, 0, 1, 4, 5] C9)) (t := [.blk 0, .jn (nav [1, 1, 1, 1, 1, 1, 1, 1] C9)]) (e.mpr h)
theorem L9_1_ok {x1 x5 x6 x7 x8 x9 x10 x11 x12 x13 : Value} {w : World} {Q : Value → World → Prop} (h : L9_1 x1 x5 x6 x7 x8 x9 x10 x11 x12 x13 w Q) : P9_1 x1 x5 x6 x7 x8 x9 x10 x11 x12 x13 w Q :=
  have e : evC Try.prog (entR 3 80) 9 93 H9 Q (nav [1, 1, 1, 1, 1, 1, 1, 0, 1, 4, 5, 1, 0, 4, 1, 1, 0, 1, 4, 5] C9) T9_1 (unpack [1, 5, 6, 7, 8, 9, 10, 11, 12, 13] [x1, x5, x6, x7, x8, x9, x10, x11, x12, x13]) w (contT Try.prog (entR 3 80) 9 93 H9 Try.f9.results.toList Q T9_1) = L9_1 x1 x5 x6 x7 x8 x9 x10 x11 x12 x13 w Q := by kernel_rfl
  part_lp (fn := Try.f9) mixed entOk Try.func9 H9 (c := (nav [1, 1, 1, 1, 1, 1, 1, 0, 1, 4, 5, 1, 0, 4, 1, 1, 0, 1, 4, 5] C9)) (t := [.blk 2, .jn (nav [1, 1, 1, 1, 1, 1, 1, 0, 1, 4, 5, 1, 0, 4, 1, 1, 1] C9), .blk 1, .jn (nav [1, 1, 1, 1, 1, 1, 1, 0, 1, 4, 5, 1, 1] C9), .lp (nav [1, 1, 1, 1, 1, 1, 1, 0, 1, 4, 5] C9), .blk 0, .jn (nav [1, 1, 1, 1, 1, 1, 1, 1] C9)]) (e.mpr h)
theorem L9_2_ok {x1 x5 x6 x7 x8 x10 x11 x12 : Value} {w : World} {Q : Value → World → Prop} (h : L9_2 x1 x5 x6 x7 x8 x10 x11 x12 w Q) : P9_2 x1 x5 x6 x7 x8 x10 x11 x12 w Q :=
  have e : evC Try.prog (entR 3 80) 9 93 H9 Q (nav [1, 1, 1, 1, 1, 1, 1, 0, 1, 4, 5, 1, 0, 4, 1, 1, 1, 0, 1, 2, 1] C9) [.jn (nav [1, 1, 1, 1, 1, 1, 1, 0, 1, 4, 5, 1, 0, 4, 1, 1, 1, 1] C9), .blk 1, .jn (nav [1, 1, 1, 1, 1, 1, 1, 0, 1, 4, 5, 1, 1] C9), .lp (nav [1, 1, 1, 1, 1, 1, 1, 0, 1, 4, 5] C9), .blk 0, .jn (nav [1, 1, 1, 1, 1, 1, 1, 1] C9)] (unpack [1, 5, 6, 7, 8, 10, 11, 12] [x1, x5, x6, x7, x8, x10, x11, x12]) w (contT Try.prog (entR 3 80) 9 93 H9 Try.f9.results.toList Q [.jn (nav [1, 1, 1, 1, 1, 1, 1, 0, 1, 4, 5, 1, 0, 4, 1, 1, 1, 1] C9), .blk 1, .jn (nav [1, 1, 1, 1, 1, 1, 1, 0, 1, 4, 5, 1, 1] C9), .lp (nav [1, 1, 1, 1, 1, 1, 1, 0, 1, 4, 5] C9), .blk 0, .jn (nav [1, 1, 1, 1, 1, 1, 1, 1] C9)]) = L9_2 x1 x5 x6 x7 x8 x10 x11 x12 w Q := by kernel_rfl
  part_jn (fn := Try.f9) mixed entOk Try.func9 H9 (c := (nav [1, 1, 1, 1, 1, 1, 1, 0, 1, 4, 5, 1, 0, 4, 1, 1, 1, 0, 1, 2, 1] C9)) (t := [.jn (nav [1, 1, 1, 1, 1, 1, 1, 0, 1, 4, 5, 1, 0, 4, 1, 1, 1, 1] C9), .blk 1, .jn (nav [1, 1, 1, 1, 1, 1, 1, 0, 1, 4, 5, 1, 1] C9), .lp (nav [1, 1, 1, 1, 1, 1, 1, 0, 1, 4, 5] C9), .blk 0, .jn (nav [1, 1, 1, 1, 1, 1, 1, 1] C9)]) (e.mpr h)
theorem L9_3_ok {x1 x5 x6 x7 x8 x9 x10 x11 x12 : Value} {w : World} {Q : Value → World → Prop} (h : L9_3 x1 x5 x6 x7 x8 x9 x10 x11 x12 w Q) : P9_3 x1 x5 x6 x7 x8 x9 x10 x11 x12 w Q :=
  have e : evC Try.prog (entR 3 80) 9 93 H9 Q (nav [1, 1, 1, 1, 1, 1, 1, 0, 1, 4, 5, 1, 0, 4, 1, 1, 1, 1] C9) [.blk 1, .jn (nav [1, 1, 1, 1, 1, 1, 1, 0, 1, 4, 5, 1, 1] C9), .lp (nav [1, 1, 1, 1, 1, 1, 1, 0, 1, 4, 5] C9), .blk 0, .jn (nav [1, 1, 1, 1, 1, 1, 1, 1] C9)] (unpack [1, 5, 6, 7, 8, 9, 10, 11, 12] [x1, x5, x6, x7, x8, x9, x10, x11, x12]) w (contT Try.prog (entR 3 80) 9 93 H9 Try.f9.results.toList Q [.blk 1, .jn (nav [1, 1, 1, 1, 1, 1, 1, 0, 1, 4, 5, 1, 1] C9), .lp (nav [1, 1, 1, 1, 1, 1, 1, 0, 1, 4, 5] C9), .blk 0, .jn (nav [1, 1, 1, 1, 1, 1, 1, 1] C9)]) = L9_3 x1 x5 x6 x7 x8 x9 x10 x11 x12 w Q := by kernel_rfl
  part_jn (fn := Try.f9) mixed entOk Try.func9 H9 (c := (nav [1, 1, 1, 1, 1, 1, 1, 0, 1, 4, 5, 1, 0, 4, 1, 1, 1, 1] C9)) (t := [.blk 1, .jn (nav [1, 1, 1, 1, 1, 1, 1, 0, 1, 4, 5, 1, 1] C9), .lp (nav [1, 1, 1, 1, 1, 1, 1, 0, 1, 4, 5] C9), .blk 0, .jn (nav [1, 1, 1, 1, 1, 1, 1, 1] C9)]) (e.mpr h)

/-! ### rundale/rundalelaw21.TurnsSay: function 10 -/
noncomputable def C10 : Code := (Try.f10.body).getD .skip
noncomputable def H10 : Hints := ⟨[], [], []⟩
def F10 (a0 a1 a2 a3 : Value) (w : World) (Q : Value → World → Prop) : Prop :=
  CallR Try.prog 24 [] w fun t10 w =>
  wpB (pureRun Try.prog (Op.unary .not t10)) fun t12 =>
  cnd t12
  (Q (Go.Value.bool false) w)
  (wpB (pureRun Try.prog (Builtin.len_ #[28] 3 #[a2])) fun t14 =>
  wpB (bp Try.prog .gtr 3 t14 (Go.Value.int Go.IntKind.i64 40)) fun t15 =>
  wpB (gd t15 false (bp Try.prog .gtr 3 (gv t15 false a1) (Go.Value.int Go.IntKind.i64 2000))) fun t18 =>
  wpB (pickv t15 (some (Go.Value.bool true)) (some t18)) fun t19 =>
  cnd t19
  (Q t10 w)
  (gE t10 true (CallR Try.prog 29 [(gv t10 true a0), (gv t10 true a1)] w) (fun t25 w =>
  gE t10 true (CallR Try.prog 33 [(gv t10 true a0), (gv t10 true a1)] w) (fun t28 w =>
  gE t10 true (CallR Try.prog 32 [t25, t28] w) (fun t29 w =>
  wpB (pickv t10 (some t29) (some (Go.Value.bool false))) fun t30 =>
  gE t30 true (effv Try.prog (Builtin.append_ #[28, 28] 28 #[(Go.Value.slice none 0 0), (gv t30 true a2)]) w) (fun t34 w =>
  gE t30 true (CallR Try.prog 31 [(gv t30 true a0), t34] w) (fun t35 w =>
  gE t30 true (CallR Try.prog 34 [(gv t30 true a0), (gv t30 true a2)] w) (fun t38 w =>
  gE t30 true (CallR Try.prog 32 [t35, t38] w) (fun t39 w =>
  wpB (pickv t30 (some t39) (some (Go.Value.bool false))) fun t40 =>
  gE t40 true (CallR Try.prog 30 [(gv t40 true a3), (gv t40 true a0), (gv t40 true a1)] w) (fun t45 w =>
  gE t40 true (CallR Try.prog 35 [(gv t40 true a3), (gv t40 true a0), (gv t40 true a1)] w) (fun t49 w =>
  gE t40 true (CallR Try.prog 32 [t45, t49] w) (fun t50 w =>
  wpB (pickv t40 (some t50) (some (Go.Value.bool false))) fun t51 =>
  Q t51 w) w) w) w) w) w) w) w) w) w) w))
theorem F10_ok {a0 a1 a2 a3 : Value} {w : World} {Q : Value → World → Prop} (h : F10 a0 a1 a2 a3 w Q) : CallR Try.prog 10 [a0, a1, a2, a3] w Q :=
  have e : evC Try.prog (entR 3 80) 10 52 H10 Q C10 [] (entryE 0 [a0, a1, a2, a3]) w (contT Try.prog (entR 3 80) 10 52 H10 Try.f10.results.toList Q []) = F10 a0 a1 a2 a3 w Q := by kernel_rfl
  call_of (fn := Try.f10) mixed entOk Try.func10 (c := C10) rfl H10 (Nat.le_of_ble_eq_true rfl) (e.mpr h)

/-! ### rundale/rundalelaw3.first: function 14 -/
noncomputable def C14 : Code := (Try.f14.body).getD .skip
noncomputable def H14 : Hints := ⟨[], [], []⟩
def F14 (w : World) (Q : Value → World → Prop) : Prop :=
  CallR Try.prog 15 [(Go.Value.int Go.IntKind.i64 3), (Go.Value.int Go.IntKind.i64 9)] w fun t1 w =>
  wpB (be Try.prog .eql 3 (.tmp 1) (.const (Go.Value.int Go.IntKind.i64 16)) t1 (Go.Value.int Go.IntKind.i64 16)) fun t2 =>
  gE t2 true (CallR Try.prog 17 [(Go.Value.int Go.IntKind.i64 16), (Go.Value.int Go.IntKind.i64 8)] w) (fun t4 w =>
  wpB (gd t2 true (pureRun Try.prog (Op.unary .not t4))) fun t5 =>
  wpB (pickv t2 (some t5) (some (Go.Value.bool false))) fun t6 =>
  gE t6 true (CallR Try.prog 21 [(Go.Value.int Go.IntKind.i64 16), (Go.Value.int Go.IntKind.i64 9)] w) (fun t8 w =>
  wpB (gd t6 true (be Try.prog .eql 3 (.tmp 8) (.const (Go.Value.int Go.IntKind.i64 16)) t8 (Go.Value.int Go.IntKind.i64 16))) fun t9 =>
  wpB (pickv t6 (some t9) (some (Go.Value.bool false))) fun t10 =>
  gE t10 true (CallR Try.prog 19 [(Go.Value.int Go.IntKind.i64 16), (Go.Value.int Go.IntKind.i64 4), (Go.Value.int Go.IntKind.i64 8)] w) (fun t12 w =>
  wpB (pickv t10 (some t12) (some (Go.Value.bool false))) fun t13 =>
  Q t13 w) w) w) w
theorem F14_ok {w : World} {Q : Value → World → Prop} (h : F14  w Q) : CallR Try.prog 14 [] w Q :=
  have e : evC Try.prog (entR 3 80) 14 14 H14 Q C14 [] (entryE 0 []) w (contT Try.prog (entR 3 80) 14 14 H14 Try.f14.results.toList Q []) = F14  w Q := by kernel_rfl
  call_of (fn := Try.f14) mixed entOk Try.func14 (c := C14) rfl H14 (Nat.le_of_ble_eq_true rfl) (e.mpr h)

/-! ### rundale/size.Round: function 15 -/
noncomputable def C15 : Code := (Try.f15.body).getD .skip
noncomputable def H15 : Hints := ⟨[], [], []⟩
def F15 (a0 a1 : Value) (w : World) (Q : Value → World → Prop) : Prop :=
  wpB (bp Try.prog .lss 3 a1 (Go.Value.int Go.IntKind.i64 1)) fun t7 =>
  wpB (gd t7 false (bp Try.prog .gtr 3 (gv t7 false a1) (Go.Value.int Go.IntKind.i64 1024))) fun t10 =>
  wpB (pickv t7 (some (Go.Value.bool true)) (some t10)) fun t11 =>
  cnd t11
  (Q (Go.Value.int Go.IntKind.i64 0) w)
  (wpB (pureRun Try.prog (Builtin.max_ #[3, 3] 3 #[a0, (Go.Value.int Go.IntKind.i64 0)])) fun t13 =>
  wpB (pureRun Try.prog (Builtin.min_ #[3, 3] 3 #[t13, (Go.Value.int Go.IntKind.i64 3)])) fun t14 =>
  wpB (bp Try.prog .shl 3 (Go.Value.int Go.IntKind.i64 1) t14) fun t15 =>
  wpB (bp Try.prog .add 3 a1 t15) fun t18 =>
  wpB (bp Try.prog .sub 3 t18 (Go.Value.int Go.IntKind.i64 1)) fun t19 =>
  wpB (bp Try.prog .quo 3 t19 t15) fun t21 =>
  wpB (bp Try.prog .mul 3 t21 t15) fun t23 =>
  Q t23 w)
theorem F15_ok {a0 a1 : Value} {w : World} {Q : Value → World → Prop} (h : F15 a0 a1 w Q) : CallR Try.prog 15 [a0, a1] w Q :=
  have e : evC Try.prog (entR 3 80) 15 24 H15 Q C15 [] (entryE 0 [a0, a1]) w (contT Try.prog (entR 3 80) 15 24 H15 Try.f15.results.toList Q []) = F15 a0 a1 w Q := by kernel_rfl
  call_of (fn := Try.f15) mixed entOk Try.func15 (c := C15) rfl H15 (Nat.le_of_ble_eq_true rfl) (e.mpr h)

/-! ### rundale/size.Alone: function 17 -/
noncomputable def C17 : Code := (Try.f17.body).getD .skip
noncomputable def H17 : Hints := ⟨[], [], []⟩
def F17 (a0 a1 : Value) (w : World) (Q : Value → World → Prop) : Prop :=
  CallR Try.prog 52 [a0, a1] w fun t7 w =>
  wpB (gd t7 true (bp Try.prog .mul 3 (Go.Value.int Go.IntKind.i64 2) (gv t7 true a1))) fun t10 =>
  wpB (gd t7 true (bp Try.prog .gtr 3 t10 (gv t7 true a0))) fun t12 =>
  wpB (pickv t7 (some t12) (some (Go.Value.bool false))) fun t13 =>
  Q t13 w
theorem F17_ok {a0 a1 : Value} {w : World} {Q : Value → World → Prop} (h : F17 a0 a1 w Q) : CallR Try.prog 17 [a0, a1] w Q :=
  have e : evC Try.prog (entR 3 80) 17 14 H17 Q C17 [] (entryE 0 [a0, a1]) w (contT Try.prog (entR 3 80) 17 14 H17 Try.f17.results.toList Q []) = F17 a0 a1 w Q := by kernel_rfl
  call_of (fn := Try.f17) mixed entOk Try.func17 (c := C17) rfl H17 (Nat.le_of_ble_eq_true rfl) (e.mpr h)

/-! ### rundale/size.Fits: function 19 -/
noncomputable def C19 : Code := (Try.f19.body).getD .skip
noncomputable def H19 : Hints := ⟨[], [], []⟩
def F19 (a0 a1 a2 : Value) (w : World) (Q : Value → World → Prop) : Prop :=
  CallR Try.prog 52 [a0, a2] w fun t9 w =>
  gE t9 true (CallR Try.prog 17 [(gv t9 true a0), (gv t9 true a2)] w) (fun t13 w =>
  wpB (gd t9 true (pureRun Try.prog (Op.unary .not t13))) fun t14 =>
  wpB (pickv t9 (some t14) (some (Go.Value.bool false))) fun t15 =>
  wpB (gd t15 true (bp Try.prog .geq 3 (gv t15 true a1) (Go.Value.int Go.IntKind.i64 0))) fun t18 =>
  wpB (pickv t15 (some t18) (some (Go.Value.bool false))) fun t19 =>
  wpB (gd t19 true (bp Try.prog .sub 3 (gv t19 true a0) (gv t19 true a2))) fun t24 =>
  wpB (gd t19 true (bp Try.prog .leq 3 (gv t19 true a1) t24)) fun t25 =>
  wpB (pickv t19 (some t25) (some (Go.Value.bool false))) fun t26 =>
  Q t26 w) w
theorem F19_ok {a0 a1 a2 : Value} {w : World} {Q : Value → World → Prop} (h : F19 a0 a1 a2 w Q) : CallR Try.prog 19 [a0, a1, a2] w Q :=
  have e : evC Try.prog (entR 3 80) 19 27 H19 Q C19 [] (entryE 0 [a0, a1, a2]) w (contT Try.prog (entR 3 80) 19 27 H19 Try.f19.results.toList Q []) = F19 a0 a1 a2 w Q := by kernel_rfl
  call_of (fn := Try.f19) mixed entOk Try.func19 (c := C19) rfl H19 (Nat.le_of_ble_eq_true rfl) (e.mpr h)

/-! ### rundale/size.After: function 21 -/
noncomputable def C21 : Code := (Try.f21.body).getD .skip
noncomputable def H21 : Hints := ⟨[], [], []⟩
def F21 (a0 a1 : Value) (w : World) (Q : Value → World → Prop) : Prop :=
  CallR Try.prog 52 [a0, a1] w fun t8 w =>
  wpB (pureRun Try.prog (Op.unary .not t8)) fun t9 =>
  cnd t9
  (Q (Go.Value.int Go.IntKind.i64 0) w)
  (CallR Try.prog 17 [a0, a1] w fun t13 w =>
  cnd t13
  (Q a0 w)
  (Q a1 w))
theorem F21_ok {a0 a1 : Value} {w : World} {Q : Value → World → Prop} (h : F21 a0 a1 w Q) : CallR Try.prog 21 [a0, a1] w Q :=
  have e : evC Try.prog (entR 3 80) 21 16 H21 Q C21 [] (entryE 0 [a0, a1]) w (contT Try.prog (entR 3 80) 21 16 H21 Try.f21.results.toList Q []) = F21 a0 a1 w Q := by kernel_rfl
  call_of (fn := Try.f21) mixed entOk Try.func21 (c := C21) rfl H21 (Nat.le_of_ble_eq_true rfl) (e.mpr h)

/-! ### rundale/rundalemake.Number: function 23 -/
noncomputable def C23 : Code := (Try.f23.body).getD .skip
noncomputable def H23 : Hints := ⟨[], [(4, [5])], []⟩
noncomputable def T23_0 : List It := [.jn (nav [1, 1, 1] C23)]
/-- rundale/rundalemake.Number, from a join on -/
def P23_0 (x5 : Value) (w : World) (Q : Value → World → Prop) : Prop := Part Try.prog 23 T23_0 [5] [x5] w Q
def F23 (a0 a1 : Value) (w : World) (Q : Value → World → Prop) : Prop :=
  wpB (bp Try.prog .rem 3 a0 a1) fun t8 =>
  wpB (bp Try.prog .lss 3 t8 (Go.Value.int Go.IntKind.i64 0)) fun t10 =>
  cnd t10
  (wpB (bp Try.prog .add 3 t8 a1) fun t13 =>
  P23_0 t13 w Q)
  (P23_0 t8 w Q)
def L23_0 (x5 : Value) (w : World) (Q : Value → World → Prop) : Prop :=
  Q x5 w
theorem F23_ok {a0 a1 : Value} {w : World} {Q : Value → World → Prop} (h : F23 a0 a1 w Q) : CallR Try.prog 23 [a0, a1] w Q :=
  have e : evC Try.prog (entR 3 80) 23 15 H23 Q C23 [] (entryE 0 [a0, a1]) w (contT Try.prog (entR 3 80) 23 15 H23 Try.f23.results.toList Q []) = F23 a0 a1 w Q := by kernel_rfl
  call_of (fn := Try.f23) mixed entOk Try.func23 (c := C23) rfl H23 (Nat.le_of_ble_eq_true rfl) (e.mpr h)
theorem L23_0_ok {x5 : Value} {w : World} {Q : Value → World → Prop} (h : L23_0 x5 w Q) : P23_0 x5 w Q :=
  have e : evC Try.prog (entR 3 80) 23 15 H23 Q (nav [1, 1, 1] C23) [] (unpack [5] [x5]) w (contT Try.prog (entR 3 80) 23 15 H23 Try.f23.results.toList Q []) = L23_0 x5 w Q := by kernel_rfl
  part_jn (fn := Try.f23) mixed entOk Try.func23 H23 (c := (nav [1, 1, 1] C23)) (t := []) (e.mpr h)

/-! ### rundale/rundalelaw21.first: function 24 -/
noncomputable def C24 : Code := (Try.f24.body).getD .skip
noncomputable def H24 : Hints := ⟨[], [], []⟩
def F24 (w : World) (Q : Value → World → Prop) : Prop :=
  CallR Try.prog 29 [(Go.Value.int Go.IntKind.i64 2), (Go.Value.int Go.IntKind.i64 3)] w fun t2 w =>
  wpB (pureRun Try.prog (Builtin.len_ #[28] 3 #[t2])) fun t4 =>
  wpB (be Try.prog .eql 3 (.tmp 4) (.const (Go.Value.int Go.IntKind.i64 3)) t4 (Go.Value.int Go.IntKind.i64 3)) fun t5 =>
  wpB (gd t5 true (pureRun Try.prog (Instr.indexAt 28 (gv t5 true t2) (Go.Value.int Go.IntKind.i64 0)))) fun t8 =>
  wpB (gd t5 true (ldv Try.prog 3 t8 w)) fun t9 =>
  wpB (gd t5 true (be Try.prog .eql 3 (.tmp 9) (.const (Go.Value.int Go.IntKind.i64 0)) t9 (Go.Value.int Go.IntKind.i64 0))) fun t10 =>
  wpB (pickv t5 (some t10) (some (Go.Value.bool false))) fun t11 =>
  wpB (gd t11 true (pureRun Try.prog (Instr.indexAt 28 (gv t11 true t2) (Go.Value.int Go.IntKind.i64 1)))) fun t14 =>
  wpB (gd t11 true (ldv Try.prog 3 t14 w)) fun t15 =>
  wpB (gd t11 true (be Try.prog .eql 3 (.tmp 15) (.const (Go.Value.int Go.IntKind.i64 1)) t15 (Go.Value.int Go.IntKind.i64 1))) fun t16 =>
  wpB (pickv t11 (some t16) (some (Go.Value.bool false))) fun t17 =>
  wpB (gd t17 true (pureRun Try.prog (Instr.indexAt 28 (gv t17 true t2) (Go.Value.int Go.IntKind.i64 2)))) fun t20 =>
  wpB (gd t17 true (ldv Try.prog 3 t20 w)) fun t21 =>
  wpB (gd t17 true (be Try.prog .eql 3 (.tmp 21) (.const (Go.Value.int Go.IntKind.i64 0)) t21 (Go.Value.int Go.IntKind.i64 0))) fun t22 =>
  wpB (pickv t17 (some t22) (some (Go.Value.bool false))) fun t23 =>
  gE t23 true (CallR Try.prog 25 [(gv t23 true t2)] w) (fun t26 w =>
  wpB (gd t23 true (be Try.prog .eql 3 (.tmp 26) (.const (Go.Value.int Go.IntKind.i64 2)) t26 (Go.Value.int Go.IntKind.i64 2))) fun t27 =>
  wpB (pickv t23 (some t27) (some (Go.Value.bool false))) fun t28 =>
  gE t28 true (CallR Try.prog 27 [(gv t28 true t2), (Go.Value.int Go.IntKind.i64 2)] w) (fun t31 w =>
  wpB (gd t28 true (be Try.prog .eql 3 (.tmp 31) (.const (Go.Value.int Go.IntKind.i64 1)) t31 (Go.Value.int Go.IntKind.i64 1))) fun t32 =>
  wpB (pickv t28 (some t32) (some (Go.Value.bool false))) fun t33 =>
  Q t33 w) w) w
theorem F24_ok {w : World} {Q : Value → World → Prop} (h : F24  w Q) : CallR Try.prog 24 [] w Q :=
  have e : evC Try.prog (entR 3 80) 24 34 H24 Q C24 [] (entryE 0 []) w (contT Try.prog (entR 3 80) 24 34 H24 Try.f24.results.toList Q []) = F24  w Q := by kernel_rfl
  call_of (fn := Try.f24) mixed entOk Try.func24 (c := C24) rfl H24 (Nat.le_of_ble_eq_true rfl) (e.mpr h)

/-! ### rundale/turns.Switches: function 25 -/
noncomputable def C25 : Code := (Try.f25.body).getD .skip
noncomputable def H25 : Hints := ⟨[(3, [0, 3, 4])], [(4, [0, 3, 4])], [(5, (.leaf [0, 1, 2, 3, 4, 5, 6, 7, 8, 9]))]⟩
noncomputable def T25_0 : List It := [.lp (nav [1, 1, 0, 1, 4, 5] C25), .blk 0, .jn (nav [1, 1, 1] C25)]
noncomputable def T25_1 : List It := [.jn (nav [1, 1, 0, 1, 4, 5, 1, 1] C25), .lp (nav [1, 1, 0, 1, 4, 5] C25), .blk 0, .jn (nav [1, 1, 1] C25)]
/-- rundale/turns.Switches, from a loop's head on -/
def P25_0 (x0 x3 x4 : Value) (w : World) (Q : Value → World → Prop) : Prop := Part Try.prog 25 T25_0 [0, 3, 4] [x0, x3, x4] w Q
/-- rundale/turns.Switches, from a join on -/
def P25_1 (x0 x3 x4 : Value) (w : World) (Q : Value → World → Prop) : Prop := Part Try.prog 25 T25_1 [0, 3, 4] [x0, x3, x4] w Q
def F25 (a0 : Value) (w : World) (Q : Value → World → Prop) : Prop :=
  P25_0 a0 (Go.Value.int Go.IntKind.i64 0) (Go.Value.int Go.IntKind.i64 1) w Q
def L25_0 (x0 x3 x4 : Value) (w : World) (Q : Value → World → Prop) : Prop :=
  wpB (pureRun Try.prog (Builtin.len_ #[28] 3 #[x0])) fun t7 =>
  wpB (bp Try.prog .lss 3 x4 t7) fun t8 =>
  cnd t8
  (wpB (pureRun Try.prog (Instr.indexAt 28 x0 x4)) fun t13 =>
  wpB (ldv Try.prog 3 t13 w.drew) fun t14 =>
  wpB (bp Try.prog .sub 3 x4 (Go.Value.int Go.IntKind.i64 1)) fun t17 =>
  wpB (pureRun Try.prog (Instr.indexAt 28 x0 t17)) fun t18 =>
  wpB (ldv Try.prog 3 t18 w.drew) fun t19 =>
  wpB (be Try.prog .neq 3 (.tmp 14) (.tmp 19) t14 t19) fun t20 =>
  cnd t20
  (wpB (bp Try.prog .add 3 x3 (Go.Value.int Go.IntKind.i64 1)) fun t22 =>
  P25_1 x0 t22 x4 w.drew Q)
  (P25_1 x0 x3 x4 w.drew Q))
  (Q x3 w)
def L25_1 (x0 x3 x4 : Value) (w : World) (Q : Value → World → Prop) : Prop :=
  wpB (bp Try.prog .add 3 x4 (Go.Value.int Go.IntKind.i64 1)) fun t10 =>
  P25_0 x0 x3 t10 w Q
theorem F25_ok {a0 : Value} {w : World} {Q : Value → World → Prop} (h : F25 a0 w Q) : CallR Try.prog 25 [a0] w Q :=
  have e : evC Try.prog (entR 3 80) 25 24 H25 Q C25 [] (entryE 0 [a0]) w (contT Try.prog (entR 3 80) 25 24 H25 Try.f25.results.toList Q []) = F25 a0 w Q := by kernel_rfl
  call_of (fn := Try.f25) mixed entOk Try.func25 (c := C25) rfl H25 (Nat.le_of_ble_eq_true rfl) (e.mpr h)
theorem L25_0_ok {x0 x3 x4 : Value} {w : World} {Q : Value → World → Prop} (h : L25_0 x0 x3 x4 w Q) : P25_0 x0 x3 x4 w Q :=
  have e : evC Try.prog (entR 3 80) 25 24 H25 Q (nav [1, 1, 0, 1, 4, 5] C25) T25_0 (unpack [0, 3, 4] [x0, x3, x4]) w (contT Try.prog (entR 3 80) 25 24 H25 Try.f25.results.toList Q T25_0) = L25_0 x0 x3 x4 w Q := by kernel_rfl
  part_lp (fn := Try.f25) mixed entOk Try.func25 H25 (c := (nav [1, 1, 0, 1, 4, 5] C25)) (t := [.blk 0, .jn (nav [1, 1, 1] C25)]) (e.mpr h)
theorem L25_1_ok {x0 x3 x4 : Value} {w : World} {Q : Value → World → Prop} (h : L25_1 x0 x3 x4 w Q) : P25_1 x0 x3 x4 w Q :=
  have e : evC Try.prog (entR 3 80) 25 24 H25 Q (nav [1, 1, 0, 1, 4, 5, 1, 1] C25) [.lp (nav [1, 1, 0, 1, 4, 5] C25), .blk 0, .jn (nav [1, 1, 1] C25)] (unpack [0, 3, 4] [x0, x3, x4]) w (contT Try.prog (entR 3 80) 25 24 H25 Try.f25.results.toList Q [.lp (nav [1, 1, 0, 1, 4, 5] C25), .blk 0, .jn (nav [1, 1, 1] C25)]) = L25_1 x0 x3 x4 w Q := by kernel_rfl
  part_jn (fn := Try.f25) mixed entOk Try.func25 H25 (c := (nav [1, 1, 0, 1, 4, 5, 1, 1] C25)) (t := [.lp (nav [1, 1, 0, 1, 4, 5] C25), .blk 0, .jn (nav [1, 1, 1] C25)]) (e.mpr h)

/-! ### rundale/rundaleref18.Switches: function 26 -/
noncomputable def C26 : Code := (Try.f26.body).getD .skip
noncomputable def H26 : Hints := ⟨[(3, [0, 3, 4])], [(4, [0, 3, 4])], [(5, (.leaf [0, 1, 2, 3, 4, 5, 6, 7, 8, 9]))]⟩
noncomputable def T26_0 : List It := [.lp (nav [1, 1, 0, 1, 4, 5] C26), .blk 0, .jn (nav [1, 1, 1] C26)]
noncomputable def T26_1 : List It := [.jn (nav [1, 1, 0, 1, 4, 5, 1, 1] C26), .lp (nav [1, 1, 0, 1, 4, 5] C26), .blk 0, .jn (nav [1, 1, 1] C26)]
/-- rundale/rundaleref18.Switches, from a loop's head on -/
def P26_0 (x0 x3 x4 : Value) (w : World) (Q : Value → World → Prop) : Prop := Part Try.prog 26 T26_0 [0, 3, 4] [x0, x3, x4] w Q
/-- rundale/rundaleref18.Switches, from a join on -/
def P26_1 (x0 x3 x4 : Value) (w : World) (Q : Value → World → Prop) : Prop := Part Try.prog 26 T26_1 [0, 3, 4] [x0, x3, x4] w Q
def F26 (a0 : Value) (w : World) (Q : Value → World → Prop) : Prop :=
  P26_0 a0 (Go.Value.int Go.IntKind.i64 0) (Go.Value.int Go.IntKind.i64 1) w Q
def L26_0 (x0 x3 x4 : Value) (w : World) (Q : Value → World → Prop) : Prop :=
  wpB (pureRun Try.prog (Builtin.len_ #[28] 3 #[x0])) fun t7 =>
  wpB (bp Try.prog .lss 3 x4 t7) fun t8 =>
  cnd t8
  (wpB (pureRun Try.prog (Instr.indexAt 28 x0 x4)) fun t13 =>
  wpB (ldv Try.prog 3 t13 w.drew) fun t14 =>
  wpB (bp Try.prog .sub 3 x4 (Go.Value.int Go.IntKind.i64 1)) fun t17 =>
  wpB (pureRun Try.prog (Instr.indexAt 28 x0 t17)) fun t18 =>
  wpB (ldv Try.prog 3 t18 w.drew) fun t19 =>
  wpB (be Try.prog .neq 3 (.tmp 14) (.tmp 19) t14 t19) fun t20 =>
  cnd t20
  (wpB (bp Try.prog .add 3 x3 (Go.Value.int Go.IntKind.i64 1)) fun t22 =>
  P26_1 x0 t22 x4 w.drew Q)
  (P26_1 x0 x3 x4 w.drew Q))
  (Q x3 w)
def L26_1 (x0 x3 x4 : Value) (w : World) (Q : Value → World → Prop) : Prop :=
  wpB (bp Try.prog .add 3 x4 (Go.Value.int Go.IntKind.i64 1)) fun t10 =>
  P26_0 x0 x3 t10 w Q
theorem F26_ok {a0 : Value} {w : World} {Q : Value → World → Prop} (h : F26 a0 w Q) : CallR Try.prog 26 [a0] w Q :=
  have e : evC Try.prog (entR 3 80) 26 24 H26 Q C26 [] (entryE 0 [a0]) w (contT Try.prog (entR 3 80) 26 24 H26 Try.f26.results.toList Q []) = F26 a0 w Q := by kernel_rfl
  call_of (fn := Try.f26) mixed entOk Try.func26 (c := C26) rfl H26 (Nat.le_of_ble_eq_true rfl) (e.mpr h)
theorem L26_0_ok {x0 x3 x4 : Value} {w : World} {Q : Value → World → Prop} (h : L26_0 x0 x3 x4 w Q) : P26_0 x0 x3 x4 w Q :=
  have e : evC Try.prog (entR 3 80) 26 24 H26 Q (nav [1, 1, 0, 1, 4, 5] C26) T26_0 (unpack [0, 3, 4] [x0, x3, x4]) w (contT Try.prog (entR 3 80) 26 24 H26 Try.f26.results.toList Q T26_0) = L26_0 x0 x3 x4 w Q := by kernel_rfl
  part_lp (fn := Try.f26) mixed entOk Try.func26 H26 (c := (nav [1, 1, 0, 1, 4, 5] C26)) (t := [.blk 0, .jn (nav [1, 1, 1] C26)]) (e.mpr h)
theorem L26_1_ok {x0 x3 x4 : Value} {w : World} {Q : Value → World → Prop} (h : L26_1 x0 x3 x4 w Q) : P26_1 x0 x3 x4 w Q :=
  have e : evC Try.prog (entR 3 80) 26 24 H26 Q (nav [1, 1, 0, 1, 4, 5, 1, 1] C26) [.lp (nav [1, 1, 0, 1, 4, 5] C26), .blk 0, .jn (nav [1, 1, 1] C26)] (unpack [0, 3, 4] [x0, x3, x4]) w (contT Try.prog (entR 3 80) 26 24 H26 Try.f26.results.toList Q [.lp (nav [1, 1, 0, 1, 4, 5] C26), .blk 0, .jn (nav [1, 1, 1] C26)]) = L26_1 x0 x3 x4 w Q := by kernel_rfl
  part_jn (fn := Try.f26) mixed entOk Try.func26 H26 (c := (nav [1, 1, 0, 1, 4, 5, 1, 1] C26)) (t := [.lp (nav [1, 1, 0, 1, 4, 5] C26), .blk 0, .jn (nav [1, 1, 1] C26)]) (e.mpr h)

/-! ### rundale/turns.Gap: function 27 -/
noncomputable def C27 : Code := (Try.f27.body).getD .skip
noncomputable def H27 : Hints := ⟨[(3, [0, 5, 11, 12]), (7, [0, 5, 6, 7, 11, 12, 15, 16, 17])], [(12, [0, 5, 6, 7, 11, 12, 15, 16, 17])], []⟩
noncomputable def T27_0 : List It := [.lp (nav [1, 1, 0, 1, 4, 5] C27), .blk 0, .jn (nav [1, 1, 1] C27)]
noncomputable def T27_1 : List It := [.lp (nav [1, 1, 0, 1, 4, 5, 1, 1, 0, 4, 1, 1, 1, 4, 5] C27), .blk 2, .blk 1, .jn (nav [1, 1, 0, 1, 4, 5, 1, 1, 1] C27), .lp (nav [1, 1, 0, 1, 4, 5] C27), .blk 0, .jn (nav [1, 1, 1] C27)]
noncomputable def T27_2 : List It := [.jn (nav [1, 1, 0, 1, 4, 5, 1, 1, 0, 4, 1, 1, 1, 4, 5, 1, 1, 0, 4, 1, 1, 1] C27), .blk 3, .jn (nav [1, 1, 0, 1, 4, 5, 1, 1, 0, 4, 1, 1, 1, 4, 5, 1, 1, 1] C27), .lp (nav [1, 1, 0, 1, 4, 5, 1, 1, 0, 4, 1, 1, 1, 4, 5] C27), .blk 2, .blk 1, .jn (nav [1, 1, 0, 1, 4, 5, 1, 1, 1] C27), .lp (nav [1, 1, 0, 1, 4, 5] C27), .blk 0, .jn (nav [1, 1, 1] C27)]
/-- rundale/turns.Gap, from a loop's head on -/
def P27_0 (x0 x5 x11 x12 : Value) (w : World) (Q : Value → World → Prop) : Prop := Part Try.prog 27 T27_0 [0, 5, 11, 12] [x0, x5, x11, x12] w Q
/-- rundale/turns.Gap, from a loop's head on -/
def P27_1 (x0 x5 x6 x7 x11 x12 x15 x16 x17 : Value) (w : World) (Q : Value → World → Prop) : Prop := Part Try.prog 27 T27_1 [0, 5, 6, 7, 11, 12, 15, 16, 17] [x0, x5, x6, x7, x11, x12, x15, x16, x17] w Q
/-- rundale/turns.Gap, from a join on -/
def P27_2 (x0 x5 x6 x7 x11 x12 x15 x16 x17 : Value) (w : World) (Q : Value → World → Prop) : Prop := Part Try.prog 27 T27_2 [0, 5, 6, 7, 11, 12, 15, 16, 17] [x0, x5, x6, x7, x11, x12, x15, x16, x17] w Q
def F27 (a0 a1 : Value) (w : World) (Q : Value → World → Prop) : Prop :=
  CallR Try.prog 54 [a1] w fun t11 w =>
  P27_0 a0 (Go.Value.int Go.IntKind.i64 0) t11 (Go.Value.int Go.IntKind.i64 0) w Q
def L27_0 (x0 x5 x11 x12 : Value) (w : World) (Q : Value → World → Prop) : Prop :=
  wpB (bp Try.prog .lss 3 x12 x11) fun t13 =>
  cnd t13
  (wpB (pureRun Try.prog (Builtin.len_ #[28] 3 #[x0])) fun t16 =>
  P27_1 x0 x5 x12 (Go.Value.int Go.IntKind.i64 0) x11 x12 x0 t16 (Go.Value.int Go.IntKind.i64 0) w Q)
  (Q x5 w)
def L27_1 (x0 x5 x6 x7 x11 x12 x15 x16 x17 : Value) (w : World) (Q : Value → World → Prop) : Prop :=
  wpB (bp Try.prog .lss 3 x17 x16) fun t18 =>
  cnd t18
  (wpB (pureRun Try.prog (Instr.indexAt 28 x15 x17)) fun t19 =>
  wpB (ldv Try.prog 3 t19 w) fun t20 =>
  wpB (bp Try.prog .add 3 x7 (Go.Value.int Go.IntKind.i64 1)) fun t22 =>
  wpB (be Try.prog .eql 3 (.tmp 23) (.tmp 24) t20 x6) fun t25 =>
  cnd t25
  (P27_2 x0 x5 x6 (Go.Value.int Go.IntKind.i64 0) x11 x12 x15 x16 x17 w Q)
  (P27_2 x0 x5 x6 t22 x11 x12 x15 x16 x17 w Q))
  (wpB (bp Try.prog .add 3 x12 (Go.Value.int Go.IntKind.i64 1)) fun t30 =>
  P27_0 x0 x5 x11 t30 w Q)
def L27_2 (x0 x5 x6 x7 x11 x12 x15 x16 x17 : Value) (w : World) (Q : Value → World → Prop) : Prop :=
  wpB (pureRun Try.prog (Builtin.max_ #[3, 3] 3 #[x5, x7])) fun t28 =>
  wpB (bp Try.prog .add 3 x17 (Go.Value.int Go.IntKind.i64 1)) fun t29 =>
  P27_1 x0 t28 x6 x7 x11 x12 x15 x16 t29 w Q
theorem F27_ok {a0 a1 : Value} {w : World} {Q : Value → World → Prop} (h : F27 a0 a1 w Q) : CallR Try.prog 27 [a0, a1] w Q :=
  have e : evC Try.prog (entR 3 80) 27 32 H27 Q C27 [] (entryE 0 [a0, a1]) w (contT Try.prog (entR 3 80) 27 32 H27 Try.f27.results.toList Q []) = F27 a0 a1 w Q := by kernel_rfl
  call_of (fn := Try.f27) mixed entOk Try.func27 (c := C27) rfl H27 (Nat.le_of_ble_eq_true rfl) (e.mpr h)
theorem L27_0_ok {x0 x5 x11 x12 : Value} {w : World} {Q : Value → World → Prop} (h : L27_0 x0 x5 x11 x12 w Q) : P27_0 x0 x5 x11 x12 w Q :=
  have e : evC Try.prog (entR 3 80) 27 32 H27 Q (nav [1, 1, 0, 1, 4, 5] C27) T27_0 (unpack [0, 5, 11, 12] [x0, x5, x11, x12]) w (contT Try.prog (entR 3 80) 27 32 H27 Try.f27.results.toList Q T27_0) = L27_0 x0 x5 x11 x12 w Q := by kernel_rfl
  part_lp (fn := Try.f27) mixed entOk Try.func27 H27 (c := (nav [1, 1, 0, 1, 4, 5] C27)) (t := [.blk 0, .jn (nav [1, 1, 1] C27)]) (e.mpr h)
theorem L27_1_ok {x0 x5 x6 x7 x11 x12 x15 x16 x17 : Value} {w : World} {Q : Value → World → Prop} (h : L27_1 x0 x5 x6 x7 x11 x12 x15 x16 x17 w Q) : P27_1 x0 x5 x6 x7 x11 x12 x15 x16 x17 w Q :=
  have e : evC Try.prog (entR 3 80) 27 32 H27 Q (nav [1, 1, 0, 1, 4, 5, 1, 1, 0, 4, 1, 1, 1, 4, 5] C27) T27_1 (unpack [0, 5, 6, 7, 11, 12, 15, 16, 17] [x0, x5, x6, x7, x11, x12, x15, x16, x17]) w (contT Try.prog (entR 3 80) 27 32 H27 Try.f27.results.toList Q T27_1) = L27_1 x0 x5 x6 x7 x11 x12 x15 x16 x17 w Q := by kernel_rfl
  part_lp (fn := Try.f27) mixed entOk Try.func27 H27 (c := (nav [1, 1, 0, 1, 4, 5, 1, 1, 0, 4, 1, 1, 1, 4, 5] C27)) (t := [.blk 2, .blk 1, .jn (nav [1, 1, 0, 1, 4, 5, 1, 1, 1] C27), .lp (nav [1, 1, 0, 1, 4, 5] C27), .blk 0, .jn (nav [1, 1, 1] C27)]) (e.mpr h)
theorem L27_2_ok {x0 x5 x6 x7 x11 x12 x15 x16 x17 : Value} {w : World} {Q : Value → World → Prop} (h : L27_2 x0 x5 x6 x7 x11 x12 x15 x16 x17 w Q) : P27_2 x0 x5 x6 x7 x11 x12 x15 x16 x17 w Q :=
  have e : evC Try.prog (entR 3 80) 27 32 H27 Q (nav [1, 1, 0, 1, 4, 5, 1, 1, 0, 4, 1, 1, 1, 4, 5, 1, 1, 0, 4, 1, 1, 1] C27) [.blk 3, .jn (nav [1, 1, 0, 1, 4, 5, 1, 1, 0, 4, 1, 1, 1, 4, 5, 1, 1, 1] C27), .lp (nav [1, 1, 0, 1, 4, 5, 1, 1, 0, 4, 1, 1, 1, 4, 5] C27), .blk 2, .blk 1, .jn (nav [1, 1, 0, 1, 4, 5, 1, 1, 1] C27), .lp (nav [1, 1, 0, 1, 4, 5] C27), .blk 0, .jn (nav [1, 1, 1] C27)] (unpack [0, 5, 6, 7, 11, 12, 15, 16, 17] [x0, x5, x6, x7, x11, x12, x15, x16, x17]) w (contT Try.prog (entR 3 80) 27 32 H27 Try.f27.results.toList Q [.blk 3, .jn (nav [1, 1, 0, 1, 4, 5, 1, 1, 0, 4, 1, 1, 1, 4, 5, 1, 1, 1] C27), .lp (nav [1, 1, 0, 1, 4, 5, 1, 1, 0, 4, 1, 1, 1, 4, 5] C27), .blk 2, .blk 1, .jn (nav [1, 1, 0, 1, 4, 5, 1, 1, 1] C27), .lp (nav [1, 1, 0, 1, 4, 5] C27), .blk 0, .jn (nav [1, 1, 1] C27)]) = L27_2 x0 x5 x6 x7 x11 x12 x15 x16 x17 w Q := by kernel_rfl
  part_jn (fn := Try.f27) mixed entOk Try.func27 H27 (c := (nav [1, 1, 0, 1, 4, 5, 1, 1, 0, 4, 1, 1, 1, 4, 5, 1, 1, 0, 4, 1, 1, 1] C27)) (t := [.blk 3, .jn (nav [1, 1, 0, 1, 4, 5, 1, 1, 0, 4, 1, 1, 1, 4, 5, 1, 1, 1] C27), .lp (nav [1, 1, 0, 1, 4, 5, 1, 1, 0, 4, 1, 1, 1, 4, 5] C27), .blk 2, .blk 1, .jn (nav [1, 1, 0, 1, 4, 5, 1, 1, 1] C27), .lp (nav [1, 1, 0, 1, 4, 5] C27), .blk 0, .jn (nav [1, 1, 1] C27)]) (e.mpr h)

/-! ### rundale/rundaleref18.Gap: function 28 -/
noncomputable def C28 : Code := (Try.f28.body).getD .skip
noncomputable def H28 : Hints := ⟨[(4, [0, 5, 6, 7]), (8, [0, 5, 6, 7, 8, 9])], [(13, [0, 5, 6, 7, 8, 9])], []⟩
noncomputable def T28_0 : List It := [.lp (nav [1, 1, 1, 0, 1, 4, 5] C28), .blk 0, .jn (nav [1, 1, 1, 1] C28)]
noncomputable def T28_1 : List It := [.lp (nav [1, 1, 1, 0, 1, 4, 5, 1, 0, 4, 1, 1, 4, 5] C28), .blk 2, .blk 1, .jn (nav [1, 1, 1, 0, 1, 4, 5, 1, 1] C28), .lp (nav [1, 1, 1, 0, 1, 4, 5] C28), .blk 0, .jn (nav [1, 1, 1, 1] C28)]
noncomputable def T28_2 : List It := [.jn (nav [1, 1, 1, 0, 1, 4, 5, 1, 0, 4, 1, 1, 4, 5, 1, 0, 4, 1, 1] C28), .blk 3, .jn (nav [1, 1, 1, 0, 1, 4, 5, 1, 0, 4, 1, 1, 4, 5, 1, 1] C28), .lp (nav [1, 1, 1, 0, 1, 4, 5, 1, 0, 4, 1, 1, 4, 5] C28), .blk 2, .blk 1, .jn (nav [1, 1, 1, 0, 1, 4, 5, 1, 1] C28), .lp (nav [1, 1, 1, 0, 1, 4, 5] C28), .blk 0, .jn (nav [1, 1, 1, 1] C28)]
/-- rundale/rundaleref18.Gap, from a loop's head on -/
def P28_0 (x0 x5 x6 x7 : Value) (w : World) (Q : Value → World → Prop) : Prop := Part Try.prog 28 T28_0 [0, 5, 6, 7] [x0, x5, x6, x7] w Q
/-- rundale/rundaleref18.Gap, from a loop's head on -/
def P28_1 (x0 x5 x6 x7 x8 x9 : Value) (w : World) (Q : Value → World → Prop) : Prop := Part Try.prog 28 T28_1 [0, 5, 6, 7, 8, 9] [x0, x5, x6, x7, x8, x9] w Q
/-- rundale/rundaleref18.Gap, from a join on -/
def P28_2 (x0 x5 x6 x7 x8 x9 : Value) (w : World) (Q : Value → World → Prop) : Prop := Part Try.prog 28 T28_2 [0, 5, 6, 7, 8, 9] [x0, x5, x6, x7, x8, x9] w Q
def F28 (a0 a1 : Value) (w : World) (Q : Value → World → Prop) : Prop :=
  wpB (pureRun Try.prog (Builtin.max_ #[3, 3] 3 #[a1, (Go.Value.int Go.IntKind.i64 1)])) fun t11 =>
  wpB (pureRun Try.prog (Builtin.min_ #[3, 3] 3 #[t11, (Go.Value.int Go.IntKind.i64 64)])) fun t12 =>
  P28_0 a0 t12 (Go.Value.int Go.IntKind.i64 0) (Go.Value.int Go.IntKind.i64 0) w Q
def L28_0 (x0 x5 x6 x7 : Value) (w : World) (Q : Value → World → Prop) : Prop :=
  wpB (bp Try.prog .lss 3 x7 x5) fun t15 =>
  cnd t15
  (P28_1 x0 x5 x6 x7 (Go.Value.int Go.IntKind.i64 0) (Go.Value.int Go.IntKind.i64 0) w Q)
  (Q x6 w)
def L28_1 (x0 x5 x6 x7 x8 x9 : Value) (w : World) (Q : Value → World → Prop) : Prop :=
  wpB (pureRun Try.prog (Builtin.len_ #[28] 3 #[x0])) fun t20 =>
  wpB (bp Try.prog .lss 3 x9 t20) fun t21 =>
  cnd t21
  (wpB (bp Try.prog .add 3 x8 (Go.Value.int Go.IntKind.i64 1)) fun t25 =>
  wpB (pureRun Try.prog (Instr.indexAt 28 x0 x9)) fun t28 =>
  wpB (ldv Try.prog 3 t28 w) fun t29 =>
  wpB (be Try.prog .eql 3 (.tmp 29) (.tmp 30) t29 x7) fun t31 =>
  cnd t31
  (P28_2 x0 x5 x6 x7 (Go.Value.int Go.IntKind.i64 0) x9 w Q)
  (P28_2 x0 x5 x6 x7 t25 x9 w Q))
  (wpB (bp Try.prog .add 3 x7 (Go.Value.int Go.IntKind.i64 1)) fun t17 =>
  P28_0 x0 x5 x6 t17 w Q)
def L28_2 (x0 x5 x6 x7 x8 x9 : Value) (w : World) (Q : Value → World → Prop) : Prop :=
  wpB (pureRun Try.prog (Builtin.max_ #[3, 3] 3 #[x6, x8])) fun t34 =>
  wpB (bp Try.prog .add 3 x9 (Go.Value.int Go.IntKind.i64 1)) fun t23 =>
  P28_1 x0 x5 t34 x7 x8 t23 w Q
theorem F28_ok {a0 a1 : Value} {w : World} {Q : Value → World → Prop} (h : F28 a0 a1 w Q) : CallR Try.prog 28 [a0, a1] w Q :=
  have e : evC Try.prog (entR 3 80) 28 36 H28 Q C28 [] (entryE 0 [a0, a1]) w (contT Try.prog (entR 3 80) 28 36 H28 Try.f28.results.toList Q []) = F28 a0 a1 w Q := by kernel_rfl
  call_of (fn := Try.f28) mixed entOk Try.func28 (c := C28) rfl H28 (Nat.le_of_ble_eq_true rfl) (e.mpr h)
theorem L28_0_ok {x0 x5 x6 x7 : Value} {w : World} {Q : Value → World → Prop} (h : L28_0 x0 x5 x6 x7 w Q) : P28_0 x0 x5 x6 x7 w Q :=
  have e : evC Try.prog (entR 3 80) 28 36 H28 Q (nav [1, 1, 1, 0, 1, 4, 5] C28) T28_0 (unpack [0, 5, 6, 7] [x0, x5, x6, x7]) w (contT Try.prog (entR 3 80) 28 36 H28 Try.f28.results.toList Q T28_0) = L28_0 x0 x5 x6 x7 w Q := by kernel_rfl
  part_lp (fn := Try.f28) mixed entOk Try.func28 H28 (c := (nav [1, 1, 1, 0, 1, 4, 5] C28)) (t := [.blk 0, .jn (nav [1, 1, 1, 1] C28)]) (e.mpr h)
theorem L28_1_ok {x0 x5 x6 x7 x8 x9 : Value} {w : World} {Q : Value → World → Prop} (h : L28_1 x0 x5 x6 x7 x8 x9 w Q) : P28_1 x0 x5 x6 x7 x8 x9 w Q :=
  have e : evC Try.prog (entR 3 80) 28 36 H28 Q (nav [1, 1, 1, 0, 1, 4, 5, 1, 0, 4, 1, 1, 4, 5] C28) T28_1 (unpack [0, 5, 6, 7, 8, 9] [x0, x5, x6, x7, x8, x9]) w (contT Try.prog (entR 3 80) 28 36 H28 Try.f28.results.toList Q T28_1) = L28_1 x0 x5 x6 x7 x8 x9 w Q := by kernel_rfl
  part_lp (fn := Try.f28) mixed entOk Try.func28 H28 (c := (nav [1, 1, 1, 0, 1, 4, 5, 1, 0, 4, 1, 1, 4, 5] C28)) (t := [.blk 2, .blk 1, .jn (nav [1, 1, 1, 0, 1, 4, 5, 1, 1] C28), .lp (nav [1, 1, 1, 0, 1, 4, 5] C28), .blk 0, .jn (nav [1, 1, 1, 1] C28)]) (e.mpr h)
theorem L28_2_ok {x0 x5 x6 x7 x8 x9 : Value} {w : World} {Q : Value → World → Prop} (h : L28_2 x0 x5 x6 x7 x8 x9 w Q) : P28_2 x0 x5 x6 x7 x8 x9 w Q :=
  have e : evC Try.prog (entR 3 80) 28 36 H28 Q (nav [1, 1, 1, 0, 1, 4, 5, 1, 0, 4, 1, 1, 4, 5, 1, 0, 4, 1, 1] C28) [.blk 3, .jn (nav [1, 1, 1, 0, 1, 4, 5, 1, 0, 4, 1, 1, 4, 5, 1, 1] C28), .lp (nav [1, 1, 1, 0, 1, 4, 5, 1, 0, 4, 1, 1, 4, 5] C28), .blk 2, .blk 1, .jn (nav [1, 1, 1, 0, 1, 4, 5, 1, 1] C28), .lp (nav [1, 1, 1, 0, 1, 4, 5] C28), .blk 0, .jn (nav [1, 1, 1, 1] C28)] (unpack [0, 5, 6, 7, 8, 9] [x0, x5, x6, x7, x8, x9]) w (contT Try.prog (entR 3 80) 28 36 H28 Try.f28.results.toList Q [.blk 3, .jn (nav [1, 1, 1, 0, 1, 4, 5, 1, 0, 4, 1, 1, 4, 5, 1, 1] C28), .lp (nav [1, 1, 1, 0, 1, 4, 5, 1, 0, 4, 1, 1, 4, 5] C28), .blk 2, .blk 1, .jn (nav [1, 1, 1, 0, 1, 4, 5, 1, 1] C28), .lp (nav [1, 1, 1, 0, 1, 4, 5] C28), .blk 0, .jn (nav [1, 1, 1, 1] C28)]) = L28_2 x0 x5 x6 x7 x8 x9 w Q := by kernel_rfl
  part_jn (fn := Try.f28) mixed entOk Try.func28 H28 (c := (nav [1, 1, 1, 0, 1, 4, 5, 1, 0, 4, 1, 1, 4, 5, 1, 0, 4, 1, 1] C28)) (t := [.blk 3, .jn (nav [1, 1, 1, 0, 1, 4, 5, 1, 0, 4, 1, 1, 4, 5, 1, 1] C28), .lp (nav [1, 1, 1, 0, 1, 4, 5, 1, 0, 4, 1, 1, 4, 5] C28), .blk 2, .blk 1, .jn (nav [1, 1, 1, 0, 1, 4, 5, 1, 1] C28), .lp (nav [1, 1, 1, 0, 1, 4, 5] C28), .blk 0, .jn (nav [1, 1, 1, 1] C28)]) (e.mpr h)

/-! ### rundale/turns.Round: function 29 -/
noncomputable def C29 : Code := (Try.f29.body).getD .skip
noncomputable def H29 : Hints := ⟨[(4, [0, 5, 11, 12])], [], []⟩
noncomputable def T29_0 : List It := [.lp (nav [1, 1, 1, 0, 1, 4, 5] C29), .blk 0, .jn (nav [1, 1, 1, 1] C29)]
/-- rundale/turns.Round, from a loop's head on -/
def P29_0 (x0 x5 x11 x12 : Value) (w : World) (Q : Value → World → Prop) : Prop := Part Try.prog 29 T29_0 [0, 5, 11, 12] [x0, x5, x11, x12] w Q
def F29 (a0 a1 : Value) (w : World) (Q : Value → World → Prop) : Prop :=
  CallR Try.prog 54 [a0] w fun t8 w =>
  wpB (pureRun Try.prog (Builtin.max_ #[3, 3] 3 #[a1, (Go.Value.int Go.IntKind.i64 0)])) fun t10 =>
  wpB (pureRun Try.prog (Builtin.min_ #[3, 3] 3 #[t10, (Go.Value.int Go.IntKind.i64 1048576)])) fun t11 =>
  P29_0 t8 (Go.Value.slice none 0 0) t11 (Go.Value.int Go.IntKind.i64 0) w Q
def L29_0 (x0 x5 x11 x12 : Value) (w : World) (Q : Value → World → Prop) : Prop :=
  wpB (bp Try.prog .lss 3 x12 x11) fun t13 =>
  cnd t13
  (wpB (bp Try.prog .rem 3 x12 x0) fun t18 =>
  effv Try.prog (Instr.buildSlice 28 1 #[(0, t18)]) w fun t19 w =>
  effv Try.prog (Builtin.append_ #[28, 28] 28 #[x5, t19]) w fun t20 w =>
  wpB (bp Try.prog .add 3 x12 (Go.Value.int Go.IntKind.i64 1)) fun t21 =>
  P29_0 x0 t20 x11 t21 w Q)
  (Q x5 w)
theorem F29_ok {a0 a1 : Value} {w : World} {Q : Value → World → Prop} (h : F29 a0 a1 w Q) : CallR Try.prog 29 [a0, a1] w Q :=
  have e : evC Try.prog (entR 3 80) 29 23 H29 Q C29 [] (entryE 0 [a0, a1]) w (contT Try.prog (entR 3 80) 29 23 H29 Try.f29.results.toList Q []) = F29 a0 a1 w Q := by kernel_rfl
  call_of (fn := Try.f29) mixed entOk Try.func29 (c := C29) rfl H29 (Nat.le_of_ble_eq_true rfl) (e.mpr h)
theorem L29_0_ok {x0 x5 x11 x12 : Value} {w : World} {Q : Value → World → Prop} (h : L29_0 x0 x5 x11 x12 w Q) : P29_0 x0 x5 x11 x12 w Q :=
  have e : evC Try.prog (entR 3 80) 29 23 H29 Q (nav [1, 1, 1, 0, 1, 4, 5] C29) T29_0 (unpack [0, 5, 11, 12] [x0, x5, x11, x12]) w (contT Try.prog (entR 3 80) 29 23 H29 Try.f29.results.toList Q T29_0) = L29_0 x0 x5 x11 x12 w Q := by kernel_rfl
  part_lp (fn := Try.f29) mixed entOk Try.func29 H29 (c := (nav [1, 1, 1, 0, 1, 4, 5] C29)) (t := [.blk 0, .jn (nav [1, 1, 1, 1] C29)]) (e.mpr h)

/-! ### rundale/turns.Random: function 30 -/
noncomputable def C30 : Code := (Try.f30.body).getD .skip
noncomputable def H30 : Hints := ⟨[(4, [0, 1, 7, 12, 13])], [], []⟩
noncomputable def T30_0 : List It := [.lp (nav [1, 1, 1, 0, 1, 4, 5] C30), .blk 0, .jn (nav [1, 1, 1, 1] C30)]
/-- rundale/turns.Random, from a loop's head on -/
def P30_0 (x0 x1 x7 x12 x13 : Value) (w : World) (Q : Value → World → Prop) : Prop := Part Try.prog 30 T30_0 [0, 1, 7, 12, 13] [x0, x1, x7, x12, x13] w Q
def F30 (a0 a1 a2 : Value) (w : World) (Q : Value → World → Prop) : Prop :=
  CallR Try.prog 54 [a1] w fun t9 w =>
  wpB (pureRun Try.prog (Builtin.max_ #[3, 3] 3 #[a2, (Go.Value.int Go.IntKind.i64 0)])) fun t11 =>
  wpB (pureRun Try.prog (Builtin.min_ #[3, 3] 3 #[t11, (Go.Value.int Go.IntKind.i64 1048576)])) fun t12 =>
  P30_0 a0 t9 (Go.Value.slice none 0 0) t12 (Go.Value.int Go.IntKind.i64 0) w Q
def L30_0 (x0 x1 x7 x12 x13 : Value) (w : World) (Q : Value → World → Prop) : Prop :=
  wpB (bp Try.prog .lss 3 x13 x12) fun t14 =>
  cnd t14
  (wpB (bp Try.prog .mul 33 x0 (Go.Value.int Go.IntKind.u64 6364136223846793005)) fun t16 =>
  wpB (bp Try.prog .add 33 t16 (Go.Value.int Go.IntKind.u64 1442695040888963407)) fun t17 =>
  wpB (bp Try.prog .shr 33 t17 (Go.Value.int Go.IntKind.u64 33)) fun t20 =>
  wpB (pureRun Try.prog (convert 33 3 t20)) fun t21 =>
  wpB (bp Try.prog .rem 3 t21 x1) fun t23 =>
  effv Try.prog (Instr.buildSlice 28 1 #[(0, t23)]) w fun t24 w =>
  effv Try.prog (Builtin.append_ #[28, 28] 28 #[x7, t24]) w fun t25 w =>
  wpB (bp Try.prog .add 3 x13 (Go.Value.int Go.IntKind.i64 1)) fun t26 =>
  P30_0 t17 x1 t25 x12 t26 w Q)
  (Q x7 w)
theorem F30_ok {a0 a1 a2 : Value} {w : World} {Q : Value → World → Prop} (h : F30 a0 a1 a2 w Q) : CallR Try.prog 30 [a0, a1, a2] w Q :=
  have e : evC Try.prog (entR 3 80) 30 28 H30 Q C30 [] (entryE 0 [a0, a1, a2]) w (contT Try.prog (entR 3 80) 30 28 H30 Try.f30.results.toList Q []) = F30 a0 a1 a2 w Q := by kernel_rfl
  call_of (fn := Try.f30) mixed entOk Try.func30 (c := C30) rfl H30 (Nat.le_of_ble_eq_true rfl) (e.mpr h)
theorem L30_0_ok {x0 x1 x7 x12 x13 : Value} {w : World} {Q : Value → World → Prop} (h : L30_0 x0 x1 x7 x12 x13 w Q) : P30_0 x0 x1 x7 x12 x13 w Q :=
  have e : evC Try.prog (entR 3 80) 30 28 H30 Q (nav [1, 1, 1, 0, 1, 4, 5] C30) T30_0 (unpack [0, 1, 7, 12, 13] [x0, x1, x7, x12, x13]) w (contT Try.prog (entR 3 80) 30 28 H30 Try.f30.results.toList Q T30_0) = L30_0 x0 x1 x7 x12 x13 w Q := by kernel_rfl
  part_lp (fn := Try.f30) mixed entOk Try.func30 H30 (c := (nav [1, 1, 1, 0, 1, 4, 5] C30)) (t := [.blk 0, .jn (nav [1, 1, 1, 1] C30)]) (e.mpr h)

/-! ### rundale/turns.Bursts: function 31 -/
noncomputable def C31 : Code := (Try.f31.body).getD .skip
noncomputable def H31 : Hints := ⟨[(4, [0, 5, 10, 11, 12]), (8, [0, 5, 6, 10, 11, 12, 24, 25])], [], []⟩
noncomputable def T31_0 : List It := [.lp (nav [1, 1, 1, 0, 1, 4, 5] C31), .blk 0, .jn (nav [1, 1, 1, 1] C31)]
noncomputable def T31_1 : List It := [.lp (nav [1, 1, 1, 0, 1, 4, 5, 1, 1, 0, 4, 1, 1, 1, 4, 5] C31), .blk 2, .blk 1, .jn (nav [1, 1, 1, 0, 1, 4, 5, 1, 1, 1] C31), .lp (nav [1, 1, 1, 0, 1, 4, 5] C31), .blk 0, .jn (nav [1, 1, 1, 1] C31)]
/-- rundale/turns.Bursts, from a loop's head on -/
def P31_0 (x0 x5 x10 x11 x12 : Value) (w : World) (Q : Value → World → Prop) : Prop := Part Try.prog 31 T31_0 [0, 5, 10, 11, 12] [x0, x5, x10, x11, x12] w Q
/-- rundale/turns.Bursts, from a loop's head on -/
def P31_1 (x0 x5 x6 x10 x11 x12 x24 x25 : Value) (w : World) (Q : Value → World → Prop) : Prop := Part Try.prog 31 T31_1 [0, 5, 6, 10, 11, 12, 24, 25] [x0, x5, x6, x10, x11, x12, x24, x25] w Q
def F31 (a0 a1 : Value) (w : World) (Q : Value → World → Prop) : Prop :=
  CallR Try.prog 54 [a0] w fun t9 w =>
  wpB (pureRun Try.prog (Builtin.len_ #[28] 3 #[a1])) fun t11 =>
  P31_0 t9 (Go.Value.slice none 0 0) a1 t11 (Go.Value.int Go.IntKind.i64 0) w Q
def L31_0 (x0 x5 x10 x11 x12 : Value) (w : World) (Q : Value → World → Prop) : Prop :=
  wpB (bp Try.prog .lss 3 x12 x11) fun t13 =>
  cnd t13
  (wpB (pureRun Try.prog (Instr.indexAt 28 x10 x12)) fun t15 =>
  wpB (ldv Try.prog 3 t15 w) fun t16 =>
  wpB (pureRun Try.prog (Builtin.max_ #[3, 3] 3 #[t16, (Go.Value.int Go.IntKind.i64 0)])) fun t18 =>
  wpB (pureRun Try.prog (Builtin.min_ #[3, 3] 3 #[t18, (Go.Value.int Go.IntKind.i64 1000)])) fun t19 =>
  wpB (pureRun Try.prog (Builtin.len_ #[28] 3 #[x5])) fun t22 =>
  wpB (bp Try.prog .sub 3 (Go.Value.int Go.IntKind.i64 1048576) t22) fun t23 =>
  wpB (pureRun Try.prog (Builtin.min_ #[3, 3] 3 #[t19, t23])) fun t24 =>
  P31_1 x0 x5 x12 x10 x11 x12 t24 (Go.Value.int Go.IntKind.i64 0) w Q)
  (Q x5 w)
def L31_1 (x0 x5 x6 x10 x11 x12 x24 x25 : Value) (w : World) (Q : Value → World → Prop) : Prop :=
  wpB (bp Try.prog .lss 3 x25 x24) fun t26 =>
  cnd t26
  (wpB (bp Try.prog .rem 3 x6 x0) fun t30 =>
  effv Try.prog (Instr.buildSlice 28 1 #[(0, t30)]) w fun t31 w =>
  effv Try.prog (Builtin.append_ #[28, 28] 28 #[x5, t31]) w fun t32 w =>
  wpB (bp Try.prog .add 3 x25 (Go.Value.int Go.IntKind.i64 1)) fun t33 =>
  P31_1 x0 t32 x6 x10 x11 x12 x24 t33 w Q)
  (wpB (bp Try.prog .add 3 x12 (Go.Value.int Go.IntKind.i64 1)) fun t34 =>
  P31_0 x0 x5 x10 x11 t34 w Q)
theorem F31_ok {a0 a1 : Value} {w : World} {Q : Value → World → Prop} (h : F31 a0 a1 w Q) : CallR Try.prog 31 [a0, a1] w Q :=
  have e : evC Try.prog (entR 3 80) 31 36 H31 Q C31 [] (entryE 0 [a0, a1]) w (contT Try.prog (entR 3 80) 31 36 H31 Try.f31.results.toList Q []) = F31 a0 a1 w Q := by kernel_rfl
  call_of (fn := Try.f31) mixed entOk Try.func31 (c := C31) rfl H31 (Nat.le_of_ble_eq_true rfl) (e.mpr h)
theorem L31_0_ok {x0 x5 x10 x11 x12 : Value} {w : World} {Q : Value → World → Prop} (h : L31_0 x0 x5 x10 x11 x12 w Q) : P31_0 x0 x5 x10 x11 x12 w Q :=
  have e : evC Try.prog (entR 3 80) 31 36 H31 Q (nav [1, 1, 1, 0, 1, 4, 5] C31) T31_0 (unpack [0, 5, 10, 11, 12] [x0, x5, x10, x11, x12]) w (contT Try.prog (entR 3 80) 31 36 H31 Try.f31.results.toList Q T31_0) = L31_0 x0 x5 x10 x11 x12 w Q := by kernel_rfl
  part_lp (fn := Try.f31) mixed entOk Try.func31 H31 (c := (nav [1, 1, 1, 0, 1, 4, 5] C31)) (t := [.blk 0, .jn (nav [1, 1, 1, 1] C31)]) (e.mpr h)
theorem L31_1_ok {x0 x5 x6 x10 x11 x12 x24 x25 : Value} {w : World} {Q : Value → World → Prop} (h : L31_1 x0 x5 x6 x10 x11 x12 x24 x25 w Q) : P31_1 x0 x5 x6 x10 x11 x12 x24 x25 w Q :=
  have e : evC Try.prog (entR 3 80) 31 36 H31 Q (nav [1, 1, 1, 0, 1, 4, 5, 1, 1, 0, 4, 1, 1, 1, 4, 5] C31) T31_1 (unpack [0, 5, 6, 10, 11, 12, 24, 25] [x0, x5, x6, x10, x11, x12, x24, x25]) w (contT Try.prog (entR 3 80) 31 36 H31 Try.f31.results.toList Q T31_1) = L31_1 x0 x5 x6 x10 x11 x12 x24 x25 w Q := by kernel_rfl
  part_lp (fn := Try.f31) mixed entOk Try.func31 H31 (c := (nav [1, 1, 1, 0, 1, 4, 5, 1, 1, 0, 4, 1, 1, 1, 4, 5] C31)) (t := [.blk 2, .blk 1, .jn (nav [1, 1, 1, 0, 1, 4, 5, 1, 1, 1] C31), .lp (nav [1, 1, 1, 0, 1, 4, 5] C31), .blk 0, .jn (nav [1, 1, 1, 1] C31)]) (e.mpr h)

/-! ### rundale/rundaleref1.SameInts: function 32 -/
noncomputable def C32 : Code := (Try.f32.body).getD .skip
noncomputable def H32 : Hints := ⟨[(4, [0, 1, 5])], [], [(6, (.leaf [0, 1, 2, 3, 4, 5, 6, 7, 8]))]⟩
noncomputable def T32_0 : List It := [.lp (nav [1, 1, 0, 1, 4, 5] C32), .blk 0, .jn (nav [1, 1, 1] C32)]
/-- rundale/rundaleref1.SameInts, from a loop's head on -/
def P32_0 (x0 x1 x5 : Value) (w : World) (Q : Value → World → Prop) : Prop := Part Try.prog 32 T32_0 [0, 1, 5] [x0, x1, x5] w Q
def F32 (a0 a1 : Value) (w : World) (Q : Value → World → Prop) : Prop :=
  wpB (pureRun Try.prog (Builtin.len_ #[28] 3 #[a0])) fun t7 =>
  wpB (pureRun Try.prog (Builtin.len_ #[28] 3 #[a1])) fun t9 =>
  wpB (be Try.prog .neq 3 (.tmp 7) (.tmp 9) t7 t9) fun t10 =>
  cnd t10
  (Q (Go.Value.bool false) w)
  (P32_0 a0 a1 (Go.Value.int Go.IntKind.i64 0) w Q)
def L32_0 (x0 x1 x5 : Value) (w : World) (Q : Value → World → Prop) : Prop :=
  wpB (pureRun Try.prog (Builtin.len_ #[28] 3 #[x0])) fun t13 =>
  wpB (bp Try.prog .lss 3 x5 t13) fun t14 =>
  cnd t14
  (wpB (pureRun Try.prog (Instr.indexAt 28 x0 x5)) fun t19 =>
  wpB (ldv Try.prog 3 t19 w.drew) fun t20 =>
  wpB (pureRun Try.prog (Instr.indexAt 28 x1 x5)) fun t23 =>
  wpB (ldv Try.prog 3 t23 w.drew) fun t24 =>
  wpB (be Try.prog .neq 3 (.tmp 20) (.tmp 24) t20 t24) fun t25 =>
  cnd t25
  (Q (Go.Value.bool false) w.drew)
  (wpB (bp Try.prog .add 3 x5 (Go.Value.int Go.IntKind.i64 1)) fun t16 =>
  P32_0 x0 x1 t16 w.drew Q))
  (Q (Go.Value.bool true) w)
theorem F32_ok {a0 a1 : Value} {w : World} {Q : Value → World → Prop} (h : F32 a0 a1 w Q) : CallR Try.prog 32 [a0, a1] w Q :=
  have e : evC Try.prog (entR 3 80) 32 26 H32 Q C32 [] (entryE 0 [a0, a1]) w (contT Try.prog (entR 3 80) 32 26 H32 Try.f32.results.toList Q []) = F32 a0 a1 w Q := by kernel_rfl
  call_of (fn := Try.f32) mixed entOk Try.func32 (c := C32) rfl H32 (Nat.le_of_ble_eq_true rfl) (e.mpr h)
theorem L32_0_ok {x0 x1 x5 : Value} {w : World} {Q : Value → World → Prop} (h : L32_0 x0 x1 x5 w Q) : P32_0 x0 x1 x5 w Q :=
  have e : evC Try.prog (entR 3 80) 32 26 H32 Q (nav [1, 1, 0, 1, 4, 5] C32) T32_0 (unpack [0, 1, 5] [x0, x1, x5]) w (contT Try.prog (entR 3 80) 32 26 H32 Try.f32.results.toList Q T32_0) = L32_0 x0 x1 x5 w Q := by kernel_rfl
  part_lp (fn := Try.f32) mixed entOk Try.func32 H32 (c := (nav [1, 1, 0, 1, 4, 5] C32)) (t := [.blk 0, .jn (nav [1, 1, 1] C32)]) (e.mpr h)

/-! ### rundale/rundaleref18.Round: function 33 -/
noncomputable def C33 : Code := (Try.f33.body).getD .skip
noncomputable def H33 : Hints := ⟨[(4, [1, 5, 6, 7])], [], []⟩
noncomputable def T33_0 : List It := [.lp (nav [1, 1, 1, 0, 1, 4, 5] C33), .blk 0, .jn (nav [1, 1, 1, 1] C33)]
/-- rundale/rundaleref18.Round, from a loop's head on -/
def P33_0 (x1 x5 x6 x7 : Value) (w : World) (Q : Value → World → Prop) : Prop := Part Try.prog 33 T33_0 [1, 5, 6, 7] [x1, x5, x6, x7] w Q
def F33 (a0 a1 : Value) (w : World) (Q : Value → World → Prop) : Prop :=
  wpB (pureRun Try.prog (Builtin.max_ #[3, 3] 3 #[a0, (Go.Value.int Go.IntKind.i64 1)])) fun t9 =>
  wpB (pureRun Try.prog (Builtin.min_ #[3, 3] 3 #[t9, (Go.Value.int Go.IntKind.i64 64)])) fun t10 =>
  P33_0 a1 t10 (Go.Value.slice none 0 0) (Go.Value.int Go.IntKind.i64 0) w Q
def L33_0 (x1 x5 x6 x7 : Value) (w : World) (Q : Value → World → Prop) : Prop :=
  wpB (bp Try.prog .lss 3 x7 x1) fun t13 =>
  wpB (gd t13 true (bp Try.prog .lss 3 (gv t13 true x7) (Go.Value.int Go.IntKind.i64 1048576))) fun t16 =>
  wpB (pickv t13 (some t16) (some (Go.Value.bool false))) fun t17 =>
  cnd t17
  (wpB (bp Try.prog .rem 3 x7 x5) fun t23 =>
  effv Try.prog (Instr.buildSlice 28 1 #[(0, t23)]) w fun t24 w =>
  effv Try.prog (Builtin.append_ #[28, 28] 28 #[x6, t24]) w fun t25 w =>
  wpB (bp Try.prog .add 3 x7 (Go.Value.int Go.IntKind.i64 1)) fun t19 =>
  P33_0 x1 x5 t25 t19 w Q)
  (Q x6 w)
theorem F33_ok {a0 a1 : Value} {w : World} {Q : Value → World → Prop} (h : F33 a0 a1 w Q) : CallR Try.prog 33 [a0, a1] w Q :=
  have e : evC Try.prog (entR 3 80) 33 27 H33 Q C33 [] (entryE 0 [a0, a1]) w (contT Try.prog (entR 3 80) 33 27 H33 Try.f33.results.toList Q []) = F33 a0 a1 w Q := by kernel_rfl
  call_of (fn := Try.f33) mixed entOk Try.func33 (c := C33) rfl H33 (Nat.le_of_ble_eq_true rfl) (e.mpr h)
theorem L33_0_ok {x1 x5 x6 x7 : Value} {w : World} {Q : Value → World → Prop} (h : L33_0 x1 x5 x6 x7 w Q) : P33_0 x1 x5 x6 x7 w Q :=
  have e : evC Try.prog (entR 3 80) 33 27 H33 Q (nav [1, 1, 1, 0, 1, 4, 5] C33) T33_0 (unpack [1, 5, 6, 7] [x1, x5, x6, x7]) w (contT Try.prog (entR 3 80) 33 27 H33 Try.f33.results.toList Q T33_0) = L33_0 x1 x5 x6 x7 w Q := by kernel_rfl
  part_lp (fn := Try.f33) mixed entOk Try.func33 H33 (c := (nav [1, 1, 1, 0, 1, 4, 5] C33)) (t := [.blk 0, .jn (nav [1, 1, 1, 1] C33)]) (e.mpr h)

/-! ### rundale/rundaleref18.Bursts: function 34 -/
noncomputable def C34 : Code := (Try.f34.body).getD .skip
noncomputable def H34 : Hints := ⟨[(4, [1, 5, 6, 7]), (7, [1, 5, 6, 7, 8])], [], []⟩
noncomputable def T34_0 : List It := [.lp (nav [1, 1, 1, 0, 1, 4, 5] C34), .blk 0, .jn (nav [1, 1, 1, 1] C34)]
noncomputable def T34_1 : List It := [.lp (nav [1, 1, 1, 0, 1, 4, 5, 1, 0, 4, 1, 4, 5] C34), .blk 2, .blk 1, .jn (nav [1, 1, 1, 0, 1, 4, 5, 1, 1] C34), .lp (nav [1, 1, 1, 0, 1, 4, 5] C34), .blk 0, .jn (nav [1, 1, 1, 1] C34)]
/-- rundale/rundaleref18.Bursts, from a loop's head on -/
def P34_0 (x1 x5 x6 x7 : Value) (w : World) (Q : Value → World → Prop) : Prop := Part Try.prog 34 T34_0 [1, 5, 6, 7] [x1, x5, x6, x7] w Q
/-- rundale/rundaleref18.Bursts, from a loop's head on -/
def P34_1 (x1 x5 x6 x7 x8 : Value) (w : World) (Q : Value → World → Prop) : Prop := Part Try.prog 34 T34_1 [1, 5, 6, 7, 8] [x1, x5, x6, x7, x8] w Q
def F34 (a0 a1 : Value) (w : World) (Q : Value → World → Prop) : Prop :=
  wpB (pureRun Try.prog (Builtin.max_ #[3, 3] 3 #[a0, (Go.Value.int Go.IntKind.i64 1)])) fun t10 =>
  wpB (pureRun Try.prog (Builtin.min_ #[3, 3] 3 #[t10, (Go.Value.int Go.IntKind.i64 64)])) fun t11 =>
  P34_0 a1 t11 (Go.Value.slice none 0 0) (Go.Value.int Go.IntKind.i64 0) w Q
def L34_0 (x1 x5 x6 x7 : Value) (w : World) (Q : Value → World → Prop) : Prop :=
  wpB (pureRun Try.prog (Builtin.len_ #[28] 3 #[x1])) fun t14 =>
  wpB (bp Try.prog .lss 3 x7 t14) fun t15 =>
  cnd t15
  (P34_1 x1 x5 x6 x7 (Go.Value.int Go.IntKind.i64 0) w Q)
  (Q x6 w)
def L34_1 (x1 x5 x6 x7 x8 : Value) (w : World) (Q : Value → World → Prop) : Prop :=
  wpB (pureRun Try.prog (Instr.indexAt 28 x1 x7)) fun t21 =>
  wpB (ldv Try.prog 3 t21 w) fun t22 =>
  wpB (bp Try.prog .lss 3 x8 t22) fun t23 =>
  wpB (gd t23 true (bp Try.prog .lss 3 (gv t23 true x8) (Go.Value.int Go.IntKind.i64 1000))) fun t26 =>
  wpB (pickv t23 (some t26) (some (Go.Value.bool false))) fun t27 =>
  wpB (gd t27 true (pureRun Try.prog (Builtin.len_ #[28] 3 #[(gv t27 true x6)]))) fun t30 =>
  wpB (gd t27 true (bp Try.prog .lss 3 t30 (Go.Value.int Go.IntKind.i64 1048576))) fun t31 =>
  wpB (pickv t27 (some t31) (some (Go.Value.bool false))) fun t32 =>
  cnd t32
  (wpB (bp Try.prog .rem 3 x7 x5) fun t38 =>
  effv Try.prog (Instr.buildSlice 28 1 #[(0, t38)]) w fun t39 w =>
  effv Try.prog (Builtin.append_ #[28, 28] 28 #[x6, t39]) w fun t40 w =>
  wpB (bp Try.prog .add 3 x8 (Go.Value.int Go.IntKind.i64 1)) fun t34 =>
  P34_1 x1 x5 t40 x7 t34 w Q)
  (wpB (bp Try.prog .add 3 x7 (Go.Value.int Go.IntKind.i64 1)) fun t17 =>
  P34_0 x1 x5 x6 t17 w Q)
theorem F34_ok {a0 a1 : Value} {w : World} {Q : Value → World → Prop} (h : F34 a0 a1 w Q) : CallR Try.prog 34 [a0, a1] w Q :=
  have e : evC Try.prog (entR 3 80) 34 42 H34 Q C34 [] (entryE 0 [a0, a1]) w (contT Try.prog (entR 3 80) 34 42 H34 Try.f34.results.toList Q []) = F34 a0 a1 w Q := by kernel_rfl
  call_of (fn := Try.f34) mixed entOk Try.func34 (c := C34) rfl H34 (Nat.le_of_ble_eq_true rfl) (e.mpr h)
theorem L34_0_ok {x1 x5 x6 x7 : Value} {w : World} {Q : Value → World → Prop} (h : L34_0 x1 x5 x6 x7 w Q) : P34_0 x1 x5 x6 x7 w Q :=
  have e : evC Try.prog (entR 3 80) 34 42 H34 Q (nav [1, 1, 1, 0, 1, 4, 5] C34) T34_0 (unpack [1, 5, 6, 7] [x1, x5, x6, x7]) w (contT Try.prog (entR 3 80) 34 42 H34 Try.f34.results.toList Q T34_0) = L34_0 x1 x5 x6 x7 w Q := by kernel_rfl
  part_lp (fn := Try.f34) mixed entOk Try.func34 H34 (c := (nav [1, 1, 1, 0, 1, 4, 5] C34)) (t := [.blk 0, .jn (nav [1, 1, 1, 1] C34)]) (e.mpr h)
theorem L34_1_ok {x1 x5 x6 x7 x8 : Value} {w : World} {Q : Value → World → Prop} (h : L34_1 x1 x5 x6 x7 x8 w Q) : P34_1 x1 x5 x6 x7 x8 w Q :=
  have e : evC Try.prog (entR 3 80) 34 42 H34 Q (nav [1, 1, 1, 0, 1, 4, 5, 1, 0, 4, 1, 4, 5] C34) T34_1 (unpack [1, 5, 6, 7, 8] [x1, x5, x6, x7, x8]) w (contT Try.prog (entR 3 80) 34 42 H34 Try.f34.results.toList Q T34_1) = L34_1 x1 x5 x6 x7 x8 w Q := by kernel_rfl
  part_lp (fn := Try.f34) mixed entOk Try.func34 H34 (c := (nav [1, 1, 1, 0, 1, 4, 5, 1, 0, 4, 1, 4, 5] C34)) (t := [.blk 2, .blk 1, .jn (nav [1, 1, 1, 0, 1, 4, 5, 1, 1] C34), .lp (nav [1, 1, 1, 0, 1, 4, 5] C34), .blk 0, .jn (nav [1, 1, 1, 1] C34)]) (e.mpr h)

/-! ### rundale/rundaleref18.Random: function 35 -/
noncomputable def C35 : Code := (Try.f35.body).getD .skip
noncomputable def H35 : Hints := ⟨[(4, [0, 2, 7, 8, 9])], [], []⟩
noncomputable def T35_0 : List It := [.lp (nav [1, 1, 1, 0, 1, 4, 5] C35), .blk 0, .jn (nav [1, 1, 1, 1] C35)]
/-- rundale/rundaleref18.Random, from a loop's head on -/
def P35_0 (x0 x2 x7 x8 x9 : Value) (w : World) (Q : Value → World → Prop) : Prop := Part Try.prog 35 T35_0 [0, 2, 7, 8, 9] [x0, x2, x7, x8, x9] w Q
def F35 (a0 a1 a2 : Value) (w : World) (Q : Value → World → Prop) : Prop :=
  wpB (pureRun Try.prog (Builtin.max_ #[3, 3] 3 #[a1, (Go.Value.int Go.IntKind.i64 1)])) fun t11 =>
  wpB (pureRun Try.prog (Builtin.min_ #[3, 3] 3 #[t11, (Go.Value.int Go.IntKind.i64 64)])) fun t12 =>
  P35_0 a0 a2 t12 (Go.Value.slice none 0 0) (Go.Value.int Go.IntKind.i64 0) w Q
def L35_0 (x0 x2 x7 x8 x9 : Value) (w : World) (Q : Value → World → Prop) : Prop :=
  wpB (bp Try.prog .lss 3 x9 x2) fun t15 =>
  wpB (gd t15 true (bp Try.prog .lss 3 (gv t15 true x9) (Go.Value.int Go.IntKind.i64 1048576))) fun t18 =>
  wpB (pickv t15 (some t18) (some (Go.Value.bool false))) fun t19 =>
  cnd t19
  (wpB (bp Try.prog .mul 33 x0 (Go.Value.int Go.IntKind.u64 6364136223846793005)) fun t23 =>
  wpB (bp Try.prog .add 33 t23 (Go.Value.int Go.IntKind.u64 1442695040888963407)) fun t24 =>
  wpB (bp Try.prog .shr 33 t24 (Go.Value.int Go.IntKind.u64 33)) fun t27 =>
  wpB (pureRun Try.prog (convert 33 3 t27)) fun t28 =>
  wpB (bp Try.prog .rem 3 t28 x7) fun t30 =>
  effv Try.prog (Instr.buildSlice 28 1 #[(0, t30)]) w fun t31 w =>
  effv Try.prog (Builtin.append_ #[28, 28] 28 #[x8, t31]) w fun t32 w =>
  wpB (bp Try.prog .add 3 x9 (Go.Value.int Go.IntKind.i64 1)) fun t21 =>
  P35_0 t24 x2 x7 t32 t21 w Q)
  (Q x8 w)
theorem F35_ok {a0 a1 a2 : Value} {w : World} {Q : Value → World → Prop} (h : F35 a0 a1 a2 w Q) : CallR Try.prog 35 [a0, a1, a2] w Q :=
  have e : evC Try.prog (entR 3 80) 35 34 H35 Q C35 [] (entryE 0 [a0, a1, a2]) w (contT Try.prog (entR 3 80) 35 34 H35 Try.f35.results.toList Q []) = F35 a0 a1 a2 w Q := by kernel_rfl
  call_of (fn := Try.f35) mixed entOk Try.func35 (c := C35) rfl H35 (Nat.le_of_ble_eq_true rfl) (e.mpr h)
theorem L35_0_ok {x0 x2 x7 x8 x9 : Value} {w : World} {Q : Value → World → Prop} (h : L35_0 x0 x2 x7 x8 x9 w Q) : P35_0 x0 x2 x7 x8 x9 w Q :=
  have e : evC Try.prog (entR 3 80) 35 34 H35 Q (nav [1, 1, 1, 0, 1, 4, 5] C35) T35_0 (unpack [0, 2, 7, 8, 9] [x0, x2, x7, x8, x9]) w (contT Try.prog (entR 3 80) 35 34 H35 Try.f35.results.toList Q T35_0) = L35_0 x0 x2 x7 x8 x9 w Q := by kernel_rfl
  part_lp (fn := Try.f35) mixed entOk Try.func35 H35 (c := (nav [1, 1, 1, 0, 1, 4, 5] C35)) (t := [.blk 0, .jn (nav [1, 1, 1, 1] C35)]) (e.mpr h)

/-! ### rundale/rundaleref1.in: function 51 -/
noncomputable def C51 : Code := (Try.f51.body).getD .skip
noncomputable def H51 : Hints := ⟨[], [], []⟩
def F51 (a0 a1 a2 : Value) (w : World) (Q : Value → World → Prop) : Prop :=
  wpB (bp Try.prog .geq 3 a0 a1) fun t9 =>
  wpB (gd t9 true (bp Try.prog .leq 3 (gv t9 true a0) (gv t9 true a2))) fun t13 =>
  wpB (pickv t9 (some t13) (some (Go.Value.bool false))) fun t14 =>
  Q t14 w
theorem F51_ok {a0 a1 a2 : Value} {w : World} {Q : Value → World → Prop} (h : F51 a0 a1 a2 w Q) : CallR Try.prog 51 [a0, a1, a2] w Q :=
  have e : evC Try.prog (entR 3 80) 51 15 H51 Q C51 [] (entryE 0 [a0, a1, a2]) w (contT Try.prog (entR 3 80) 51 15 H51 Try.f51.results.toList Q []) = F51 a0 a1 a2 w Q := by kernel_rfl
  call_of (fn := Try.f51) mixed entOk Try.func51 (c := C51) rfl H51 (Nat.le_of_ble_eq_true rfl) (e.mpr h)

/-! ### rundale/size.right: function 52 -/
noncomputable def C52 : Code := (Try.f52.body).getD .skip
noncomputable def H52 : Hints := ⟨[], [], []⟩
def F52 (a0 a1 : Value) (w : World) (Q : Value → World → Prop) : Prop :=
  wpB (bp Try.prog .geq 3 a0 (Go.Value.int Go.IntKind.i64 1)) fun t6 =>
  wpB (gd t6 true (bp Try.prog .leq 3 (gv t6 true a0) (Go.Value.int Go.IntKind.i64 1024))) fun t9 =>
  wpB (pickv t6 (some t9) (some (Go.Value.bool false))) fun t10 =>
  wpB (gd t10 true (bp Try.prog .geq 3 (gv t10 true a1) (Go.Value.int Go.IntKind.i64 1))) fun t13 =>
  wpB (pickv t10 (some t13) (some (Go.Value.bool false))) fun t14 =>
  wpB (gd t14 true (bp Try.prog .leq 3 (gv t14 true a1) (gv t14 true a0))) fun t18 =>
  wpB (pickv t14 (some t18) (some (Go.Value.bool false))) fun t19 =>
  Q t19 w
theorem F52_ok {a0 a1 : Value} {w : World} {Q : Value → World → Prop} (h : F52 a0 a1 w Q) : CallR Try.prog 52 [a0, a1] w Q :=
  have e : evC Try.prog (entR 3 80) 52 20 H52 Q C52 [] (entryE 0 [a0, a1]) w (contT Try.prog (entR 3 80) 52 20 H52 Try.f52.results.toList Q []) = F52 a0 a1 w Q := by kernel_rfl
  call_of (fn := Try.f52) mixed entOk Try.func52 (c := C52) rfl H52 (Nat.le_of_ble_eq_true rfl) (e.mpr h)

/-! ### rundale/turns.cut: function 54 -/
noncomputable def C54 : Code := (Try.f54.body).getD .skip
noncomputable def H54 : Hints := ⟨[], [], []⟩
def F54 (a0 : Value) (w : World) (Q : Value → World → Prop) : Prop :=
  wpB (pureRun Try.prog (Builtin.max_ #[3, 3] 3 #[a0, (Go.Value.int Go.IntKind.i64 1)])) fun t4 =>
  wpB (pureRun Try.prog (Builtin.min_ #[3, 3] 3 #[t4, (Go.Value.int Go.IntKind.i64 64)])) fun t5 =>
  Q t5 w
theorem F54_ok {a0 : Value} {w : World} {Q : Value → World → Prop} (h : F54 a0 w Q) : CallR Try.prog 54 [a0] w Q :=
  have e : evC Try.prog (entR 3 80) 54 6 H54 Q C54 [] (entryE 0 [a0]) w (contT Try.prog (entR 3 80) 54 6 H54 Try.f54.results.toList Q []) = F54 a0 w Q := by kernel_rfl
  call_of (fn := Try.f54) mixed entOk Try.func54 (c := C54) rfl H54 (Nat.le_of_ble_eq_true rfl) (e.mpr h)
end Go.Proofs.Ytkploakfdlnbbaa
