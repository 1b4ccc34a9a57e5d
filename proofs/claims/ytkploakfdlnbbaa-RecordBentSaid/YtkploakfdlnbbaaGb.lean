/- The formulas of functions of the given program, by program (gen.py). -/
import Derived.Test.YtkploakfdlnbbaaEv8
import Derived.Test.YtkploakfdlnbbaaChecked
import Derived.Eval
namespace Go.Proofs.Ytkploakfdlnbbaa
open Go Ev
set_option linter.unusedVariables false
set_option maxRecDepth 100000
theorem mixed : Try.prog.follows .mixedOrders = true := Checked.mixed Try.checked
theorem entOk : EntOk Try.prog (entR 3 80) := entOk_of (by kernel_rfl)
/-! ### rundale/rundalelaw20.ScriptReads: function 11 -/
noncomputable def C11 : Code := (Try.f11.body).getD .skip
noncomputable def H11 : Hints := ⟨[], [], [(7, (.ask 2 4 (.leaf [0, 1, 2, 3, 4, 5, 6, 7, 8, 9, 10, 11]) (.leaf [0, 1, 3, 4, 2, 5, 6, 7, 8, 9, 10, 11])))]⟩
def F11 (a0 : Value) (w : World) (Q : Value → World → Prop) : Prop :=
  CallR Try.prog 36 [] w fun t5 w =>
  wpB (pureRun Try.prog (Op.unary .not t5)) fun t7 =>
  cnd t7
  (Q (Go.Value.bool false) w)
  (wpB (pureRun Try.prog (Builtin.len_ #[40] 3 #[a0])) fun t9 =>
  wpB (bp Try.prog .gtr 3 t9 (Go.Value.int Go.IntKind.i64 2000)) fun t10 =>
  cnd t10
  (Q t5 w)
  (effv Try.prog (Builtin.append_ #[40, 40] 40 #[(Go.Value.slice none 0 0), a0]) w fun t13 w =>
  CallR Try.prog 37 [t13] w fun t14 w =>
  effv Try.prog (Instr.alloc 43 true (.tuple #[])) w fun t4 w =>
  effu Try.prog (Instr.storeAt 43 t4 t14) w fun w =>
  (wpB (gd t5 true (ldv Try.prog 43 t4 w.drew)) fun t17 =>
  gE t5 true (CallR Try.prog 39 [(gv t5 true a0)] w.drew) (fun t19 w =>
  gE t5 true (CallR Try.prog 38 [t17, t19] w) (fun t20 w =>
  wpB (pickv t5 (some t20) (some (Go.Value.bool false))) fun t21 =>
  wpB (gd t21 true (ldv Try.prog 43 t4 w)) fun t23 =>
  gE t21 true (CallR Try.prog 40 [t23] w) (fun t24 w =>
  wpB (pickv t21 (some t24) (some (Go.Value.bool false))) fun t25 =>
  Q t25 w) w) w) w.drew) ∧
  (gE t5 true (CallR Try.prog 39 [(gv t5 true a0)] w.drew) (fun t19_1 w =>
  wpB (gd t5 true (ldv Try.prog 43 t4 w)) fun t17_1 =>
  gE t5 true (CallR Try.prog 38 [t17_1, t19_1] w) (fun t20_1 w =>
  wpB (pickv t5 (some t20_1) (some (Go.Value.bool false))) fun t21_1 =>
  wpB (gd t21_1 true (ldv Try.prog 43 t4 w)) fun t23_1 =>
  gE t21_1 true (CallR Try.prog 40 [t23_1] w) (fun t24_1 w =>
  wpB (pickv t21_1 (some t24_1) (some (Go.Value.bool false))) fun t25_1 =>
  Q t25_1 w) w) w) w.drew)))
theorem F11_ok {a0 : Value} {w : World} {Q : Value → World → Prop} (h : F11 a0 w Q) : CallR Try.prog 11 [a0] w Q :=
  have e : evC Try.prog (entR 3 80) 11 26 H11 Q C11 [] (entryE 0 [a0]) w (contT Try.prog (entR 3 80) 11 26 H11 Try.f11.results.toList Q []) = F11 a0 w Q := by kernel_rfl
  call_of (fn := Try.f11) mixed entOk Try.func11 (c := C11) rfl H11 (Nat.le_of_ble_eq_true rfl) (e.mpr h)

/-! ### rundale/rundalelaw22.RecordMay: function 12 -/
noncomputable def C12 : Code := (Try.f12.body).getD .skip
noncomputable def H12 : Hints := ⟨[(9, [0, 3, 4]), (12, [0, 3, 4, 5])], [(15, [0, 3, 4, 5, 49])], [(14, (.ask 12 8 (.ask 16 8 (.leaf [0, 1, 2, 4, 5, 6, 9, 10, 11, 13, 14, 15, 3, 7, 12, 16, 8, 17, 18]) (.leaf [0, 1, 2, 4, 5, 6, 9, 10, 11, 13, 14, 15, 3, 7, 12, 8, 16, 17, 18])) (.ask 16 8 (.leaf [0, 1, 2, 4, 5, 6, 9, 10, 11, 13, 14, 15, 3, 7, 16, 8, 12, 17, 18]) (.leaf [0, 1, 2, 3, 4, 5, 6, 7, 8, 9, 10, 11, 12, 13, 14, 15, 16, 17, 18]))))]⟩
noncomputable def T12_0 : List It := [.lp (nav [1, 1, 1, 1, 1, 0, 1, 4, 5] C12), .blk 0, .jn (nav [1, 1, 1, 1, 1, 1] C12)]
noncomputable def T12_1 : List It := [.lp (nav [1, 1, 1, 1, 1, 0, 1, 4, 5, 1, 0, 4, 1, 4, 5] C12), .blk 2, .blk 1, .jn (nav [1, 1, 1, 1, 1, 0, 1, 4, 5, 1, 1] C12), .lp (nav [1, 1, 1, 1, 1, 0, 1, 4, 5] C12), .blk 0, .jn (nav [1, 1, 1, 1, 1, 1] C12)]
noncomputable def T12_2 : List It := [.jn (nav [1, 1, 1, 1, 1, 0, 1, 4, 5, 1, 0, 4, 1, 4, 5, 1, 0, 4, 1] C12), .blk 3, .jn (nav [1, 1, 1, 1, 1, 0, 1, 4, 5, 1, 0, 4, 1, 4, 5, 1, 1] C12), .lp (nav [1, 1, 1, 1, 1, 0, 1, 4, 5, 1, 0, 4, 1, 4, 5] C12), .blk 2, .blk 1, .jn (nav [1, 1, 1, 1, 1, 0, 1, 4, 5, 1, 1] C12), .lp (nav [1, 1, 1, 1, 1, 0, 1, 4, 5] C12), .blk 0, .jn (nav [1, 1, 1, 1, 1, 1] C12)]
/-- rundale/rundalelaw22.RecordMay, from a loop's head on -/
def P12_0 (x0 x3 x4 : Value) (w : World) (Q : Value → World → Prop) : Prop := Part Try.prog 12 T12_0 [0, 3, 4] [x0, x3, x4] w Q
/-- rundale/rundalelaw22.RecordMay, from a loop's head on -/
def P12_1 (x0 x3 x4 x5 : Value) (w : World) (Q : Value → World → Prop) : Prop := Part Try.prog 12 T12_1 [0, 3, 4, 5] [x0, x3, x4, x5] w Q
/-- rundale/rundalelaw22.RecordMay, from a join on -/
def P12_2 (x0 x3 x4 x5 x49 : Value) (w : World) (Q : Value → World → Prop) : Prop := Part Try.prog 12 T12_2 [0, 3, 4, 5, 49] [x0, x3, x4, x5, x49] w Q
def F12 (a0 : Value) (w : World) (Q : Value → World → Prop) : Prop :=
  CallR Try.prog 41 [] w fun t6 w =>
  wpB (pureRun Try.prog (Op.unary .not t6)) fun t8 =>
  cnd t8
  (Q (Go.Value.bool false) w)
  (wpB (pureRun Try.prog (Builtin.len_ #[48] 3 #[a0])) fun t10 =>
  wpB (bp Try.prog .gtr 3 t10 (Go.Value.int Go.IntKind.i64 12)) fun t11 =>
  cnd t11
  (Q t6 w)
  (effv Try.prog (Builtin.append_ #[48, 48] 48 #[(Go.Value.slice none 0 0), a0]) w fun t14 w =>
  CallR Try.prog 42 [t14] w fun t15 w =>
  CallR Try.prog 43 [a0] w fun t17 w =>
  wpB (be Try.prog .neq 4 (.tmp 15) (.tmp 17) t15 t17) fun t18 =>
  cnd t18
  (Q (Go.Value.bool false) w)
  (P12_0 a0 t6 (Go.Value.int Go.IntKind.i64 0) w Q)))
def L12_0 (x0 x3 x4 : Value) (w : World) (Q : Value → World → Prop) : Prop :=
  wpB (pureRun Try.prog (Builtin.len_ #[48] 3 #[x0])) fun t21 =>
  wpB (bp Try.prog .lss 3 x4 t21) fun t22 =>
  cnd t22
  (P12_1 x0 x3 x4 (Go.Value.int Go.IntKind.i64 0) w Q)
  (Q x3 w)
def L12_1 (x0 x3 x4 x5 : Value) (w : World) (Q : Value → World → Prop) : Prop :=
  wpB (pureRun Try.prog (Builtin.len_ #[48] 3 #[x0])) fun t27 =>
  wpB (bp Try.prog .lss 3 x5 t27) fun t28 =>
  cnd t28
  (((wpB (pureRun Try.prog (Instr.indexAt 48 x0 x4)) fun t33 =>
  wpB (pureRun Try.prog (Instr.indexAt 48 x0 x5)) fun t37 =>
  wpB (pureRun Try.prog (Instr.indexAt 48 x0 x4)) fun t42 =>
  wpB (pureRun Try.prog (Instr.indexAt 48 x0 x5)) fun t46 =>
  wpB (ldv Try.prog 59 t33 w.drew) fun t34 =>
  wpB (ldv Try.prog 59 t37 w.drew) fun t38 =>
  wpB (ldv Try.prog 59 t42 w.drew) fun t43 =>
  wpB (ldv Try.prog 59 t46 w.drew) fun t47 =>
  CallR Try.prog 44 [t34, t38] w.drew fun t39 w =>
  CallR Try.prog 45 [t43, t47] w fun t48 w =>
  wpB (be Try.prog .neq 4 (.tmp 39) (.tmp 48) t39 t48) fun t49 =>
  P12_2 x0 x3 x4 x5 t49 w Q) ∧
  (wpB (pureRun Try.prog (Instr.indexAt 48 x0 x4)) fun t33_1 =>
  wpB (pureRun Try.prog (Instr.indexAt 48 x0 x5)) fun t37_1 =>
  wpB (pureRun Try.prog (Instr.indexAt 48 x0 x4)) fun t42_1 =>
  wpB (pureRun Try.prog (Instr.indexAt 48 x0 x5)) fun t46_1 =>
  wpB (ldv Try.prog 59 t33_1 w.drew) fun t34_1 =>
  wpB (ldv Try.prog 59 t37_1 w.drew) fun t38_1 =>
  wpB (ldv Try.prog 59 t42_1 w.drew) fun t43_1 =>
  CallR Try.prog 44 [t34_1, t38_1] w.drew fun t39_1 w =>
  wpB (ldv Try.prog 59 t46_1 w) fun t47_1 =>
  CallR Try.prog 45 [t43_1, t47_1] w fun t48_1 w =>
  wpB (be Try.prog .neq 4 (.tmp 39) (.tmp 48) t39_1 t48_1) fun t49_1 =>
  P12_2 x0 x3 x4 x5 t49_1 w Q)) ∧
  ((wpB (pureRun Try.prog (Instr.indexAt 48 x0 x4)) fun t33_2 =>
  wpB (pureRun Try.prog (Instr.indexAt 48 x0 x5)) fun t37_2 =>
  wpB (pureRun Try.prog (Instr.indexAt 48 x0 x4)) fun t42_2 =>
  wpB (pureRun Try.prog (Instr.indexAt 48 x0 x5)) fun t46_2 =>
  wpB (ldv Try.prog 59 t33_2 w.drew) fun t34_2 =>
  wpB (ldv Try.prog 59 t37_2 w.drew) fun t38_2 =>
  wpB (ldv Try.prog 59 t46_2 w.drew) fun t47_2 =>
  CallR Try.prog 44 [t34_2, t38_2] w.drew fun t39_2 w =>
  wpB (ldv Try.prog 59 t42_2 w) fun t43_2 =>
  CallR Try.prog 45 [t43_2, t47_2] w fun t48_2 w =>
  wpB (be Try.prog .neq 4 (.tmp 39) (.tmp 48) t39_2 t48_2) fun t49_2 =>
  P12_2 x0 x3 x4 x5 t49_2 w Q) ∧
  (wpB (pureRun Try.prog (Instr.indexAt 48 x0 x4)) fun t33_3 =>
  wpB (ldv Try.prog 59 t33_3 w.drew) fun t34_3 =>
  wpB (pureRun Try.prog (Instr.indexAt 48 x0 x5)) fun t37_3 =>
  wpB (ldv Try.prog 59 t37_3 w.drew) fun t38_3 =>
  CallR Try.prog 44 [t34_3, t38_3] w.drew fun t39_3 w =>
  wpB (pureRun Try.prog (Instr.indexAt 48 x0 x4)) fun t42_3 =>
  wpB (ldv Try.prog 59 t42_3 w) fun t43_3 =>
  wpB (pureRun Try.prog (Instr.indexAt 48 x0 x5)) fun t46_3 =>
  wpB (ldv Try.prog 59 t46_3 w) fun t47_3 =>
  CallR Try.prog 45 [t43_3, t47_3] w fun t48_3 w =>
  wpB (be Try.prog .neq 4 (.tmp 39) (.tmp 48) t39_3 t48_3) fun t49_3 =>
  P12_2 x0 x3 x4 x5 t49_3 w Q)))
  (wpB (bp Try.prog .add 3 x4 (Go.Value.int Go.IntKind.i64 1)) fun t24 =>
  P12_0 x0 x3 t24 w Q)
def L12_2 (x0 x3 x4 x5 x49 : Value) (w : World) (Q : Value → World → Prop) : Prop :=
  cnd x49
  (Q (Go.Value.bool false) w)
  (wpB (bp Try.prog .add 3 x5 (Go.Value.int Go.IntKind.i64 1)) fun t30 =>
  P12_1 x0 x3 x4 t30 w Q)
theorem F12_ok {a0 : Value} {w : World} {Q : Value → World → Prop} (h : F12 a0 w Q) : CallR Try.prog 12 [a0] w Q :=
  have e : evC Try.prog (entR 3 80) 12 51 H12 Q C12 [] (entryE 0 [a0]) w (contT Try.prog (entR 3 80) 12 51 H12 Try.f12.results.toList Q []) = F12 a0 w Q := by kernel_rfl
  call_of (fn := Try.f12) mixed entOk Try.func12 (c := C12) rfl H12 (Nat.le_of_ble_eq_true rfl) (e.mpr h)
theorem L12_0_ok {x0 x3 x4 : Value} {w : World} {Q : Value → World → Prop} (h : L12_0 x0 x3 x4 w Q) : P12_0 x0 x3 x4 w Q :=
  have e : evC Try.prog (entR 3 80) 12 51 H12 Q (nav [1, 1, 1, 1, 1, 0, 1, 4, 5] C12) T12_0 (unpack [0, 3, 4] [x0, x3, x4]) w (contT Try.prog (entR 3 80) 12 51 H12 Try.f12.results.toList Q T12_0) = L12_0 x0 x3 x4 w Q := by kernel_rfl
  part_lp (fn := Try.f12) mixed entOk Try.func12 H12 (c := (nav [1, 1, 1, 1, 1, 0, 1, 4, 5] C12)) (t := [.blk 0, .jn (nav [1, 1, 1, 1, 1, 1] C12)]) (e.mpr h)
theorem L12_1_ok {x0 x3 x4 x5 : Value} {w : World} {Q : Value → World → Prop} (h : L12_1 x0 x3 x4 x5 w Q) : P12_1 x0 x3 x4 x5 w Q :=
  have e : evC Try.prog (entR 3 80) 12 51 H12 Q (nav [1, 1, 1, 1, 1, 0, 1, 4, 5, 1, 0, 4, 1, 4, 5] C12) T12_1 (unpack [0, 3, 4, 5] [x0, x3, x4, x5]) w (contT Try.prog (entR 3 80) 12 51 H12 Try.f12.results.toList Q T12_1) = L12_1 x0 x3 x4 x5 w Q := by kernel_rfl
  part_lp (fn := Try.f12) mixed entOk Try.func12 H12 (c := (nav [1, 1, 1, 1, 1, 0, 1, 4, 5, 1, 0, 4, 1, 4, 5] C12)) (t := [.blk 2, .blk 1, .jn (nav [1, 1, 1, 1, 1, 0, 1, 4, 5, 1, 1] C12), .lp (nav [1, 1, 1, 1, 1, 0, 1, 4, 5] C12), .blk 0, .jn (nav [1, 1, 1, 1, 1, 1] C12)]) (e.mpr h)
theorem L12_2_ok {x0 x3 x4 x5 x49 : Value} {w : World} {Q : Value → World → Prop} (h : L12_2 x0 x3 x4 x5 x49 w Q) : P12_2 x0 x3 x4 x5 x49 w Q :=
  have e : evC Try.prog (entR 3 80) 12 51 H12 Q (nav [1, 1, 1, 1, 1, 0, 1, 4, 5, 1, 0, 4, 1, 4, 5, 1, 0, 4, 1] C12) [.blk 3, .jn (nav [1, 1, 1, 1, 1, 0, 1, 4, 5, 1, 0, 4, 1, 4, 5, 1, 1] C12), .lp (nav [1, 1, 1, 1, 1, 0, 1, 4, 5, 1, 0, 4, 1, 4, 5] C12), .blk 2, .blk 1, .jn (nav [1, 1, 1, 1, 1, 0, 1, 4, 5, 1, 1] C12), .lp (nav [1, 1, 1, 1, 1, 0, 1, 4, 5] C12), .blk 0, .jn (nav [1, 1, 1, 1, 1, 1] C12)] (unpack [0, 3, 4, 5, 49] [x0, x3, x4, x5, x49]) w (contT Try.prog (entR 3 80) 12 51 H12 Try.f12.results.toList Q [.blk 3, .jn (nav [1, 1, 1, 1, 1, 0, 1, 4, 5, 1, 0, 4, 1, 4, 5, 1, 1] C12), .lp (nav [1, 1, 1, 1, 1, 0, 1, 4, 5, 1, 0, 4, 1, 4, 5] C12), .blk 2, .blk 1, .jn (nav [1, 1, 1, 1, 1, 0, 1, 4, 5, 1, 1] C12), .lp (nav [1, 1, 1, 1, 1, 0, 1, 4, 5] C12), .blk 0, .jn (nav [1, 1, 1, 1, 1, 1] C12)]) = L12_2 x0 x3 x4 x5 x49 w Q := by kernel_rfl
  part_jn (fn := Try.f12) mixed entOk Try.func12 H12 (c := (nav [1, 1, 1, 1, 1, 0, 1, 4, 5, 1, 0, 4, 1, 4, 5, 1, 0, 4, 1] C12)) (t := [.blk 3, .jn (nav [1, 1, 1, 1, 1, 0, 1, 4, 5, 1, 0, 4, 1, 4, 5, 1, 1] C12), .lp (nav [1, 1, 1, 1, 1, 0, 1, 4, 5, 1, 0, 4, 1, 4, 5] C12), .blk 2, .blk 1, .jn (nav [1, 1, 1, 1, 1, 0, 1, 4, 5, 1, 1] C12), .lp (nav [1, 1, 1, 1, 1, 0, 1, 4, 5] C12), .blk 0, .jn (nav [1, 1, 1, 1, 1, 1] C12)]) (e.mpr h)

/-! ### rundale/rundalelaw22.RecordBent: function 13 -/
noncomputable def C13 : Code := (Try.f13.body).getD .skip
noncomputable def H13 : Hints := ⟨[(9, [1, 2, 7, 8, 9, 10])], [(36, [7, 13])], [(31, (.leaf [0, 1, 2, 3, 4, 5, 6, 7, 8, 9, 10, 11, 12]))]⟩
noncomputable def T13_0 : List It := [.lp (nav [1, 1, 1, 1, 1, 1, 0, 1, 4, 5] C13), .blk 0, .jn (nav [1, 1, 1, 1, 1, 1, 1] C13)]
noncomputable def T13_1 : List It := [.jn (nav [1, 1, 1, 1, 1, 1, 1, 1, 1, 1, 1] C13)]
/-- rundale/rundalelaw22.RecordBent, from a loop's head on -/
def P13_0 (x1 x2 x7 x8 x9 x10 : Value) (w : World) (Q : Value → World → Prop) : Prop := Part Try.prog 13 T13_0 [1, 2, 7, 8, 9, 10] [x1, x2, x7, x8, x9, x10] w Q
/-- rundale/rundalelaw22.RecordBent, from a join on -/
def P13_1 (x7 x13 : Value) (w : World) (Q : Value → World → Prop) : Prop := Part Try.prog 13 T13_1 [7, 13] [x7, x13] w Q
def F13 (a0 a1 a2 : Value) (w : World) (Q : Value → World → Prop) : Prop :=
  CallR Try.prog 41 [] w fun t15 w =>
  wpB (pureRun Try.prog (Op.unary .not t15)) fun t17 =>
  cnd t17
  (Q (Go.Value.bool false) w)
  (CallR Try.prog 46 [(Go.Value.int Go.IntKind.i64 2)] w fun t18 w =>
  wpB (be Try.prog .eql 60 (.tmp 19) (.const (Go.Value.pointer none)) t18 (Go.Value.pointer none)) fun t20 =>
  cnd t20
  (Q (Go.Value.bool false) w)
  (CallR Try.prog 23 [a0, (Go.Value.int Go.IntKind.i64 5)] w fun t22 w =>
  wpB (bp Try.prog .add 3 (Go.Value.int Go.IntKind.i64 2) t22) fun t23 =>
  P13_0 a1 a2 t15 t18 t23 (Go.Value.int Go.IntKind.i64 0) w Q))
def L13_0 (x1 x2 x7 x8 x9 x10 : Value) (w : World) (Q : Value → World → Prop) : Prop :=
  wpB (bp Try.prog .lss 3 x10 x9) fun t26 =>
  cnd t26
  (wpB (bp Try.prog .rem 3 x10 (Go.Value.int Go.IntKind.i64 2)) fun t32 =>
  wpB (bp Try.prog .quo 3 x10 (Go.Value.int Go.IntKind.i64 2)) fun t34 =>
  wpB (pureRun Try.prog (Instr.build 52 #[(0, (Go.Value.int Go.IntKind.i64 11))])) fun t35 =>
  wpB (bp Try.prog .mul 3 (Go.Value.int Go.IntKind.i64 10) x10) fun t37 =>
  CallR Try.prog 47 [x8, t32, t34, t35, t37] w fun t38 w =>
  wpB (pureRun Try.prog (Instr.extract t38 0)) fun t39 =>
  wpB (pureRun Try.prog (Instr.extract t38 1)) fun t40 =>
  wpB (be Try.prog .neq 53 (.tmp 41) (.const (Go.Value.int Go.IntKind.i64 0)) t40 (Go.Value.int Go.IntKind.i64 0)) fun t42 =>
  wpB (gd t42 false (bp Try.prog .mul 3 (Go.Value.int Go.IntKind.i64 10) (gv t42 false x10))) fun t47 =>
  wpB (gd t42 false (bp Try.prog .add 3 t47 (Go.Value.int Go.IntKind.i64 3))) fun t48 =>
  wpB (gd t42 false (pureRun Try.prog (Instr.build 57 #[]))) fun t49 =>
  gE t42 false (CallR Try.prog 48 [(gv t42 false x8), (gv t42 false t39), t48, t49] w) (fun t50 w =>
  wpB (gd t42 false (be Try.prog .neq 53 (.tmp 50) (.const (Go.Value.int Go.IntKind.i64 0)) t50 (Go.Value.int Go.IntKind.i64 0))) fun t51 =>
  wpB (pickv t42 (some (Go.Value.bool true)) (some t51)) fun t52 =>
  wpB (gd t52 false (bp Try.prog .mul 3 (Go.Value.int Go.IntKind.i64 10) (gv t52 false x10))) fun t57 =>
  wpB (gd t52 false (bp Try.prog .add 3 t57 (Go.Value.int Go.IntKind.i64 5))) fun t58 =>
  wpB (gd t52 false (pureRun Try.prog (Instr.build 57 #[]))) fun t59 =>
  gE t52 false (CallR Try.prog 49 [(gv t52 false x8), (gv t52 false t39), t58, t59] w) (fun t60 w =>
  wpB (gd t52 false (be Try.prog .neq 53 (.tmp 60) (.const (Go.Value.int Go.IntKind.i64 0)) t60 (Go.Value.int Go.IntKind.i64 0))) fun t61 =>
  wpB (pickv t52 (some (Go.Value.bool true)) (some t61)) fun t62 =>
  cnd t62
  (Q (Go.Value.bool false) w)
  (wpB (bp Try.prog .add 3 x10 (Go.Value.int Go.IntKind.i64 1)) fun t28 =>
  P13_0 x1 x2 x7 x8 x9 t28 w Q)) w) w)
  (CallR Try.prog 50 [x8] w fun t64 w =>
  wpB (pureRun Try.prog (Builtin.len_ #[48] 3 #[t64])) fun t66 =>
  wpB (be Try.prog .neq 3 (.tmp 66) (.tmp 67) t66 x9) fun t68 =>
  gE t68 false (CallR Try.prog 42 [(gv t68 false t64)] w) (fun t71 w =>
  wpB (gd t68 false (pureRun Try.prog (Op.unary .not t71))) fun t72 =>
  wpB (pickv t68 (some (Go.Value.bool true)) (some t72)) fun t73 =>
  cnd t73
  (Q (Go.Value.bool false) w)
  (CallR Try.prog 23 [x1, x9] w fun t76 w =>
  CallR Try.prog 23 [x2, (Go.Value.int Go.IntKind.i64 8)] w fun t78 w =>
  wpB (be Try.prog .eql 3 (.tmp 78) (.const (Go.Value.int Go.IntKind.i64 0)) t78 (Go.Value.int Go.IntKind.i64 0)) fun t84 =>
  cnd t84
  (wpB (pureRun Try.prog (Instr.indexAt 48 t64 t76)) fun t89 =>
  wpB (pureRun Try.prog (Instr.fieldAt 59 t89 3)) fun t90 =>
  wpB (ldv Try.prog 3 t90 w) fun t91 =>
  wpB (bp Try.prog .sub 3 t91 (Go.Value.int Go.IntKind.i64 1)) fun t92 =>
  wpB (pureRun Try.prog (Instr.indexAt 48 t64 t76)) fun t93 =>
  wpB (pureRun Try.prog (Instr.fieldAt 59 t93 4)) fun t94 =>
  effu Try.prog (Instr.storeAt 3 t94 t92) w fun w =>
  P13_1 x7 t64 w Q)
  (wpB (be Try.prog .eql 3 (.tmp 78) (.const (Go.Value.int Go.IntKind.i64 1)) t78 (Go.Value.int Go.IntKind.i64 1)) fun t96 =>
  cnd t96
  (wpB (pureRun Try.prog (Instr.indexAt 48 t64 t76)) fun t99 =>
  wpB (pureRun Try.prog (Instr.fieldAt 59 t99 4)) fun t100 =>
  effu Try.prog (Instr.storeAt 3 t100 (Go.Value.int Go.IntKind.i64 (-1))) w fun w =>
  P13_1 x7 t64 w Q)
  (wpB (be Try.prog .eql 3 (.tmp 78) (.const (Go.Value.int Go.IntKind.i64 2)) t78 (Go.Value.int Go.IntKind.i64 2)) fun t102 =>
  cnd t102
  (wpB (pureRun Try.prog (Instr.indexAt 48 t64 t76)) fun t107 =>
  wpB (pureRun Try.prog (Instr.fieldAt 59 t107 4)) fun t108 =>
  wpB (ldv Try.prog 3 t108 w) fun t109 =>
  wpB (bp Try.prog .sub 3 t109 (Go.Value.int Go.IntKind.i64 1)) fun t110 =>
  wpB (pureRun Try.prog (Instr.indexAt 48 t64 t76)) fun t111 =>
  wpB (pureRun Try.prog (Instr.fieldAt 59 t111 6)) fun t112 =>
  effu Try.prog (Instr.storeAt 3 t112 t110) w fun w =>
  P13_1 x7 t64 w Q)
  (wpB (be Try.prog .eql 3 (.tmp 78) (.const (Go.Value.int Go.IntKind.i64 3)) t78 (Go.Value.int Go.IntKind.i64 3)) fun t114 =>
  cnd t114
  (wpB (pureRun Try.prog (Instr.indexAt 48 t64 t76)) fun t119 =>
  wpB (pureRun Try.prog (Instr.fieldAt 59 t119 4)) fun t120 =>
  wpB (ldv Try.prog 3 t120 w) fun t121 =>
  wpB (pureRun Try.prog (Instr.indexAt 48 t64 t76)) fun t122 =>
  wpB (pureRun Try.prog (Instr.fieldAt 59 t122 5)) fun t123 =>
  effu Try.prog (Instr.storeAt 3 t123 t121) w fun w =>
  P13_1 x7 t64 w Q)
  (wpB (be Try.prog .eql 3 (.tmp 78) (.const (Go.Value.int Go.IntKind.i64 4)) t78 (Go.Value.int Go.IntKind.i64 4)) fun t125 =>
  cnd t125
  (CallR Try.prog 23 [x2, (Go.Value.int Go.IntKind.i64 9)] w fun t129 w =>
  wpB (bp Try.prog .sub 3 (Go.Value.int Go.IntKind.i64 (-1)) t129) fun t130 =>
  wpB (pureRun Try.prog (Instr.indexAt 48 t64 t76)) fun t131 =>
  wpB (pureRun Try.prog (Instr.fieldAt 59 t131 0)) fun t132 =>
  effu Try.prog (Instr.storeAt 3 t132 t130) w fun w =>
  P13_1 x7 t64 w Q)
  (wpB (be Try.prog .eql 3 (.tmp 78) (.const (Go.Value.int Go.IntKind.i64 5)) t78 (Go.Value.int Go.IntKind.i64 5)) fun t134 =>
  cnd t134
  (wpB (bp Try.prog .add 3 t76 (Go.Value.int Go.IntKind.i64 1)) fun t137 =>
  wpB (bp Try.prog .rem 3 t137 x9) fun t139 =>
  wpB (pureRun Try.prog (Instr.indexAt 48 t64 t76)) fun t142 =>
  wpB (pureRun Try.prog (Instr.fieldAt 59 t142 4)) fun t143 =>
  wpB (ldv Try.prog 3 t143 w.drew) fun t144 =>
  wpB (pureRun Try.prog (Instr.indexAt 48 t64 t139)) fun t145 =>
  wpB (pureRun Try.prog (Instr.fieldAt 59 t145 4)) fun t146 =>
  effu Try.prog (Instr.storeAt 3 t146 t144) w.drew fun w =>
  P13_1 x7 t64 w Q)
  (wpB (be Try.prog .eql 3 (.tmp 78) (.const (Go.Value.int Go.IntKind.i64 6)) t78 (Go.Value.int Go.IntKind.i64 6)) fun t148 =>
  cnd t148
  (wpB (pureRun Try.prog (Instr.indexAt 48 t64 (Go.Value.int Go.IntKind.i64 0))) fun t150 =>
  wpB (pureRun Try.prog (Instr.fieldAt 59 t150 6)) fun t151 =>
  effu Try.prog (Instr.storeAt 3 t151 (Go.Value.int Go.IntKind.i64 (-1))) w fun w =>
  wpB (pureRun Try.prog (Instr.indexAt 48 t64 (Go.Value.int Go.IntKind.i64 0))) fun t154 =>
  wpB (pureRun Try.prog (Instr.fieldAt 59 t154 0)) fun t155 =>
  wpB (ldv Try.prog 3 t155 w) fun t156 =>
  wpB (pureRun Try.prog (Instr.indexAt 48 t64 (Go.Value.int Go.IntKind.i64 1))) fun t157 =>
  wpB (pureRun Try.prog (Instr.fieldAt 59 t157 0)) fun t158 =>
  effu Try.prog (Instr.storeAt 3 t158 t156) w fun w =>
  wpB (pureRun Try.prog (Instr.indexAt 48 t64 (Go.Value.int Go.IntKind.i64 0))) fun t161 =>
  wpB (pureRun Try.prog (Instr.fieldAt 59 t161 1)) fun t162 =>
  wpB (ldv Try.prog 3 t162 w) fun t163 =>
  wpB (bp Try.prog .add 3 t163 (Go.Value.int Go.IntKind.i64 1)) fun t164 =>
  wpB (pureRun Try.prog (Instr.indexAt 48 t64 (Go.Value.int Go.IntKind.i64 1))) fun t165 =>
  wpB (pureRun Try.prog (Instr.fieldAt 59 t165 1)) fun t166 =>
  effu Try.prog (Instr.storeAt 3 t166 t164) w fun w =>
  P13_1 x7 t64 w Q)
  (wpB (pureRun Try.prog (Instr.indexAt 48 t64 t76)) fun t81 =>
  wpB (pureRun Try.prog (Instr.fieldAt 59 t81 3)) fun t82 =>
  effu Try.prog (Instr.storeAt 3 t82 (Go.Value.int Go.IntKind.i64 (-1))) w fun w =>
  P13_1 x7 t64 w Q))))))))) w)
def L13_1 (x7 x13 : Value) (w : World) (Q : Value → World → Prop) : Prop :=
  gE x7 true (CallR Try.prog 42 [(gv x7 true x13)] w) (fun t170 w =>
  wpB (gd x7 true (pureRun Try.prog (Op.unary .not t170))) fun t171 =>
  wpB (pickv x7 (some t171) (some (Go.Value.bool false))) fun t172 =>
  Q t172 w) w
theorem F13_ok {a0 a1 a2 : Value} {w : World} {Q : Value → World → Prop} (h : F13 a0 a1 a2 w Q) : CallR Try.prog 13 [a0, a1, a2] w Q :=
  have e : evC Try.prog (entR 3 80) 13 173 H13 Q C13 [] (entryE 0 [a0, a1, a2]) w (contT Try.prog (entR 3 80) 13 173 H13 Try.f13.results.toList Q []) = F13 a0 a1 a2 w Q := by kernel_rfl
  call_of (fn := Try.f13) mixed entOk Try.func13 (c := C13) rfl H13 (Nat.le_of_ble_eq_true rfl) (e.mpr h)
theorem L13_0_ok {x1 x2 x7 x8 x9 x10 : Value} {w : World} {Q : Value → World → Prop} (h : L13_0 x1 x2 x7 x8 x9 x10 w Q) : P13_0 x1 x2 x7 x8 x9 x10 w Q :=
  have e : evC Try.prog (entR 3 80) 13 173 H13 Q (nav [1, 1, 1, 1, 1, 1, 0, 1, 4, 5] C13) T13_0 (unpack [1, 2, 7, 8, 9, 10] [x1, x2, x7, x8, x9, x10]) w (contT Try.prog (entR 3 80) 13 173 H13 Try.f13.results.toList Q T13_0) = L13_0 x1 x2 x7 x8 x9 x10 w Q := by kernel_rfl
  part_lp (fn := Try.f13) mixed entOk Try.func13 H13 (c := (nav [1, 1, 1, 1, 1, 1, 0, 1, 4, 5] C13)) (t := [.blk 0, .jn (nav [1, 1, 1, 1, 1, 1, 1] C13)]) (e.mpr h)
theorem L13_1_ok {x7 x13 : Value} {w : World} {Q : Value → World → Prop} (h : L13_1 x7 x13 w Q) : P13_1 x7 x13 w Q :=
  have e : evC Try.prog (entR 3 80) 13 173 H13 Q (nav [1, 1, 1, 1, 1, 1, 1, 1, 1, 1, 1] C13) [] (unpack [7, 13] [x7, x13]) w (contT Try.prog (entR 3 80) 13 173 H13 Try.f13.results.toList Q []) = L13_1 x7 x13 w Q := by kernel_rfl
  part_jn (fn := Try.f13) mixed entOk Try.func13 H13 (c := (nav [1, 1, 1, 1, 1, 1, 1, 1, 1, 1, 1] C13)) (t := []) (e.mpr h)

/-! ### rundale/rundalelaw20.first: function 36 -/
noncomputable def C36 : Code := (Try.f36.body).getD .skip
noncomputable def H36 : Hints := ⟨[], [], []⟩
def F36 (w : World) (Q : Value → World → Prop) : Prop :=
  effv Try.prog (Instr.buildSlice 40 6 #[(0, (Go.Value.int Go.IntKind.u8 1)), (1, (Go.Value.int Go.IntKind.u8 1)), (2, (Go.Value.int Go.IntKind.u8 0)), (3, (Go.Value.int Go.IntKind.u8 3)), (4, (Go.Value.int Go.IntKind.u8 0)), (5, (Go.Value.int Go.IntKind.u8 0))]) w fun t2 w =>
  CallR Try.prog 37 [t2] w fun t3 w =>
  effv Try.prog (Instr.alloc 43 true (.tuple #[])) w fun t1 w =>
  effu Try.prog (Instr.storeAt 43 t1 t3) w fun w =>
  wpB (pureRun Try.prog (Instr.fieldAt 43 t1 0)) fun t4 =>
  wpB (ldv Try.prog 41 t4 w) fun t5 =>
  wpB (pureRun Try.prog (Builtin.len_ #[41] 3 #[t5])) fun t6 =>
  wpB (be Try.prog .eql 3 (.tmp 6) (.const (Go.Value.int Go.IntKind.i64 1)) t6 (Go.Value.int Go.IntKind.i64 1)) fun t7 =>
  wpB (gd t7 true (pureRun Try.prog (Instr.fieldAt 43 t1 0))) fun t9 =>
  wpB (gd t7 true (ldv Try.prog 41 t9 w)) fun t10 =>
  wpB (gd t7 true (pureRun Try.prog (Instr.indexAt 41 t10 (Go.Value.int Go.IntKind.i64 0)))) fun t11 =>
  wpB (gd t7 true (ldv Try.prog 67 t11 w)) fun t12 =>
  wpB (gd t7 true (pureRun Try.prog (Builtin.len_ #[67] 3 #[t12]))) fun t13 =>
  wpB (gd t7 true (be Try.prog .eql 3 (.tmp 13) (.const (Go.Value.int Go.IntKind.i64 1)) t13 (Go.Value.int Go.IntKind.i64 1))) fun t14 =>
  wpB (pickv t7 (some t14) (some (Go.Value.bool false))) fun t15 =>
  wpB (gd t15 true (pureRun Try.prog (Instr.fieldAt 43 t1 0))) fun t17 =>
  wpB (gd t15 true (ldv Try.prog 41 t17 w)) fun t18 =>
  wpB (gd t15 true (pureRun Try.prog (Instr.indexAt 41 t18 (Go.Value.int Go.IntKind.i64 0)))) fun t19 =>
  wpB (gd t15 true (ldv Try.prog 67 t19 w)) fun t20 =>
  wpB (gd t15 true (pureRun Try.prog (Instr.indexAt 67 t20 (Go.Value.int Go.IntKind.i64 0)))) fun t21 =>
  wpB (gd t15 true (ldv Try.prog 52 t21 w)) fun t22 =>
  wpB (gd t15 true (pureRun Try.prog (Instr.build 52 #[(0, (Go.Value.int Go.IntKind.i64 3))]))) fun t23 =>
  wpB (gd t15 true (be Try.prog .eql 52 (.tmp 22) (.tmp 23) t22 t23)) fun t24 =>
  wpB (pickv t15 (some t24) (some (Go.Value.bool false))) fun t25 =>
  wpB (gd t25 true (pureRun Try.prog (Instr.fieldAt 43 t1 1))) fun t27 =>
  wpB (gd t25 true (ldv Try.prog 28 t27 w)) fun t28 =>
  wpB (gd t25 true (pureRun Try.prog (Builtin.len_ #[28] 3 #[t28]))) fun t29 =>
  wpB (gd t25 true (be Try.prog .eql 3 (.tmp 29) (.const (Go.Value.int Go.IntKind.i64 2)) t29 (Go.Value.int Go.IntKind.i64 2))) fun t30 =>
  wpB (pickv t25 (some t30) (some (Go.Value.bool false))) fun t31 =>
  wpB (gd t31 true (pureRun Try.prog (Instr.fieldAt 43 t1 1))) fun t33 =>
  wpB (gd t31 true (ldv Try.prog 28 t33 w)) fun t34 =>
  wpB (gd t31 true (pureRun Try.prog (Instr.indexAt 28 t34 (Go.Value.int Go.IntKind.i64 0)))) fun t35 =>
  wpB (gd t31 true (ldv Try.prog 3 t35 w)) fun t36 =>
  wpB (gd t31 true (be Try.prog .eql 3 (.tmp 36) (.const (Go.Value.int Go.IntKind.i64 0)) t36 (Go.Value.int Go.IntKind.i64 0))) fun t37 =>
  wpB (pickv t31 (some t37) (some (Go.Value.bool false))) fun t38 =>
  wpB (gd t38 true (pureRun Try.prog (Instr.fieldAt 43 t1 1))) fun t40 =>
  wpB (gd t38 true (ldv Try.prog 28 t40 w)) fun t41 =>
  wpB (gd t38 true (pureRun Try.prog (Instr.indexAt 28 t41 (Go.Value.int Go.IntKind.i64 1)))) fun t42 =>
  wpB (gd t38 true (ldv Try.prog 3 t42 w)) fun t43 =>
  wpB (gd t38 true (be Try.prog .eql 3 (.tmp 43) (.const (Go.Value.int Go.IntKind.i64 0)) t43 (Go.Value.int Go.IntKind.i64 0))) fun t44 =>
  wpB (pickv t38 (some t44) (some (Go.Value.bool false))) fun t45 =>
  wpB (gd t45 true (ldv Try.prog 43 t1 w)) fun t47 =>
  gE t45 true (CallR Try.prog 40 [t47] w) (fun t48 w =>
  wpB (pickv t45 (some t48) (some (Go.Value.bool false))) fun t49 =>
  Q t49 w) w
theorem F36_ok {w : World} {Q : Value → World → Prop} (h : F36  w Q) : CallR Try.prog 36 [] w Q :=
  have e : evC Try.prog (entR 3 80) 36 50 H36 Q C36 [] (entryE 0 []) w (contT Try.prog (entR 3 80) 36 50 H36 Try.f36.results.toList Q []) = F36  w Q := by kernel_rfl
  call_of (fn := Try.f36) mixed entOk Try.func36 (c := C36) rfl H36 (Nat.le_of_ble_eq_true rfl) (e.mpr h)

/-! ### rundale/script.Read: function 37 -/
noncomputable def C37 : Code := (Try.f37.body).getD .skip
noncomputable def H37 : Hints := ⟨[(4, [2, 3, 4, 20, 21]), (8, [2, 3, 4, 5, 20, 21, 27, 28]), (18, [2, 4, 66, 67, 68])], [(13, [2, 3, 4, 5, 20, 21, 27, 28])], [(12, (.ask 1 10 (.leaf [0, 1, 2, 3, 4, 5, 6, 7, 8, 9, 10, 11, 12]) (.leaf [0, 2, 3, 5, 4, 6, 7, 8, 9, 10, 1, 11, 12]))), (17, (.leaf [0, 1, 2, 3, 4, 5, 6, 7, 8, 9, 10, 11, 12]))]⟩
noncomputable def T37_0 : List It := [.lp (nav [1, 1, 1, 0, 1, 4, 5] C37), .blk 0, .jn (nav [1, 1, 1, 1] C37)]
noncomputable def T37_1 : List It := [.lp (nav [1, 1, 1, 0, 1, 4, 5, 1, 1, 0, 4, 1, 1, 0, 1, 4, 5] C37), .blk 2, .jn (nav [1, 1, 1, 0, 1, 4, 5, 1, 1, 0, 4, 1, 1, 1] C37), .blk 1, .jn (nav [1, 1, 1, 0, 1, 4, 5, 1, 1, 1] C37), .lp (nav [1, 1, 1, 0, 1, 4, 5] C37), .blk 0, .jn (nav [1, 1, 1, 1] C37)]
noncomputable def T37_2 : List It := [.lp (nav [1, 1, 1, 1, 0, 1, 4, 5] C37), .blk 4, .jn (nav [1, 1, 1, 1, 1] C37)]
noncomputable def T37_3 : List It := [.jn (nav [1, 1, 1, 0, 1, 4, 5, 1, 1, 0, 4, 1, 1, 0, 1, 4, 5, 1, 1, 1] C37), .lp (nav [1, 1, 1, 0, 1, 4, 5, 1, 1, 0, 4, 1, 1, 0, 1, 4, 5] C37), .blk 2, .jn (nav [1, 1, 1, 0, 1, 4, 5, 1, 1, 0, 4, 1, 1, 1] C37), .blk 1, .jn (nav [1, 1, 1, 0, 1, 4, 5, 1, 1, 1] C37), .lp (nav [1, 1, 1, 0, 1, 4, 5] C37), .blk 0, .jn (nav [1, 1, 1, 1] C37)]
/-- rundale/script.Read, from a loop's head on -/
def P37_0 (x2 x3 x4 x20 x21 : Value) (w : World) (Q : Value → World → Prop) : Prop := Part Try.prog 37 T37_0 [2, 3, 4, 20, 21] [x2, x3, x4, x20, x21] w Q
/-- rundale/script.Read, from a loop's head on -/
def P37_1 (x2 x3 x4 x5 x20 x21 x27 x28 : Value) (w : World) (Q : Value → World → Prop) : Prop := Part Try.prog 37 T37_1 [2, 3, 4, 5, 20, 21, 27, 28] [x2, x3, x4, x5, x20, x21, x27, x28] w Q
/-- rundale/script.Read, from a loop's head on -/
def P37_2 (x2 x4 x66 x67 x68 : Value) (w : World) (Q : Value → World → Prop) : Prop := Part Try.prog 37 T37_2 [2, 4, 66, 67, 68] [x2, x4, x66, x67, x68] w Q
/-- rundale/script.Read, from a join on -/
def P37_3 (x2 x3 x4 x5 x20 x21 x27 x28 : Value) (w : World) (Q : Value → World → Prop) : Prop := Part Try.prog 37 T37_3 [2, 3, 4, 5, 20, 21, 27, 28] [x2, x3, x4, x5, x20, x21, x27, x28] w Q
def F37 (a0 : Value) (w : World) (Q : Value → World → Prop) : Prop :=
  effv Try.prog (Instr.alloc 43 true (.tuple #[])) w fun t2 w =>
  wpB (pureRun Try.prog (Instr.build 70 #[(0, a0)])) fun t11 =>
  effv Try.prog (Instr.box 70 t11) w fun t12 w =>
  CallR Try.prog 55 [t12, (Go.Value.int Go.IntKind.i64 1)] w fun t14 w =>
  wpB (pureRun Try.prog (Builtin.min_ #[33, 33] 33 #[t14, (Go.Value.int Go.IntKind.u64 64)])) fun t15 =>
  effv Try.prog (Instr.makeSlice 41 t15 t15) w fun t16 w =>
  wpB (pureRun Try.prog (Instr.build 43 #[(0, t16)])) fun t17 =>
  effv Try.prog (Instr.alloc 43 true (.tuple #[])) w fun t4 w =>
  effu Try.prog (Instr.storeAt 43 t4 t17) w fun w =>
  wpB (pureRun Try.prog (Instr.fieldAt 43 t4 0)) fun t18 =>
  wpB (ldv Try.prog 41 t18 w) fun t19 =>
  wpB (pureRun Try.prog (Builtin.len_ #[41] 3 #[t19])) fun t20 =>
  P37_0 t2 t12 t4 t20 (Go.Value.int Go.IntKind.i64 0) w Q
def L37_0 (x2 x3 x4 x20 x21 : Value) (w : World) (Q : Value → World → Prop) : Prop :=
  wpB (bp Try.prog .lss 3 x21 x20) fun t22 =>
  cnd t22
  (CallR Try.prog 55 [x3, (Go.Value.int Go.IntKind.i64 2)] w fun t25 w =>
  wpB (pureRun Try.prog (Builtin.min_ #[33, 33] 33 #[t25, (Go.Value.int Go.IntKind.u64 1000)])) fun t26 =>
  P37_1 x2 x3 x4 x21 x20 x21 t26 (Go.Value.int Go.IntKind.u64 0) w Q)
  (wpB (nilv x3) fun t57 =>
  wpB (pureRun Try.prog (Instr.fieldAt 70 t57 0)) fun t58 =>
  wpB (ldv Try.prog 40 t58 w.drew) fun t59 =>
  wpB (nilv x3) fun t61 =>
  wpB (pureRun Try.prog (Instr.fieldAt 70 t61 0)) fun t62 =>
  wpB (ldv Try.prog 40 t62 w.drew) fun t63 =>
  wpB (pureRun Try.prog (Builtin.len_ #[40] 3 #[t63])) fun t64 =>
  wpB (pureRun Try.prog (Builtin.min_ #[3, 3] 3 #[t64, (Go.Value.int Go.IntKind.i64 1048576)])) fun t65 =>
  wpB (pureRun Try.prog (Instr.sliceAt 40 t59 none (some t65) none)) fun t66 =>
  wpB (pureRun Try.prog (Builtin.len_ #[40] 3 #[t66])) fun t67 =>
  P37_2 x2 x4 t66 t67 (Go.Value.int Go.IntKind.i64 0) w.drew Q)
def L37_1 (x2 x3 x4 x5 x20 x21 x27 x28 : Value) (w : World) (Q : Value → World → Prop) : Prop :=
  wpB (bp Try.prog .lss 33 x28 x27) fun t29 =>
  cnd t29
  (CallR Try.prog 56 [x3] w fun t31 w =>
  effv Try.prog (Instr.alloc 52 true (.tuple #[])) w fun t7 w =>
  effu Try.prog (Instr.storeAt 52 t7 t31) w fun w =>
  wpB (nilv x3) fun t33 =>
  wpB (pureRun Try.prog (Instr.fieldAt 70 t33 1)) fun t34 =>
  wpB (ldv Try.prog 4 t34 w) fun t35 =>
  cnd t35
  (wpB (ldv Try.prog 43 x4 w) fun t36 =>
  effu Try.prog (Instr.storeAt 43 x2 t36) w fun w =>
  wpB (ldv Try.prog 43 x2 w) fun r2 => Q r2 w)
  ((wpB (pureRun Try.prog (Instr.fieldAt 43 x4 0)) fun t37 =>
  wpB (ldv Try.prog 41 t37 w.drew) fun t38 =>
  wpB (pureRun Try.prog (Instr.fieldAt 43 x4 0)) fun t40 =>
  wpB (ldv Try.prog 41 t40 w.drew) fun t41 =>
  wpB (pureRun Try.prog (Instr.indexAt 41 t41 x5)) fun t43 =>
  wpB (ldv Try.prog 67 t43 w.drew) fun t44 =>
  wpB (ldv Try.prog 52 t7 w.drew) fun t45 =>
  effv Try.prog (Instr.buildSlice 67 1 #[(0, t45)]) w.drew fun t46 w =>
  effv Try.prog (Builtin.append_ #[67, 67] 67 #[t44, t46]) w fun t47 w =>
  wpB (pureRun Try.prog (Instr.indexAt 41 t38 x5)) fun t48 =>
  effu Try.prog (Instr.storeAt 67 t48 t47) w fun w =>
  P37_3 x2 x3 x4 x5 x20 x21 x27 x28 w Q) ∧
  (wpB (pureRun Try.prog (Instr.fieldAt 43 x4 0)) fun t37_1 =>
  wpB (pureRun Try.prog (Instr.fieldAt 43 x4 0)) fun t40_1 =>
  wpB (ldv Try.prog 41 t40_1 w.drew) fun t41_1 =>
  wpB (pureRun Try.prog (Instr.indexAt 41 t41_1 x5)) fun t43_1 =>
  wpB (ldv Try.prog 67 t43_1 w.drew) fun t44_1 =>
  wpB (ldv Try.prog 52 t7 w.drew) fun t45_1 =>
  effv Try.prog (Instr.buildSlice 67 1 #[(0, t45_1)]) w.drew fun t46_1 w =>
  effv Try.prog (Builtin.append_ #[67, 67] 67 #[t44_1, t46_1]) w fun t47_1 w =>
  wpB (ldv Try.prog 41 t37_1 w) fun t38_1 =>
  wpB (pureRun Try.prog (Instr.indexAt 41 t38_1 x5)) fun t48_1 =>
  effu Try.prog (Instr.storeAt 67 t48_1 t47_1) w fun w =>
  P37_3 x2 x3 x4 x5 x20 x21 x27 x28 w Q)))
  (wpB (nilv x3) fun t51 =>
  wpB (pureRun Try.prog (Instr.fieldAt 70 t51 1)) fun t52 =>
  wpB (ldv Try.prog 4 t52 w) fun t53 =>
  cnd t53
  (wpB (ldv Try.prog 43 x4 w) fun t54 =>
  effu Try.prog (Instr.storeAt 43 x2 t54) w fun w =>
  wpB (ldv Try.prog 43 x2 w) fun r2_1 => Q r2_1 w)
  (wpB (bp Try.prog .add 3 x21 (Go.Value.int Go.IntKind.i64 1)) fun t55 =>
  P37_0 x2 x3 x4 x20 t55 w Q))
def L37_2 (x2 x4 x66 x67 x68 : Value) (w : World) (Q : Value → World → Prop) : Prop :=
  wpB (bp Try.prog .lss 3 x68 x67) fun t69 =>
  cnd t69
  (wpB (pureRun Try.prog (Instr.indexAt 40 x66 x68)) fun t70 =>
  wpB (ldv Try.prog 5 t70 w) fun t71 =>
  wpB (pureRun Try.prog (Instr.fieldAt 43 x4 1)) fun t72 =>
  wpB (ldv Try.prog 28 t72 w) fun t73 =>
  wpB (pureRun Try.prog (convert 5 3 t71)) fun t75 =>
  effv Try.prog (Instr.buildSlice 28 1 #[(0, t75)]) w fun t76 w =>
  effv Try.prog (Builtin.append_ #[28, 28] 28 #[t73, t76]) w fun t77 w =>
  wpB (pureRun Try.prog (Instr.fieldAt 43 x4 1)) fun t78 =>
  effu Try.prog (Instr.storeAt 28 t78 t77) w fun w =>
  wpB (bp Try.prog .add 3 x68 (Go.Value.int Go.IntKind.i64 1)) fun t79 =>
  P37_2 x2 x4 x66 x67 t79 w Q)
  (wpB (ldv Try.prog 43 x4 w) fun t80 =>
  effu Try.prog (Instr.storeAt 43 x2 t80) w fun w =>
  wpB (ldv Try.prog 43 x2 w) fun r2 => Q r2 w)
def L37_3 (x2 x3 x4 x5 x20 x21 x27 x28 : Value) (w : World) (Q : Value → World → Prop) : Prop :=
  wpB (bp Try.prog .add 33 x28 (Go.Value.int Go.IntKind.u64 1)) fun t49 =>
  P37_1 x2 x3 x4 x5 x20 x21 x27 t49 w Q
theorem F37_ok {a0 : Value} {w : World} {Q : Value → World → Prop} (h : F37 a0 w Q) : CallR Try.prog 37 [a0] w Q :=
  have e : evC Try.prog (entR 3 80) 37 81 H37 Q C37 [] (entryE 0 [a0]) w (contT Try.prog (entR 3 80) 37 81 H37 Try.f37.results.toList Q []) = F37 a0 w Q := by kernel_rfl
  call_of (fn := Try.f37) mixed entOk Try.func37 (c := C37) rfl H37 (Nat.le_of_ble_eq_true rfl) (e.mpr h)
theorem L37_0_ok {x2 x3 x4 x20 x21 : Value} {w : World} {Q : Value → World → Prop} (h : L37_0 x2 x3 x4 x20 x21 w Q) : P37_0 x2 x3 x4 x20 x21 w Q :=
  have e : evC Try.prog (entR 3 80) 37 81 H37 Q (nav [1, 1, 1, 0, 1, 4, 5] C37) T37_0 (unpack [2, 3, 4, 20, 21] [x2, x3, x4, x20, x21]) w (contT Try.prog (entR 3 80) 37 81 H37 Try.f37.results.toList Q T37_0) = L37_0 x2 x3 x4 x20 x21 w Q := by kernel_rfl
  part_lp (fn := Try.f37) mixed entOk Try.func37 H37 (c := (nav [1, 1, 1, 0, 1, 4, 5] C37)) (t := [.blk 0, .jn (nav [1, 1, 1, 1] C37)]) (e.mpr h)
theorem L37_1_ok {x2 x3 x4 x5 x20 x21 x27 x28 : Value} {w : World} {Q : Value → World → Prop} (h : L37_1 x2 x3 x4 x5 x20 x21 x27 x28 w Q) : P37_1 x2 x3 x4 x5 x20 x21 x27 x28 w Q :=
  have e : evC Try.prog (entR 3 80) 37 81 H37 Q (nav [1, 1, 1, 0, 1, 4, 5, 1, 1, 0, 4, 1, 1, 0, 1, 4, 5] C37) T37_1 (unpack [2, 3, 4, 5, 20, 21, 27, 28] [x2, x3, x4, x5, x20, x21, x27, x28]) w (contT Try.prog (entR 3 80) 37 81 H37 Try.f37.results.toList Q T37_1) = L37_1 x2 x3 x4 x5 x20 x21 x27 x28 w Q := by kernel_rfl
  part_lp (fn := Try.f37) mixed entOk Try.func37 H37 (c := (nav [1, 1, 1, 0, 1, 4, 5, 1, 1, 0, 4, 1, 1, 0, 1, 4, 5] C37)) (t := [.blk 2, .jn (nav [1, 1, 1, 0, 1, 4, 5, 1, 1, 0, 4, 1, 1, 1] C37), .blk 1, .jn (nav [1, 1, 1, 0, 1, 4, 5, 1, 1, 1] C37), .lp (nav [1, 1, 1, 0, 1, 4, 5] C37), .blk 0, .jn (nav [1, 1, 1, 1] C37)]) (e.mpr h)
theorem L37_2_ok {x2 x4 x66 x67 x68 : Value} {w : World} {Q : Value → World → Prop} (h : L37_2 x2 x4 x66 x67 x68 w Q) : P37_2 x2 x4 x66 x67 x68 w Q :=
  have e : evC Try.prog (entR 3 80) 37 81 H37 Q (nav [1, 1, 1, 1, 0, 1, 4, 5] C37) T37_2 (unpack [2, 4, 66, 67, 68] [x2, x4, x66, x67, x68]) w (contT Try.prog (entR 3 80) 37 81 H37 Try.f37.results.toList Q T37_2) = L37_2 x2 x4 x66 x67 x68 w Q := by kernel_rfl
  part_lp (fn := Try.f37) mixed entOk Try.func37 H37 (c := (nav [1, 1, 1, 1, 0, 1, 4, 5] C37)) (t := [.blk 4, .jn (nav [1, 1, 1, 1, 1] C37)]) (e.mpr h)
theorem L37_3_ok {x2 x3 x4 x5 x20 x21 x27 x28 : Value} {w : World} {Q : Value → World → Prop} (h : L37_3 x2 x3 x4 x5 x20 x21 x27 x28 w Q) : P37_3 x2 x3 x4 x5 x20 x21 x27 x28 w Q :=
  have e : evC Try.prog (entR 3 80) 37 81 H37 Q (nav [1, 1, 1, 0, 1, 4, 5, 1, 1, 0, 4, 1, 1, 0, 1, 4, 5, 1, 1, 1] C37) [.lp (nav [1, 1, 1, 0, 1, 4, 5, 1, 1, 0, 4, 1, 1, 0, 1, 4, 5] C37), .blk 2, .jn (nav [1, 1, 1, 0, 1, 4, 5, 1, 1, 0, 4, 1, 1, 1] C37), .blk 1, .jn (nav [1, 1, 1, 0, 1, 4, 5, 1, 1, 1] C37), .lp (nav [1, 1, 1, 0, 1, 4, 5] C37), .blk 0, .jn (nav [1, 1, 1, 1] C37)] (unpack [2, 3, 4, 5, 20, 21, 27, 28] [x2, x3, x4, x5, x20, x21, x27, x28]) w (contT Try.prog (entR 3 80) 37 81 H37 Try.f37.results.toList Q [.lp (nav [1, 1, 1, 0, 1, 4, 5, 1, 1, 0, 4, 1, 1, 0, 1, 4, 5] C37), .blk 2, .jn (nav [1, 1, 1, 0, 1, 4, 5, 1, 1, 0, 4, 1, 1, 1] C37), .blk 1, .jn (nav [1, 1, 1, 0, 1, 4, 5, 1, 1, 1] C37), .lp (nav [1, 1, 1, 0, 1, 4, 5] C37), .blk 0, .jn (nav [1, 1, 1, 1] C37)]) = L37_3 x2 x3 x4 x5 x20 x21 x27 x28 w Q := by kernel_rfl
  part_jn (fn := Try.f37) mixed entOk Try.func37 H37 (c := (nav [1, 1, 1, 0, 1, 4, 5, 1, 1, 0, 4, 1, 1, 0, 1, 4, 5, 1, 1, 1] C37)) (t := [.lp (nav [1, 1, 1, 0, 1, 4, 5, 1, 1, 0, 4, 1, 1, 0, 1, 4, 5] C37), .blk 2, .jn (nav [1, 1, 1, 0, 1, 4, 5, 1, 1, 0, 4, 1, 1, 1] C37), .blk 1, .jn (nav [1, 1, 1, 0, 1, 4, 5, 1, 1, 1] C37), .lp (nav [1, 1, 1, 0, 1, 4, 5] C37), .blk 0, .jn (nav [1, 1, 1, 1] C37)]) (e.mpr h)

/-! ### rundale/rundaleref18.SameScript: function 38 -/
noncomputable def C38 : Code := (Try.f38.body).getD .skip
noncomputable def H38 : Hints := ⟨[(4, [2, 3, 5])], [], [(6, (.leaf [0, 1, 2, 3, 4, 5, 6, 7, 8, 9, 10, 11]))]⟩
noncomputable def T38_0 : List It := [.lp (nav [1, 1, 0, 1, 4, 5] C38), .blk 0, .jn (nav [1, 1, 1] C38)]
/-- rundale/rundaleref18.SameScript, from a loop's head on -/
def P38_0 (x2 x3 x5 : Value) (w : World) (Q : Value → World → Prop) : Prop := Part Try.prog 38 T38_0 [2, 3, 5] [x2, x3, x5] w Q
def F38 (a0 a1 : Value) (w : World) (Q : Value → World → Prop) : Prop :=
  effv Try.prog (Instr.box 43 a0) w fun t2 w =>
  effv Try.prog (Instr.box 43 a1) w fun t3 w =>
  wpB (pureRun Try.prog (Instr.fieldAt 43 t2 0)) fun t6 =>
  wpB (ldv Try.prog 41 t6 w) fun t7 =>
  wpB (pureRun Try.prog (Builtin.len_ #[41] 3 #[t7])) fun t8 =>
  wpB (pureRun Try.prog (Instr.fieldAt 43 t3 0)) fun t9 =>
  wpB (ldv Try.prog 41 t9 w) fun t10 =>
  wpB (pureRun Try.prog (Builtin.len_ #[41] 3 #[t10])) fun t11 =>
  wpB (be Try.prog .neq 3 (.tmp 8) (.tmp 11) t8 t11) fun t12 =>
  wpB (gd t12 false (pureRun Try.prog (Instr.fieldAt 43 t2 1))) fun t14 =>
  wpB (gd t12 false (ldv Try.prog 28 t14 w)) fun t15 =>
  wpB (gd t12 false (pureRun Try.prog (Instr.fieldAt 43 t3 1))) fun t16 =>
  wpB (gd t12 false (ldv Try.prog 28 t16 w)) fun t17 =>
  gE t12 false (CallR Try.prog 32 [t15, t17] w) (fun t18 w =>
  wpB (gd t12 false (pureRun Try.prog (Op.unary .not t18))) fun t19 =>
  wpB (pickv t12 (some (Go.Value.bool true)) (some t19)) fun t20 =>
  cnd t20
  (Q (Go.Value.bool false) w)
  (P38_0 t2 t3 (Go.Value.int Go.IntKind.i64 0) w Q)) w
def L38_0 (x2 x3 x5 : Value) (w : World) (Q : Value → World → Prop) : Prop :=
  wpB (pureRun Try.prog (Instr.fieldAt 43 x2 0)) fun t22 =>
  wpB (ldv Try.prog 41 t22 w) fun t23 =>
  wpB (pureRun Try.prog (Builtin.len_ #[41] 3 #[t23])) fun t24 =>
  wpB (bp Try.prog .lss 3 x5 t24) fun t25 =>
  cnd t25
  (wpB (pureRun Try.prog (Instr.fieldAt 43 x2 0)) fun t28 =>
  wpB (ldv Try.prog 41 t28 w.drew) fun t29 =>
  wpB (pureRun Try.prog (Instr.indexAt 41 t29 x5)) fun t31 =>
  wpB (ldv Try.prog 67 t31 w.drew) fun t32 =>
  wpB (pureRun Try.prog (Instr.fieldAt 43 x3 0)) fun t33 =>
  wpB (ldv Try.prog 41 t33 w.drew) fun t34 =>
  wpB (pureRun Try.prog (Instr.indexAt 41 t34 x5)) fun t36 =>
  wpB (ldv Try.prog 67 t36 w.drew) fun t37 =>
  CallR Try.prog 57 [t32, t37] w.drew fun t38 w =>
  wpB (pureRun Try.prog (Op.unary .not t38)) fun t39 =>
  cnd t39
  (Q (Go.Value.bool false) w)
  (wpB (bp Try.prog .add 3 x5 (Go.Value.int Go.IntKind.i64 1)) fun t27 =>
  P38_0 x2 x3 t27 w Q))
  (Q (Go.Value.bool true) w)
theorem F38_ok {a0 a1 : Value} {w : World} {Q : Value → World → Prop} (h : F38 a0 a1 w Q) : CallR Try.prog 38 [a0, a1] w Q :=
  have e : evC Try.prog (entR 3 80) 38 40 H38 Q C38 [] (entryE 0 [a0, a1]) w (contT Try.prog (entR 3 80) 38 40 H38 Try.f38.results.toList Q []) = F38 a0 a1 w Q := by kernel_rfl
  call_of (fn := Try.f38) mixed entOk Try.func38 (c := C38) rfl H38 (Nat.le_of_ble_eq_true rfl) (e.mpr h)
theorem L38_0_ok {x2 x3 x5 : Value} {w : World} {Q : Value → World → Prop} (h : L38_0 x2 x3 x5 w Q) : P38_0 x2 x3 x5 w Q :=
  have e : evC Try.prog (entR 3 80) 38 40 H38 Q (nav [1, 1, 0, 1, 4, 5] C38) T38_0 (unpack [2, 3, 5] [x2, x3, x5]) w (contT Try.prog (entR 3 80) 38 40 H38 Try.f38.results.toList Q T38_0) = L38_0 x2 x3 x5 w Q := by kernel_rfl
  part_lp (fn := Try.f38) mixed entOk Try.func38 H38 (c := (nav [1, 1, 0, 1, 4, 5] C38)) (t := [.blk 0, .jn (nav [1, 1, 1] C38)]) (e.mpr h)

/-! ### rundale/rundaleref18.ReadScript: function 39 -/
noncomputable def C39 : Code := (Try.f39.body).getD .skip
noncomputable def H39 : Hints := ⟨[(5, [0, 2, 3, 4, 5, 6]), (10, [0, 2, 3, 4, 5, 6, 7, 8, 9]), (16, [0, 2, 3, 4])], [(11, [0, 2, 3, 4, 5, 6, 7, 8, 9])], [(17, (.ask 1 3 (.leaf [0, 1, 2, 3, 4, 5, 6, 7, 8]) (.leaf [0, 2, 3, 4, 1, 5, 6, 7, 8])))]⟩
noncomputable def T39_0 : List It := [.lp (nav [1, 1, 1, 1, 0, 1, 4, 5] C39), .blk 0, .jn (nav [1, 1, 1, 1, 1] C39)]
noncomputable def T39_1 : List It := [.lp (nav [1, 1, 1, 1, 0, 1, 4, 5, 1, 0, 4, 1, 1, 0, 1, 4, 5] C39), .blk 2, .jn (nav [1, 1, 1, 1, 0, 1, 4, 5, 1, 0, 4, 1, 1, 1] C39), .blk 1, .jn (nav [1, 1, 1, 1, 0, 1, 4, 5, 1, 1] C39), .lp (nav [1, 1, 1, 1, 0, 1, 4, 5] C39), .blk 0, .jn (nav [1, 1, 1, 1, 1] C39)]
noncomputable def T39_2 : List It := [.lp (nav [1, 1, 1, 1, 1, 0, 4, 5] C39), .blk 4, .jn (nav [1, 1, 1, 1, 1, 1] C39)]
noncomputable def T39_3 : List It := [.jn (nav [1, 1, 1, 1, 0, 1, 4, 5, 1, 0, 4, 1, 1, 0, 1, 4, 5, 1, 1] C39), .lp (nav [1, 1, 1, 1, 0, 1, 4, 5, 1, 0, 4, 1, 1, 0, 1, 4, 5] C39), .blk 2, .jn (nav [1, 1, 1, 1, 0, 1, 4, 5, 1, 0, 4, 1, 1, 1] C39), .blk 1, .jn (nav [1, 1, 1, 1, 0, 1, 4, 5, 1, 1] C39), .lp (nav [1, 1, 1, 1, 0, 1, 4, 5] C39), .blk 0, .jn (nav [1, 1, 1, 1, 1] C39)]
/-- rundale/rundaleref18.ReadScript, from a loop's head on -/
def P39_0 (x0 x2 x3 x4 x5 x6 : Value) (w : World) (Q : Value → World → Prop) : Prop := Part Try.prog 39 T39_0 [0, 2, 3, 4, 5, 6] [x0, x2, x3, x4, x5, x6] w Q
/-- rundale/rundaleref18.ReadScript, from a loop's head on -/
def P39_1 (x0 x2 x3 x4 x5 x6 x7 x8 x9 : Value) (w : World) (Q : Value → World → Prop) : Prop := Part Try.prog 39 T39_1 [0, 2, 3, 4, 5, 6, 7, 8, 9] [x0, x2, x3, x4, x5, x6, x7, x8, x9] w Q
/-- rundale/rundaleref18.ReadScript, from a loop's head on -/
def P39_2 (x0 x2 x3 x4 : Value) (w : World) (Q : Value → World → Prop) : Prop := Part Try.prog 39 T39_2 [0, 2, 3, 4] [x0, x2, x3, x4] w Q
/-- rundale/rundaleref18.ReadScript, from a join on -/
def P39_3 (x0 x2 x3 x4 x5 x6 x7 x8 x9 : Value) (w : World) (Q : Value → World → Prop) : Prop := Part Try.prog 39 T39_3 [0, 2, 3, 4, 5, 6, 7, 8, 9] [x0, x2, x3, x4, x5, x6, x7, x8, x9] w Q
def F39 (a0 : Value) (w : World) (Q : Value → World → Prop) : Prop :=
  effv Try.prog (Instr.alloc 43 true (.tuple #[])) w fun t2 w =>
  wpB (pureRun Try.prog (Instr.build 76 #[(0, a0)])) fun t12 =>
  effv Try.prog (Instr.box 76 t12) w fun t13 w =>
  effv Try.prog (Instr.alloc 43 true (.tuple #[])) w fun t4 w =>
  CallR Try.prog 58 [t13, (Go.Value.int Go.IntKind.i64 1)] w fun t15 w =>
  wpB (pureRun Try.prog (convert 33 3 t15)) fun t16 =>
  wpB (pureRun Try.prog (Builtin.min_ #[3, 3] 3 #[t16, (Go.Value.int Go.IntKind.i64 64)])) fun t17 =>
  P39_0 a0 t2 t13 t4 t17 (Go.Value.int Go.IntKind.i64 0) w Q
def L39_0 (x0 x2 x3 x4 x5 x6 : Value) (w : World) (Q : Value → World → Prop) : Prop :=
  wpB (bp Try.prog .lss 3 x6 x5) fun t20 =>
  cnd t20
  (CallR Try.prog 58 [x3, (Go.Value.int Go.IntKind.i64 2)] w fun t24 w =>
  wpB (pureRun Try.prog (convert 33 3 t24)) fun t25 =>
  wpB (pureRun Try.prog (Builtin.min_ #[3, 3] 3 #[t25, (Go.Value.int Go.IntKind.i64 1000)])) fun t26 =>
  P39_1 x0 x2 x3 x4 x5 x6 (Go.Value.slice none 0 0) t26 (Go.Value.int Go.IntKind.i64 0) w Q)
  (P39_2 x0 x2 x3 x4 w Q)
def L39_1 (x0 x2 x3 x4 x5 x6 x7 x8 x9 : Value) (w : World) (Q : Value → World → Prop) : Prop :=
  wpB (bp Try.prog .lss 3 x9 x8) fun t29 =>
  wpB (gd t29 true (nilv (gv t29 true x3))) fun t32 =>
  wpB (gd t29 true (pureRun Try.prog (Instr.fieldAt 76 t32 2))) fun t33 =>
  wpB (gd t29 true (ldv Try.prog 4 t33 w)) fun t34 =>
  wpB (gd t29 true (pureRun Try.prog (Op.unary .not t34))) fun t35 =>
  wpB (pickv t29 (some t35) (some (Go.Value.bool false))) fun t36 =>
  cnd t36
  (CallR Try.prog 59 [x3] w fun t40 w =>
  effv Try.prog (Instr.alloc 52 true (.tuple #[])) w fun t10 w =>
  effu Try.prog (Instr.storeAt 52 t10 t40) w fun w =>
  wpB (nilv x3) fun t42 =>
  wpB (pureRun Try.prog (Instr.fieldAt 76 t42 2)) fun t43 =>
  wpB (ldv Try.prog 4 t43 w) fun t44 =>
  wpB (pureRun Try.prog (Op.unary .not t44)) fun t45 =>
  cnd t45
  (wpB (ldv Try.prog 52 t10 w) fun t47 =>
  effv Try.prog (Instr.buildSlice 67 1 #[(0, t47)]) w fun t48 w =>
  effv Try.prog (Builtin.append_ #[67, 67] 67 #[x7, t48]) w fun t49 w =>
  P39_3 x0 x2 x3 x4 x5 x6 t49 x8 x9 w Q)
  (P39_3 x0 x2 x3 x4 x5 x6 x7 x8 x9 w Q))
  (wpB (pureRun Try.prog (Instr.fieldAt 43 x4 0)) fun t50 =>
  wpB (ldv Try.prog 41 t50 w) fun t51 =>
  effv Try.prog (Instr.buildSlice 41 1 #[(0, x7)]) w fun t53 w =>
  effv Try.prog (Builtin.append_ #[41, 41] 41 #[t51, t53]) w fun t54 w =>
  wpB (pureRun Try.prog (Instr.fieldAt 43 x4 0)) fun t55 =>
  effu Try.prog (Instr.storeAt 41 t55 t54) w fun w =>
  wpB (bp Try.prog .add 3 x6 (Go.Value.int Go.IntKind.i64 1)) fun t22 =>
  P39_0 x0 x2 x3 x4 x5 t22 w Q)
def L39_2 (x0 x2 x3 x4 : Value) (w : World) (Q : Value → World → Prop) : Prop :=
  wpB (nilv x3) fun t57 =>
  wpB (pureRun Try.prog (Instr.fieldAt 76 t57 2)) fun t58 =>
  wpB (ldv Try.prog 4 t58 w) fun t59 =>
  wpB (pureRun Try.prog (Op.unary .not t59)) fun t60 =>
  wpB (gd t60 true (nilv (gv t60 true x3))) fun t63 =>
  wpB (gd t60 true (pureRun Try.prog (Instr.fieldAt 76 t63 1))) fun t64 =>
  wpB (gd t60 true (ldv Try.prog 3 t64 w)) fun t65 =>
  wpB (gd t60 true (pureRun Try.prog (Builtin.len_ #[40] 3 #[(gv t60 true x0)]))) fun t67 =>
  wpB (gd t60 true (bp Try.prog .lss 3 t65 t67)) fun t68 =>
  wpB (pickv t60 (some t68) (some (Go.Value.bool false))) fun t69 =>
  wpB (gd t69 true (pureRun Try.prog (Instr.fieldAt 43 x4 1))) fun t71 =>
  wpB (gd t69 true (ldv Try.prog 28 t71 w)) fun t72 =>
  wpB (gd t69 true (pureRun Try.prog (Builtin.len_ #[28] 3 #[t72]))) fun t73 =>
  wpB (gd t69 true (bp Try.prog .lss 3 t73 (Go.Value.int Go.IntKind.i64 1048576))) fun t74 =>
  wpB (pickv t69 (some t74) (some (Go.Value.bool false))) fun t75 =>
  cnd t75
  ((wpB (pureRun Try.prog (Instr.fieldAt 43 x4 1)) fun t76 =>
  wpB (ldv Try.prog 28 t76 w.drew) fun t77 =>
  CallR Try.prog 58 [x3, (Go.Value.int Go.IntKind.i64 1)] w.drew fun t79 w =>
  wpB (pureRun Try.prog (convert 33 3 t79)) fun t80 =>
  effv Try.prog (Instr.buildSlice 28 1 #[(0, t80)]) w fun t81 w =>
  effv Try.prog (Builtin.append_ #[28, 28] 28 #[t77, t81]) w fun t82 w =>
  wpB (pureRun Try.prog (Instr.fieldAt 43 x4 1)) fun t83 =>
  effu Try.prog (Instr.storeAt 28 t83 t82) w fun w =>
  P39_2 x0 x2 x3 x4 w Q) ∧
  (wpB (pureRun Try.prog (Instr.fieldAt 43 x4 1)) fun t76_1 =>
  CallR Try.prog 58 [x3, (Go.Value.int Go.IntKind.i64 1)] w.drew fun t79_1 w =>
  wpB (pureRun Try.prog (convert 33 3 t79_1)) fun t80_1 =>
  wpB (ldv Try.prog 28 t76_1 w) fun t77_1 =>
  effv Try.prog (Instr.buildSlice 28 1 #[(0, t80_1)]) w fun t81_1 w =>
  effv Try.prog (Builtin.append_ #[28, 28] 28 #[t77_1, t81_1]) w fun t82_1 w =>
  wpB (pureRun Try.prog (Instr.fieldAt 43 x4 1)) fun t83_1 =>
  effu Try.prog (Instr.storeAt 28 t83_1 t82_1) w fun w =>
  P39_2 x0 x2 x3 x4 w Q))
  (wpB (ldv Try.prog 43 x4 w) fun t84 =>
  effu Try.prog (Instr.storeAt 43 x2 t84) w fun w =>
  wpB (ldv Try.prog 43 x2 w) fun r2 => Q r2 w)
def L39_3 (x0 x2 x3 x4 x5 x6 x7 x8 x9 : Value) (w : World) (Q : Value → World → Prop) : Prop :=
  wpB (bp Try.prog .add 3 x9 (Go.Value.int Go.IntKind.i64 1)) fun t38 =>
  P39_1 x0 x2 x3 x4 x5 x6 x7 x8 t38 w Q
theorem F39_ok {a0 : Value} {w : World} {Q : Value → World → Prop} (h : F39 a0 w Q) : CallR Try.prog 39 [a0] w Q :=
  have e : evC Try.prog (entR 3 80) 39 85 H39 Q C39 [] (entryE 0 [a0]) w (contT Try.prog (entR 3 80) 39 85 H39 Try.f39.results.toList Q []) = F39 a0 w Q := by kernel_rfl
  call_of (fn := Try.f39) mixed entOk Try.func39 (c := C39) rfl H39 (Nat.le_of_ble_eq_true rfl) (e.mpr h)
theorem L39_0_ok {x0 x2 x3 x4 x5 x6 : Value} {w : World} {Q : Value → World → Prop} (h : L39_0 x0 x2 x3 x4 x5 x6 w Q) : P39_0 x0 x2 x3 x4 x5 x6 w Q :=
  have e : evC Try.prog (entR 3 80) 39 85 H39 Q (nav [1, 1, 1, 1, 0, 1, 4, 5] C39) T39_0 (unpack [0, 2, 3, 4, 5, 6] [x0, x2, x3, x4, x5, x6]) w (contT Try.prog (entR 3 80) 39 85 H39 Try.f39.results.toList Q T39_0) = L39_0 x0 x2 x3 x4 x5 x6 w Q := by kernel_rfl
  part_lp (fn := Try.f39) mixed entOk Try.func39 H39 (c := (nav [1, 1, 1, 1, 0, 1, 4, 5] C39)) (t := [.blk 0, .jn (nav [1, 1, 1, 1, 1] C39)]) (e.mpr h)
theorem L39_1_ok {x0 x2 x3 x4 x5 x6 x7 x8 x9 : Value} {w : World} {Q : Value → World → Prop} (h : L39_1 x0 x2 x3 x4 x5 x6 x7 x8 x9 w Q) : P39_1 x0 x2 x3 x4 x5 x6 x7 x8 x9 w Q :=
  have e : evC Try.prog (entR 3 80) 39 85 H39 Q (nav [1, 1, 1, 1, 0, 1, 4, 5, 1, 0, 4, 1, 1, 0, 1, 4, 5] C39) T39_1 (unpack [0, 2, 3, 4, 5, 6, 7, 8, 9] [x0, x2, x3, x4, x5, x6, x7, x8, x9]) w (contT Try.prog (entR 3 80) 39 85 H39 Try.f39.results.toList Q T39_1) = L39_1 x0 x2 x3 x4 x5 x6 x7 x8 x9 w Q := by kernel_rfl
  part_lp (fn := Try.f39) mixed entOk Try.func39 H39 (c := (nav [1, 1, 1, 1, 0, 1, 4, 5, 1, 0, 4, 1, 1, 0, 1, 4, 5] C39)) (t := [.blk 2, .jn (nav [1, 1, 1, 1, 0, 1, 4, 5, 1, 0, 4, 1, 1, 1] C39), .blk 1, .jn (nav [1, 1, 1, 1, 0, 1, 4, 5, 1, 1] C39), .lp (nav [1, 1, 1, 1, 0, 1, 4, 5] C39), .blk 0, .jn (nav [1, 1, 1, 1, 1] C39)]) (e.mpr h)
theorem L39_2_ok {x0 x2 x3 x4 : Value} {w : World} {Q : Value → World → Prop} (h : L39_2 x0 x2 x3 x4 w Q) : P39_2 x0 x2 x3 x4 w Q :=
  have e : evC Try.prog (entR 3 80) 39 85 H39 Q (nav [1, 1, 1, 1, 1, 0, 4, 5] C39) T39_2 (unpack [0, 2, 3, 4] [x0, x2, x3, x4]) w (contT Try.prog (entR 3 80) 39 85 H39 Try.f39.results.toList Q T39_2) = L39_2 x0 x2 x3 x4 w Q := by kernel_rfl
  part_lp (fn := Try.f39) mixed entOk Try.func39 H39 (c := (nav [1, 1, 1, 1, 1, 0, 4, 5] C39)) (t := [.blk 4, .jn (nav [1, 1, 1, 1, 1, 1] C39)]) (e.mpr h)
theorem L39_3_ok {x0 x2 x3 x4 x5 x6 x7 x8 x9 : Value} {w : World} {Q : Value → World → Prop} (h : L39_3 x0 x2 x3 x4 x5 x6 x7 x8 x9 w Q) : P39_3 x0 x2 x3 x4 x5 x6 x7 x8 x9 w Q :=
  have e : evC Try.prog (entR 3 80) 39 85 H39 Q (nav [1, 1, 1, 1, 0, 1, 4, 5, 1, 0, 4, 1, 1, 0, 1, 4, 5, 1, 1] C39) [.lp (nav [1, 1, 1, 1, 0, 1, 4, 5, 1, 0, 4, 1, 1, 0, 1, 4, 5] C39), .blk 2, .jn (nav [1, 1, 1, 1, 0, 1, 4, 5, 1, 0, 4, 1, 1, 1] C39), .blk 1, .jn (nav [1, 1, 1, 1, 0, 1, 4, 5, 1, 1] C39), .lp (nav [1, 1, 1, 1, 0, 1, 4, 5] C39), .blk 0, .jn (nav [1, 1, 1, 1, 1] C39)] (unpack [0, 2, 3, 4, 5, 6, 7, 8, 9] [x0, x2, x3, x4, x5, x6, x7, x8, x9]) w (contT Try.prog (entR 3 80) 39 85 H39 Try.f39.results.toList Q [.lp (nav [1, 1, 1, 1, 0, 1, 4, 5, 1, 0, 4, 1, 1, 0, 1, 4, 5] C39), .blk 2, .jn (nav [1, 1, 1, 1, 0, 1, 4, 5, 1, 0, 4, 1, 1, 1] C39), .blk 1, .jn (nav [1, 1, 1, 1, 0, 1, 4, 5, 1, 1] C39), .lp (nav [1, 1, 1, 1, 0, 1, 4, 5] C39), .blk 0, .jn (nav [1, 1, 1, 1, 1] C39)]) = L39_3 x0 x2 x3 x4 x5 x6 x7 x8 x9 w Q := by kernel_rfl
  part_jn (fn := Try.f39) mixed entOk Try.func39 H39 (c := (nav [1, 1, 1, 1, 0, 1, 4, 5, 1, 0, 4, 1, 1, 0, 1, 4, 5, 1, 1] C39)) (t := [.lp (nav [1, 1, 1, 1, 0, 1, 4, 5, 1, 0, 4, 1, 1, 0, 1, 4, 5] C39), .blk 2, .jn (nav [1, 1, 1, 1, 0, 1, 4, 5, 1, 0, 4, 1, 1, 1] C39), .blk 1, .jn (nav [1, 1, 1, 1, 0, 1, 4, 5, 1, 1] C39), .lp (nav [1, 1, 1, 1, 0, 1, 4, 5] C39), .blk 0, .jn (nav [1, 1, 1, 1, 1] C39)]) (e.mpr h)

/-! ### rundale/script.May: function 40 -/
noncomputable def C40 : Code := (Try.f40.body).getD .skip
noncomputable def H40 : Hints := ⟨[(2, [1, 6, 7, 8])], [], []⟩
noncomputable def T40_0 : List It := [.lp (nav [1, 0, 1, 4, 5] C40), .blk 0, .jn (nav [1, 1] C40)]
/-- rundale/script.May, from a loop's head on -/
def P40_0 (x1 x6 x7 x8 : Value) (w : World) (Q : Value → World → Prop) : Prop := Part Try.prog 40 T40_0 [1, 6, 7, 8] [x1, x6, x7, x8] w Q
def F40 (a0 : Value) (w : World) (Q : Value → World → Prop) : Prop :=
  effv Try.prog (Instr.box 43 a0) w fun t1 w =>
  wpB (pureRun Try.prog (Instr.fieldAt 43 t1 0)) fun t5 =>
  wpB (ldv Try.prog 41 t5 w) fun t6 =>
  wpB (pureRun Try.prog (Builtin.len_ #[41] 3 #[t6])) fun t7 =>
  P40_0 t1 t6 t7 (Go.Value.int Go.IntKind.i64 0) w Q
def L40_0 (x1 x6 x7 x8 : Value) (w : World) (Q : Value → World → Prop) : Prop :=
  wpB (bp Try.prog .lss 3 x8 x7) fun t9 =>
  cnd t9
  (wpB (pureRun Try.prog (Instr.indexAt 41 x6 x8)) fun t10 =>
  wpB (ldv Try.prog 67 t10 w) fun t11 =>
  wpB (pureRun Try.prog (Builtin.len_ #[67] 3 #[t11])) fun t13 =>
  wpB (bp Try.prog .gtr 3 t13 (Go.Value.int Go.IntKind.i64 1000)) fun t14 =>
  cnd t14
  (Q (Go.Value.bool false) w)
  (wpB (bp Try.prog .add 3 x8 (Go.Value.int Go.IntKind.i64 1)) fun t15 =>
  P40_0 x1 x6 x7 t15 w Q))
  (wpB (pureRun Try.prog (Instr.fieldAt 43 x1 0)) fun t16 =>
  wpB (ldv Try.prog 41 t16 w) fun t17 =>
  wpB (pureRun Try.prog (Builtin.len_ #[41] 3 #[t17])) fun t18 =>
  wpB (bp Try.prog .leq 3 t18 (Go.Value.int Go.IntKind.i64 64)) fun t19 =>
  wpB (gd t19 true (pureRun Try.prog (Instr.fieldAt 43 x1 1))) fun t21 =>
  wpB (gd t19 true (ldv Try.prog 28 t21 w)) fun t22 =>
  wpB (gd t19 true (pureRun Try.prog (Builtin.len_ #[28] 3 #[t22]))) fun t23 =>
  wpB (gd t19 true (bp Try.prog .leq 3 t23 (Go.Value.int Go.IntKind.i64 1048576))) fun t24 =>
  wpB (pickv t19 (some t24) (some (Go.Value.bool false))) fun t25 =>
  Q t25 w)
theorem F40_ok {a0 : Value} {w : World} {Q : Value → World → Prop} (h : F40 a0 w Q) : CallR Try.prog 40 [a0] w Q :=
  have e : evC Try.prog (entR 3 80) 40 26 H40 Q C40 [] (entryE 0 [a0]) w (contT Try.prog (entR 3 80) 40 26 H40 Try.f40.results.toList Q []) = F40 a0 w Q := by kernel_rfl
  call_of (fn := Try.f40) mixed entOk Try.func40 (c := C40) rfl H40 (Nat.le_of_ble_eq_true rfl) (e.mpr h)
theorem L40_0_ok {x1 x6 x7 x8 : Value} {w : World} {Q : Value → World → Prop} (h : L40_0 x1 x6 x7 x8 w Q) : P40_0 x1 x6 x7 x8 w Q :=
  have e : evC Try.prog (entR 3 80) 40 26 H40 Q (nav [1, 0, 1, 4, 5] C40) T40_0 (unpack [1, 6, 7, 8] [x1, x6, x7, x8]) w (contT Try.prog (entR 3 80) 40 26 H40 Try.f40.results.toList Q T40_0) = L40_0 x1 x6 x7 x8 w Q := by kernel_rfl
  part_lp (fn := Try.f40) mixed entOk Try.func40 H40 (c := (nav [1, 0, 1, 4, 5] C40)) (t := [.blk 0, .jn (nav [1, 1] C40)]) (e.mpr h)

/-! ### rundale/rundalelaw22.first: function 41 -/
noncomputable def C41 : Code := (Try.f41.body).getD .skip
noncomputable def H41 : Hints := ⟨[], [], []⟩
def F41 (w : World) (Q : Value → World → Prop) : Prop :=
  CallR Try.prog 46 [(Go.Value.int Go.IntKind.i64 2)] w fun t7 w =>
  wpB (be Try.prog .eql 60 (.tmp 8) (.const (Go.Value.pointer none)) t7 (Go.Value.pointer none)) fun t9 =>
  cnd t9
  (Q (Go.Value.bool false) w)
  (wpB (pureRun Try.prog (Instr.build 52 #[(0, (Go.Value.int Go.IntKind.i64 3))])) fun t12 =>
  CallR Try.prog 47 [t7, (Go.Value.int Go.IntKind.i64 0), (Go.Value.int Go.IntKind.i64 0), t12, (Go.Value.int Go.IntKind.i64 3)] w fun t13 w =>
  wpB (pureRun Try.prog (Instr.extract t13 0)) fun t14 =>
  wpB (pureRun Try.prog (Instr.extract t13 1)) fun t15 =>
  wpB (pureRun Try.prog (Instr.build 57 #[])) fun t18 =>
  CallR Try.prog 48 [t7, t14, (Go.Value.int Go.IntKind.i64 5), t18] w fun t19 w =>
  wpB (pureRun Try.prog (Instr.build 57 #[])) fun t22 =>
  CallR Try.prog 49 [t7, t14, (Go.Value.int Go.IntKind.i64 5), t22] w fun t23 w =>
  CallR Try.prog 50 [t7] w fun t25 w =>
  wpB (be Try.prog .eql 53 (.tmp 26) (.const (Go.Value.int Go.IntKind.i64 0)) t15 (Go.Value.int Go.IntKind.i64 0)) fun t27 =>
  wpB (gd t27 true (be Try.prog .eql 53 (.tmp 29) (.const (Go.Value.int Go.IntKind.i64 0)) (gv t27 true t19) (Go.Value.int Go.IntKind.i64 0))) fun t30 =>
  wpB (pickv t27 (some t30) (some (Go.Value.bool false))) fun t31 =>
  wpB (gd t31 true (be Try.prog .eql 53 (.tmp 33) (.const (Go.Value.int Go.IntKind.i64 0)) (gv t31 true t23) (Go.Value.int Go.IntKind.i64 0))) fun t34 =>
  wpB (pickv t31 (some t34) (some (Go.Value.bool false))) fun t35 =>
  wpB (gd t35 true (pureRun Try.prog (Builtin.len_ #[48] 3 #[(gv t35 true t25)]))) fun t38 =>
  wpB (gd t35 true (be Try.prog .eql 3 (.tmp 38) (.const (Go.Value.int Go.IntKind.i64 1)) t38 (Go.Value.int Go.IntKind.i64 1))) fun t39 =>
  wpB (pickv t35 (some t39) (some (Go.Value.bool false))) fun t40 =>
  wpB (gd t40 true (pureRun Try.prog (Instr.indexAt 48 (gv t40 true t25) (Go.Value.int Go.IntKind.i64 0)))) fun t43 =>
  wpB (gd t40 true (pureRun Try.prog (Instr.fieldAt 59 t43 3))) fun t44 =>
  wpB (gd t40 true (ldv Try.prog 3 t44 w)) fun t45 =>
  wpB (gd t40 true (be Try.prog .eql 3 (.tmp 45) (.const (Go.Value.int Go.IntKind.i64 3)) t45 (Go.Value.int Go.IntKind.i64 3))) fun t46 =>
  wpB (pickv t40 (some t46) (some (Go.Value.bool false))) fun t47 =>
  wpB (gd t47 true (pureRun Try.prog (Instr.indexAt 48 (gv t47 true t25) (Go.Value.int Go.IntKind.i64 0)))) fun t50 =>
  wpB (gd t47 true (pureRun Try.prog (Instr.fieldAt 59 t50 4))) fun t51 =>
  wpB (gd t47 true (ldv Try.prog 3 t51 w)) fun t52 =>
  wpB (gd t47 true (be Try.prog .eql 3 (.tmp 52) (.const (Go.Value.int Go.IntKind.i64 5)) t52 (Go.Value.int Go.IntKind.i64 5))) fun t53 =>
  wpB (pickv t47 (some t53) (some (Go.Value.bool false))) fun t54 =>
  wpB (gd t54 true (pureRun Try.prog (Instr.indexAt 48 (gv t54 true t25) (Go.Value.int Go.IntKind.i64 0)))) fun t57 =>
  wpB (gd t54 true (pureRun Try.prog (Instr.fieldAt 59 t57 5))) fun t58 =>
  wpB (gd t54 true (ldv Try.prog 3 t58 w)) fun t59 =>
  wpB (gd t54 true (be Try.prog .eql 3 (.tmp 59) (.const (Go.Value.int Go.IntKind.i64 (-1))) t59 (Go.Value.int Go.IntKind.i64 (-1)))) fun t60 =>
  wpB (pickv t54 (some t60) (some (Go.Value.bool false))) fun t61 =>
  wpB (gd t61 true (pureRun Try.prog (Instr.indexAt 48 (gv t61 true t25) (Go.Value.int Go.IntKind.i64 0)))) fun t64 =>
  wpB (gd t61 true (pureRun Try.prog (Instr.fieldAt 59 t64 6))) fun t65 =>
  wpB (gd t61 true (ldv Try.prog 3 t65 w)) fun t66 =>
  wpB (gd t61 true (be Try.prog .eql 3 (.tmp 66) (.const (Go.Value.int Go.IntKind.i64 5)) t66 (Go.Value.int Go.IntKind.i64 5))) fun t67 =>
  wpB (pickv t61 (some t67) (some (Go.Value.bool false))) fun t68 =>
  gE t68 true (CallR Try.prog 42 [(gv t68 true t25)] w) (fun t71 w =>
  wpB (pickv t68 (some t71) (some (Go.Value.bool false))) fun t72 =>
  Q t72 w) w)
theorem F41_ok {w : World} {Q : Value → World → Prop} (h : F41  w Q) : CallR Try.prog 41 [] w Q :=
  have e : evC Try.prog (entR 3 80) 41 73 H41 Q C41 [] (entryE 0 []) w (contT Try.prog (entR 3 80) 41 73 H41 Try.f41.results.toList Q []) = F41  w Q := by kernel_rfl
  call_of (fn := Try.f41) mixed entOk Try.func41 (c := C41) rfl H41 (Nat.le_of_ble_eq_true rfl) (e.mpr h)

/-! ### rundale/record.May: function 42 -/
noncomputable def C42 : Code := (Try.f42.body).getD .skip
noncomputable def H42 : Hints := ⟨[(2, [0, 6, 7, 8]), (7, [0, 4, 6, 7, 8, 31, 32])], [], [(4, (.leaf [0, 1, 2, 3, 4, 5, 6, 7, 8, 9, 10, 11, 12, 13, 14, 15, 16, 17])), (9, (.leaf [0, 1, 2, 3, 4, 5, 6, 7, 8, 9, 10, 11, 12, 13, 14, 15, 16, 17, 18, 19, 20, 21, 22, 23, 24, 25, 26, 27, 28, 29, 30, 31, 32, 33, 34]))]⟩
noncomputable def T42_0 : List It := [.lp (nav [1, 0, 1, 4, 5] C42), .blk 0, .jn (nav [1, 1] C42)]
noncomputable def T42_1 : List It := [.lp (nav [1, 0, 1, 4, 5, 1, 1, 0, 4, 1, 1, 1, 4, 5] C42), .blk 2, .blk 1, .jn (nav [1, 0, 1, 4, 5, 1, 1, 1] C42), .lp (nav [1, 0, 1, 4, 5] C42), .blk 0, .jn (nav [1, 1] C42)]
/-- rundale/record.May, from a loop's head on -/
def P42_0 (x0 x6 x7 x8 : Value) (w : World) (Q : Value → World → Prop) : Prop := Part Try.prog 42 T42_0 [0, 6, 7, 8] [x0, x6, x7, x8] w Q
/-- rundale/record.May, from a loop's head on -/
def P42_1 (x0 x4 x6 x7 x8 x31 x32 : Value) (w : World) (Q : Value → World → Prop) : Prop := Part Try.prog 42 T42_1 [0, 4, 6, 7, 8, 31, 32] [x0, x4, x6, x7, x8, x31, x32] w Q
def F42 (a0 : Value) (w : World) (Q : Value → World → Prop) : Prop :=
  wpB (pureRun Try.prog (Builtin.len_ #[48] 3 #[a0])) fun t7 =>
  P42_0 a0 a0 t7 (Go.Value.int Go.IntKind.i64 0) w Q
def L42_0 (x0 x6 x7 x8 : Value) (w : World) (Q : Value → World → Prop) : Prop :=
  wpB (bp Try.prog .lss 3 x8 x7) fun t9 =>
  cnd t9
  (wpB (pureRun Try.prog (Instr.indexAt 48 x6 x8)) fun t11 =>
  wpB (ldv Try.prog 59 t11 w) fun t12 =>
  effv Try.prog (Instr.alloc 59 true (.tuple #[])) w fun t4 w =>
  effu Try.prog (Instr.storeAt 59 t4 t12) w fun w =>
  wpB (ldv Try.prog 59 t4 w.drew) fun t13 =>
  CallR Try.prog 60 [t13] w.drew fun t14 w =>
  wpB (pureRun Try.prog (Op.unary .not t14)) fun t15 =>
  wpB (gd t15 false (bp Try.prog .gtr 3 (gv t15 false x8) (Go.Value.int Go.IntKind.i64 0))) fun t18 =>
  wpB (gd (gv t15 false t18) true (pureRun Try.prog (Instr.fieldAt 59 t4 3))) fun t20 =>
  wpB (gd (gv t15 false t18) true (ldv Try.prog 3 t20 w)) fun t21 =>
  wpB (gd (gv t15 false t18) true (bp Try.prog .sub 3 (gv (gv t15 false t18) true x8) (Go.Value.int Go.IntKind.i64 1))) fun t24 =>
  wpB (gd (gv t15 false t18) true (pureRun Try.prog (Instr.indexAt 48 (gv (gv t15 false t18) true x0) t24))) fun t25 =>
  wpB (gd (gv t15 false t18) true (pureRun Try.prog (Instr.fieldAt 59 t25 3))) fun t26 =>
  wpB (gd (gv t15 false t18) true (ldv Try.prog 3 t26 w)) fun t27 =>
  wpB (gd (gv t15 false t18) true (bp Try.prog .leq 3 t21 t27)) fun t28 =>
  wpB (gd t15 false (pickv (gv t15 false t18) (some t28) (some (Go.Value.bool false)))) fun t29 =>
  wpB (pickv t15 (some (Go.Value.bool true)) (some t29)) fun t30 =>
  cnd t30
  (Q (Go.Value.bool false) w)
  (P42_1 x0 t4 x6 x7 x8 x8 (Go.Value.int Go.IntKind.i64 0) w Q))
  (Q (Go.Value.bool true) w)
def L42_1 (x0 x4 x6 x7 x8 x31 x32 : Value) (w : World) (Q : Value → World → Prop) : Prop :=
  wpB (bp Try.prog .lss 3 x32 x31) fun t33 =>
  cnd t33
  (wpB (pureRun Try.prog (Instr.indexAt 48 x0 x32)) fun t37 =>
  wpB (pureRun Try.prog (Instr.fieldAt 59 t37 0)) fun t38 =>
  wpB (ldv Try.prog 3 t38 w.drew) fun t39 =>
  wpB (pureRun Try.prog (Instr.fieldAt 59 x4 0)) fun t40 =>
  wpB (ldv Try.prog 3 t40 w.drew) fun t41 =>
  wpB (be Try.prog .eql 3 (.tmp 39) (.tmp 41) t39 t41) fun t42 =>
  wpB (gd t42 true (pureRun Try.prog (Instr.indexAt 48 (gv t42 true x0) (gv t42 true x32)))) fun t46 =>
  wpB (gd t42 true (ldv Try.prog 59 t46 w.drew)) fun t47 =>
  wpB (gd t42 true (ldv Try.prog 59 x4 w.drew)) fun t48 =>
  gE t42 true (CallR Try.prog 44 [t47, t48] w.drew) (fun t49 w =>
  wpB (gd t42 true (pureRun Try.prog (Op.unary .not t49))) fun t50 =>
  wpB (gd (gv t42 true t50) false (pureRun Try.prog (Instr.fieldAt 59 x4 1))) fun t52 =>
  wpB (gd (gv t42 true t50) false (ldv Try.prog 3 t52 w)) fun t53 =>
  wpB (gd (gv t42 true t50) false (pureRun Try.prog (Instr.indexAt 48 (gv (gv t42 true t50) false x0) (gv (gv t42 true t50) false x32)))) fun t56 =>
  wpB (gd (gv t42 true t50) false (pureRun Try.prog (Instr.fieldAt 59 t56 1))) fun t57 =>
  wpB (gd (gv t42 true t50) false (ldv Try.prog 3 t57 w)) fun t58 =>
  wpB (gd (gv t42 true t50) false (bp Try.prog .leq 3 t53 t58)) fun t59 =>
  wpB (gd t42 true (pickv (gv t42 true t50) (some (Go.Value.bool true)) (some t59))) fun t60 =>
  wpB (pickv t42 (some t60) (some (Go.Value.bool false))) fun t61 =>
  wpB (gd t61 false (pureRun Try.prog (Instr.indexAt 48 (gv t61 false x0) (gv t61 false x32)))) fun t65 =>
  wpB (gd t61 false (ldv Try.prog 59 t65 w)) fun t66 =>
  wpB (gd t61 false (ldv Try.prog 59 x4 w)) fun t67 =>
  gE t61 false (CallR Try.prog 61 [t66, t67] w) (fun t68 w =>
  wpB (pickv t61 (some (Go.Value.bool true)) (some t68)) fun t69 =>
  cnd t69
  (Q (Go.Value.bool false) w)
  (wpB (bp Try.prog .add 3 x32 (Go.Value.int Go.IntKind.i64 1)) fun t70 =>
  P42_1 x0 x4 x6 x7 x8 x31 t70 w Q)) w) w.drew)
  (wpB (bp Try.prog .add 3 x8 (Go.Value.int Go.IntKind.i64 1)) fun t71 =>
  P42_0 x0 x6 x7 t71 w Q)
theorem F42_ok {a0 : Value} {w : World} {Q : Value → World → Prop} (h : F42 a0 w Q) : CallR Try.prog 42 [a0] w Q :=
  have e : evC Try.prog (entR 3 80) 42 72 H42 Q C42 [] (entryE 0 [a0]) w (contT Try.prog (entR 3 80) 42 72 H42 Try.f42.results.toList Q []) = F42 a0 w Q := by kernel_rfl
  call_of (fn := Try.f42) mixed entOk Try.func42 (c := C42) rfl H42 (Nat.le_of_ble_eq_true rfl) (e.mpr h)
theorem L42_0_ok {x0 x6 x7 x8 : Value} {w : World} {Q : Value → World → Prop} (h : L42_0 x0 x6 x7 x8 w Q) : P42_0 x0 x6 x7 x8 w Q :=
  have e : evC Try.prog (entR 3 80) 42 72 H42 Q (nav [1, 0, 1, 4, 5] C42) T42_0 (unpack [0, 6, 7, 8] [x0, x6, x7, x8]) w (contT Try.prog (entR 3 80) 42 72 H42 Try.f42.results.toList Q T42_0) = L42_0 x0 x6 x7 x8 w Q := by kernel_rfl
  part_lp (fn := Try.f42) mixed entOk Try.func42 H42 (c := (nav [1, 0, 1, 4, 5] C42)) (t := [.blk 0, .jn (nav [1, 1] C42)]) (e.mpr h)
theorem L42_1_ok {x0 x4 x6 x7 x8 x31 x32 : Value} {w : World} {Q : Value → World → Prop} (h : L42_1 x0 x4 x6 x7 x8 x31 x32 w Q) : P42_1 x0 x4 x6 x7 x8 x31 x32 w Q :=
  have e : evC Try.prog (entR 3 80) 42 72 H42 Q (nav [1, 0, 1, 4, 5, 1, 1, 0, 4, 1, 1, 1, 4, 5] C42) T42_1 (unpack [0, 4, 6, 7, 8, 31, 32] [x0, x4, x6, x7, x8, x31, x32]) w (contT Try.prog (entR 3 80) 42 72 H42 Try.f42.results.toList Q T42_1) = L42_1 x0 x4 x6 x7 x8 x31 x32 w Q := by kernel_rfl
  part_lp (fn := Try.f42) mixed entOk Try.func42 H42 (c := (nav [1, 0, 1, 4, 5, 1, 1, 0, 4, 1, 1, 1, 4, 5] C42)) (t := [.blk 2, .blk 1, .jn (nav [1, 0, 1, 4, 5, 1, 1, 1] C42), .lp (nav [1, 0, 1, 4, 5] C42), .blk 0, .jn (nav [1, 1] C42)]) (e.mpr h)

/-! ### rundale/rundaleref18.MayRecord: function 43 -/
noncomputable def C43 : Code := (Try.f43.body).getD .skip
noncomputable def H43 : Hints := ⟨[(2, [0, 3]), (7, [0, 3, 4])], [], [(4, (.leaf [0, 1, 2, 3, 4, 5, 6, 7, 8, 9, 10, 11, 12, 13, 14, 15, 16, 17, 18, 19, 20, 21, 22, 23])), (9, (.leaf [0, 1, 2, 3, 4, 5, 6, 7, 8, 9, 10, 11, 12, 13, 14, 15, 16, 17, 18, 19, 20, 21, 22, 23, 24, 25, 26, 27, 28, 29, 30, 31, 32, 33, 34, 35, 36, 37, 38, 39, 40, 41, 42, 43, 44, 45, 46]))]⟩
noncomputable def T43_0 : List It := [.lp (nav [1, 0, 1, 4, 5] C43), .blk 0, .jn (nav [1, 1] C43)]
noncomputable def T43_1 : List It := [.lp (nav [1, 0, 1, 4, 5, 1, 0, 4, 1, 1, 4, 5] C43), .blk 2, .blk 1, .jn (nav [1, 0, 1, 4, 5, 1, 1] C43), .lp (nav [1, 0, 1, 4, 5] C43), .blk 0, .jn (nav [1, 1] C43)]
/-- rundale/rundaleref18.MayRecord, from a loop's head on -/
def P43_0 (x0 x3 : Value) (w : World) (Q : Value → World → Prop) : Prop := Part Try.prog 43 T43_0 [0, 3] [x0, x3] w Q
/-- rundale/rundaleref18.MayRecord, from a loop's head on -/
def P43_1 (x0 x3 x4 : Value) (w : World) (Q : Value → World → Prop) : Prop := Part Try.prog 43 T43_1 [0, 3, 4] [x0, x3, x4] w Q
def F43 (a0 : Value) (w : World) (Q : Value → World → Prop) : Prop :=
  P43_0 a0 (Go.Value.int Go.IntKind.i64 0) w Q
def L43_0 (x0 x3 : Value) (w : World) (Q : Value → World → Prop) : Prop :=
  wpB (pureRun Try.prog (Builtin.len_ #[48] 3 #[x0])) fun t7 =>
  wpB (bp Try.prog .lss 3 x3 t7) fun t8 =>
  cnd t8
  (wpB (pureRun Try.prog (Instr.indexAt 48 x0 x3)) fun t13 =>
  wpB (ldv Try.prog 59 t13 w.drew) fun t14 =>
  CallR Try.prog 62 [t14] w.drew fun t15 w =>
  wpB (pureRun Try.prog (Op.unary .not t15)) fun t16 =>
  wpB (gd t16 false (bp Try.prog .gtr 3 (gv t16 false x3) (Go.Value.int Go.IntKind.i64 0))) fun t19 =>
  wpB (gd (gv t16 false t19) true (pureRun Try.prog (Instr.indexAt 48 (gv (gv t16 false t19) true x0) (gv (gv t16 false t19) true x3)))) fun t23 =>
  wpB (gd (gv t16 false t19) true (pureRun Try.prog (Instr.fieldAt 59 t23 3))) fun t24 =>
  wpB (gd (gv t16 false t19) true (ldv Try.prog 3 t24 w)) fun t25 =>
  wpB (gd (gv t16 false t19) true (bp Try.prog .sub 3 (gv (gv t16 false t19) true x3) (Go.Value.int Go.IntKind.i64 1))) fun t28 =>
  wpB (gd (gv t16 false t19) true (pureRun Try.prog (Instr.indexAt 48 (gv (gv t16 false t19) true x0) t28))) fun t29 =>
  wpB (gd (gv t16 false t19) true (pureRun Try.prog (Instr.fieldAt 59 t29 3))) fun t30 =>
  wpB (gd (gv t16 false t19) true (ldv Try.prog 3 t30 w)) fun t31 =>
  wpB (gd (gv t16 false t19) true (bp Try.prog .leq 3 t25 t31)) fun t32 =>
  wpB (gd t16 false (pickv (gv t16 false t19) (some t32) (some (Go.Value.bool false)))) fun t33 =>
  wpB (pickv t16 (some (Go.Value.bool true)) (some t33)) fun t34 =>
  cnd t34
  (Q (Go.Value.bool false) w)
  (P43_1 x0 x3 (Go.Value.int Go.IntKind.i64 0) w Q))
  (Q (Go.Value.bool true) w)
def L43_1 (x0 x3 x4 : Value) (w : World) (Q : Value → World → Prop) : Prop :=
  wpB (bp Try.prog .lss 3 x4 x3) fun t37 =>
  cnd t37
  (wpB (pureRun Try.prog (Instr.indexAt 48 x0 x3)) fun t42 =>
  wpB (ldv Try.prog 59 t42 w.drew) fun t43 =>
  wpB (pureRun Try.prog (Instr.indexAt 48 x0 x4)) fun t46 =>
  wpB (ldv Try.prog 59 t46 w.drew) fun t47 =>
  CallR Try.prog 63 [t43, t47] w.drew fun t48 w =>
  wpB (gd t48 false (pureRun Try.prog (Instr.indexAt 48 (gv t48 false x0) (gv t48 false x4)))) fun t52 =>
  wpB (gd t48 false (pureRun Try.prog (Instr.fieldAt 59 t52 0))) fun t53 =>
  wpB (gd t48 false (ldv Try.prog 3 t53 w)) fun t54 =>
  wpB (gd t48 false (pureRun Try.prog (Instr.indexAt 48 (gv t48 false x0) (gv t48 false x3)))) fun t57 =>
  wpB (gd t48 false (pureRun Try.prog (Instr.fieldAt 59 t57 0))) fun t58 =>
  wpB (gd t48 false (ldv Try.prog 3 t58 w)) fun t59 =>
  wpB (gd t48 false (be Try.prog .eql 3 (.tmp 54) (.tmp 59) t54 t59)) fun t60 =>
  wpB (gd (gv t48 false t60) true (pureRun Try.prog (Instr.indexAt 48 (gv (gv t48 false t60) true x0) (gv (gv t48 false t60) true x4)))) fun t64 =>
  wpB (gd (gv t48 false t60) true (ldv Try.prog 59 t64 w)) fun t65 =>
  wpB (gd (gv t48 false t60) true (pureRun Try.prog (Instr.indexAt 48 (gv (gv t48 false t60) true x0) (gv (gv t48 false t60) true x3)))) fun t68 =>
  wpB (gd (gv t48 false t60) true (ldv Try.prog 59 t68 w)) fun t69 =>
  gE (gv t48 false t60) true (CallR Try.prog 45 [t65, t69] w) (fun t70 w =>
  wpB (gd (gv t48 false t60) true (pureRun Try.prog (Op.unary .not t70))) fun t71 =>
  wpB (gd (gv (gv t48 false t60) true t71) false (pureRun Try.prog (Instr.indexAt 48 (gv (gv (gv t48 false t60) true t71) false x0) (gv (gv (gv t48 false t60) true t71) false x3)))) fun t75 =>
  wpB (gd (gv (gv t48 false t60) true t71) false (pureRun Try.prog (Instr.fieldAt 59 t75 1))) fun t76 =>
  wpB (gd (gv (gv t48 false t60) true t71) false (ldv Try.prog 3 t76 w)) fun t77 =>
  wpB (gd (gv (gv t48 false t60) true t71) false (pureRun Try.prog (Instr.indexAt 48 (gv (gv (gv t48 false t60) true t71) false x0) (gv (gv (gv t48 false t60) true t71) false x4)))) fun t80 =>
  wpB (gd (gv (gv t48 false t60) true t71) false (pureRun Try.prog (Instr.fieldAt 59 t80 1))) fun t81 =>
  wpB (gd (gv (gv t48 false t60) true t71) false (ldv Try.prog 3 t81 w)) fun t82 =>
  wpB (gd (gv (gv t48 false t60) true t71) false (bp Try.prog .leq 3 t77 t82)) fun t83 =>
  wpB (gd (gv t48 false t60) true (pickv (gv (gv t48 false t60) true t71) (some (Go.Value.bool true)) (some t83))) fun t84 =>
  wpB (gd t48 false (pickv (gv t48 false t60) (some t84) (some (Go.Value.bool false)))) fun t85 =>
  wpB (pickv t48 (some (Go.Value.bool true)) (some t85)) fun t86 =>
  cnd t86
  (Q (Go.Value.bool false) w)
  (wpB (bp Try.prog .add 3 x4 (Go.Value.int Go.IntKind.i64 1)) fun t39 =>
  P43_1 x0 x3 t39 w Q)) w)
  (wpB (bp Try.prog .add 3 x3 (Go.Value.int Go.IntKind.i64 1)) fun t10 =>
  P43_0 x0 t10 w Q)
theorem F43_ok {a0 : Value} {w : World} {Q : Value → World → Prop} (h : F43 a0 w Q) : CallR Try.prog 43 [a0] w Q :=
  have e : evC Try.prog (entR 3 80) 43 87 H43 Q C43 [] (entryE 0 [a0]) w (contT Try.prog (entR 3 80) 43 87 H43 Try.f43.results.toList Q []) = F43 a0 w Q := by kernel_rfl
  call_of (fn := Try.f43) mixed entOk Try.func43 (c := C43) rfl H43 (Nat.le_of_ble_eq_true rfl) (e.mpr h)
theorem L43_0_ok {x0 x3 : Value} {w : World} {Q : Value → World → Prop} (h : L43_0 x0 x3 w Q) : P43_0 x0 x3 w Q :=
  have e : evC Try.prog (entR 3 80) 43 87 H43 Q (nav [1, 0, 1, 4, 5] C43) T43_0 (unpack [0, 3] [x0, x3]) w (contT Try.prog (entR 3 80) 43 87 H43 Try.f43.results.toList Q T43_0) = L43_0 x0 x3 w Q := by kernel_rfl
  part_lp (fn := Try.f43) mixed entOk Try.func43 H43 (c := (nav [1, 0, 1, 4, 5] C43)) (t := [.blk 0, .jn (nav [1, 1] C43)]) (e.mpr h)
theorem L43_1_ok {x0 x3 x4 : Value} {w : World} {Q : Value → World → Prop} (h : L43_1 x0 x3 x4 w Q) : P43_1 x0 x3 x4 w Q :=
  have e : evC Try.prog (entR 3 80) 43 87 H43 Q (nav [1, 0, 1, 4, 5, 1, 0, 4, 1, 1, 4, 5] C43) T43_1 (unpack [0, 3, 4] [x0, x3, x4]) w (contT Try.prog (entR 3 80) 43 87 H43 Try.f43.results.toList Q T43_1) = L43_1 x0 x3 x4 w Q := by kernel_rfl
  part_lp (fn := Try.f43) mixed entOk Try.func43 H43 (c := (nav [1, 0, 1, 4, 5, 1, 0, 4, 1, 1, 4, 5] C43)) (t := [.blk 2, .blk 1, .jn (nav [1, 0, 1, 4, 5, 1, 1] C43), .lp (nav [1, 0, 1, 4, 5] C43), .blk 0, .jn (nav [1, 1] C43)]) (e.mpr h)

/-! ### rundale/record.Ahead: function 44 -/
noncomputable def C44 : Code := (Try.f44.body).getD .skip
noncomputable def H44 : Hints := ⟨[], [], []⟩
def F44 (a0 a1 : Value) (w : World) (Q : Value → World → Prop) : Prop :=
  effv Try.prog (Instr.box 59 a0) w fun t2 w =>
  effv Try.prog (Instr.box 59 a1) w fun t3 w =>
  wpB (pureRun Try.prog (Instr.fieldAt 59 t2 6)) fun t5 =>
  wpB (ldv Try.prog 3 t5 w) fun t6 =>
  wpB (bp Try.prog .geq 3 t6 (Go.Value.int Go.IntKind.i64 0)) fun t7 =>
  wpB (gd t7 true (pureRun Try.prog (Instr.fieldAt 59 t2 6))) fun t9 =>
  wpB (gd t7 true (ldv Try.prog 3 t9 w)) fun t10 =>
  wpB (gd t7 true (pureRun Try.prog (Instr.fieldAt 59 t3 3))) fun t11 =>
  wpB (gd t7 true (ldv Try.prog 3 t11 w)) fun t12 =>
  wpB (gd t7 true (bp Try.prog .lss 3 t10 t12)) fun t13 =>
  wpB (pickv t7 (some t13) (some (Go.Value.bool false))) fun t14 =>
  Q t14 w
theorem F44_ok {a0 a1 : Value} {w : World} {Q : Value → World → Prop} (h : F44 a0 a1 w Q) : CallR Try.prog 44 [a0, a1] w Q :=
  have e : evC Try.prog (entR 3 80) 44 15 H44 Q C44 [] (entryE 0 [a0, a1]) w (contT Try.prog (entR 3 80) 44 15 H44 Try.f44.results.toList Q []) = F44 a0 a1 w Q := by kernel_rfl
  call_of (fn := Try.f44) mixed entOk Try.func44 (c := C44) rfl H44 (Nat.le_of_ble_eq_true rfl) (e.mpr h)

/-! ### rundale/rundaleref18.Ahead: function 45 -/
noncomputable def C45 : Code := (Try.f45.body).getD .skip
noncomputable def H45 : Hints := ⟨[], [], []⟩
def F45 (a0 a1 : Value) (w : World) (Q : Value → World → Prop) : Prop :=
  effv Try.prog (Instr.box 59 a0) w fun t2 w =>
  effv Try.prog (Instr.box 59 a1) w fun t3 w =>
  wpB (pureRun Try.prog (Instr.fieldAt 59 t2 6)) fun t5 =>
  wpB (ldv Try.prog 3 t5 w) fun t6 =>
  wpB (bp Try.prog .geq 3 t6 (Go.Value.int Go.IntKind.i64 0)) fun t7 =>
  wpB (gd t7 true (pureRun Try.prog (Instr.fieldAt 59 t2 6))) fun t9 =>
  wpB (gd t7 true (ldv Try.prog 3 t9 w)) fun t10 =>
  wpB (gd t7 true (pureRun Try.prog (Instr.fieldAt 59 t3 3))) fun t11 =>
  wpB (gd t7 true (ldv Try.prog 3 t11 w)) fun t12 =>
  wpB (gd t7 true (bp Try.prog .lss 3 t10 t12)) fun t13 =>
  wpB (pickv t7 (some t13) (some (Go.Value.bool false))) fun t14 =>
  Q t14 w
theorem F45_ok {a0 a1 : Value} {w : World} {Q : Value → World → Prop} (h : F45 a0 a1 w Q) : CallR Try.prog 45 [a0, a1] w Q :=
  have e : evC Try.prog (entR 3 80) 45 15 H45 Q C45 [] (entryE 0 [a0, a1]) w (contT Try.prog (entR 3 80) 45 15 H45 Try.f45.results.toList Q []) = F45 a0 a1 w Q := by kernel_rfl
  call_of (fn := Try.f45) mixed entOk Try.func45 (c := C45) rfl H45 (Nat.le_of_ble_eq_true rfl) (e.mpr h)

/-! ### rundale/record.New: function 46 -/
noncomputable def C46 : Code := (Try.f46.body).getD .skip
noncomputable def H46 : Hints := ⟨[], [], []⟩
def F46 (a0 : Value) (w : World) (Q : Value → World → Prop) : Prop :=
  effv Try.prog (Instr.buildSlice 28 1 #[(0, (Go.Value.int Go.IntKind.i64 (-1)))]) w fun t3 w =>
  wpB (pureRun Try.prog (Builtin.max_ #[3, 3] 3 #[a0, (Go.Value.int Go.IntKind.i64 1)])) fun t5 =>
  wpB (pureRun Try.prog (Builtin.min_ #[3, 3] 3 #[t5, (Go.Value.int Go.IntKind.i64 64)])) fun t6 =>
  CallR Try.prog 64 [t3, t6] w fun t7 w =>
  wpB (pureRun Try.prog (Instr.build 80 #[(1, t7)])) fun t8 =>
  effv Try.prog (Instr.box 80 t8) w fun t9 w =>
  Q t9 w
theorem F46_ok {a0 : Value} {w : World} {Q : Value → World → Prop} (h : F46 a0 w Q) : CallR Try.prog 46 [a0] w Q :=
  have e : evC Try.prog (entR 3 80) 46 10 H46 Q C46 [] (entryE 0 [a0]) w (contT Try.prog (entR 3 80) 46 10 H46 Try.f46.results.toList Q []) = F46 a0 w Q := by kernel_rfl
  call_of (fn := Try.f46) mixed entOk Try.func46 (c := C46) rfl H46 (Nat.le_of_ble_eq_true rfl) (e.mpr h)

/-! ### (*rundale/record.Record).Begin: function 47 -/
noncomputable def C47 : Code := (Try.f47.body).getD .skip
noncomputable def H47 : Hints := ⟨[], [], [(5, (.leaf [0, 1, 2, 3, 4, 5, 6, 7, 8, 9, 10, 11, 12, 13, 14]))]⟩
def F47 (a0 a1 a2 a3 a4 : Value) (w : World) (Q : Value → World → Prop) : Prop :=
  effv Try.prog (Instr.box 52 a3) w fun t8 w =>
  wpB (bp Try.prog .lss 3 a1 (Go.Value.int Go.IntKind.i64 0)) fun t14 =>
  wpB (gd t14 false (nilv (gv t14 false a0))) fun t18 =>
  wpB (gd t14 false (pureRun Try.prog (Instr.fieldAt 80 t18 1))) fun t19 =>
  wpB (gd t14 false (ldv Try.prog 28 t19 w)) fun t20 =>
  wpB (gd t14 false (pureRun Try.prog (Builtin.len_ #[28] 3 #[t20]))) fun t21 =>
  wpB (gd t14 false (bp Try.prog .geq 3 (gv t14 false a1) t21)) fun t22 =>
  wpB (pickv t14 (some (Go.Value.bool true)) (some t22)) fun t23 =>
  wpB (gd t23 false (nilv (gv t23 false a0))) fun t26 =>
  wpB (gd t23 false (pureRun Try.prog (Instr.fieldAt 80 t26 1))) fun t27 =>
  wpB (gd t23 false (ldv Try.prog 28 t27 w)) fun t28 =>
  wpB (gd t23 false (pureRun Try.prog (Instr.indexAt 28 t28 (gv t23 false a1)))) fun t30 =>
  wpB (gd t23 false (ldv Try.prog 3 t30 w)) fun t31 =>
  wpB (gd t23 false (bp Try.prog .geq 3 t31 (Go.Value.int Go.IntKind.i64 0))) fun t32 =>
  wpB (pickv t23 (some (Go.Value.bool true)) (some t32)) fun t33 =>
  gE t33 false (CallR Try.prog 65 [(gv t33 false a0), (gv t33 false a4)] w) (fun t37 w =>
  wpB (gd t33 false (pureRun Try.prog (Op.unary .not t37))) fun t38 =>
  wpB (pickv t33 (some (Go.Value.bool true)) (some t38)) fun t39 =>
  cnd t39
  (Q (.tuple #[(Go.Value.int Go.IntKind.i64 0), (Go.Value.int Go.IntKind.i64 1)]) w)
  (wpB (nilv a0) fun t41 =>
  wpB (pureRun Try.prog (Instr.fieldAt 80 t41 0)) fun t42 =>
  wpB (ldv Try.prog 48 t42 w) fun t43 =>
  wpB (pureRun Try.prog (Builtin.len_ #[48] 3 #[t43])) fun t44 =>
  wpB (nilv a0) fun t46 =>
  wpB (pureRun Try.prog (Instr.fieldAt 80 t46 1)) fun t47 =>
  wpB (ldv Try.prog 28 t47 w) fun t48 =>
  wpB (pureRun Try.prog (Instr.indexAt 28 t48 a1)) fun t51 =>
  effu Try.prog (Instr.storeAt 3 t51 t44) w fun w =>
  wpB (nilv a0) fun t54 =>
  wpB (pureRun Try.prog (Instr.fieldAt 80 t54 0)) fun t55 =>
  wpB (ldv Try.prog 48 t55 w.drew) fun t56 =>
  wpB (ldv Try.prog 52 t8 w.drew) fun t59 =>
  wpB (pureRun Try.prog (Instr.build 59 #[(0, a1), (1, a2), (2, t59), (3, a4), (4, (Go.Value.int Go.IntKind.i64 (-1))), (5, (Go.Value.int Go.IntKind.i64 (-1))), (6, (Go.Value.int Go.IntKind.i64 (-1)))])) fun t61 =>
  effv Try.prog (Instr.buildSlice 48 1 #[(0, t61)]) w.drew fun t62 w =>
  effv Try.prog (Builtin.append_ #[48, 48] 48 #[t56, t62]) w fun t63 w =>
  wpB (nilv a0) fun t64 =>
  wpB (pureRun Try.prog (Instr.fieldAt 80 t64 0)) fun t65 =>
  effu Try.prog (Instr.storeAt 48 t65 t63) w fun w =>
  Q (.tuple #[t44, (Go.Value.int Go.IntKind.i64 0)]) w)) w
theorem F47_ok {a0 a1 a2 a3 a4 : Value} {w : World} {Q : Value → World → Prop} (h : F47 a0 a1 a2 a3 a4 w Q) : CallR Try.prog 47 [a0, a1, a2, a3, a4] w Q :=
  have e : evC Try.prog (entR 3 80) 47 67 H47 Q C47 [] (entryE 0 [a0, a1, a2, a3, a4]) w (contT Try.prog (entR 3 80) 47 67 H47 Try.f47.results.toList Q []) = F47 a0 a1 a2 a3 a4 w Q := by kernel_rfl
  call_of (fn := Try.f47) mixed entOk Try.func47 (c := C47) rfl H47 (Nat.le_of_ble_eq_true rfl) (e.mpr h)

/-! ### (*rundale/record.Record).Point: function 48 -/
noncomputable def C48 : Code := (Try.f48.body).getD .skip
noncomputable def H48 : Hints := ⟨[], [(5, [])], [(4, (.ask 3 6 (.leaf [0, 1, 2, 3, 4, 5, 6, 7, 8, 9]) (.leaf [0, 1, 2, 4, 5, 6, 3, 7, 8, 9])))]⟩
noncomputable def T48_0 : List It := [.jn (nav [1, 1, 1, 1] C48)]
/-- (*rundale/record.Record).Point, from a join on -/
def P48_0 (w : World) (Q : Value → World → Prop) : Prop := Part Try.prog 48 T48_0 [] [] w Q
def F48 (a0 a1 a2 a3 : Value) (w : World) (Q : Value → World → Prop) : Prop :=
  effv Try.prog (Instr.box 57 a3) w fun t7 w =>
  CallR Try.prog 66 [a0, a1] w fun t12 w =>
  wpB (be Try.prog .eql 82 (.tmp 13) (.const (Go.Value.pointer none)) t12 (Go.Value.pointer none)) fun t14 =>
  wpB (gd t14 false (nilv (gv t14 false t12))) fun t17 =>
  wpB (gd t14 false (pureRun Try.prog (Instr.fieldAt 59 t17 4))) fun t18 =>
  wpB (gd t14 false (ldv Try.prog 3 t18 w)) fun t19 =>
  wpB (gd t14 false (bp Try.prog .geq 3 t19 (Go.Value.int Go.IntKind.i64 0))) fun t20 =>
  wpB (pickv t14 (some (Go.Value.bool true)) (some t20)) fun t21 =>
  gE t21 false (CallR Try.prog 65 [(gv t21 false a0), (gv t21 false a2)] w) (fun t25 w =>
  wpB (gd t21 false (pureRun Try.prog (Op.unary .not t25))) fun t26 =>
  wpB (pickv t21 (some (Go.Value.bool true)) (some t26)) fun t27 =>
  cnd t27
  (Q (Go.Value.int Go.IntKind.i64 1) w)
  ((wpB (ldv Try.prog 57 t7 w.drew) fun t31 =>
  wpB (nilv t12) fun t32 =>
  wpB (pureRun Try.prog (Instr.fieldAt 59 t32 4)) fun t33 =>
  effu Try.prog (Instr.storeAt 3 t33 a2) w.drew fun w =>
  wpB (nilv t12) fun t34 =>
  wpB (pureRun Try.prog (Instr.fieldAt 59 t34 7)) fun t35 =>
  effu Try.prog (Instr.storeAt 57 t35 t31) w fun w =>
  P48_0 w Q) ∧
  (wpB (nilv t12) fun t32_1 =>
  wpB (pureRun Try.prog (Instr.fieldAt 59 t32_1 4)) fun t33_1 =>
  effu Try.prog (Instr.storeAt 3 t33_1 a2) w.drew fun w =>
  wpB (ldv Try.prog 57 t7 w) fun t31_1 =>
  wpB (nilv t12) fun t34_1 =>
  wpB (pureRun Try.prog (Instr.fieldAt 59 t34_1 7)) fun t35_1 =>
  effu Try.prog (Instr.storeAt 57 t35_1 t31_1) w fun w =>
  P48_0 w Q))) w
def L48_0 (w : World) (Q : Value → World → Prop) : Prop :=
  Q (Go.Value.int Go.IntKind.i64 0) w
theorem F48_ok {a0 a1 a2 a3 : Value} {w : World} {Q : Value → World → Prop} (h : F48 a0 a1 a2 a3 w Q) : CallR Try.prog 48 [a0, a1, a2, a3] w Q :=
  have e : evC Try.prog (entR 3 80) 48 36 H48 Q C48 [] (entryE 0 [a0, a1, a2, a3]) w (contT Try.prog (entR 3 80) 48 36 H48 Try.f48.results.toList Q []) = F48 a0 a1 a2 a3 w Q := by kernel_rfl
  call_of (fn := Try.f48) mixed entOk Try.func48 (c := C48) rfl H48 (Nat.le_of_ble_eq_true rfl) (e.mpr h)
theorem L48_0_ok {w : World} {Q : Value → World → Prop} (h : L48_0  w Q) : P48_0  w Q :=
  have e : evC Try.prog (entR 3 80) 48 36 H48 Q (nav [1, 1, 1, 1] C48) [] (unpack [] []) w (contT Try.prog (entR 3 80) 48 36 H48 Try.f48.results.toList Q []) = L48_0  w Q := by kernel_rfl
  part_jn (fn := Try.f48) mixed entOk Try.func48 H48 (c := (nav [1, 1, 1, 1] C48)) (t := []) (e.mpr h)

/-! ### (*rundale/record.Record).End: function 49 -/
noncomputable def C49 : Code := (Try.f49.body).getD .skip
noncomputable def H49 : Hints := ⟨[], [(5, [0, 9])], [(4, (.ask 3 6 (.leaf [0, 1, 2, 3, 4, 5, 6, 7, 8, 9]) (.leaf [0, 1, 2, 4, 5, 6, 3, 7, 8, 9]))), (5, (.leaf [0, 1, 2, 3, 4, 5, 6, 7, 8, 9]))]⟩
noncomputable def T49_0 : List It := [.jn (nav [1, 1, 1, 1] C49)]
/-- (*rundale/record.Record).End, from a join on -/
def P49_0 (x0 x9 : Value) (w : World) (Q : Value → World → Prop) : Prop := Part Try.prog 49 T49_0 [0, 9] [x0, x9] w Q
def F49 (a0 a1 a2 a3 : Value) (w : World) (Q : Value → World → Prop) : Prop :=
  effv Try.prog (Instr.box 57 a3) w fun t7 w =>
  CallR Try.prog 66 [a0, a1] w fun t12 w =>
  wpB (be Try.prog .eql 82 (.tmp 13) (.const (Go.Value.pointer none)) t12 (Go.Value.pointer none)) fun t14 =>
  wpB (gd t14 false (nilv (gv t14 false t12))) fun t17 =>
  wpB (gd t14 false (pureRun Try.prog (Instr.fieldAt 59 t17 4))) fun t18 =>
  wpB (gd t14 false (ldv Try.prog 3 t18 w)) fun t19 =>
  wpB (gd t14 false (bp Try.prog .lss 3 t19 (Go.Value.int Go.IntKind.i64 0))) fun t20 =>
  wpB (pickv t14 (some (Go.Value.bool true)) (some t20)) fun t21 =>
  gE t21 false (CallR Try.prog 65 [(gv t21 false a0), (gv t21 false a2)] w) (fun t25 w =>
  wpB (gd t21 false (pureRun Try.prog (Op.unary .not t25))) fun t26 =>
  wpB (pickv t21 (some (Go.Value.bool true)) (some t26)) fun t27 =>
  cnd t27
  (Q (Go.Value.int Go.IntKind.i64 1) w)
  ((wpB (ldv Try.prog 57 t7 w.drew) fun t31 =>
  wpB (nilv t12) fun t32 =>
  wpB (pureRun Try.prog (Instr.fieldAt 59 t32 6)) fun t33 =>
  effu Try.prog (Instr.storeAt 3 t33 a2) w.drew fun w =>
  wpB (nilv t12) fun t34 =>
  wpB (pureRun Try.prog (Instr.fieldAt 59 t34 7)) fun t35 =>
  effu Try.prog (Instr.storeAt 57 t35 t31) w fun w =>
  P49_0 a0 t12 w Q) ∧
  (wpB (nilv t12) fun t32_1 =>
  wpB (pureRun Try.prog (Instr.fieldAt 59 t32_1 6)) fun t33_1 =>
  effu Try.prog (Instr.storeAt 3 t33_1 a2) w.drew fun w =>
  wpB (ldv Try.prog 57 t7 w) fun t31_1 =>
  wpB (nilv t12) fun t34_1 =>
  wpB (pureRun Try.prog (Instr.fieldAt 59 t34_1 7)) fun t35_1 =>
  effu Try.prog (Instr.storeAt 57 t35_1 t31_1) w fun w =>
  P49_0 a0 t12 w Q))) w
def L49_0 (x0 x9 : Value) (w : World) (Q : Value → World → Prop) : Prop :=
  wpB (nilv x0) fun t37 =>
  wpB (pureRun Try.prog (Instr.fieldAt 80 t37 1)) fun t38 =>
  wpB (ldv Try.prog 28 t38 w.drew) fun t39 =>
  wpB (nilv x9) fun t41 =>
  wpB (pureRun Try.prog (Instr.fieldAt 59 t41 0)) fun t42 =>
  wpB (ldv Try.prog 3 t42 w.drew) fun t43 =>
  wpB (pureRun Try.prog (Instr.indexAt 28 t39 t43)) fun t44 =>
  effu Try.prog (Instr.storeAt 3 t44 (Go.Value.int Go.IntKind.i64 (-1))) w.drew fun w =>
  Q (Go.Value.int Go.IntKind.i64 0) w
theorem F49_ok {a0 a1 a2 a3 : Value} {w : World} {Q : Value → World → Prop} (h : F49 a0 a1 a2 a3 w Q) : CallR Try.prog 49 [a0, a1, a2, a3] w Q :=
  have e : evC Try.prog (entR 3 80) 49 45 H49 Q C49 [] (entryE 0 [a0, a1, a2, a3]) w (contT Try.prog (entR 3 80) 49 45 H49 Try.f49.results.toList Q []) = F49 a0 a1 a2 a3 w Q := by kernel_rfl
  call_of (fn := Try.f49) mixed entOk Try.func49 (c := C49) rfl H49 (Nat.le_of_ble_eq_true rfl) (e.mpr h)
theorem L49_0_ok {x0 x9 : Value} {w : World} {Q : Value → World → Prop} (h : L49_0 x0 x9 w Q) : P49_0 x0 x9 w Q :=
  have e : evC Try.prog (entR 3 80) 49 45 H49 Q (nav [1, 1, 1, 1] C49) [] (unpack [0, 9] [x0, x9]) w (contT Try.prog (entR 3 80) 49 45 H49 Try.f49.results.toList Q []) = L49_0 x0 x9 w Q := by kernel_rfl
  part_jn (fn := Try.f49) mixed entOk Try.func49 H49 (c := (nav [1, 1, 1, 1] C49)) (t := []) (e.mpr h)

/-! ### (*rundale/record.Record).List: function 50 -/
noncomputable def C50 : Code := (Try.f50.body).getD .skip
noncomputable def H50 : Hints := ⟨[], [], []⟩
def F50 (a0 : Value) (w : World) (Q : Value → World → Prop) : Prop :=
  wpB (nilv a0) fun t4 =>
  wpB (pureRun Try.prog (Instr.fieldAt 80 t4 0)) fun t5 =>
  wpB (ldv Try.prog 48 t5 w) fun t6 =>
  CallR Try.prog 67 [t6] w fun t7 w =>
  Q t7 w
theorem F50_ok {a0 : Value} {w : World} {Q : Value → World → Prop} (h : F50 a0 w Q) : CallR Try.prog 50 [a0] w Q :=
  have e : evC Try.prog (entR 3 80) 50 8 H50 Q C50 [] (entryE 0 [a0]) w (contT Try.prog (entR 3 80) 50 8 H50 Try.f50.results.toList Q []) = F50 a0 w Q := by kernel_rfl
  call_of (fn := Try.f50) mixed entOk Try.func50 (c := C50) rfl H50 (Nat.le_of_ble_eq_true rfl) (e.mpr h)

/-! ### (*rundale/script.reader).num: function 55 -/
noncomputable def C55 : Code := (Try.f55.body).getD .skip
noncomputable def H55 : Hints := ⟨[(6, [0, 1, 5, 23, 24])], [], []⟩
noncomputable def T55_0 : List It := [.lp (nav [1, 1, 1, 0, 1, 4, 5] C55), .blk 0, .jn (nav [1, 1, 1, 1] C55)]
/-- (*rundale/script.reader).num, from a loop's head on -/
def P55_0 (x0 x1 x5 x23 x24 : Value) (w : World) (Q : Value → World → Prop) : Prop := Part Try.prog 55 T55_0 [0, 1, 5, 23, 24] [x0, x1, x5, x23, x24] w Q
def F55 (a0 a1 : Value) (w : World) (Q : Value → World → Prop) : Prop :=
  wpB (nilv a0) fun t8 =>
  wpB (pureRun Try.prog (Instr.fieldAt 70 t8 1)) fun t9 =>
  wpB (ldv Try.prog 4 t9 w) fun t10 =>
  wpB (gd t10 false (nilv (gv t10 false a0))) fun t13 =>
  wpB (gd t10 false (pureRun Try.prog (Instr.fieldAt 70 t13 0))) fun t14 =>
  wpB (gd t10 false (ldv Try.prog 40 t14 w)) fun t15 =>
  wpB (gd t10 false (pureRun Try.prog (Builtin.len_ #[40] 3 #[t15]))) fun t16 =>
  wpB (gd t10 false (bp Try.prog .lss 3 t16 (gv t10 false a1))) fun t18 =>
  wpB (pickv t10 (some (Go.Value.bool true)) (some t18)) fun t19 =>
  cnd t19
  (wpB (nilv a0) fun t21 =>
  wpB (pureRun Try.prog (Instr.fieldAt 70 t21 1)) fun t22 =>
  effu Try.prog (Instr.storeAt 4 t22 (Go.Value.bool true)) w fun w =>
  Q (Go.Value.int Go.IntKind.u64 0) w)
  (P55_0 a0 a1 (Go.Value.int Go.IntKind.u64 0) a1 (Go.Value.int Go.IntKind.i64 0) w Q)
def L55_0 (x0 x1 x5 x23 x24 : Value) (w : World) (Q : Value → World → Prop) : Prop :=
  wpB (bp Try.prog .lss 3 x24 x23) fun t25 =>
  cnd t25
  (wpB (nilv x0) fun t29 =>
  wpB (pureRun Try.prog (Instr.fieldAt 70 t29 0)) fun t30 =>
  wpB (ldv Try.prog 40 t30 w) fun t31 =>
  wpB (pureRun Try.prog (Instr.indexAt 40 t31 x24)) fun t33 =>
  wpB (ldv Try.prog 5 t33 w) fun t34 =>
  wpB (pureRun Try.prog (convert 5 33 t34)) fun t35 =>
  wpB (bp Try.prog .mul 3 (Go.Value.int Go.IntKind.i64 8) x24) fun t37 =>
  wpB (bp Try.prog .shl 33 t35 t37) fun t38 =>
  wpB (bp Try.prog .or 33 x5 t38) fun t39 =>
  wpB (bp Try.prog .add 3 x24 (Go.Value.int Go.IntKind.i64 1)) fun t40 =>
  P55_0 x0 x1 t39 x23 t40 w Q)
  (wpB (nilv x0) fun t43 =>
  wpB (pureRun Try.prog (Instr.fieldAt 70 t43 0)) fun t44 =>
  wpB (ldv Try.prog 40 t44 w) fun t45 =>
  wpB (pureRun Try.prog (Instr.sliceAt 40 t45 (some x1) none none)) fun t47 =>
  wpB (nilv x0) fun t48 =>
  wpB (pureRun Try.prog (Instr.fieldAt 70 t48 0)) fun t49 =>
  effu Try.prog (Instr.storeAt 40 t49 t47) w fun w =>
  Q x5 w)
theorem F55_ok {a0 a1 : Value} {w : World} {Q : Value → World → Prop} (h : F55 a0 a1 w Q) : CallR Try.prog 55 [a0, a1] w Q :=
  have e : evC Try.prog (entR 3 80) 55 51 H55 Q C55 [] (entryE 0 [a0, a1]) w (contT Try.prog (entR 3 80) 55 51 H55 Try.f55.results.toList Q []) = F55 a0 a1 w Q := by kernel_rfl
  call_of (fn := Try.f55) mixed entOk Try.func55 (c := C55) rfl H55 (Nat.le_of_ble_eq_true rfl) (e.mpr h)
theorem L55_0_ok {x0 x1 x5 x23 x24 : Value} {w : World} {Q : Value → World → Prop} (h : L55_0 x0 x1 x5 x23 x24 w Q) : P55_0 x0 x1 x5 x23 x24 w Q :=
  have e : evC Try.prog (entR 3 80) 55 51 H55 Q (nav [1, 1, 1, 0, 1, 4, 5] C55) T55_0 (unpack [0, 1, 5, 23, 24] [x0, x1, x5, x23, x24]) w (contT Try.prog (entR 3 80) 55 51 H55 Try.f55.results.toList Q T55_0) = L55_0 x0 x1 x5 x23 x24 w Q := by kernel_rfl
  part_lp (fn := Try.f55) mixed entOk Try.func55 H55 (c := (nav [1, 1, 1, 0, 1, 4, 5] C55)) (t := [.blk 0, .jn (nav [1, 1, 1, 1] C55)]) (e.mpr h)

/-! ### (*rundale/script.reader).op: function 56 -/
noncomputable def C56 : Code := (Try.f56.body).getD .skip
noncomputable def H56 : Hints := ⟨[], [(5, [0, 2, 3, 5, 6, 7]), (7, [0, 2, 3, 6, 7]), (9, [0, 2, 3, 7]), (11, [2, 3])], []⟩
noncomputable def T56_0 : List It := [.jn (nav [1, 1, 1, 1] C56)]
noncomputable def T56_1 : List It := [.jn (nav [1, 1, 1, 1, 1] C56)]
noncomputable def T56_2 : List It := [.jn (nav [1, 1, 1, 1, 1, 1] C56)]
noncomputable def T56_3 : List It := [.jn (nav [1, 1, 1, 1, 1, 1, 1] C56)]
/-- (*rundale/script.reader).op, from a join on -/
def P56_0 (x0 x2 x3 x5 x6 x7 : Value) (w : World) (Q : Value → World → Prop) : Prop := Part Try.prog 56 T56_0 [0, 2, 3, 5, 6, 7] [x0, x2, x3, x5, x6, x7] w Q
/-- (*rundale/script.reader).op, from a join on -/
def P56_1 (x0 x2 x3 x6 x7 : Value) (w : World) (Q : Value → World → Prop) : Prop := Part Try.prog 56 T56_1 [0, 2, 3, 6, 7] [x0, x2, x3, x6, x7] w Q
/-- (*rundale/script.reader).op, from a join on -/
def P56_2 (x0 x2 x3 x7 : Value) (w : World) (Q : Value → World → Prop) : Prop := Part Try.prog 56 T56_2 [0, 2, 3, 7] [x0, x2, x3, x7] w Q
/-- (*rundale/script.reader).op, from a join on -/
def P56_3 (x2 x3 : Value) (w : World) (Q : Value → World → Prop) : Prop := Part Try.prog 56 T56_3 [2, 3] [x2, x3] w Q
def F56 (a0 : Value) (w : World) (Q : Value → World → Prop) : Prop :=
  effv Try.prog (Instr.alloc 52 true (.tuple #[])) w fun t2 w =>
  CallR Try.prog 55 [a0, (Go.Value.int Go.IntKind.i64 1)] w fun t9 w =>
  wpB (pureRun Try.prog (convert 33 3 t9)) fun t10 =>
  wpB (pureRun Try.prog (Instr.build 52 #[(0, t10)])) fun t11 =>
  effv Try.prog (Instr.alloc 52 true (.tuple #[])) w fun t3 w =>
  effu Try.prog (Instr.storeAt 52 t3 t11) w fun w =>
  wpB (pureRun Try.prog (Instr.fieldAt 52 t3 0)) fun t13 =>
  wpB (ldv Try.prog 3 t13 w) fun t14 =>
  CallR Try.prog 68 [t14] w fun t15 w =>
  wpB (pureRun Try.prog (Instr.extract t15 0)) fun t16 =>
  wpB (pureRun Try.prog (Instr.extract t15 1)) fun t17 =>
  wpB (pureRun Try.prog (Instr.extract t15 2)) fun t18 =>
  wpB (pureRun Try.prog (Instr.extract t15 3)) fun t19 =>
  cnd t16
  (CallR Try.prog 55 [a0, (Go.Value.int Go.IntKind.i64 1)] w fun t22 w =>
  wpB (pureRun Try.prog (convert 33 3 t22)) fun t23 =>
  CallR Try.prog 55 [a0, (Go.Value.int Go.IntKind.i64 2)] w fun t25 w =>
  wpB (pureRun Try.prog (convert 33 3 t25)) fun t26 =>
  wpB (pureRun Try.prog (Instr.fieldAt 52 t3 1)) fun t27 =>
  effu Try.prog (Instr.storeAt 3 t27 t23) w fun w =>
  wpB (pureRun Try.prog (Instr.fieldAt 52 t3 2)) fun t28 =>
  effu Try.prog (Instr.storeAt 3 t28 t26) w fun w =>
  P56_0 a0 t2 t3 t17 t18 t19 w Q)
  (P56_0 a0 t2 t3 t17 t18 t19 w Q)
def L56_0 (x0 x2 x3 x5 x6 x7 : Value) (w : World) (Q : Value → World → Prop) : Prop :=
  cnd x5
  (CallR Try.prog 55 [x0, (Go.Value.int Go.IntKind.i64 2)] w fun t31 w =>
  wpB (pureRun Try.prog (convert 33 3 t31)) fun t32 =>
  wpB (pureRun Try.prog (Instr.fieldAt 52 x3 3)) fun t33 =>
  effu Try.prog (Instr.storeAt 3 t33 t32) w fun w =>
  P56_1 x0 x2 x3 x6 x7 w Q)
  (P56_1 x0 x2 x3 x6 x7 w Q)
def L56_1 (x0 x2 x3 x6 x7 : Value) (w : World) (Q : Value → World → Prop) : Prop :=
  cnd x6
  (CallR Try.prog 55 [x0, (Go.Value.int Go.IntKind.i64 8)] w fun t36 w =>
  wpB (pureRun Try.prog (Instr.fieldAt 52 x3 4)) fun t37 =>
  effu Try.prog (Instr.storeAt 33 t37 t36) w fun w =>
  P56_2 x0 x2 x3 x7 w Q)
  (P56_2 x0 x2 x3 x7 w Q)
def L56_2 (x0 x2 x3 x7 : Value) (w : World) (Q : Value → World → Prop) : Prop :=
  cnd x7
  (CallR Try.prog 55 [x0, (Go.Value.int Go.IntKind.i64 8)] w fun t40 w =>
  wpB (pureRun Try.prog (Instr.fieldAt 52 x3 5)) fun t41 =>
  effu Try.prog (Instr.storeAt 33 t41 t40) w fun w =>
  P56_3 x2 x3 w Q)
  (P56_3 x2 x3 w Q)
def L56_3 (x2 x3 : Value) (w : World) (Q : Value → World → Prop) : Prop :=
  wpB (ldv Try.prog 52 x3 w) fun t42 =>
  effu Try.prog (Instr.storeAt 52 x2 t42) w fun w =>
  wpB (ldv Try.prog 52 x2 w) fun r2 => Q r2 w
theorem F56_ok {a0 : Value} {w : World} {Q : Value → World → Prop} (h : F56 a0 w Q) : CallR Try.prog 56 [a0] w Q :=
  have e : evC Try.prog (entR 3 80) 56 43 H56 Q C56 [] (entryE 0 [a0]) w (contT Try.prog (entR 3 80) 56 43 H56 Try.f56.results.toList Q []) = F56 a0 w Q := by kernel_rfl
  call_of (fn := Try.f56) mixed entOk Try.func56 (c := C56) rfl H56 (Nat.le_of_ble_eq_true rfl) (e.mpr h)
theorem L56_0_ok {x0 x2 x3 x5 x6 x7 : Value} {w : World} {Q : Value → World → Prop} (h : L56_0 x0 x2 x3 x5 x6 x7 w Q) : P56_0 x0 x2 x3 x5 x6 x7 w Q :=
  have e : evC Try.prog (entR 3 80) 56 43 H56 Q (nav [1, 1, 1, 1] C56) [] (unpack [0, 2, 3, 5, 6, 7] [x0, x2, x3, x5, x6, x7]) w (contT Try.prog (entR 3 80) 56 43 H56 Try.f56.results.toList Q []) = L56_0 x0 x2 x3 x5 x6 x7 w Q := by kernel_rfl
  part_jn (fn := Try.f56) mixed entOk Try.func56 H56 (c := (nav [1, 1, 1, 1] C56)) (t := []) (e.mpr h)
theorem L56_1_ok {x0 x2 x3 x6 x7 : Value} {w : World} {Q : Value → World → Prop} (h : L56_1 x0 x2 x3 x6 x7 w Q) : P56_1 x0 x2 x3 x6 x7 w Q :=
  have e : evC Try.prog (entR 3 80) 56 43 H56 Q (nav [1, 1, 1, 1, 1] C56) [] (unpack [0, 2, 3, 6, 7] [x0, x2, x3, x6, x7]) w (contT Try.prog (entR 3 80) 56 43 H56 Try.f56.results.toList Q []) = L56_1 x0 x2 x3 x6 x7 w Q := by kernel_rfl
  part_jn (fn := Try.f56) mixed entOk Try.func56 H56 (c := (nav [1, 1, 1, 1, 1] C56)) (t := []) (e.mpr h)
theorem L56_2_ok {x0 x2 x3 x7 : Value} {w : World} {Q : Value → World → Prop} (h : L56_2 x0 x2 x3 x7 w Q) : P56_2 x0 x2 x3 x7 w Q :=
  have e : evC Try.prog (entR 3 80) 56 43 H56 Q (nav [1, 1, 1, 1, 1, 1] C56) [] (unpack [0, 2, 3, 7] [x0, x2, x3, x7]) w (contT Try.prog (entR 3 80) 56 43 H56 Try.f56.results.toList Q []) = L56_2 x0 x2 x3 x7 w Q := by kernel_rfl
  part_jn (fn := Try.f56) mixed entOk Try.func56 H56 (c := (nav [1, 1, 1, 1, 1, 1] C56)) (t := []) (e.mpr h)
theorem L56_3_ok {x2 x3 : Value} {w : World} {Q : Value → World → Prop} (h : L56_3 x2 x3 w Q) : P56_3 x2 x3 w Q :=
  have e : evC Try.prog (entR 3 80) 56 43 H56 Q (nav [1, 1, 1, 1, 1, 1, 1] C56) [] (unpack [2, 3] [x2, x3]) w (contT Try.prog (entR 3 80) 56 43 H56 Try.f56.results.toList Q []) = L56_3 x2 x3 w Q := by kernel_rfl
  part_jn (fn := Try.f56) mixed entOk Try.func56 H56 (c := (nav [1, 1, 1, 1, 1, 1, 1] C56)) (t := []) (e.mpr h)

/-! ### rundale/rundaleref1.SameOps: function 57 -/
noncomputable def C57 : Code := (Try.f57.body).getD .skip
noncomputable def H57 : Hints := ⟨[(4, [0, 1, 5])], [], [(6, (.leaf [0, 1, 2, 3, 4, 5, 6, 7, 8]))]⟩
noncomputable def T57_0 : List It := [.lp (nav [1, 1, 0, 1, 4, 5] C57), .blk 0, .jn (nav [1, 1, 1] C57)]
/-- rundale/rundaleref1.SameOps, from a loop's head on -/
def P57_0 (x0 x1 x5 : Value) (w : World) (Q : Value → World → Prop) : Prop := Part Try.prog 57 T57_0 [0, 1, 5] [x0, x1, x5] w Q
def F57 (a0 a1 : Value) (w : World) (Q : Value → World → Prop) : Prop :=
  wpB (pureRun Try.prog (Builtin.len_ #[67] 3 #[a0])) fun t7 =>
  wpB (pureRun Try.prog (Builtin.len_ #[67] 3 #[a1])) fun t9 =>
  wpB (be Try.prog .neq 3 (.tmp 7) (.tmp 9) t7 t9) fun t10 =>
  cnd t10
  (Q (Go.Value.bool false) w)
  (P57_0 a0 a1 (Go.Value.int Go.IntKind.i64 0) w Q)
def L57_0 (x0 x1 x5 : Value) (w : World) (Q : Value → World → Prop) : Prop :=
  wpB (pureRun Try.prog (Builtin.len_ #[67] 3 #[x0])) fun t13 =>
  wpB (bp Try.prog .lss 3 x5 t13) fun t14 =>
  cnd t14
  (wpB (pureRun Try.prog (Instr.indexAt 67 x0 x5)) fun t19 =>
  wpB (ldv Try.prog 52 t19 w.drew) fun t20 =>
  wpB (pureRun Try.prog (Instr.indexAt 67 x1 x5)) fun t23 =>
  wpB (ldv Try.prog 52 t23 w.drew) fun t24 =>
  wpB (be Try.prog .neq 52 (.tmp 20) (.tmp 24) t20 t24) fun t25 =>
  cnd t25
  (Q (Go.Value.bool false) w.drew)
  (wpB (bp Try.prog .add 3 x5 (Go.Value.int Go.IntKind.i64 1)) fun t16 =>
  P57_0 x0 x1 t16 w.drew Q))
  (Q (Go.Value.bool true) w)
theorem F57_ok {a0 a1 : Value} {w : World} {Q : Value → World → Prop} (h : F57 a0 a1 w Q) : CallR Try.prog 57 [a0, a1] w Q :=
  have e : evC Try.prog (entR 3 80) 57 26 H57 Q C57 [] (entryE 0 [a0, a1]) w (contT Try.prog (entR 3 80) 57 26 H57 Try.f57.results.toList Q []) = F57 a0 a1 w Q := by kernel_rfl
  call_of (fn := Try.f57) mixed entOk Try.func57 (c := C57) rfl H57 (Nat.le_of_ble_eq_true rfl) (e.mpr h)
theorem L57_0_ok {x0 x1 x5 : Value} {w : World} {Q : Value → World → Prop} (h : L57_0 x0 x1 x5 w Q) : P57_0 x0 x1 x5 w Q :=
  have e : evC Try.prog (entR 3 80) 57 26 H57 Q (nav [1, 1, 0, 1, 4, 5] C57) T57_0 (unpack [0, 1, 5] [x0, x1, x5]) w (contT Try.prog (entR 3 80) 57 26 H57 Try.f57.results.toList Q T57_0) = L57_0 x0 x1 x5 w Q := by kernel_rfl
  part_lp (fn := Try.f57) mixed entOk Try.func57 H57 (c := (nav [1, 1, 0, 1, 4, 5] C57)) (t := [.blk 0, .jn (nav [1, 1, 1] C57)]) (e.mpr h)

/-! ### (*rundale/rundaleref18.R).low: function 58 -/
noncomputable def C58 : Code := (Try.f58.body).getD .skip
noncomputable def H58 : Hints := ⟨[(6, [0, 1, 5, 6])], [], [(1, (.leaf [0, 1, 2, 3, 4, 5, 6, 7, 8, 9, 10, 11, 12, 13, 14, 15, 16, 17])), (8, (.leaf [0, 1, 2, 3, 4, 5, 6, 7, 8, 9, 10, 11, 12, 13, 14, 15, 16, 17, 18, 19]))]⟩
noncomputable def T58_0 : List It := [.lp (nav [1, 1, 1, 0, 1, 4, 5] C58), .blk 0, .jn (nav [1, 1, 1, 1] C58)]
/-- (*rundale/rundaleref18.R).low, from a loop's head on -/
def P58_0 (x0 x1 x5 x6 : Value) (w : World) (Q : Value → World → Prop) : Prop := Part Try.prog 58 T58_0 [0, 1, 5, 6] [x0, x1, x5, x6] w Q
def F58 (a0 a1 : Value) (w : World) (Q : Value → World → Prop) : Prop :=
  wpB (nilv a0) fun t8 =>
  wpB (pureRun Try.prog (Instr.fieldAt 76 t8 2)) fun t9 =>
  wpB (ldv Try.prog 4 t9 w.drew) fun t10 =>
  wpB (gd t10 false (nilv (gv t10 false a0))) fun t14 =>
  wpB (gd t10 false (pureRun Try.prog (Instr.fieldAt 76 t14 0))) fun t15 =>
  wpB (gd t10 false (ldv Try.prog 40 t15 w.drew)) fun t16 =>
  wpB (gd t10 false (pureRun Try.prog (Builtin.len_ #[40] 3 #[t16]))) fun t17 =>
  wpB (gd t10 false (nilv (gv t10 false a0))) fun t19 =>
  wpB (gd t10 false (pureRun Try.prog (Instr.fieldAt 76 t19 1))) fun t20 =>
  wpB (gd t10 false (ldv Try.prog 3 t20 w.drew)) fun t21 =>
  wpB (gd t10 false (bp Try.prog .sub 3 t17 t21)) fun t22 =>
  wpB (gd t10 false (bp Try.prog .gtr 3 (gv t10 false a1) t22)) fun t23 =>
  wpB (pickv t10 (some (Go.Value.bool true)) (some t23)) fun t24 =>
  cnd t24
  (wpB (nilv a0) fun t26 =>
  wpB (pureRun Try.prog (Instr.fieldAt 76 t26 2)) fun t27 =>
  effu Try.prog (Instr.storeAt 4 t27 (Go.Value.bool true)) w.drew fun w =>
  Q (Go.Value.int Go.IntKind.u64 0) w)
  (P58_0 a0 a1 (Go.Value.int Go.IntKind.u64 0) (Go.Value.int Go.IntKind.i64 0) w.drew Q)
def L58_0 (x0 x1 x5 x6 : Value) (w : World) (Q : Value → World → Prop) : Prop :=
  wpB (bp Try.prog .lss 3 x6 x1) fun t30 =>
  cnd t30
  (wpB (nilv x0) fun t35 =>
  wpB (pureRun Try.prog (Instr.fieldAt 76 t35 0)) fun t36 =>
  wpB (ldv Try.prog 40 t36 w.drew) fun t37 =>
  wpB (nilv x0) fun t39 =>
  wpB (pureRun Try.prog (Instr.fieldAt 76 t39 1)) fun t40 =>
  wpB (ldv Try.prog 3 t40 w.drew) fun t41 =>
  wpB (bp Try.prog .add 3 t41 x6) fun t43 =>
  wpB (pureRun Try.prog (Instr.indexAt 40 t37 t43)) fun t44 =>
  wpB (ldv Try.prog 5 t44 w.drew) fun t45 =>
  wpB (pureRun Try.prog (convert 5 33 t45)) fun t46 =>
  wpB (bp Try.prog .mul 3 (Go.Value.int Go.IntKind.i64 8) x6) fun t48 =>
  wpB (pureRun Try.prog (convert 3 27 t48)) fun t49 =>
  wpB (bp Try.prog .shl 33 t46 t49) fun t50 =>
  wpB (bp Try.prog .add 33 x5 t50) fun t51 =>
  wpB (bp Try.prog .add 3 x6 (Go.Value.int Go.IntKind.i64 1)) fun t32 =>
  P58_0 x0 x1 t51 t32 w.drew Q)
  (wpB (nilv x0) fun t54 =>
  wpB (pureRun Try.prog (Instr.fieldAt 76 t54 1)) fun t55 =>
  wpB (ldv Try.prog 3 t55 w) fun t56 =>
  wpB (bp Try.prog .add 3 t56 x1) fun t58 =>
  wpB (nilv x0) fun t59 =>
  wpB (pureRun Try.prog (Instr.fieldAt 76 t59 1)) fun t60 =>
  effu Try.prog (Instr.storeAt 3 t60 t58) w fun w =>
  Q x5 w)
theorem F58_ok {a0 a1 : Value} {w : World} {Q : Value → World → Prop} (h : F58 a0 a1 w Q) : CallR Try.prog 58 [a0, a1] w Q :=
  have e : evC Try.prog (entR 3 80) 58 62 H58 Q C58 [] (entryE 0 [a0, a1]) w (contT Try.prog (entR 3 80) 58 62 H58 Try.f58.results.toList Q []) = F58 a0 a1 w Q := by kernel_rfl
  call_of (fn := Try.f58) mixed entOk Try.func58 (c := C58) rfl H58 (Nat.le_of_ble_eq_true rfl) (e.mpr h)
theorem L58_0_ok {x0 x1 x5 x6 : Value} {w : World} {Q : Value → World → Prop} (h : L58_0 x0 x1 x5 x6 w Q) : P58_0 x0 x1 x5 x6 w Q :=
  have e : evC Try.prog (entR 3 80) 58 62 H58 Q (nav [1, 1, 1, 0, 1, 4, 5] C58) T58_0 (unpack [0, 1, 5, 6] [x0, x1, x5, x6]) w (contT Try.prog (entR 3 80) 58 62 H58 Try.f58.results.toList Q T58_0) = L58_0 x0 x1 x5 x6 w Q := by kernel_rfl
  part_lp (fn := Try.f58) mixed entOk Try.func58 H58 (c := (nav [1, 1, 1, 0, 1, 4, 5] C58)) (t := [.blk 0, .jn (nav [1, 1, 1, 1] C58)]) (e.mpr h)

/-! ### (*rundale/rundaleref18.R).op: function 59 -/
noncomputable def C59 : Code := (Try.f59.body).getD .skip
noncomputable def H59 : Hints := ⟨[], [(5, [0, 2, 3]), (7, [0, 2, 3]), (9, [0, 2, 3]), (11, [2, 3])], []⟩
noncomputable def T59_0 : List It := [.jn (nav [1, 1, 1] C59)]
noncomputable def T59_1 : List It := [.jn (nav [1, 1, 1, 1] C59)]
noncomputable def T59_2 : List It := [.jn (nav [1, 1, 1, 1, 1] C59)]
noncomputable def T59_3 : List It := [.jn (nav [1, 1, 1, 1, 1, 1] C59)]
/-- (*rundale/rundaleref18.R).op, from a join on -/
def P59_0 (x0 x2 x3 : Value) (w : World) (Q : Value → World → Prop) : Prop := Part Try.prog 59 T59_0 [0, 2, 3] [x0, x2, x3] w Q
/-- (*rundale/rundaleref18.R).op, from a join on -/
def P59_1 (x0 x2 x3 : Value) (w : World) (Q : Value → World → Prop) : Prop := Part Try.prog 59 T59_1 [0, 2, 3] [x0, x2, x3] w Q
/-- (*rundale/rundaleref18.R).op, from a join on -/
def P59_2 (x0 x2 x3 : Value) (w : World) (Q : Value → World → Prop) : Prop := Part Try.prog 59 T59_2 [0, 2, 3] [x0, x2, x3] w Q
/-- (*rundale/rundaleref18.R).op, from a join on -/
def P59_3 (x2 x3 : Value) (w : World) (Q : Value → World → Prop) : Prop := Part Try.prog 59 T59_3 [2, 3] [x2, x3] w Q
def F59 (a0 : Value) (w : World) (Q : Value → World → Prop) : Prop :=
  effv Try.prog (Instr.alloc 52 true (.tuple #[])) w fun t2 w =>
  CallR Try.prog 58 [a0, (Go.Value.int Go.IntKind.i64 1)] w fun t5 w =>
  wpB (pureRun Try.prog (convert 33 3 t5)) fun t6 =>
  wpB (pureRun Try.prog (Instr.build 52 #[(0, t6)])) fun t7 =>
  effv Try.prog (Instr.alloc 52 true (.tuple #[])) w fun t3 w =>
  effu Try.prog (Instr.storeAt 52 t3 t7) w fun w =>
  wpB (pureRun Try.prog (Instr.fieldAt 52 t3 0)) fun t8 =>
  wpB (ldv Try.prog 3 t8 w) fun t9 =>
  CallR Try.prog 69 [t9] w fun t10 w =>
  wpB (be Try.prog .neq 3 (.tmp 10) (.const (Go.Value.int Go.IntKind.i64 0)) t10 (Go.Value.int Go.IntKind.i64 0)) fun t11 =>
  cnd t11
  (CallR Try.prog 58 [a0, (Go.Value.int Go.IntKind.i64 1)] w fun t13 w =>
  wpB (pureRun Try.prog (convert 33 3 t13)) fun t14 =>
  wpB (pureRun Try.prog (Instr.fieldAt 52 t3 1)) fun t15 =>
  effu Try.prog (Instr.storeAt 3 t15 t14) w fun w =>
  CallR Try.prog 58 [a0, (Go.Value.int Go.IntKind.i64 2)] w fun t17 w =>
  wpB (pureRun Try.prog (convert 33 3 t17)) fun t18 =>
  wpB (pureRun Try.prog (Instr.fieldAt 52 t3 2)) fun t19 =>
  effu Try.prog (Instr.storeAt 3 t19 t18) w fun w =>
  P59_0 a0 t2 t3 w Q)
  (P59_0 a0 t2 t3 w Q)
def L59_0 (x0 x2 x3 : Value) (w : World) (Q : Value → World → Prop) : Prop :=
  wpB (pureRun Try.prog (Instr.fieldAt 52 x3 0)) fun t20 =>
  wpB (ldv Try.prog 3 t20 w) fun t21 =>
  CallR Try.prog 70 [t21] w fun t22 w =>
  cnd t22
  (CallR Try.prog 58 [x0, (Go.Value.int Go.IntKind.i64 2)] w fun t24 w =>
  wpB (pureRun Try.prog (convert 33 3 t24)) fun t25 =>
  wpB (pureRun Try.prog (Instr.fieldAt 52 x3 3)) fun t26 =>
  effu Try.prog (Instr.storeAt 3 t26 t25) w fun w =>
  P59_1 x0 x2 x3 w Q)
  (P59_1 x0 x2 x3 w Q)
def L59_1 (x0 x2 x3 : Value) (w : World) (Q : Value → World → Prop) : Prop :=
  wpB (pureRun Try.prog (Instr.fieldAt 52 x3 0)) fun t27 =>
  wpB (ldv Try.prog 3 t27 w) fun t28 =>
  CallR Try.prog 71 [t28] w fun t29 w =>
  cnd t29
  (CallR Try.prog 58 [x0, (Go.Value.int Go.IntKind.i64 8)] w fun t31 w =>
  wpB (pureRun Try.prog (Instr.fieldAt 52 x3 4)) fun t32 =>
  effu Try.prog (Instr.storeAt 33 t32 t31) w fun w =>
  P59_2 x0 x2 x3 w Q)
  (P59_2 x0 x2 x3 w Q)
def L59_2 (x0 x2 x3 : Value) (w : World) (Q : Value → World → Prop) : Prop :=
  wpB (pureRun Try.prog (Instr.fieldAt 52 x3 0)) fun t33 =>
  wpB (ldv Try.prog 3 t33 w) fun t34 =>
  wpB (be Try.prog .eql 3 (.tmp 34) (.const (Go.Value.int Go.IntKind.i64 9)) t34 (Go.Value.int Go.IntKind.i64 9)) fun t35 =>
  cnd t35
  (CallR Try.prog 58 [x0, (Go.Value.int Go.IntKind.i64 8)] w fun t37 w =>
  wpB (pureRun Try.prog (Instr.fieldAt 52 x3 5)) fun t38 =>
  effu Try.prog (Instr.storeAt 33 t38 t37) w fun w =>
  P59_3 x2 x3 w Q)
  (P59_3 x2 x3 w Q)
def L59_3 (x2 x3 : Value) (w : World) (Q : Value → World → Prop) : Prop :=
  wpB (ldv Try.prog 52 x3 w) fun t39 =>
  effu Try.prog (Instr.storeAt 52 x2 t39) w fun w =>
  wpB (ldv Try.prog 52 x2 w) fun r2 => Q r2 w
theorem F59_ok {a0 : Value} {w : World} {Q : Value → World → Prop} (h : F59 a0 w Q) : CallR Try.prog 59 [a0] w Q :=
  have e : evC Try.prog (entR 3 80) 59 40 H59 Q C59 [] (entryE 0 [a0]) w (contT Try.prog (entR 3 80) 59 40 H59 Try.f59.results.toList Q []) = F59 a0 w Q := by kernel_rfl
  call_of (fn := Try.f59) mixed entOk Try.func59 (c := C59) rfl H59 (Nat.le_of_ble_eq_true rfl) (e.mpr h)
theorem L59_0_ok {x0 x2 x3 : Value} {w : World} {Q : Value → World → Prop} (h : L59_0 x0 x2 x3 w Q) : P59_0 x0 x2 x3 w Q :=
  have e : evC Try.prog (entR 3 80) 59 40 H59 Q (nav [1, 1, 1] C59) [] (unpack [0, 2, 3] [x0, x2, x3]) w (contT Try.prog (entR 3 80) 59 40 H59 Try.f59.results.toList Q []) = L59_0 x0 x2 x3 w Q := by kernel_rfl
  part_jn (fn := Try.f59) mixed entOk Try.func59 H59 (c := (nav [1, 1, 1] C59)) (t := []) (e.mpr h)
theorem L59_1_ok {x0 x2 x3 : Value} {w : World} {Q : Value → World → Prop} (h : L59_1 x0 x2 x3 w Q) : P59_1 x0 x2 x3 w Q :=
  have e : evC Try.prog (entR 3 80) 59 40 H59 Q (nav [1, 1, 1, 1] C59) [] (unpack [0, 2, 3] [x0, x2, x3]) w (contT Try.prog (entR 3 80) 59 40 H59 Try.f59.results.toList Q []) = L59_1 x0 x2 x3 w Q := by kernel_rfl
  part_jn (fn := Try.f59) mixed entOk Try.func59 H59 (c := (nav [1, 1, 1, 1] C59)) (t := []) (e.mpr h)
theorem L59_2_ok {x0 x2 x3 : Value} {w : World} {Q : Value → World → Prop} (h : L59_2 x0 x2 x3 w Q) : P59_2 x0 x2 x3 w Q :=
  have e : evC Try.prog (entR 3 80) 59 40 H59 Q (nav [1, 1, 1, 1, 1] C59) [] (unpack [0, 2, 3] [x0, x2, x3]) w (contT Try.prog (entR 3 80) 59 40 H59 Try.f59.results.toList Q []) = L59_2 x0 x2 x3 w Q := by kernel_rfl
  part_jn (fn := Try.f59) mixed entOk Try.func59 H59 (c := (nav [1, 1, 1, 1, 1] C59)) (t := []) (e.mpr h)
theorem L59_3_ok {x2 x3 : Value} {w : World} {Q : Value → World → Prop} (h : L59_3 x2 x3 w Q) : P59_3 x2 x3 w Q :=
  have e : evC Try.prog (entR 3 80) 59 40 H59 Q (nav [1, 1, 1, 1, 1, 1] C59) [] (unpack [2, 3] [x2, x3]) w (contT Try.prog (entR 3 80) 59 40 H59 Try.f59.results.toList Q []) = L59_3 x2 x3 w Q := by kernel_rfl
  part_jn (fn := Try.f59) mixed entOk Try.func59 H59 (c := (nav [1, 1, 1, 1, 1, 1] C59)) (t := []) (e.mpr h)

/-! ### rundale/record.right: function 60 -/
noncomputable def C60 : Code := (Try.f60.body).getD .skip
noncomputable def H60 : Hints := ⟨[], [], []⟩
def F60 (a0 : Value) (w : World) (Q : Value → World → Prop) : Prop :=
  effv Try.prog (Instr.box 59 a0) w fun t1 w =>
  wpB (pureRun Try.prog (Instr.fieldAt 59 t1 0)) fun t3 =>
  wpB (ldv Try.prog 3 t3 w) fun t4 =>
  wpB (bp Try.prog .lss 3 t4 (Go.Value.int Go.IntKind.i64 0)) fun t5 =>
  wpB (gd t5 false (pureRun Try.prog (Instr.fieldAt 59 t1 0))) fun t7 =>
  wpB (gd t5 false (ldv Try.prog 3 t7 w)) fun t8 =>
  wpB (gd t5 false (bp Try.prog .geq 3 t8 (Go.Value.int Go.IntKind.i64 64))) fun t9 =>
  wpB (pickv t5 (some (Go.Value.bool true)) (some t9)) fun t10 =>
  wpB (gd t10 false (pureRun Try.prog (Instr.fieldAt 59 t1 3))) fun t12 =>
  wpB (gd t10 false (ldv Try.prog 3 t12 w)) fun t13 =>
  wpB (gd t10 false (bp Try.prog .lss 3 t13 (Go.Value.int Go.IntKind.i64 0))) fun t14 =>
  wpB (pickv t10 (some (Go.Value.bool true)) (some t14)) fun t15 =>
  wpB (gd t15 false (pureRun Try.prog (Instr.fieldAt 59 t1 4))) fun t17 =>
  wpB (gd t15 false (ldv Try.prog 3 t17 w)) fun t18 =>
  wpB (gd t15 false (be Try.prog .neq 3 (.tmp 18) (.const (Go.Value.int Go.IntKind.i64 (-1))) t18 (Go.Value.int Go.IntKind.i64 (-1)))) fun t19 =>
  wpB (gd (gv t15 false t19) true (pureRun Try.prog (Instr.fieldAt 59 t1 4))) fun t21 =>
  wpB (gd (gv t15 false t19) true (ldv Try.prog 3 t21 w)) fun t22 =>
  wpB (gd (gv t15 false t19) true (pureRun Try.prog (Instr.fieldAt 59 t1 3))) fun t23 =>
  wpB (gd (gv t15 false t19) true (ldv Try.prog 3 t23 w)) fun t24 =>
  wpB (gd (gv t15 false t19) true (bp Try.prog .lss 3 t22 t24)) fun t25 =>
  wpB (gd t15 false (pickv (gv t15 false t19) (some t25) (some (Go.Value.bool false)))) fun t26 =>
  wpB (pickv t15 (some (Go.Value.bool true)) (some t26)) fun t27 =>
  cnd t27
  (Q (Go.Value.bool false) w)
  (wpB (pureRun Try.prog (Instr.fieldAt 59 t1 5)) fun t28 =>
  wpB (ldv Try.prog 3 t28 w) fun t29 =>
  wpB (be Try.prog .neq 3 (.tmp 29) (.const (Go.Value.int Go.IntKind.i64 (-1))) t29 (Go.Value.int Go.IntKind.i64 (-1))) fun t30 =>
  wpB (gd t30 true (pureRun Try.prog (Instr.fieldAt 59 t1 4))) fun t32 =>
  wpB (gd t30 true (ldv Try.prog 3 t32 w)) fun t33 =>
  wpB (gd t30 true (be Try.prog .eql 3 (.tmp 33) (.const (Go.Value.int Go.IntKind.i64 (-1))) t33 (Go.Value.int Go.IntKind.i64 (-1)))) fun t34 =>
  wpB (gd (gv t30 true t34) false (pureRun Try.prog (Instr.fieldAt 59 t1 5))) fun t36 =>
  wpB (gd (gv t30 true t34) false (ldv Try.prog 3 t36 w)) fun t37 =>
  wpB (gd (gv t30 true t34) false (pureRun Try.prog (Instr.fieldAt 59 t1 4))) fun t38 =>
  wpB (gd (gv t30 true t34) false (ldv Try.prog 3 t38 w)) fun t39 =>
  wpB (gd (gv t30 true t34) false (bp Try.prog .leq 3 t37 t39)) fun t40 =>
  wpB (gd t30 true (pickv (gv t30 true t34) (some (Go.Value.bool true)) (some t40))) fun t41 =>
  wpB (pickv t30 (some t41) (some (Go.Value.bool false))) fun t42 =>
  cnd t42
  (Q (Go.Value.bool false) w)
  (wpB (pureRun Try.prog (Instr.fieldAt 59 t1 6)) fun t43 =>
  wpB (ldv Try.prog 3 t43 w) fun t44 =>
  wpB (be Try.prog .eql 3 (.tmp 44) (.const (Go.Value.int Go.IntKind.i64 (-1))) t44 (Go.Value.int Go.IntKind.i64 (-1))) fun t45 =>
  wpB (gd t45 false (pureRun Try.prog (Instr.fieldAt 59 t1 4))) fun t47 =>
  wpB (gd t45 false (ldv Try.prog 3 t47 w)) fun t48 =>
  wpB (gd t45 false (be Try.prog .neq 3 (.tmp 48) (.const (Go.Value.int Go.IntKind.i64 (-1))) t48 (Go.Value.int Go.IntKind.i64 (-1)))) fun t49 =>
  wpB (gd (gv t45 false t49) true (pureRun Try.prog (Instr.fieldAt 59 t1 6))) fun t51 =>
  wpB (gd (gv t45 false t49) true (ldv Try.prog 3 t51 w)) fun t52 =>
  wpB (gd (gv t45 false t49) true (pureRun Try.prog (Instr.fieldAt 59 t1 3))) fun t53 =>
  wpB (gd (gv t45 false t49) true (ldv Try.prog 3 t53 w)) fun t54 =>
  wpB (gd (gv t45 false t49) true (pureRun Try.prog (Instr.fieldAt 59 t1 4))) fun t55 =>
  wpB (gd (gv t45 false t49) true (ldv Try.prog 3 t55 w)) fun t56 =>
  wpB (gd (gv t45 false t49) true (pureRun Try.prog (Instr.fieldAt 59 t1 5))) fun t57 =>
  wpB (gd (gv t45 false t49) true (ldv Try.prog 3 t57 w)) fun t58 =>
  wpB (gd (gv t45 false t49) true (pureRun Try.prog (Builtin.max_ #[3, 3, 3] 3 #[t54, t56, t58]))) fun t59 =>
  wpB (gd (gv t45 false t49) true (bp Try.prog .geq 3 t52 t59)) fun t60 =>
  wpB (gd t45 false (pickv (gv t45 false t49) (some t60) (some (Go.Value.bool false)))) fun t61 =>
  wpB (pickv t45 (some (Go.Value.bool true)) (some t61)) fun t62 =>
  Q t62 w))
theorem F60_ok {a0 : Value} {w : World} {Q : Value → World → Prop} (h : F60 a0 w Q) : CallR Try.prog 60 [a0] w Q :=
  have e : evC Try.prog (entR 3 80) 60 63 H60 Q C60 [] (entryE 0 [a0]) w (contT Try.prog (entR 3 80) 60 63 H60 Try.f60.results.toList Q []) = F60 a0 w Q := by kernel_rfl
  call_of (fn := Try.f60) mixed entOk Try.func60 (c := C60) rfl H60 (Nat.le_of_ble_eq_true rfl) (e.mpr h)

/-! ### rundale/record.shared: function 61 -/
noncomputable def C61 : Code := (Try.f61.body).getD .skip
noncomputable def H61 : Hints := ⟨[(3, [5, 25, 26, 27])], [], []⟩
noncomputable def T61_0 : List It := [.lp (nav [1, 1, 0, 1, 4, 5] C61), .blk 0, .jn (nav [1, 1, 1] C61)]
/-- rundale/record.shared, from a loop's head on -/
def P61_0 (x5 x25 x26 x27 : Value) (w : World) (Q : Value → World → Prop) : Prop := Part Try.prog 61 T61_0 [5, 25, 26, 27] [x5, x25, x26, x27] w Q
def F61 (a0 a1 : Value) (w : World) (Q : Value → World → Prop) : Prop :=
  effv Try.prog (Instr.box 59 a0) w fun t2 w =>
  effv Try.prog (Instr.box 59 a1) w fun t3 w =>
  wpB (pureRun Try.prog (Instr.fieldAt 59 t2 3)) fun t8 =>
  wpB (ldv Try.prog 3 t8 w) fun t9 =>
  wpB (pureRun Try.prog (Instr.fieldAt 59 t2 4)) fun t10 =>
  wpB (ldv Try.prog 3 t10 w) fun t11 =>
  wpB (pureRun Try.prog (Instr.fieldAt 59 t2 5)) fun t12 =>
  wpB (ldv Try.prog 3 t12 w) fun t13 =>
  wpB (pureRun Try.prog (Instr.fieldAt 59 t2 6)) fun t14 =>
  wpB (ldv Try.prog 3 t14 w) fun t15 =>
  effv Try.prog (Instr.buildSlice 28 4 #[(0, t9), (1, t11), (2, t13), (3, t15)]) w fun t16 w =>
  wpB (pureRun Try.prog (Instr.fieldAt 59 t3 3)) fun t17 =>
  wpB (ldv Try.prog 3 t17 w) fun t18 =>
  wpB (pureRun Try.prog (Instr.fieldAt 59 t3 4)) fun t19 =>
  wpB (ldv Try.prog 3 t19 w) fun t20 =>
  wpB (pureRun Try.prog (Instr.fieldAt 59 t3 5)) fun t21 =>
  wpB (ldv Try.prog 3 t21 w) fun t22 =>
  wpB (pureRun Try.prog (Instr.fieldAt 59 t3 6)) fun t23 =>
  wpB (ldv Try.prog 3 t23 w) fun t24 =>
  effv Try.prog (Instr.buildSlice 28 4 #[(0, t18), (1, t20), (2, t22), (3, t24)]) w fun t25 w =>
  wpB (pureRun Try.prog (Builtin.len_ #[28] 3 #[t25])) fun t26 =>
  P61_0 t16 t25 t26 (Go.Value.int Go.IntKind.i64 0) w Q
def L61_0 (x5 x25 x26 x27 : Value) (w : World) (Q : Value → World → Prop) : Prop :=
  wpB (bp Try.prog .lss 3 x27 x26) fun t28 =>
  cnd t28
  (wpB (pureRun Try.prog (Instr.indexAt 28 x25 x27)) fun t29 =>
  wpB (ldv Try.prog 3 t29 w) fun t30 =>
  wpB (be Try.prog .neq 3 (.tmp 31) (.const (Go.Value.int Go.IntKind.i64 (-1))) t30 (Go.Value.int Go.IntKind.i64 (-1))) fun t32 =>
  gE t32 true (CallR Try.prog 72 [(gv t32 true x5), (gv t32 true t30)] w) (fun t36 w =>
  wpB (pickv t32 (some t36) (some (Go.Value.bool false))) fun t37 =>
  cnd t37
  (Q (Go.Value.bool true) w)
  (wpB (bp Try.prog .add 3 x27 (Go.Value.int Go.IntKind.i64 1)) fun t38 =>
  P61_0 x5 x25 x26 t38 w Q)) w)
  (Q (Go.Value.bool false) w)
theorem F61_ok {a0 a1 : Value} {w : World} {Q : Value → World → Prop} (h : F61 a0 a1 w Q) : CallR Try.prog 61 [a0, a1] w Q :=
  have e : evC Try.prog (entR 3 80) 61 39 H61 Q C61 [] (entryE 0 [a0, a1]) w (contT Try.prog (entR 3 80) 61 39 H61 Try.f61.results.toList Q []) = F61 a0 a1 w Q := by kernel_rfl
  call_of (fn := Try.f61) mixed entOk Try.func61 (c := C61) rfl H61 (Nat.le_of_ble_eq_true rfl) (e.mpr h)
theorem L61_0_ok {x5 x25 x26 x27 : Value} {w : World} {Q : Value → World → Prop} (h : L61_0 x5 x25 x26 x27 w Q) : P61_0 x5 x25 x26 x27 w Q :=
  have e : evC Try.prog (entR 3 80) 61 39 H61 Q (nav [1, 1, 0, 1, 4, 5] C61) T61_0 (unpack [5, 25, 26, 27] [x5, x25, x26, x27]) w (contT Try.prog (entR 3 80) 61 39 H61 Try.f61.results.toList Q T61_0) = L61_0 x5 x25 x26 x27 w Q := by kernel_rfl
  part_lp (fn := Try.f61) mixed entOk Try.func61 H61 (c := (nav [1, 1, 0, 1, 4, 5] C61)) (t := [.blk 0, .jn (nav [1, 1, 1] C61)]) (e.mpr h)

/-! ### rundale/rundaleref18.one: function 62 -/
noncomputable def C62 : Code := (Try.f62.body).getD .skip
noncomputable def H62 : Hints := ⟨[], [], []⟩
def F62 (a0 : Value) (w : World) (Q : Value → World → Prop) : Prop :=
  effv Try.prog (Instr.box 59 a0) w fun t1 w =>
  wpB (pureRun Try.prog (Instr.fieldAt 59 t1 0)) fun t3 =>
  wpB (ldv Try.prog 3 t3 w) fun t4 =>
  wpB (bp Try.prog .lss 3 t4 (Go.Value.int Go.IntKind.i64 0)) fun t5 =>
  wpB (gd t5 false (pureRun Try.prog (Instr.fieldAt 59 t1 0))) fun t7 =>
  wpB (gd t5 false (ldv Try.prog 3 t7 w)) fun t8 =>
  wpB (gd t5 false (bp Try.prog .geq 3 t8 (Go.Value.int Go.IntKind.i64 64))) fun t9 =>
  wpB (pickv t5 (some (Go.Value.bool true)) (some t9)) fun t10 =>
  wpB (gd t10 false (pureRun Try.prog (Instr.fieldAt 59 t1 3))) fun t12 =>
  wpB (gd t10 false (ldv Try.prog 3 t12 w)) fun t13 =>
  wpB (gd t10 false (bp Try.prog .lss 3 t13 (Go.Value.int Go.IntKind.i64 0))) fun t14 =>
  wpB (pickv t10 (some (Go.Value.bool true)) (some t14)) fun t15 =>
  wpB (gd t15 false (pureRun Try.prog (Instr.fieldAt 59 t1 4))) fun t17 =>
  wpB (gd t15 false (ldv Try.prog 3 t17 w)) fun t18 =>
  wpB (gd t15 false (be Try.prog .neq 3 (.tmp 18) (.const (Go.Value.int Go.IntKind.i64 (-1))) t18 (Go.Value.int Go.IntKind.i64 (-1)))) fun t19 =>
  wpB (gd (gv t15 false t19) true (pureRun Try.prog (Instr.fieldAt 59 t1 4))) fun t21 =>
  wpB (gd (gv t15 false t19) true (ldv Try.prog 3 t21 w)) fun t22 =>
  wpB (gd (gv t15 false t19) true (pureRun Try.prog (Instr.fieldAt 59 t1 3))) fun t23 =>
  wpB (gd (gv t15 false t19) true (ldv Try.prog 3 t23 w)) fun t24 =>
  wpB (gd (gv t15 false t19) true (bp Try.prog .lss 3 t22 t24)) fun t25 =>
  wpB (gd t15 false (pickv (gv t15 false t19) (some t25) (some (Go.Value.bool false)))) fun t26 =>
  wpB (pickv t15 (some (Go.Value.bool true)) (some t26)) fun t27 =>
  cnd t27
  (Q (Go.Value.bool false) w)
  (wpB (pureRun Try.prog (Instr.fieldAt 59 t1 5)) fun t28 =>
  wpB (ldv Try.prog 3 t28 w) fun t29 =>
  wpB (be Try.prog .neq 3 (.tmp 29) (.const (Go.Value.int Go.IntKind.i64 (-1))) t29 (Go.Value.int Go.IntKind.i64 (-1))) fun t30 =>
  wpB (gd t30 true (pureRun Try.prog (Instr.fieldAt 59 t1 4))) fun t32 =>
  wpB (gd t30 true (ldv Try.prog 3 t32 w)) fun t33 =>
  wpB (gd t30 true (bp Try.prog .lss 3 t33 (Go.Value.int Go.IntKind.i64 0))) fun t34 =>
  wpB (gd (gv t30 true t34) false (pureRun Try.prog (Instr.fieldAt 59 t1 5))) fun t36 =>
  wpB (gd (gv t30 true t34) false (ldv Try.prog 3 t36 w)) fun t37 =>
  wpB (gd (gv t30 true t34) false (pureRun Try.prog (Instr.fieldAt 59 t1 4))) fun t38 =>
  wpB (gd (gv t30 true t34) false (ldv Try.prog 3 t38 w)) fun t39 =>
  wpB (gd (gv t30 true t34) false (bp Try.prog .leq 3 t37 t39)) fun t40 =>
  wpB (gd t30 true (pickv (gv t30 true t34) (some (Go.Value.bool true)) (some t40))) fun t41 =>
  wpB (pickv t30 (some t41) (some (Go.Value.bool false))) fun t42 =>
  cnd t42
  (Q (Go.Value.bool false) w)
  (wpB (pureRun Try.prog (Instr.fieldAt 59 t1 6)) fun t43 =>
  wpB (ldv Try.prog 3 t43 w) fun t44 =>
  wpB (be Try.prog .eql 3 (.tmp 44) (.const (Go.Value.int Go.IntKind.i64 (-1))) t44 (Go.Value.int Go.IntKind.i64 (-1))) fun t45 =>
  wpB (gd t45 false (pureRun Try.prog (Instr.fieldAt 59 t1 4))) fun t47 =>
  wpB (gd t45 false (ldv Try.prog 3 t47 w)) fun t48 =>
  wpB (gd t45 false (bp Try.prog .geq 3 t48 (Go.Value.int Go.IntKind.i64 0))) fun t49 =>
  wpB (gd (gv t45 false t49) true (pureRun Try.prog (Instr.fieldAt 59 t1 6))) fun t51 =>
  wpB (gd (gv t45 false t49) true (ldv Try.prog 3 t51 w)) fun t52 =>
  wpB (gd (gv t45 false t49) true (pureRun Try.prog (Instr.fieldAt 59 t1 4))) fun t53 =>
  wpB (gd (gv t45 false t49) true (ldv Try.prog 3 t53 w)) fun t54 =>
  wpB (gd (gv t45 false t49) true (bp Try.prog .geq 3 t52 t54)) fun t55 =>
  wpB (gd t45 false (pickv (gv t45 false t49) (some t55) (some (Go.Value.bool false)))) fun t56 =>
  wpB (gd (gv t45 false t56) true (pureRun Try.prog (Instr.fieldAt 59 t1 6))) fun t58 =>
  wpB (gd (gv t45 false t56) true (ldv Try.prog 3 t58 w)) fun t59 =>
  wpB (gd (gv t45 false t56) true (pureRun Try.prog (Instr.fieldAt 59 t1 5))) fun t60 =>
  wpB (gd (gv t45 false t56) true (ldv Try.prog 3 t60 w)) fun t61 =>
  wpB (gd (gv t45 false t56) true (bp Try.prog .geq 3 t59 t61)) fun t62 =>
  wpB (gd t45 false (pickv (gv t45 false t56) (some t62) (some (Go.Value.bool false)))) fun t63 =>
  wpB (pickv t45 (some (Go.Value.bool true)) (some t63)) fun t64 =>
  Q t64 w))
theorem F62_ok {a0 : Value} {w : World} {Q : Value → World → Prop} (h : F62 a0 w Q) : CallR Try.prog 62 [a0] w Q :=
  have e : evC Try.prog (entR 3 80) 62 65 H62 Q C62 [] (entryE 0 [a0]) w (contT Try.prog (entR 3 80) 62 65 H62 Try.f62.results.toList Q []) = F62 a0 w Q := by kernel_rfl
  call_of (fn := Try.f62) mixed entOk Try.func62 (c := C62) rfl H62 (Nat.le_of_ble_eq_true rfl) (e.mpr h)

/-! ### rundale/rundaleref18.share: function 63 -/
noncomputable def C63 : Code := (Try.f63.body).getD .skip
noncomputable def H63 : Hints := ⟨[(3, [5, 6, 7]), (6, [5, 6, 7, 8])], [(2, [5, 6])], [(1, (.ask 2 1 (.ask 4 5 (.ask 4 1 (.ask 5 1 (.leaf [0, 2, 4, 5, 1, 3, 6, 7]) (.ask 5 3 (.leaf [0, 2, 4, 1, 5, 3, 6, 7]) (.leaf [0, 2, 4, 1, 3, 5, 6, 7]))) (.ask 4 3 (.ask 5 3 (.leaf [0, 2, 1, 4, 5, 3, 6, 7]) (.leaf [0, 2, 1, 4, 3, 5, 6, 7])) (.leaf [0, 2, 1, 3, 4, 5, 6, 7]))) (.ask 5 1 (.ask 4 1 (.leaf [0, 2, 5, 4, 1, 3, 6, 7]) (.ask 4 3 (.leaf [0, 2, 5, 1, 4, 3, 6, 7]) (.leaf [0, 2, 5, 1, 3, 4, 6, 7]))) (.ask 5 3 (.ask 4 3 (.leaf [0, 2, 1, 5, 4, 3, 6, 7]) (.leaf [0, 2, 1, 5, 3, 4, 6, 7])) (.leaf [0, 2, 1, 3, 5, 4, 6, 7])))) (.ask 4 5 (.ask 4 1 (.ask 5 1 (.leaf [0, 4, 5, 1, 2, 3, 6, 7]) (.ask 5 3 (.leaf [0, 4, 1, 2, 5, 3, 6, 7]) (.leaf [0, 4, 1, 2, 3, 5, 6, 7]))) (.ask 4 3 (.ask 5 3 (.leaf [0, 1, 2, 4, 5, 3, 6, 7]) (.leaf [0, 1, 2, 4, 3, 5, 6, 7])) (.leaf [0, 1, 2, 3, 4, 5, 6, 7]))) (.ask 5 1 (.ask 4 1 (.leaf [0, 5, 4, 1, 2, 3, 6, 7]) (.ask 4 3 (.leaf [0, 5, 1, 2, 4, 3, 6, 7]) (.leaf [0, 5, 1, 2, 3, 4, 6, 7]))) (.ask 5 3 (.ask 4 3 (.leaf [0, 1, 2, 5, 4, 3, 6, 7]) (.leaf [0, 1, 2, 5, 3, 4, 6, 7])) (.leaf [0, 1, 2, 3, 5, 4, 6, 7])))))), (8, (.leaf [0, 1, 2, 3, 4, 5, 6, 7, 8, 9, 10, 11, 12]))]⟩
noncomputable def T63_0 : List It := [.jn (nav [1, 1] C63)]
noncomputable def T63_1 : List It := [.lp (nav [1, 1, 0, 1, 4, 5] C63), .blk 0, .jn (nav [1, 1, 1] C63)]
noncomputable def T63_2 : List It := [.lp (nav [1, 1, 0, 1, 4, 5, 1, 0, 4, 1, 4, 5] C63), .blk 2, .blk 1, .jn (nav [1, 1, 0, 1, 4, 5, 1, 1] C63), .lp (nav [1, 1, 0, 1, 4, 5] C63), .blk 0, .jn (nav [1, 1, 1] C63)]
/-- rundale/rundaleref18.share, from a join on -/
def P63_0 (x5 x6 : Value) (w : World) (Q : Value → World → Prop) : Prop := Part Try.prog 63 T63_0 [5, 6] [x5, x6] w Q
/-- rundale/rundaleref18.share, from a loop's head on -/
def P63_1 (x5 x6 x7 : Value) (w : World) (Q : Value → World → Prop) : Prop := Part Try.prog 63 T63_1 [5, 6, 7] [x5, x6, x7] w Q
/-- rundale/rundaleref18.share, from a loop's head on -/
def P63_2 (x5 x6 x7 x8 : Value) (w : World) (Q : Value → World → Prop) : Prop := Part Try.prog 63 T63_2 [5, 6, 7, 8] [x5, x6, x7, x8] w Q
def F63 (a0 a1 : Value) (w : World) (Q : Value → World → Prop) : Prop :=
  effv Try.prog (Instr.box 59 a0) w fun t2 w =>
  effv Try.prog (Instr.box 59 a1) w fun t3 w =>
  ((((wpB (ldv Try.prog 59 t2 w.drew) fun t9 =>
  wpB (ldv Try.prog 59 t3 w.drew) fun t11 =>
  effv Try.prog (Instr.alloc 87 true (.tuple #[])) w.drew fun t5 w =>
  effv Try.prog (Instr.alloc 87 true (.tuple #[])) w fun t6 w =>
  CallR Try.prog 73 [t9] w fun t10 w =>
  CallR Try.prog 73 [t11] w fun t12 w =>
  effu Try.prog (Instr.storeAt 87 t5 t10) w fun w =>
  effu Try.prog (Instr.storeAt 87 t6 t12) w fun w =>
  P63_0 t5 t6 w Q) ∧
  ((wpB (ldv Try.prog 59 t2 w.drew) fun t9_1 =>
  wpB (ldv Try.prog 59 t3 w.drew) fun t11_1 =>
  effv Try.prog (Instr.alloc 87 true (.tuple #[])) w.drew fun t5_1 w =>
  CallR Try.prog 73 [t9_1] w fun t10_1 w =>
  effv Try.prog (Instr.alloc 87 true (.tuple #[])) w fun t6_1 w =>
  CallR Try.prog 73 [t11_1] w fun t12_1 w =>
  effu Try.prog (Instr.storeAt 87 t5_1 t10_1) w fun w =>
  effu Try.prog (Instr.storeAt 87 t6_1 t12_1) w fun w =>
  P63_0 t5_1 t6_1 w Q) ∧
  (wpB (ldv Try.prog 59 t2 w.drew) fun t9_2 =>
  wpB (ldv Try.prog 59 t3 w.drew) fun t11_2 =>
  effv Try.prog (Instr.alloc 87 true (.tuple #[])) w.drew fun t5_2 w =>
  CallR Try.prog 73 [t9_2] w fun t10_2 w =>
  CallR Try.prog 73 [t11_2] w fun t12_2 w =>
  effv Try.prog (Instr.alloc 87 true (.tuple #[])) w fun t6_2 w =>
  effu Try.prog (Instr.storeAt 87 t5_2 t10_2) w fun w =>
  effu Try.prog (Instr.storeAt 87 t6_2 t12_2) w fun w =>
  P63_0 t5_2 t6_2 w Q))) ∧
  (((wpB (ldv Try.prog 59 t2 w.drew) fun t9_3 =>
  wpB (ldv Try.prog 59 t3 w.drew) fun t11_3 =>
  CallR Try.prog 73 [t9_3] w.drew fun t10_3 w =>
  effv Try.prog (Instr.alloc 87 true (.tuple #[])) w fun t5_3 w =>
  effv Try.prog (Instr.alloc 87 true (.tuple #[])) w fun t6_3 w =>
  CallR Try.prog 73 [t11_3] w fun t12_3 w =>
  effu Try.prog (Instr.storeAt 87 t5_3 t10_3) w fun w =>
  effu Try.prog (Instr.storeAt 87 t6_3 t12_3) w fun w =>
  P63_0 t5_3 t6_3 w Q) ∧
  (wpB (ldv Try.prog 59 t2 w.drew) fun t9_4 =>
  wpB (ldv Try.prog 59 t3 w.drew) fun t11_4 =>
  CallR Try.prog 73 [t9_4] w.drew fun t10_4 w =>
  effv Try.prog (Instr.alloc 87 true (.tuple #[])) w fun t5_4 w =>
  CallR Try.prog 73 [t11_4] w fun t12_4 w =>
  effv Try.prog (Instr.alloc 87 true (.tuple #[])) w fun t6_4 w =>
  effu Try.prog (Instr.storeAt 87 t5_4 t10_4) w fun w =>
  effu Try.prog (Instr.storeAt 87 t6_4 t12_4) w fun w =>
  P63_0 t5_4 t6_4 w Q)) ∧
  (wpB (ldv Try.prog 59 t2 w.drew) fun t9_5 =>
  wpB (ldv Try.prog 59 t3 w.drew) fun t11_5 =>
  CallR Try.prog 73 [t9_5] w.drew fun t10_5 w =>
  CallR Try.prog 73 [t11_5] w fun t12_5 w =>
  effv Try.prog (Instr.alloc 87 true (.tuple #[])) w fun t5_5 w =>
  effv Try.prog (Instr.alloc 87 true (.tuple #[])) w fun t6_5 w =>
  effu Try.prog (Instr.storeAt 87 t5_5 t10_5) w fun w =>
  effu Try.prog (Instr.storeAt 87 t6_5 t12_5) w fun w =>
  P63_0 t5_5 t6_5 w Q))) ∧
  (((wpB (ldv Try.prog 59 t2 w.drew) fun t9_6 =>
  wpB (ldv Try.prog 59 t3 w.drew) fun t11_6 =>
  effv Try.prog (Instr.alloc 87 true (.tuple #[])) w.drew fun t6_6 w =>
  effv Try.prog (Instr.alloc 87 true (.tuple #[])) w fun t5_6 w =>
  CallR Try.prog 73 [t9_6] w fun t10_6 w =>
  CallR Try.prog 73 [t11_6] w fun t12_6 w =>
  effu Try.prog (Instr.storeAt 87 t5_6 t10_6) w fun w =>
  effu Try.prog (Instr.storeAt 87 t6_6 t12_6) w fun w =>
  P63_0 t5_6 t6_6 w Q) ∧
  ((wpB (ldv Try.prog 59 t2 w.drew) fun t9_7 =>
  wpB (ldv Try.prog 59 t3 w.drew) fun t11_7 =>
  effv Try.prog (Instr.alloc 87 true (.tuple #[])) w.drew fun t6_7 w =>
  CallR Try.prog 73 [t9_7] w fun t10_7 w =>
  effv Try.prog (Instr.alloc 87 true (.tuple #[])) w fun t5_7 w =>
  CallR Try.prog 73 [t11_7] w fun t12_7 w =>
  effu Try.prog (Instr.storeAt 87 t5_7 t10_7) w fun w =>
  effu Try.prog (Instr.storeAt 87 t6_7 t12_7) w fun w =>
  P63_0 t5_7 t6_7 w Q) ∧
  (wpB (ldv Try.prog 59 t2 w.drew) fun t9_8 =>
  wpB (ldv Try.prog 59 t3 w.drew) fun t11_8 =>
  effv Try.prog (Instr.alloc 87 true (.tuple #[])) w.drew fun t6_8 w =>
  CallR Try.prog 73 [t9_8] w fun t10_8 w =>
  CallR Try.prog 73 [t11_8] w fun t12_8 w =>
  effv Try.prog (Instr.alloc 87 true (.tuple #[])) w fun t5_8 w =>
  effu Try.prog (Instr.storeAt 87 t5_8 t10_8) w fun w =>
  effu Try.prog (Instr.storeAt 87 t6_8 t12_8) w fun w =>
  P63_0 t5_8 t6_8 w Q))) ∧
  (((wpB (ldv Try.prog 59 t2 w.drew) fun t9_9 =>
  wpB (ldv Try.prog 59 t3 w.drew) fun t11_9 =>
  CallR Try.prog 73 [t9_9] w.drew fun t10_9 w =>
  effv Try.prog (Instr.alloc 87 true (.tuple #[])) w fun t6_9 w =>
  effv Try.prog (Instr.alloc 87 true (.tuple #[])) w fun t5_9 w =>
  CallR Try.prog 73 [t11_9] w fun t12_9 w =>
  effu Try.prog (Instr.storeAt 87 t5_9 t10_9) w fun w =>
  effu Try.prog (Instr.storeAt 87 t6_9 t12_9) w fun w =>
  P63_0 t5_9 t6_9 w Q) ∧
  (wpB (ldv Try.prog 59 t2 w.drew) fun t9_10 =>
  wpB (ldv Try.prog 59 t3 w.drew) fun t11_10 =>
  CallR Try.prog 73 [t9_10] w.drew fun t10_10 w =>
  effv Try.prog (Instr.alloc 87 true (.tuple #[])) w fun t6_10 w =>
  CallR Try.prog 73 [t11_10] w fun t12_10 w =>
  effv Try.prog (Instr.alloc 87 true (.tuple #[])) w fun t5_10 w =>
  effu Try.prog (Instr.storeAt 87 t5_10 t10_10) w fun w =>
  effu Try.prog (Instr.storeAt 87 t6_10 t12_10) w fun w =>
  P63_0 t5_10 t6_10 w Q)) ∧
  (wpB (ldv Try.prog 59 t2 w.drew) fun t9_11 =>
  wpB (ldv Try.prog 59 t3 w.drew) fun t11_11 =>
  CallR Try.prog 73 [t9_11] w.drew fun t10_11 w =>
  CallR Try.prog 73 [t11_11] w fun t12_11 w =>
  effv Try.prog (Instr.alloc 87 true (.tuple #[])) w fun t6_11 w =>
  effv Try.prog (Instr.alloc 87 true (.tuple #[])) w fun t5_11 w =>
  effu Try.prog (Instr.storeAt 87 t5_11 t10_11) w fun w =>
  effu Try.prog (Instr.storeAt 87 t6_11 t12_11) w fun w =>
  P63_0 t5_11 t6_11 w Q)))) ∧
  ((((wpB (ldv Try.prog 59 t2 w.drew) fun t9_12 =>
  effv Try.prog (Instr.alloc 87 true (.tuple #[])) w.drew fun t5_12 w =>
  effv Try.prog (Instr.alloc 87 true (.tuple #[])) w fun t6_12 w =>
  CallR Try.prog 73 [t9_12] w fun t10_12 w =>
  wpB (ldv Try.prog 59 t3 w) fun t11_12 =>
  CallR Try.prog 73 [t11_12] w fun t12_12 w =>
  effu Try.prog (Instr.storeAt 87 t5_12 t10_12) w fun w =>
  effu Try.prog (Instr.storeAt 87 t6_12 t12_12) w fun w =>
  P63_0 t5_12 t6_12 w Q) ∧
  ((wpB (ldv Try.prog 59 t2 w.drew) fun t9_13 =>
  effv Try.prog (Instr.alloc 87 true (.tuple #[])) w.drew fun t5_13 w =>
  CallR Try.prog 73 [t9_13] w fun t10_13 w =>
  wpB (ldv Try.prog 59 t3 w) fun t11_13 =>
  effv Try.prog (Instr.alloc 87 true (.tuple #[])) w fun t6_13 w =>
  CallR Try.prog 73 [t11_13] w fun t12_13 w =>
  effu Try.prog (Instr.storeAt 87 t5_13 t10_13) w fun w =>
  effu Try.prog (Instr.storeAt 87 t6_13 t12_13) w fun w =>
  P63_0 t5_13 t6_13 w Q) ∧
  (wpB (ldv Try.prog 59 t2 w.drew) fun t9_14 =>
  effv Try.prog (Instr.alloc 87 true (.tuple #[])) w.drew fun t5_14 w =>
  CallR Try.prog 73 [t9_14] w fun t10_14 w =>
  wpB (ldv Try.prog 59 t3 w) fun t11_14 =>
  CallR Try.prog 73 [t11_14] w fun t12_14 w =>
  effv Try.prog (Instr.alloc 87 true (.tuple #[])) w fun t6_14 w =>
  effu Try.prog (Instr.storeAt 87 t5_14 t10_14) w fun w =>
  effu Try.prog (Instr.storeAt 87 t6_14 t12_14) w fun w =>
  P63_0 t5_14 t6_14 w Q))) ∧
  (((wpB (ldv Try.prog 59 t2 w.drew) fun t9_15 =>
  CallR Try.prog 73 [t9_15] w.drew fun t10_15 w =>
  wpB (ldv Try.prog 59 t3 w) fun t11_15 =>
  effv Try.prog (Instr.alloc 87 true (.tuple #[])) w fun t5_15 w =>
  effv Try.prog (Instr.alloc 87 true (.tuple #[])) w fun t6_15 w =>
  CallR Try.prog 73 [t11_15] w fun t12_15 w =>
  effu Try.prog (Instr.storeAt 87 t5_15 t10_15) w fun w =>
  effu Try.prog (Instr.storeAt 87 t6_15 t12_15) w fun w =>
  P63_0 t5_15 t6_15 w Q) ∧
  (wpB (ldv Try.prog 59 t2 w.drew) fun t9_16 =>
  CallR Try.prog 73 [t9_16] w.drew fun t10_16 w =>
  wpB (ldv Try.prog 59 t3 w) fun t11_16 =>
  effv Try.prog (Instr.alloc 87 true (.tuple #[])) w fun t5_16 w =>
  CallR Try.prog 73 [t11_16] w fun t12_16 w =>
  effv Try.prog (Instr.alloc 87 true (.tuple #[])) w fun t6_16 w =>
  effu Try.prog (Instr.storeAt 87 t5_16 t10_16) w fun w =>
  effu Try.prog (Instr.storeAt 87 t6_16 t12_16) w fun w =>
  P63_0 t5_16 t6_16 w Q)) ∧
  (wpB (ldv Try.prog 59 t2 w.drew) fun t9_17 =>
  CallR Try.prog 73 [t9_17] w.drew fun t10_17 w =>
  wpB (ldv Try.prog 59 t3 w) fun t11_17 =>
  CallR Try.prog 73 [t11_17] w fun t12_17 w =>
  effv Try.prog (Instr.alloc 87 true (.tuple #[])) w fun t5_17 w =>
  effv Try.prog (Instr.alloc 87 true (.tuple #[])) w fun t6_17 w =>
  effu Try.prog (Instr.storeAt 87 t5_17 t10_17) w fun w =>
  effu Try.prog (Instr.storeAt 87 t6_17 t12_17) w fun w =>
  P63_0 t5_17 t6_17 w Q))) ∧
  (((wpB (ldv Try.prog 59 t2 w.drew) fun t9_18 =>
  effv Try.prog (Instr.alloc 87 true (.tuple #[])) w.drew fun t6_18 w =>
  effv Try.prog (Instr.alloc 87 true (.tuple #[])) w fun t5_18 w =>
  CallR Try.prog 73 [t9_18] w fun t10_18 w =>
  wpB (ldv Try.prog 59 t3 w) fun t11_18 =>
  CallR Try.prog 73 [t11_18] w fun t12_18 w =>
  effu Try.prog (Instr.storeAt 87 t5_18 t10_18) w fun w =>
  effu Try.prog (Instr.storeAt 87 t6_18 t12_18) w fun w =>
  P63_0 t5_18 t6_18 w Q) ∧
  ((wpB (ldv Try.prog 59 t2 w.drew) fun t9_19 =>
  effv Try.prog (Instr.alloc 87 true (.tuple #[])) w.drew fun t6_19 w =>
  CallR Try.prog 73 [t9_19] w fun t10_19 w =>
  wpB (ldv Try.prog 59 t3 w) fun t11_19 =>
  effv Try.prog (Instr.alloc 87 true (.tuple #[])) w fun t5_19 w =>
  CallR Try.prog 73 [t11_19] w fun t12_19 w =>
  effu Try.prog (Instr.storeAt 87 t5_19 t10_19) w fun w =>
  effu Try.prog (Instr.storeAt 87 t6_19 t12_19) w fun w =>
  P63_0 t5_19 t6_19 w Q) ∧
  (wpB (ldv Try.prog 59 t2 w.drew) fun t9_20 =>
  effv Try.prog (Instr.alloc 87 true (.tuple #[])) w.drew fun t6_20 w =>
  CallR Try.prog 73 [t9_20] w fun t10_20 w =>
  wpB (ldv Try.prog 59 t3 w) fun t11_20 =>
  CallR Try.prog 73 [t11_20] w fun t12_20 w =>
  effv Try.prog (Instr.alloc 87 true (.tuple #[])) w fun t5_20 w =>
  effu Try.prog (Instr.storeAt 87 t5_20 t10_20) w fun w =>
  effu Try.prog (Instr.storeAt 87 t6_20 t12_20) w fun w =>
  P63_0 t5_20 t6_20 w Q))) ∧
  (((wpB (ldv Try.prog 59 t2 w.drew) fun t9_21 =>
  CallR Try.prog 73 [t9_21] w.drew fun t10_21 w =>
  wpB (ldv Try.prog 59 t3 w) fun t11_21 =>
  effv Try.prog (Instr.alloc 87 true (.tuple #[])) w fun t6_21 w =>
  effv Try.prog (Instr.alloc 87 true (.tuple #[])) w fun t5_21 w =>
  CallR Try.prog 73 [t11_21] w fun t12_21 w =>
  effu Try.prog (Instr.storeAt 87 t5_21 t10_21) w fun w =>
  effu Try.prog (Instr.storeAt 87 t6_21 t12_21) w fun w =>
  P63_0 t5_21 t6_21 w Q) ∧
  (wpB (ldv Try.prog 59 t2 w.drew) fun t9_22 =>
  CallR Try.prog 73 [t9_22] w.drew fun t10_22 w =>
  wpB (ldv Try.prog 59 t3 w) fun t11_22 =>
  effv Try.prog (Instr.alloc 87 true (.tuple #[])) w fun t6_22 w =>
  CallR Try.prog 73 [t11_22] w fun t12_22 w =>
  effv Try.prog (Instr.alloc 87 true (.tuple #[])) w fun t5_22 w =>
  effu Try.prog (Instr.storeAt 87 t5_22 t10_22) w fun w =>
  effu Try.prog (Instr.storeAt 87 t6_22 t12_22) w fun w =>
  P63_0 t5_22 t6_22 w Q)) ∧
  (wpB (ldv Try.prog 59 t2 w.drew) fun t9_23 =>
  CallR Try.prog 73 [t9_23] w.drew fun t10_23 w =>
  wpB (ldv Try.prog 59 t3 w) fun t11_23 =>
  CallR Try.prog 73 [t11_23] w fun t12_23 w =>
  effv Try.prog (Instr.alloc 87 true (.tuple #[])) w fun t6_23 w =>
  effv Try.prog (Instr.alloc 87 true (.tuple #[])) w fun t5_23 w =>
  effu Try.prog (Instr.storeAt 87 t5_23 t10_23) w fun w =>
  effu Try.prog (Instr.storeAt 87 t6_23 t12_23) w fun w =>
  P63_0 t5_23 t6_23 w Q))))
def L63_0 (x5 x6 : Value) (w : World) (Q : Value → World → Prop) : Prop :=
  P63_1 x5 x6 (Go.Value.int Go.IntKind.i64 0) w Q
def L63_1 (x5 x6 x7 : Value) (w : World) (Q : Value → World → Prop) : Prop :=
  wpB (bp Try.prog .lss 3 x7 (Go.Value.int Go.IntKind.i64 4)) fun t14 =>
  cnd t14
  (P63_2 x5 x6 x7 (Go.Value.int Go.IntKind.i64 0) w Q)
  (Q (Go.Value.bool false) w)
def L63_2 (x5 x6 x7 x8 : Value) (w : World) (Q : Value → World → Prop) : Prop :=
  wpB (bp Try.prog .lss 3 x8 (Go.Value.int Go.IntKind.i64 4)) fun t18 =>
  cnd t18
  (wpB (pureRun Try.prog (Instr.indexAt 87 x5 x7)) fun t22 =>
  wpB (ldv Try.prog 3 t22 w.drew) fun t23 =>
  wpB (bp Try.prog .geq 3 t23 (Go.Value.int Go.IntKind.i64 0)) fun t24 =>
  wpB (gd t24 true (pureRun Try.prog (Instr.indexAt 87 x5 (gv t24 true x7)))) fun t27 =>
  wpB (gd t24 true (ldv Try.prog 3 t27 w.drew)) fun t28 =>
  wpB (gd t24 true (pureRun Try.prog (Instr.indexAt 87 x6 (gv t24 true x8)))) fun t30 =>
  wpB (gd t24 true (ldv Try.prog 3 t30 w.drew)) fun t31 =>
  wpB (gd t24 true (be Try.prog .eql 3 (.tmp 28) (.tmp 31) t28 t31)) fun t32 =>
  wpB (pickv t24 (some t32) (some (Go.Value.bool false))) fun t33 =>
  cnd t33
  (Q (Go.Value.bool true) w.drew)
  (wpB (bp Try.prog .add 3 x8 (Go.Value.int Go.IntKind.i64 1)) fun t20 =>
  P63_2 x5 x6 x7 t20 w.drew Q))
  (wpB (bp Try.prog .add 3 x7 (Go.Value.int Go.IntKind.i64 1)) fun t16 =>
  P63_1 x5 x6 t16 w Q)
theorem F63_ok {a0 a1 : Value} {w : World} {Q : Value → World → Prop} (h : F63 a0 a1 w Q) : CallR Try.prog 63 [a0, a1] w Q :=
  have e : evC Try.prog (entR 3 80) 63 34 H63 Q C63 [] (entryE 0 [a0, a1]) w (contT Try.prog (entR 3 80) 63 34 H63 Try.f63.results.toList Q []) = F63 a0 a1 w Q := by kernel_rfl
  call_of (fn := Try.f63) mixed entOk Try.func63 (c := C63) rfl H63 (Nat.le_of_ble_eq_true rfl) (e.mpr h)
theorem L63_0_ok {x5 x6 : Value} {w : World} {Q : Value → World → Prop} (h : L63_0 x5 x6 w Q) : P63_0 x5 x6 w Q :=
  have e : evC Try.prog (entR 3 80) 63 34 H63 Q (nav [1, 1] C63) [] (unpack [5, 6] [x5, x6]) w (contT Try.prog (entR 3 80) 63 34 H63 Try.f63.results.toList Q []) = L63_0 x5 x6 w Q := by kernel_rfl
  part_jn (fn := Try.f63) mixed entOk Try.func63 H63 (c := (nav [1, 1] C63)) (t := []) (e.mpr h)
theorem L63_1_ok {x5 x6 x7 : Value} {w : World} {Q : Value → World → Prop} (h : L63_1 x5 x6 x7 w Q) : P63_1 x5 x6 x7 w Q :=
  have e : evC Try.prog (entR 3 80) 63 34 H63 Q (nav [1, 1, 0, 1, 4, 5] C63) T63_1 (unpack [5, 6, 7] [x5, x6, x7]) w (contT Try.prog (entR 3 80) 63 34 H63 Try.f63.results.toList Q T63_1) = L63_1 x5 x6 x7 w Q := by kernel_rfl
  part_lp (fn := Try.f63) mixed entOk Try.func63 H63 (c := (nav [1, 1, 0, 1, 4, 5] C63)) (t := [.blk 0, .jn (nav [1, 1, 1] C63)]) (e.mpr h)
theorem L63_2_ok {x5 x6 x7 x8 : Value} {w : World} {Q : Value → World → Prop} (h : L63_2 x5 x6 x7 x8 w Q) : P63_2 x5 x6 x7 x8 w Q :=
  have e : evC Try.prog (entR 3 80) 63 34 H63 Q (nav [1, 1, 0, 1, 4, 5, 1, 0, 4, 1, 4, 5] C63) T63_2 (unpack [5, 6, 7, 8] [x5, x6, x7, x8]) w (contT Try.prog (entR 3 80) 63 34 H63 Try.f63.results.toList Q T63_2) = L63_2 x5 x6 x7 x8 w Q := by kernel_rfl
  part_lp (fn := Try.f63) mixed entOk Try.func63 H63 (c := (nav [1, 1, 0, 1, 4, 5, 1, 0, 4, 1, 4, 5] C63)) (t := [.blk 2, .blk 1, .jn (nav [1, 1, 0, 1, 4, 5, 1, 1] C63), .lp (nav [1, 1, 0, 1, 4, 5] C63), .blk 0, .jn (nav [1, 1, 1] C63)]) (e.mpr h)

/-! ### slices.Repeat[[]int,int]: function 64 -/
noncomputable def C64 : Code := (Try.f64.body).getD .skip
noncomputable def H64 : Hints := ⟨[(8, [7, 8])], [(3, [0, 1]), (6, [0, 6])], [(9, (.leaf [0, 1, 2, 3, 4, 5, 6, 7, 8, 9]))]⟩
noncomputable def T64_0 : List It := [.jn (nav [1, 1] C64)]
noncomputable def T64_1 : List It := [.jn (nav [1, 1, 1, 1] C64)]
noncomputable def T64_2 : List It := [.lp (nav [1, 1, 1, 1, 1, 1, 0, 4, 5] C64), .blk 0, .jn (nav [1, 1, 1, 1, 1, 1, 1] C64)]
/-- slices.Repeat[[]int,int], from a join on -/
def P64_0 (x0 x1 : Value) (w : World) (Q : Value → World → Prop) : Prop := Part Try.prog 64 T64_0 [0, 1] [x0, x1] w Q
/-- slices.Repeat[[]int,int], from a join on -/
def P64_1 (x0 x6 : Value) (w : World) (Q : Value → World → Prop) : Prop := Part Try.prog 64 T64_1 [0, 6] [x0, x6] w Q
/-- slices.Repeat[[]int,int], from a loop's head on -/
def P64_2 (x7 x8 : Value) (w : World) (Q : Value → World → Prop) : Prop := Part Try.prog 64 T64_2 [7, 8] [x7, x8] w Q
def F64 (a0 a1 : Value) (w : World) (Q : Value → World → Prop) : Prop :=
  wpB (bp Try.prog .lss 3 a1 (Go.Value.int Go.IntKind.i64 0)) fun t10 =>
  cnd t10
  (wpB (pureRun Try.prog (Instr.makeInterface 9 (Go.Value.string { data := #[99, 97, 110, 110, 111, 116, 32, 98, 101, 32, 110, 101, 103, 97, 116, 105, 118, 101] }))) fun t11 =>
  False)
  (P64_0 a0 a1 w Q)
def L64_0 (x0 x1 : Value) (w : World) (Q : Value → World → Prop) : Prop :=
  wpB (pureRun Try.prog (Builtin.len_ #[28] 3 #[x0])) fun t14 =>
  wpB (pureRun Try.prog (convert 3 27 t14)) fun t15 =>
  wpB (pureRun Try.prog (convert 3 27 x1)) fun t17 =>
  CallR Try.prog 74 [t15, t17] w fun t18 w =>
  wpB (pureRun Try.prog (Instr.extract t18 0)) fun t19 =>
  wpB (pureRun Try.prog (Instr.extract t18 1)) fun t20 =>
  wpB (bp Try.prog .gtr 27 t19 (Go.Value.int Go.IntKind.u64 0)) fun t22 =>
  wpB (gd t22 false (bp Try.prog .gtr 27 (gv t22 false t20) (Go.Value.int Go.IntKind.u64 9223372036854775807))) fun t25 =>
  wpB (pickv t22 (some (Go.Value.bool true)) (some t25)) fun t26 =>
  cnd t26
  (wpB (pureRun Try.prog (Instr.makeInterface 9 (Go.Value.string { data := #[116, 104, 101, 32, 114, 101, 115, 117, 108, 116, 32, 111, 102, 32, 40, 108, 101, 110, 40, 120, 41, 32, 42, 32, 99, 111, 117, 110, 116, 41, 32, 111, 118, 101, 114, 102, 108, 111, 119, 115] }))) fun t27 =>
  False)
  (P64_1 x0 t20 w Q)
def L64_1 (x0 x6 : Value) (w : World) (Q : Value → World → Prop) : Prop :=
  wpB (pureRun Try.prog (convert 27 3 x6)) fun t29 =>
  effv Try.prog (Instr.makeSlice 28 t29 t29) w fun t30 w =>
  effv Try.prog (Builtin.copy_ #[28, 28] 3 #[t30, x0]) w fun t33 w =>
  P64_2 t30 t33 w Q
def L64_2 (x7 x8 : Value) (w : World) (Q : Value → World → Prop) : Prop :=
  wpB (pureRun Try.prog (Builtin.len_ #[28] 3 #[x7])) fun t36 =>
  wpB (bp Try.prog .lss 3 x8 t36) fun t37 =>
  cnd t37
  (wpB (pureRun Try.prog (Instr.sliceAt 28 x7 (some x8) none none)) fun t41 =>
  wpB (pureRun Try.prog (Instr.sliceAt 28 x7 none (some x8) none)) fun t44 =>
  effv Try.prog (Builtin.copy_ #[28, 28] 3 #[t41, t44]) w.drew fun t45 w =>
  wpB (bp Try.prog .add 3 x8 t45) fun t46 =>
  P64_2 x7 t46 w Q)
  (Q x7 w)
theorem F64_ok {a0 a1 : Value} {w : World} {Q : Value → World → Prop} (h : F64 a0 a1 w Q) : CallR Try.prog 64 [a0, a1] w Q :=
  have e : evC Try.prog (entR 3 80) 64 48 H64 Q C64 [] (entryE 0 [a0, a1]) w (contT Try.prog (entR 3 80) 64 48 H64 Try.f64.results.toList Q []) = F64 a0 a1 w Q := by kernel_rfl
  call_of (fn := Try.f64) mixed entOk Try.func64 (c := C64) rfl H64 (Nat.le_of_ble_eq_true rfl) (e.mpr h)
theorem L64_0_ok {x0 x1 : Value} {w : World} {Q : Value → World → Prop} (h : L64_0 x0 x1 w Q) : P64_0 x0 x1 w Q :=
  have e : evC Try.prog (entR 3 80) 64 48 H64 Q (nav [1, 1] C64) [] (unpack [0, 1] [x0, x1]) w (contT Try.prog (entR 3 80) 64 48 H64 Try.f64.results.toList Q []) = L64_0 x0 x1 w Q := by kernel_rfl
  part_jn (fn := Try.f64) mixed entOk Try.func64 H64 (c := (nav [1, 1] C64)) (t := []) (e.mpr h)
theorem L64_1_ok {x0 x6 : Value} {w : World} {Q : Value → World → Prop} (h : L64_1 x0 x6 w Q) : P64_1 x0 x6 w Q :=
  have e : evC Try.prog (entR 3 80) 64 48 H64 Q (nav [1, 1, 1, 1] C64) [] (unpack [0, 6] [x0, x6]) w (contT Try.prog (entR 3 80) 64 48 H64 Try.f64.results.toList Q []) = L64_1 x0 x6 w Q := by kernel_rfl
  part_jn (fn := Try.f64) mixed entOk Try.func64 H64 (c := (nav [1, 1, 1, 1] C64)) (t := []) (e.mpr h)
theorem L64_2_ok {x7 x8 : Value} {w : World} {Q : Value → World → Prop} (h : L64_2 x7 x8 w Q) : P64_2 x7 x8 w Q :=
  have e : evC Try.prog (entR 3 80) 64 48 H64 Q (nav [1, 1, 1, 1, 1, 1, 0, 4, 5] C64) T64_2 (unpack [7, 8] [x7, x8]) w (contT Try.prog (entR 3 80) 64 48 H64 Try.f64.results.toList Q T64_2) = L64_2 x7 x8 w Q := by kernel_rfl
  part_lp (fn := Try.f64) mixed entOk Try.func64 H64 (c := (nav [1, 1, 1, 1, 1, 1, 0, 4, 5] C64)) (t := [.blk 0, .jn (nav [1, 1, 1, 1, 1, 1, 1] C64)]) (e.mpr h)

/-! ### (*rundale/record.Record).step: function 65 -/
noncomputable def C65 : Code := (Try.f65.body).getD .skip
noncomputable def H65 : Hints := ⟨[], [], []⟩
def F65 (a0 a1 : Value) (w : World) (Q : Value → World → Prop) : Prop :=
  wpB (nilv a0) fun t7 =>
  wpB (pureRun Try.prog (Instr.fieldAt 80 t7 2)) fun t8 =>
  wpB (ldv Try.prog 3 t8 w) fun t9 =>
  wpB (bp Try.prog .lss 3 a1 t9) fun t10 =>
  cnd t10
  (Q (Go.Value.bool false) w)
  (wpB (nilv a0) fun t13 =>
  wpB (pureRun Try.prog (Instr.fieldAt 80 t13 2)) fun t14 =>
  effu Try.prog (Instr.storeAt 3 t14 a1) w fun w =>
  Q (Go.Value.bool true) w)
theorem F65_ok {a0 a1 : Value} {w : World} {Q : Value → World → Prop} (h : F65 a0 a1 w Q) : CallR Try.prog 65 [a0, a1] w Q :=
  have e : evC Try.prog (entR 3 80) 65 15 H65 Q C65 [] (entryE 0 [a0, a1]) w (contT Try.prog (entR 3 80) 65 15 H65 Try.f65.results.toList Q []) = F65 a0 a1 w Q := by kernel_rfl
  call_of (fn := Try.f65) mixed entOk Try.func65 (c := C65) rfl H65 (Nat.le_of_ble_eq_true rfl) (e.mpr h)

/-! ### (*rundale/record.Record).span: function 66 -/
noncomputable def C66 : Code := (Try.f66.body).getD .skip
noncomputable def H66 : Hints := ⟨[], [], []⟩
def F66 (a0 a1 : Value) (w : World) (Q : Value → World → Prop) : Prop :=
  wpB (bp Try.prog .lss 3 a1 (Go.Value.int Go.IntKind.i64 0)) fun t6 =>
  wpB (gd t6 false (nilv (gv t6 false a0))) fun t10 =>
  wpB (gd t6 false (pureRun Try.prog (Instr.fieldAt 80 t10 0))) fun t11 =>
  wpB (gd t6 false (ldv Try.prog 48 t11 w)) fun t12 =>
  wpB (gd t6 false (pureRun Try.prog (Builtin.len_ #[48] 3 #[t12]))) fun t13 =>
  wpB (gd t6 false (bp Try.prog .geq 3 (gv t6 false a1) t13)) fun t14 =>
  wpB (pickv t6 (some (Go.Value.bool true)) (some t14)) fun t15 =>
  wpB (gd t15 false (nilv (gv t15 false a0))) fun t18 =>
  wpB (gd t15 false (pureRun Try.prog (Instr.fieldAt 80 t18 0))) fun t19 =>
  wpB (gd t15 false (ldv Try.prog 48 t19 w)) fun t20 =>
  wpB (gd t15 false (pureRun Try.prog (Instr.indexAt 48 t20 (gv t15 false a1)))) fun t22 =>
  wpB (gd t15 false (pureRun Try.prog (Instr.fieldAt 59 t22 6))) fun t23 =>
  wpB (gd t15 false (ldv Try.prog 3 t23 w)) fun t24 =>
  wpB (gd t15 false (bp Try.prog .geq 3 t24 (Go.Value.int Go.IntKind.i64 0))) fun t25 =>
  wpB (pickv t15 (some (Go.Value.bool true)) (some t25)) fun t26 =>
  cnd t26
  (Q (Go.Value.pointer none) w)
  (wpB (nilv a0) fun t28 =>
  wpB (pureRun Try.prog (Instr.fieldAt 80 t28 0)) fun t29 =>
  wpB (ldv Try.prog 48 t29 w) fun t30 =>
  wpB (pureRun Try.prog (Instr.indexAt 48 t30 a1)) fun t32 =>
  Q t32 w)
theorem F66_ok {a0 a1 : Value} {w : World} {Q : Value → World → Prop} (h : F66 a0 a1 w Q) : CallR Try.prog 66 [a0, a1] w Q :=
  have e : evC Try.prog (entR 3 80) 66 33 H66 Q C66 [] (entryE 0 [a0, a1]) w (contT Try.prog (entR 3 80) 66 33 H66 Try.f66.results.toList Q []) = F66 a0 a1 w Q := by kernel_rfl
  call_of (fn := Try.f66) mixed entOk Try.func66 (c := C66) rfl H66 (Nat.le_of_ble_eq_true rfl) (e.mpr h)

/-! ### slices.Clone[[]rundale/api.Span,rundale/api.Span]: function 67 -/
noncomputable def C67 : Code := (Try.f67.body).getD .skip
noncomputable def H67 : Hints := ⟨[], [], []⟩
def F67 (a0 : Value) (w : World) (Q : Value → World → Prop) : Prop :=
  wpB (be Try.prog .eql 48 (.tmp 3) (.const (Go.Value.slice none 0 0)) a0 (Go.Value.slice none 0 0)) fun t4 =>
  cnd t4
  (Q (Go.Value.slice none 0 0) w)
  (effv Try.prog (Instr.buildSlice 48 0 #[]) w fun t5 w =>
  effv Try.prog (Builtin.append_ #[48, 48] 48 #[t5, a0]) w fun t7 w =>
  Q t7 w)
theorem F67_ok {a0 : Value} {w : World} {Q : Value → World → Prop} (h : F67 a0 w Q) : CallR Try.prog 67 [a0] w Q :=
  have e : evC Try.prog (entR 3 80) 67 8 H67 Q C67 [] (entryE 0 [a0]) w (contT Try.prog (entR 3 80) 67 8 H67 Try.f67.results.toList Q []) = F67 a0 w Q := by kernel_rfl
  call_of (fn := Try.f67) mixed entOk Try.func67 (c := C67) rfl H67 (Nat.le_of_ble_eq_true rfl) (e.mpr h)

/-! ### rundale/script.has: function 68 -/
noncomputable def C68 : Code := (Try.f68.body).getD .skip
noncomputable def H68 : Hints := ⟨[], [(5, [0, 3, 4, 5, 6, 7]), (8, [0, 3, 4, 5, 6, 11]), (11, [0, 3, 4, 5])], []⟩
noncomputable def T68_0 : List It := [.jn (nav [1, 0, 1, 4, 1] C68), .blk 0, .jn (nav [1, 1] C68)]
noncomputable def T68_1 : List It := [.jn (nav [1, 1] C68)]
noncomputable def T68_2 : List It := [.jn (nav [1, 0, 1, 4, 1, 3, 1] C68), .blk 0, .jn (nav [1, 1] C68)]
/-- rundale/script.has, from a join on -/
def P68_0 (x0 x3 x4 x5 x6 x7 : Value) (w : World) (Q : Value → World → Prop) : Prop := Part Try.prog 68 T68_0 [0, 3, 4, 5, 6, 7] [x0, x3, x4, x5, x6, x7] w Q
/-- rundale/script.has, from a join on -/
def P68_1 (x0 x3 x4 x5 : Value) (w : World) (Q : Value → World → Prop) : Prop := Part Try.prog 68 T68_1 [0, 3, 4, 5] [x0, x3, x4, x5] w Q
/-- rundale/script.has, from a join on -/
def P68_2 (x0 x3 x4 x5 x6 x11 : Value) (w : World) (Q : Value → World → Prop) : Prop := Part Try.prog 68 T68_2 [0, 3, 4, 5, 6, 11] [x0, x3, x4, x5, x6, x11] w Q
def F68 (a0 : Value) (w : World) (Q : Value → World → Prop) : Prop :=
  wpB (be Try.prog .eql 3 (.tmp 6) (.const (Go.Value.int Go.IntKind.i64 1)) a0 (Go.Value.int Go.IntKind.i64 1)) fun t8 =>
  cnd t8
  (P68_0 a0 (Go.Value.bool false) (Go.Value.bool false) (Go.Value.bool false) a0 t8 w Q)
  (wpB (be Try.prog .eql 3 (.tmp 6) (.const (Go.Value.int Go.IntKind.i64 2)) a0 (Go.Value.int Go.IntKind.i64 2)) fun t9 =>
  cnd t9
  (P68_0 a0 (Go.Value.bool false) (Go.Value.bool false) (Go.Value.bool false) a0 t9 w Q)
  (wpB (be Try.prog .eql 3 (.tmp 6) (.const (Go.Value.int Go.IntKind.i64 6)) a0 (Go.Value.int Go.IntKind.i64 6)) fun t10 =>
  P68_0 a0 (Go.Value.bool false) (Go.Value.bool false) (Go.Value.bool false) a0 t10 w Q))
def L68_0 (x0 x3 x4 x5 x6 x7 : Value) (w : World) (Q : Value → World → Prop) : Prop :=
  cnd x7
  (P68_1 x0 (Go.Value.bool true) x4 x5 w Q)
  (wpB (be Try.prog .eql 3 (.tmp 6) (.const (Go.Value.int Go.IntKind.i64 7)) x6 (Go.Value.int Go.IntKind.i64 7)) fun t12 =>
  cnd t12
  (P68_2 x0 x3 x4 x5 x6 t12 w Q)
  (wpB (be Try.prog .eql 3 (.tmp 6) (.const (Go.Value.int Go.IntKind.i64 8)) x6 (Go.Value.int Go.IntKind.i64 8)) fun t13 =>
  P68_2 x0 x3 x4 x5 x6 t13 w Q))
def L68_1 (x0 x3 x4 x5 : Value) (w : World) (Q : Value → World → Prop) : Prop :=
  CallR Try.prog 75 [x0] w fun t17 w =>
  wpB (be Try.prog .neq 3 (.tmp 17) (.const (Go.Value.int Go.IntKind.i64 0)) t17 (Go.Value.int Go.IntKind.i64 0)) fun t18 =>
  Q (.tuple #[t18, x3, x4, x5]) w
def L68_2 (x0 x3 x4 x5 x6 x11 : Value) (w : World) (Q : Value → World → Prop) : Prop :=
  cnd x11
  (P68_1 x0 (Go.Value.bool true) (Go.Value.bool true) x5 w Q)
  (wpB (be Try.prog .eql 3 (.tmp 6) (.const (Go.Value.int Go.IntKind.i64 9)) x6 (Go.Value.int Go.IntKind.i64 9)) fun t15 =>
  cnd t15
  (P68_1 x0 (Go.Value.bool true) (Go.Value.bool true) (Go.Value.bool true) w Q)
  (P68_1 x0 x3 x4 x5 w Q))
theorem F68_ok {a0 : Value} {w : World} {Q : Value → World → Prop} (h : F68 a0 w Q) : CallR Try.prog 68 [a0] w Q :=
  have e : evC Try.prog (entR 3 80) 68 22 H68 Q C68 [] (entryE 0 [a0]) w (contT Try.prog (entR 3 80) 68 22 H68 Try.f68.results.toList Q []) = F68 a0 w Q := by kernel_rfl
  call_of (fn := Try.f68) mixed entOk Try.func68 (c := C68) rfl H68 (Nat.le_of_ble_eq_true rfl) (e.mpr h)
theorem L68_0_ok {x0 x3 x4 x5 x6 x7 : Value} {w : World} {Q : Value → World → Prop} (h : L68_0 x0 x3 x4 x5 x6 x7 w Q) : P68_0 x0 x3 x4 x5 x6 x7 w Q :=
  have e : evC Try.prog (entR 3 80) 68 22 H68 Q (nav [1, 0, 1, 4, 1] C68) [.blk 0, .jn (nav [1, 1] C68)] (unpack [0, 3, 4, 5, 6, 7] [x0, x3, x4, x5, x6, x7]) w (contT Try.prog (entR 3 80) 68 22 H68 Try.f68.results.toList Q [.blk 0, .jn (nav [1, 1] C68)]) = L68_0 x0 x3 x4 x5 x6 x7 w Q := by kernel_rfl
  part_jn (fn := Try.f68) mixed entOk Try.func68 H68 (c := (nav [1, 0, 1, 4, 1] C68)) (t := [.blk 0, .jn (nav [1, 1] C68)]) (e.mpr h)
theorem L68_1_ok {x0 x3 x4 x5 : Value} {w : World} {Q : Value → World → Prop} (h : L68_1 x0 x3 x4 x5 w Q) : P68_1 x0 x3 x4 x5 w Q :=
  have e : evC Try.prog (entR 3 80) 68 22 H68 Q (nav [1, 1] C68) [] (unpack [0, 3, 4, 5] [x0, x3, x4, x5]) w (contT Try.prog (entR 3 80) 68 22 H68 Try.f68.results.toList Q []) = L68_1 x0 x3 x4 x5 w Q := by kernel_rfl
  part_jn (fn := Try.f68) mixed entOk Try.func68 H68 (c := (nav [1, 1] C68)) (t := []) (e.mpr h)
theorem L68_2_ok {x0 x3 x4 x5 x6 x11 : Value} {w : World} {Q : Value → World → Prop} (h : L68_2 x0 x3 x4 x5 x6 x11 w Q) : P68_2 x0 x3 x4 x5 x6 x11 w Q :=
  have e : evC Try.prog (entR 3 80) 68 22 H68 Q (nav [1, 0, 1, 4, 1, 3, 1] C68) [.blk 0, .jn (nav [1, 1] C68)] (unpack [0, 3, 4, 5, 6, 11] [x0, x3, x4, x5, x6, x11]) w (contT Try.prog (entR 3 80) 68 22 H68 Try.f68.results.toList Q [.blk 0, .jn (nav [1, 1] C68)]) = L68_2 x0 x3 x4 x5 x6 x11 w Q := by kernel_rfl
  part_jn (fn := Try.f68) mixed entOk Try.func68 H68 (c := (nav [1, 0, 1, 4, 1, 3, 1] C68)) (t := [.blk 0, .jn (nav [1, 1] C68)]) (e.mpr h)

/-! ### rundale/rundaleref18.Of: function 69 -/
noncomputable def C69 : Code := (Try.f69.body).getD .skip
noncomputable def H69 : Hints := ⟨[], [(5, [3, 4]), (10, [3, 8])], []⟩
noncomputable def T69_0 : List It := [.jn (nav [1, 0, 1, 4, 1] C69), .blk 0, .jn (nav [1, 1] C69)]
noncomputable def T69_1 : List It := [.jn (nav [1, 0, 1, 4, 1, 3, 1] C69), .blk 0, .jn (nav [1, 1] C69)]
/-- rundale/rundaleref18.Of, from a join on -/
def P69_0 (x3 x4 : Value) (w : World) (Q : Value → World → Prop) : Prop := Part Try.prog 69 T69_0 [3, 4] [x3, x4] w Q
/-- rundale/rundaleref18.Of, from a join on -/
def P69_1 (x3 x8 : Value) (w : World) (Q : Value → World → Prop) : Prop := Part Try.prog 69 T69_1 [3, 8] [x3, x8] w Q
def F69 (a0 : Value) (w : World) (Q : Value → World → Prop) : Prop :=
  wpB (be Try.prog .eql 3 (.tmp 3) (.const (Go.Value.int Go.IntKind.i64 2)) a0 (Go.Value.int Go.IntKind.i64 2)) fun t5 =>
  cnd t5
  (P69_0 a0 t5 w Q)
  (wpB (be Try.prog .eql 3 (.tmp 3) (.const (Go.Value.int Go.IntKind.i64 10)) a0 (Go.Value.int Go.IntKind.i64 10)) fun t6 =>
  cnd t6
  (P69_0 a0 t6 w Q)
  (wpB (be Try.prog .eql 3 (.tmp 3) (.const (Go.Value.int Go.IntKind.i64 12)) a0 (Go.Value.int Go.IntKind.i64 12)) fun t7 =>
  P69_0 a0 t7 w Q))
def L69_0 (x3 x4 : Value) (w : World) (Q : Value → World → Prop) : Prop :=
  cnd x4
  (Q (Go.Value.int Go.IntKind.i64 1) w)
  (wpB (be Try.prog .eql 3 (.tmp 3) (.const (Go.Value.int Go.IntKind.i64 6)) x3 (Go.Value.int Go.IntKind.i64 6)) fun t9 =>
  cnd t9
  (P69_1 x3 t9 w Q)
  (wpB (be Try.prog .eql 3 (.tmp 3) (.const (Go.Value.int Go.IntKind.i64 7)) x3 (Go.Value.int Go.IntKind.i64 7)) fun t10 =>
  cnd t10
  (P69_1 x3 t10 w Q)
  (wpB (be Try.prog .eql 3 (.tmp 3) (.const (Go.Value.int Go.IntKind.i64 8)) x3 (Go.Value.int Go.IntKind.i64 8)) fun t11 =>
  cnd t11
  (P69_1 x3 t11 w Q)
  (wpB (be Try.prog .eql 3 (.tmp 3) (.const (Go.Value.int Go.IntKind.i64 9)) x3 (Go.Value.int Go.IntKind.i64 9)) fun t12 =>
  P69_1 x3 t12 w Q))))
def L69_1 (x3 x8 : Value) (w : World) (Q : Value → World → Prop) : Prop :=
  cnd x8
  (Q (Go.Value.int Go.IntKind.i64 2) w)
  (wpB (be Try.prog .eql 3 (.tmp 3) (.const (Go.Value.int Go.IntKind.i64 5)) x3 (Go.Value.int Go.IntKind.i64 5)) fun t14 =>
  cnd t14
  (Q (Go.Value.int Go.IntKind.i64 3) w)
  (Q (Go.Value.int Go.IntKind.i64 0) w))
theorem F69_ok {a0 : Value} {w : World} {Q : Value → World → Prop} (h : F69 a0 w Q) : CallR Try.prog 69 [a0] w Q :=
  have e : evC Try.prog (entR 3 80) 69 15 H69 Q C69 [] (entryE 0 [a0]) w (contT Try.prog (entR 3 80) 69 15 H69 Try.f69.results.toList Q []) = F69 a0 w Q := by kernel_rfl
  call_of (fn := Try.f69) mixed entOk Try.func69 (c := C69) rfl H69 (Nat.le_of_ble_eq_true rfl) (e.mpr h)
theorem L69_0_ok {x3 x4 : Value} {w : World} {Q : Value → World → Prop} (h : L69_0 x3 x4 w Q) : P69_0 x3 x4 w Q :=
  have e : evC Try.prog (entR 3 80) 69 15 H69 Q (nav [1, 0, 1, 4, 1] C69) [.blk 0, .jn (nav [1, 1] C69)] (unpack [3, 4] [x3, x4]) w (contT Try.prog (entR 3 80) 69 15 H69 Try.f69.results.toList Q [.blk 0, .jn (nav [1, 1] C69)]) = L69_0 x3 x4 w Q := by kernel_rfl
  part_jn (fn := Try.f69) mixed entOk Try.func69 H69 (c := (nav [1, 0, 1, 4, 1] C69)) (t := [.blk 0, .jn (nav [1, 1] C69)]) (e.mpr h)
theorem L69_1_ok {x3 x8 : Value} {w : World} {Q : Value → World → Prop} (h : L69_1 x3 x8 w Q) : P69_1 x3 x8 w Q :=
  have e : evC Try.prog (entR 3 80) 69 15 H69 Q (nav [1, 0, 1, 4, 1, 3, 1] C69) [.blk 0, .jn (nav [1, 1] C69)] (unpack [3, 8] [x3, x8]) w (contT Try.prog (entR 3 80) 69 15 H69 Try.f69.results.toList Q [.blk 0, .jn (nav [1, 1] C69)]) = L69_1 x3 x8 w Q := by kernel_rfl
  part_jn (fn := Try.f69) mixed entOk Try.func69 H69 (c := (nav [1, 0, 1, 4, 1, 3, 1] C69)) (t := [.blk 0, .jn (nav [1, 1] C69)]) (e.mpr h)

/-! ### rundale/rundaleref18.HasN: function 70 -/
noncomputable def C70 : Code := (Try.f70.body).getD .skip
noncomputable def H70 : Hints := ⟨[], [], []⟩
def F70 (a0 : Value) (w : World) (Q : Value → World → Prop) : Prop :=
  wpB (be Try.prog .eql 3 (.tmp 3) (.const (Go.Value.int Go.IntKind.i64 1)) a0 (Go.Value.int Go.IntKind.i64 1)) fun t4 =>
  wpB (gd t4 false (be Try.prog .eql 3 (.tmp 6) (.const (Go.Value.int Go.IntKind.i64 2)) (gv t4 false a0) (Go.Value.int Go.IntKind.i64 2))) fun t7 =>
  wpB (pickv t4 (some (Go.Value.bool true)) (some t7)) fun t8 =>
  wpB (gd t8 false (bp Try.prog .geq 3 (gv t8 false a0) (Go.Value.int Go.IntKind.i64 6))) fun t11 =>
  wpB (gd (gv t8 false t11) true (bp Try.prog .leq 3 (gv (gv t8 false t11) true a0) (Go.Value.int Go.IntKind.i64 9))) fun t14 =>
  wpB (gd t8 false (pickv (gv t8 false t11) (some t14) (some (Go.Value.bool false)))) fun t15 =>
  wpB (pickv t8 (some (Go.Value.bool true)) (some t15)) fun t16 =>
  Q t16 w
theorem F70_ok {a0 : Value} {w : World} {Q : Value → World → Prop} (h : F70 a0 w Q) : CallR Try.prog 70 [a0] w Q :=
  have e : evC Try.prog (entR 3 80) 70 17 H70 Q C70 [] (entryE 0 [a0]) w (contT Try.prog (entR 3 80) 70 17 H70 Try.f70.results.toList Q []) = F70 a0 w Q := by kernel_rfl
  call_of (fn := Try.f70) mixed entOk Try.func70 (c := C70) rfl H70 (Nat.le_of_ble_eq_true rfl) (e.mpr h)

/-! ### rundale/rundaleref18.HasV: function 71 -/
noncomputable def C71 : Code := (Try.f71.body).getD .skip
noncomputable def H71 : Hints := ⟨[], [], []⟩
def F71 (a0 : Value) (w : World) (Q : Value → World → Prop) : Prop :=
  wpB (bp Try.prog .geq 3 a0 (Go.Value.int Go.IntKind.i64 7)) fun t4 =>
  wpB (gd t4 true (bp Try.prog .leq 3 (gv t4 true a0) (Go.Value.int Go.IntKind.i64 9))) fun t7 =>
  wpB (pickv t4 (some t7) (some (Go.Value.bool false))) fun t8 =>
  Q t8 w
theorem F71_ok {a0 : Value} {w : World} {Q : Value → World → Prop} (h : F71 a0 w Q) : CallR Try.prog 71 [a0] w Q :=
  have e : evC Try.prog (entR 3 80) 71 9 H71 Q C71 [] (entryE 0 [a0]) w (contT Try.prog (entR 3 80) 71 9 H71 Try.f71.results.toList Q []) = F71 a0 w Q := by kernel_rfl
  call_of (fn := Try.f71) mixed entOk Try.func71 (c := C71) rfl H71 (Nat.le_of_ble_eq_true rfl) (e.mpr h)

/-! ### slices.Contains[[]int,int]: function 72 -/
noncomputable def C72 : Code := (Try.f72.body).getD .skip
noncomputable def H72 : Hints := ⟨[], [], []⟩
def F72 (a0 a1 : Value) (w : World) (Q : Value → World → Prop) : Prop :=
  CallR Try.prog 76 [a0, a1] w fun t7 w =>
  wpB (bp Try.prog .geq 3 t7 (Go.Value.int Go.IntKind.i64 0)) fun t8 =>
  Q t8 w
theorem F72_ok {a0 a1 : Value} {w : World} {Q : Value → World → Prop} (h : F72 a0 a1 w Q) : CallR Try.prog 72 [a0, a1] w Q :=
  have e : evC Try.prog (entR 3 80) 72 9 H72 Q C72 [] (entryE 0 [a0, a1]) w (contT Try.prog (entR 3 80) 72 9 H72 Try.f72.results.toList Q []) = F72 a0 a1 w Q := by kernel_rfl
  call_of (fn := Try.f72) mixed entOk Try.func72 (c := C72) rfl H72 (Nat.le_of_ble_eq_true rfl) (e.mpr h)

/-! ### rundale/rundaleref18.steps: function 73 -/
noncomputable def C73 : Code := (Try.f73.body).getD .skip
noncomputable def H73 : Hints := ⟨[], [], []⟩
def F73 (a0 : Value) (w : World) (Q : Value → World → Prop) : Prop :=
  effv Try.prog (Instr.box 59 a0) w fun t1 w =>
  effv Try.prog (Instr.alloc 87 true (.tuple #[])) w fun t2 w =>
  wpB (pureRun Try.prog (Instr.fieldAt 59 t1 3)) fun t3 =>
  wpB (ldv Try.prog 3 t3 w) fun t4 =>
  wpB (pureRun Try.prog (Instr.fieldAt 59 t1 4)) fun t5 =>
  wpB (ldv Try.prog 3 t5 w) fun t6 =>
  wpB (pureRun Try.prog (Instr.fieldAt 59 t1 5)) fun t7 =>
  wpB (ldv Try.prog 3 t7 w) fun t8 =>
  wpB (pureRun Try.prog (Instr.fieldAt 59 t1 6)) fun t9 =>
  wpB (ldv Try.prog 3 t9 w) fun t10 =>
  wpB (pureRun Try.prog (Instr.build 87 #[(0, t4), (1, t6), (2, t8), (3, t10)])) fun t11 =>
  effu Try.prog (Instr.storeAt 87 t2 t11) w fun w =>
  wpB (ldv Try.prog 87 t2 w) fun r2 => Q r2 w
theorem F73_ok {a0 : Value} {w : World} {Q : Value → World → Prop} (h : F73 a0 w Q) : CallR Try.prog 73 [a0] w Q :=
  have e : evC Try.prog (entR 3 80) 73 12 H73 Q C73 [] (entryE 0 [a0]) w (contT Try.prog (entR 3 80) 73 12 H73 Try.f73.results.toList Q []) = F73 a0 w Q := by kernel_rfl
  call_of (fn := Try.f73) mixed entOk Try.func73 (c := C73) rfl H73 (Nat.le_of_ble_eq_true rfl) (e.mpr h)

/-! ### math/bits.Mul: function 74 -/
noncomputable def C74 : Code := (Try.f74.body).getD .skip
noncomputable def H74 : Hints := ⟨[], [], []⟩
def F74 (a0 a1 : Value) (w : World) (Q : Value → World → Prop) : Prop :=
  cnd (Go.Value.bool false)
  (wpB (pureRun Try.prog (convert 27 91 a0)) fun t12 =>
  wpB (pureRun Try.prog (convert 27 91 a1)) fun t14 =>
  CallR Try.prog 77 [t12, t14] w fun t15 w =>
  wpB (pureRun Try.prog (Instr.extract t15 0)) fun t16 =>
  wpB (pureRun Try.prog (Instr.extract t15 1)) fun t17 =>
  wpB (pureRun Try.prog (convert 91 27 t16)) fun t19 =>
  wpB (pureRun Try.prog (convert 91 27 t17)) fun t21 =>
  Q (.tuple #[t19, t21]) w)
  (CallR Try.prog 78 [a0, a1] w fun t25 w =>
  wpB (pureRun Try.prog (Instr.extract t25 0)) fun t26 =>
  wpB (pureRun Try.prog (Instr.extract t25 1)) fun t27 =>
  Q (.tuple #[t26, t27]) w)
theorem F74_ok {a0 a1 : Value} {w : World} {Q : Value → World → Prop} (h : F74 a0 a1 w Q) : CallR Try.prog 74 [a0, a1] w Q :=
  have e : evC Try.prog (entR 3 80) 74 30 H74 Q C74 [] (entryE 0 [a0, a1]) w (contT Try.prog (entR 3 80) 74 30 H74 Try.f74.results.toList Q []) = F74 a0 a1 w Q := by kernel_rfl
  call_of (fn := Try.f74) mixed entOk Try.func74 (c := C74) rfl H74 (Nat.le_of_ble_eq_true rfl) (e.mpr h)

/-! ### rundale/op.Of: function 75 -/
noncomputable def C75 : Code := (Try.f75.body).getD .skip
noncomputable def H75 : Hints := ⟨[], [], []⟩
def F75 (a0 : Value) (w : World) (Q : Value → World → Prop) : Prop :=
  CallR Try.prog 79 [a0] w fun t4 w =>
  wpB (pureRun Try.prog (Instr.field 97 t4 1)) fun t5 =>
  Q t5 w
theorem F75_ok {a0 : Value} {w : World} {Q : Value → World → Prop} (h : F75 a0 w Q) : CallR Try.prog 75 [a0] w Q :=
  have e : evC Try.prog (entR 3 80) 75 6 H75 Q C75 [] (entryE 0 [a0]) w (contT Try.prog (entR 3 80) 75 6 H75 Try.f75.results.toList Q []) = F75 a0 w Q := by kernel_rfl
  call_of (fn := Try.f75) mixed entOk Try.func75 (c := C75) rfl H75 (Nat.le_of_ble_eq_true rfl) (e.mpr h)

/-! ### slices.Index[[]int,int]: function 76 -/
noncomputable def C76 : Code := (Try.f76.body).getD .skip
noncomputable def H76 : Hints := ⟨[(2, [0, 1, 7, 8])], [], []⟩
noncomputable def T76_0 : List It := [.lp (nav [1, 0, 1, 4, 5] C76), .blk 0, .jn (nav [1, 1] C76)]
/-- slices.Index[[]int,int], from a loop's head on -/
def P76_0 (x0 x1 x7 x8 : Value) (w : World) (Q : Value → World → Prop) : Prop := Part Try.prog 76 T76_0 [0, 1, 7, 8] [x0, x1, x7, x8] w Q
def F76 (a0 a1 : Value) (w : World) (Q : Value → World → Prop) : Prop :=
  wpB (pureRun Try.prog (Builtin.len_ #[28] 3 #[a0])) fun t7 =>
  P76_0 a0 a1 t7 (Go.Value.int Go.IntKind.i64 0) w Q
def L76_0 (x0 x1 x7 x8 : Value) (w : World) (Q : Value → World → Prop) : Prop :=
  wpB (bp Try.prog .lss 3 x8 x7) fun t9 =>
  cnd t9
  (wpB (pureRun Try.prog (Instr.indexAt 28 x0 x8)) fun t14 =>
  wpB (ldv Try.prog 3 t14 w) fun t15 =>
  wpB (be Try.prog .eql 3 (.tmp 11) (.tmp 15) x1 t15) fun t16 =>
  cnd t16
  (Q x8 w)
  (wpB (bp Try.prog .add 3 x8 (Go.Value.int Go.IntKind.i64 1)) fun t18 =>
  P76_0 x0 x1 x7 t18 w Q))
  (Q (Go.Value.int Go.IntKind.i64 (-1)) w)
theorem F76_ok {a0 a1 : Value} {w : World} {Q : Value → World → Prop} (h : F76 a0 a1 w Q) : CallR Try.prog 76 [a0, a1] w Q :=
  have e : evC Try.prog (entR 3 80) 76 19 H76 Q C76 [] (entryE 0 [a0, a1]) w (contT Try.prog (entR 3 80) 76 19 H76 Try.f76.results.toList Q []) = F76 a0 a1 w Q := by kernel_rfl
  call_of (fn := Try.f76) mixed entOk Try.func76 (c := C76) rfl H76 (Nat.le_of_ble_eq_true rfl) (e.mpr h)
theorem L76_0_ok {x0 x1 x7 x8 : Value} {w : World} {Q : Value → World → Prop} (h : L76_0 x0 x1 x7 x8 w Q) : P76_0 x0 x1 x7 x8 w Q :=
  have e : evC Try.prog (entR 3 80) 76 19 H76 Q (nav [1, 0, 1, 4, 5] C76) T76_0 (unpack [0, 1, 7, 8] [x0, x1, x7, x8]) w (contT Try.prog (entR 3 80) 76 19 H76 Try.f76.results.toList Q T76_0) = L76_0 x0 x1 x7 x8 w Q := by kernel_rfl
  part_lp (fn := Try.f76) mixed entOk Try.func76 H76 (c := (nav [1, 0, 1, 4, 5] C76)) (t := [.blk 0, .jn (nav [1, 1] C76)]) (e.mpr h)

/-! ### math/bits.Mul32: function 77 -/
noncomputable def C77 : Code := (Try.f77.body).getD .skip
noncomputable def H77 : Hints := ⟨[], [], []⟩
def F77 (a0 a1 : Value) (w : World) (Q : Value → World → Prop) : Prop :=
  wpB (pureRun Try.prog (convert 91 33 a0)) fun t8 =>
  wpB (pureRun Try.prog (convert 91 33 a1)) fun t10 =>
  wpB (bp Try.prog .mul 33 t8 t10) fun t11 =>
  wpB (bp Try.prog .shr 33 t11 (Go.Value.int Go.IntKind.u64 32)) fun t13 =>
  wpB (pureRun Try.prog (convert 33 91 t13)) fun t14 =>
  wpB (pureRun Try.prog (convert 33 91 t11)) fun t16 =>
  Q (.tuple #[t14, t16]) w
theorem F77_ok {a0 a1 : Value} {w : World} {Q : Value → World → Prop} (h : F77 a0 a1 w Q) : CallR Try.prog 77 [a0, a1] w Q :=
  have e : evC Try.prog (entR 3 80) 77 17 H77 Q C77 [] (entryE 0 [a0, a1]) w (contT Try.prog (entR 3 80) 77 17 H77 Try.f77.results.toList Q []) = F77 a0 a1 w Q := by kernel_rfl
  call_of (fn := Try.f77) mixed entOk Try.func77 (c := C77) rfl H77 (Nat.le_of_ble_eq_true rfl) (e.mpr h)

/-! ### math/bits.Mul64: function 78 -/
noncomputable def C78 : Code := (Try.f78.body).getD .skip
noncomputable def H78 : Hints := ⟨[], [], []⟩
def F78 (a0 a1 : Value) (w : World) (Q : Value → World → Prop) : Prop :=
  wpB (bp Try.prog .and 33 a0 (Go.Value.int Go.IntKind.u64 4294967295)) fun t15 =>
  wpB (bp Try.prog .shr 33 a0 (Go.Value.int Go.IntKind.u64 32)) fun t17 =>
  wpB (bp Try.prog .and 33 a1 (Go.Value.int Go.IntKind.u64 4294967295)) fun t19 =>
  wpB (bp Try.prog .shr 33 a1 (Go.Value.int Go.IntKind.u64 32)) fun t21 =>
  wpB (bp Try.prog .mul 33 t15 t19) fun t24 =>
  wpB (bp Try.prog .mul 33 t17 t19) fun t27 =>
  wpB (bp Try.prog .shr 33 t24 (Go.Value.int Go.IntKind.u64 32)) fun t29 =>
  wpB (bp Try.prog .add 33 t27 t29) fun t30 =>
  wpB (bp Try.prog .and 33 t30 (Go.Value.int Go.IntKind.u64 4294967295)) fun t32 =>
  wpB (bp Try.prog .shr 33 t30 (Go.Value.int Go.IntKind.u64 32)) fun t34 =>
  wpB (bp Try.prog .mul 33 t15 t21) fun t38 =>
  wpB (bp Try.prog .add 33 t32 t38) fun t39 =>
  wpB (bp Try.prog .mul 33 t17 t21) fun t42 =>
  wpB (bp Try.prog .add 33 t42 t34) fun t44 =>
  wpB (bp Try.prog .shr 33 t39 (Go.Value.int Go.IntKind.u64 32)) fun t46 =>
  wpB (bp Try.prog .add 33 t44 t46) fun t47 =>
  wpB (bp Try.prog .mul 33 a0 a1) fun t50 =>
  Q (.tuple #[t47, t50]) w
theorem F78_ok {a0 a1 : Value} {w : World} {Q : Value → World → Prop} (h : F78 a0 a1 w Q) : CallR Try.prog 78 [a0, a1] w Q :=
  have e : evC Try.prog (entR 3 80) 78 51 H78 Q C78 [] (entryE 0 [a0, a1]) w (contT Try.prog (entR 3 80) 78 51 H78 Try.f78.results.toList Q []) = F78 a0 a1 w Q := by kernel_rfl
  call_of (fn := Try.f78) mixed entOk Try.func78 (c := C78) rfl H78 (Nat.le_of_ble_eq_true rfl) (e.mpr h)

/-! ### rundale/op.formOf: function 79 -/
noncomputable def C79 : Code := (Try.f79.body).getD .skip
noncomputable def H79 : Hints := ⟨[], [], []⟩
def F79 (a0 : Value) (w : World) (Q : Value → World → Prop) : Prop :=
  effv Try.prog (Instr.alloc 97 true (.tuple #[])) w fun t2 w =>
  wpB (pureRun Try.prog (Instr.build 97 #[])) fun t4 =>
  wpB (pureRun Try.prog (Instr.build 97 #[(0, (Go.Value.string { data := #[99, 114, 101, 97, 116, 101] })), (2, (Go.Value.bool true))])) fun t5 =>
  wpB (pureRun Try.prog (Instr.build 97 #[(0, (Go.Value.string { data := #[97, 108, 108, 111, 99] })), (1, (Go.Value.int Go.IntKind.i64 1)), (2, (Go.Value.bool true))])) fun t6 =>
  wpB (pureRun Try.prog (Instr.build 97 #[(0, (Go.Value.string { data := #[112, 105, 110] }))])) fun t7 =>
  wpB (pureRun Try.prog (Instr.build 97 #[(0, (Go.Value.string { data := #[117, 110, 112, 105, 110] }))])) fun t8 =>
  wpB (pureRun Try.prog (Instr.build 97 #[(0, (Go.Value.string { data := #[104, 111, 108, 100] })), (1, (Go.Value.int Go.IntKind.i64 3))])) fun t9 =>
  wpB (pureRun Try.prog (Instr.build 97 #[(0, (Go.Value.string { data := #[108, 111, 97, 100] })), (1, (Go.Value.int Go.IntKind.i64 2)), (2, (Go.Value.bool true))])) fun t10 =>
  wpB (pureRun Try.prog (Instr.build 97 #[(0, (Go.Value.string { data := #[115, 116, 111, 114, 101] })), (1, (Go.Value.int Go.IntKind.i64 2)), (2, (Go.Value.bool true)), (3, (Go.Value.bool true))])) fun t11 =>
  wpB (pureRun Try.prog (Instr.build 97 #[(0, (Go.Value.string { data := #[97, 100, 100] })), (1, (Go.Value.int Go.IntKind.i64 2)), (2, (Go.Value.bool true)), (3, (Go.Value.bool true))])) fun t12 =>
  wpB (pureRun Try.prog (Instr.build 97 #[(0, (Go.Value.string { data := #[99, 97, 115] })), (1, (Go.Value.int Go.IntKind.i64 2)), (2, (Go.Value.bool true)), (3, (Go.Value.bool true)), (4, (Go.Value.bool true))])) fun t13 =>
  wpB (pureRun Try.prog (Instr.build 97 #[(0, (Go.Value.string { data := #[102, 114, 101, 101] })), (1, (Go.Value.int Go.IntKind.i64 1))])) fun t14 =>
  wpB (pureRun Try.prog (Instr.build 97 #[(0, (Go.Value.string { data := #[99, 111, 108, 108, 101, 99, 116] }))])) fun t15 =>
  wpB (pureRun Try.prog (Instr.build 97 #[(0, (Go.Value.string { data := #[115, 116, 97, 116, 115] })), (1, (Go.Value.int Go.IntKind.i64 1))])) fun t16 =>
  effv Try.prog (Instr.buildSlice 99 13 #[(0, t4), (1, t5), (2, t6), (3, t7), (4, t8), (5, t9), (6, t10), (7, t11), (8, t12), (9, t13), (10, t14), (11, t15), (12, t16)]) w fun t17 w =>
  wpB (bp Try.prog .lss 3 a0 (Go.Value.int Go.IntKind.i64 1)) fun t19 =>
  wpB (gd t19 false (pureRun Try.prog (Builtin.len_ #[99] 3 #[(gv t19 false t17)]))) fun t23 =>
  wpB (gd t19 false (bp Try.prog .geq 3 (gv t19 false a0) t23)) fun t24 =>
  wpB (pickv t19 (some (Go.Value.bool true)) (some t24)) fun t25 =>
  cnd t25
  (wpB (pureRun Try.prog (Instr.indexAt 99 t17 (Go.Value.int Go.IntKind.i64 0))) fun t27 =>
  wpB (ldv Try.prog 97 t27 w) fun t28 =>
  effu Try.prog (Instr.storeAt 97 t2 t28) w fun w =>
  wpB (ldv Try.prog 97 t2 w) fun r2 => Q r2 w)
  (wpB (pureRun Try.prog (Instr.indexAt 99 t17 a0)) fun t31 =>
  wpB (ldv Try.prog 97 t31 w) fun t32 =>
  effu Try.prog (Instr.storeAt 97 t2 t32) w fun w =>
  wpB (ldv Try.prog 97 t2 w) fun r2_1 => Q r2_1 w)
theorem F79_ok {a0 : Value} {w : World} {Q : Value → World → Prop} (h : F79 a0 w Q) : CallR Try.prog 79 [a0] w Q :=
  have e : evC Try.prog (entR 3 80) 79 33 H79 Q C79 [] (entryE 0 [a0]) w (contT Try.prog (entR 3 80) 79 33 H79 Try.f79.results.toList Q []) = F79 a0 w Q := by kernel_rfl
  call_of (fn := Try.f79) mixed entOk Try.func79 (c := C79) rfl H79 (Nat.le_of_ble_eq_true rfl) (e.mpr h)
end Go.Proofs.Ytkploakfdlnbbaa
