/- Operations: which may be, in the program and in the reference. -/
import Derived.Test.YtgamnncehjcdiaaDd
import Derived.Test.YtgamnncehjcdiaaEv15
namespace Go.Proofs.Ytgamnncehjcdiaa
open Go Ev Go.RowKit
set_option linter.unusedSimpArgs false
set_option linter.unusedVariables false
set_option maxRecDepth 10000

theorem tup0 (a b : Value) : pureRun Try.prog (Instr.extract (.tuple #[a, b]) 0) = some a := by rw [pr_extract]; rfl
theorem tup1 (a b : Value) : pureRun Try.prog (Instr.extract (.tuple #[a, b]) 1) = some b := by rw [pr_extract]; rfl
theorem c_within (n m : Int) (w : World) : CallR Try.prog 109 [.int .i64 n, .int .i64 m] w fun v w' => v = .bool (decide (0 ≤ n ∧ n ≤ m)) ∧ w' = w := by
  apply F109_ok
  by_cases h : 0 ≤ n
  · have e : decide (0 ≤ n ∧ n ≤ m) = decide (n ≤ m) := by simp [h]
    simp -implicitDefEqProofs only [F109, wpB_some', gd_true, gd_false, gd_tf, gd_ft, gd_ut, gd_uf, gv_true, gv_false, gv_tf, gv_ft, gv_ut, gv_uf, gE_true, gE_false, gE_tf, gE_ft, gE_ut, gE_uf, gU_true, gU_false, gU_tf, gU_ft, pickv_true, pickv_false, cnd_true, cnd_false, decide_true, decide_false, Bool.not_true, Bool.not_false, pr_not, nilv_some, bp_lss, bp_leq, bp_gtr, bp_geq, be_eql, be_neq, bne_self_eq_false, beq_self_eq_true, ldC_some, Option.isNone_none, Option.isNone_some, hp_drew, h, e, and_self]
    exact ⟨by simp, trivial⟩
  · simp -implicitDefEqProofs only [F109, wpB_some', gd_true, gd_false, gd_tf, gd_ft, gd_ut, gd_uf, gv_true, gv_false, gv_tf, gv_ft, gv_ut, gv_uf, gE_true, gE_false, gE_tf, gE_ft, gE_ut, gE_uf, gU_true, gU_false, gU_tf, gU_ft, pickv_true, pickv_false, cnd_true, cnd_false, decide_true, decide_false, Bool.not_true, Bool.not_false, pr_not, nilv_some, bp_lss, bp_leq, bp_gtr, bp_geq, be_eql, be_neq, bne_self_eq_false, beq_self_eq_true, ldC_some, Option.isNone_none, Option.isNone_some, hp_drew, h, false_and, and_self]
theorem c_in18 (n a m : Int) (w : World) : CallR Try.prog 66 [.int .i64 n, .int .i64 a, .int .i64 m] w fun v w' => v = .bool (decide (a ≤ n ∧ n ≤ m)) ∧ w' = w := by
  apply F66_ok
  by_cases h : a ≤ n
  · simp -implicitDefEqProofs only [F66, wpB_some', gd_true, gd_false, gd_tf, gd_ft, gd_ut, gd_uf, gv_true, gv_false, gv_tf, gv_ft, gv_ut, gv_uf, gE_true, gE_false, gE_tf, gE_ft, gE_ut, gE_uf, gU_true, gU_false, gU_tf, gU_ft, pickv_true, pickv_false, cnd_true, cnd_false, decide_true, decide_false, Bool.not_true, Bool.not_false, pr_not, nilv_some, bp_lss, bp_leq, bp_gtr, bp_geq, be_eql, be_neq, bne_self_eq_false, beq_self_eq_true, ldC_some, Option.isNone_none, Option.isNone_some, hp_drew, h, true_and, and_self]
  · simp -implicitDefEqProofs only [F66, wpB_some', gd_true, gd_false, gd_tf, gd_ft, gd_ut, gd_uf, gv_true, gv_false, gv_tf, gv_ft, gv_ut, gv_uf, gE_true, gE_false, gE_tf, gE_ft, gE_ut, gE_uf, gU_true, gU_false, gU_tf, gU_ft, pickv_true, pickv_false, cnd_true, cnd_false, decide_true, decide_false, Bool.not_true, Bool.not_false, pr_not, nilv_some, bp_lss, bp_leq, bp_gtr, bp_geq, be_eql, be_neq, bne_self_eq_false, beq_self_eq_true, ldC_some, Option.isNone_none, Option.isNone_some, hp_drew, h, false_and, and_self]
def frM (k : Int) : Int := if ofK k = 0 then 0 else 63
def atM (k : Int) : Int := if ofK k = 0 then 0 else 999
def nM (k : Int) : Int := if k = 1 then 3 else if nB k then 65535 else 0
/-- may an operation be? -/
def mayO (o : OpV) : Bool := decide ((1 ≤ o.1 ∧ o.1 ≤ 12) ∧ (0 ≤ o.2.1 ∧ o.2.1 ≤ frM o.1) ∧ (0 ≤ o.2.2.1 ∧ o.2.2.1 ≤ atM o.1) ∧ (0 ≤ o.2.2.2.1 ∧ o.2.2.2.1 ≤ nM o.1) ∧ (vB o.1 = true ∨ o.2.2.2.2.1 = 0) ∧ (wB o.1 = true ∨ o.2.2.2.2.2 = 0))
theorem op_0 (o : OpV) : (opC o).toArray[0 + 0]? = some (.int .i64 o.1) := rfl
theorem op_1 (o : OpV) : (opC o).toArray[0 + 1]? = some (.int .i64 o.2.1) := rfl
theorem op_2 (o : OpV) : (opC o).toArray[0 + 2]? = some (.int .i64 o.2.2.1) := rfl
theorem op_3 (o : OpV) : (opC o).toArray[0 + 3]? = some (.int .i64 o.2.2.2.1) := rfl
theorem op_4 (o : OpV) : (opC o).toArray[0 + 4]? = some (.int .u64 o.2.2.2.2.1) := rfl
theorem op_5 (o : OpV) : (opC o).toArray[0 + 5]? = some (.int .u64 o.2.2.2.2.2) := rfl
theorem form_0 (k : Int) : (formC k).toArray[0 + 0]? = some (.string (nameK k)) := rfl
theorem form_1 (k : Int) : (formC k).toArray[0 + 1]? = some (.int .i64 (ofK k)) := rfl
theorem form_2 (k : Int) : (formC k).toArray[0 + 2]? = some (.bool (nB k)) := rfl
theorem form_3 (k : Int) : (formC k).toArray[0 + 3]? = some (.bool (vB k)) := rfl
theorem form_4 (k : Int) : (formC k).toArray[0 + 4]? = some (.bool (wB k)) := rfl
theorem name_ne (k : Int) : (!((nameK k).toList == (({ data := #[] } : ByteArray)).toList)) = decide (1 ≤ k ∧ k ≤ 12) := by
  have e : (({ data := #[] } : ByteArray)).toList = [] := ByteArray.toList_mk []
  rw [e]
  rcases kind_cases k with rfl | rfl | rfl | rfl | rfl | rfl | rfl | rfl | rfl | rfl | rfl | rfl | h
  case inr.inr.inr.inr.inr.inr.inr.inr.inr.inr.inr.inr =>
    have := formC_out h
    have e2 : nameK k = { data := #[] } := by
      have h0 := congrArg (fun l : List Value => l[0]?) this
      simp [formC] at h0; exact h0
    rw [e2, e]
    have : ¬ (1 ≤ k ∧ k ≤ 12) := by omega
    simp [this]
  all_goals decide +kernel
theorem mayO_eq (o : OpV) {b : Bool} (h : ((1 ≤ o.1 ∧ o.1 ≤ 12) ∧ (0 ≤ o.2.1 ∧ o.2.1 ≤ frM o.1) ∧ (0 ≤ o.2.2.1 ∧ o.2.2.1 ≤ atM o.1) ∧ (0 ≤ o.2.2.2.1 ∧ o.2.2.2.1 ≤ nM o.1) ∧ (vB o.1 = true ∨ o.2.2.2.2.1 = 0) ∧ (wB o.1 = true ∨ o.2.2.2.2.2 = 0)) ↔ b = true) : mayO o = b := by
  unfold mayO
  cases b
  · exact decide_eq_false fun h' => by have := h.1 h'; cases this
  · exact decide_eq_true (h.2 rfl)
set_option maxHeartbeats 1000000 in
theorem l_opMay1 {w w0 : World} (hw0 : Chg [] w0 w) {o : OpV} {g1 g3 : Nat} (h1 : hp w g1 = some (.cells (opC o).toArray 40)) (h3 : hp w g3 = some (.cells (formC o.1).toArray 170)) :
    P60_1 (.pointer (some ⟨g1, 0, none⟩)) (.pointer (some ⟨g3, 0, none⟩)) (.int .i64 (frM o.1)) (.int .i64 (atM o.1)) (.int .i64 (nM o.1)) w fun v w' => v = .bool (mayO o) ∧ Chg [] w0 w' := by
  apply L60_1_ok
  by_cases k1 : 1 ≤ o.1 ∧ o.1 ≤ 12
  rotate_left
  · simp -implicitDefEqProofs only [L60_1, wpB_some', gd_true, gd_false, gd_tf, gd_ft, gd_ut, gd_uf, gv_true, gv_false, gv_tf, gv_ft, gv_ut, gv_uf, gE_true, gE_false, gE_tf, gE_ft, gE_ut, gE_uf, gU_true, gU_false, gU_tf, gU_ft, pickv_true, pickv_false, cnd_true, cnd_false, decide_true, decide_false, Bool.not_true, Bool.not_false, pr_not, nilv_some, bp_lss, bp_leq, bp_gtr, bp_geq, be_eql, be_neq, bne_self_eq_false, beq_self_eq_true, ldC_some, Option.isNone_none, Option.isNone_some, hp_drew, fa_170_0, ld_9, h3, form_0, be_neqstr, name_ne, k1]
    exact ⟨by rw [mayO_eq o (b := false) ⟨fun h => absurd h.1 k1, fun h => by cases h⟩], hw0⟩
  simp -implicitDefEqProofs only [L60_1, wpB_some', gd_true, gd_false, gd_tf, gd_ft, gd_ut, gd_uf, gv_true, gv_false, gv_tf, gv_ft, gv_ut, gv_uf, gE_true, gE_false, gE_tf, gE_ft, gE_ut, gE_uf, gU_true, gU_false, gU_tf, gU_ft, pickv_true, pickv_false, cnd_true, cnd_false, decide_true, decide_false, Bool.not_true, Bool.not_false, pr_not, nilv_some, bp_lss, bp_leq, bp_gtr, bp_geq, be_eql, be_neq, bne_self_eq_false, beq_self_eq_true, ldC_some, Option.isNone_none, Option.isNone_some, hp_drew, fa_170_0, ld_9, h3, form_0, be_neqstr, name_ne, decide_eq_true k1, fa_40_1, ld_3, h1, op_1]
  refine (c_within _ _ _).step ?_
  by_cases k2 : 0 ≤ o.2.1 ∧ o.2.1 ≤ frM o.1
  rotate_left
  · simp -implicitDefEqProofs only [decide_eq_false k2, wpB_some', gd_true, gd_false, gd_tf, gd_ft, gd_ut, gd_uf, gv_true, gv_false, gv_tf, gv_ft, gv_ut, gv_uf, gE_true, gE_false, gE_tf, gE_ft, gE_ut, gE_uf, gU_true, gU_false, gU_tf, gU_ft, pickv_true, pickv_false, cnd_true, cnd_false, decide_true, decide_false, Bool.not_true, Bool.not_false, pr_not, nilv_some, bp_lss, bp_leq, bp_gtr, bp_geq, be_eql, be_neq, bne_self_eq_false, beq_self_eq_true, ldC_some, Option.isNone_none, Option.isNone_some, hp_drew]
    exact ⟨by rw [mayO_eq o (b := false) ⟨fun h => absurd h.2.1 k2, fun h => by cases h⟩], hw0⟩
  simp -implicitDefEqProofs only [decide_eq_true k2, wpB_some', gd_true, gd_false, gd_tf, gd_ft, gd_ut, gd_uf, gv_true, gv_false, gv_tf, gv_ft, gv_ut, gv_uf, gE_true, gE_false, gE_tf, gE_ft, gE_ut, gE_uf, gU_true, gU_false, gU_tf, gU_ft, pickv_true, pickv_false, cnd_true, cnd_false, decide_true, decide_false, Bool.not_true, Bool.not_false, pr_not, nilv_some, bp_lss, bp_leq, bp_gtr, bp_geq, be_eql, be_neq, bne_self_eq_false, beq_self_eq_true, ldC_some, Option.isNone_none, Option.isNone_some, hp_drew, fa_40_2, ld_3, h1, op_2]
  refine (c_within _ _ _).step ?_
  by_cases k3 : 0 ≤ o.2.2.1 ∧ o.2.2.1 ≤ atM o.1
  rotate_left
  · simp -implicitDefEqProofs only [decide_eq_false k3, wpB_some', gd_true, gd_false, gd_tf, gd_ft, gd_ut, gd_uf, gv_true, gv_false, gv_tf, gv_ft, gv_ut, gv_uf, gE_true, gE_false, gE_tf, gE_ft, gE_ut, gE_uf, gU_true, gU_false, gU_tf, gU_ft, pickv_true, pickv_false, cnd_true, cnd_false, decide_true, decide_false, Bool.not_true, Bool.not_false, pr_not, nilv_some, bp_lss, bp_leq, bp_gtr, bp_geq, be_eql, be_neq, bne_self_eq_false, beq_self_eq_true, ldC_some, Option.isNone_none, Option.isNone_some, hp_drew]
    exact ⟨by rw [mayO_eq o (b := false) ⟨fun h => absurd h.2.2.1 k3, fun h => by cases h⟩], hw0⟩
  simp -implicitDefEqProofs only [decide_eq_true k3, wpB_some', gd_true, gd_false, gd_tf, gd_ft, gd_ut, gd_uf, gv_true, gv_false, gv_tf, gv_ft, gv_ut, gv_uf, gE_true, gE_false, gE_tf, gE_ft, gE_ut, gE_uf, gU_true, gU_false, gU_tf, gU_ft, pickv_true, pickv_false, cnd_true, cnd_false, decide_true, decide_false, Bool.not_true, Bool.not_false, pr_not, nilv_some, bp_lss, bp_leq, bp_gtr, bp_geq, be_eql, be_neq, bne_self_eq_false, beq_self_eq_true, ldC_some, Option.isNone_none, Option.isNone_some, hp_drew, fa_40_3, ld_3, h1, op_3]
  refine (c_within _ _ _).step ?_
  by_cases k4 : 0 ≤ o.2.2.2.1 ∧ o.2.2.2.1 ≤ nM o.1
  rotate_left
  · simp -implicitDefEqProofs only [decide_eq_false k4, wpB_some', gd_true, gd_false, gd_tf, gd_ft, gd_ut, gd_uf, gv_true, gv_false, gv_tf, gv_ft, gv_ut, gv_uf, gE_true, gE_false, gE_tf, gE_ft, gE_ut, gE_uf, gU_true, gU_false, gU_tf, gU_ft, pickv_true, pickv_false, cnd_true, cnd_false, decide_true, decide_false, Bool.not_true, Bool.not_false, pr_not, nilv_some, bp_lss, bp_leq, bp_gtr, bp_geq, be_eql, be_neq, bne_self_eq_false, beq_self_eq_true, ldC_some, Option.isNone_none, Option.isNone_some, hp_drew]
    exact ⟨by rw [mayO_eq o (b := false) ⟨fun h => absurd h.2.2.2.1 k4, fun h => by cases h⟩], hw0⟩
  simp -implicitDefEqProofs only [decide_eq_true k4, wpB_some', gd_true, gd_false, gd_tf, gd_ft, gd_ut, gd_uf, gv_true, gv_false, gv_tf, gv_ft, gv_ut, gv_uf, gE_true, gE_false, gE_tf, gE_ft, gE_ut, gE_uf, gU_true, gU_false, gU_tf, gU_ft, pickv_true, pickv_false, cnd_true, cnd_false, decide_true, decide_false, Bool.not_true, Bool.not_false, pr_not, nilv_some, bp_lss, bp_leq, bp_gtr, bp_geq, be_eql, be_neq, bne_self_eq_false, beq_self_eq_true, ldC_some, Option.isNone_none, Option.isNone_some, hp_drew, fa_170_3, ld_4, h3, form_3]
  have last : ∀ b : Bool, (vB o.1 = true ∨ o.2.2.2.2.1 = 0) → ((wB o.1 = true ∨ o.2.2.2.2.2 = 0) ↔ b = true) → mayO o = b := fun b h5 h6 => mayO_eq o ⟨fun h => h6.1 h.2.2.2.2.2, fun h => ⟨k1, k2, k3, k4, h5, h6.2 h⟩⟩
  have no5 : ¬ (vB o.1 = true ∨ o.2.2.2.2.1 = 0) → mayO o = false := fun h5 => mayO_eq o ⟨fun h => absurd h.2.2.2.2.1 h5, fun h => by cases h⟩
  cases hv : vB o.1 with
  | true =>
    rw [hv] at last
    cases hww : wB o.1 with
    | true =>
      rw [hww] at last
      simp -implicitDefEqProofs only [wpB_some', gd_true, gd_false, gd_tf, gd_ft, gd_ut, gd_uf, gv_true, gv_false, gv_tf, gv_ft, gv_ut, gv_uf, gE_true, gE_false, gE_tf, gE_ft, gE_ut, gE_uf, gU_true, gU_false, gU_tf, gU_ft, pickv_true, pickv_false, cnd_true, cnd_false, decide_true, decide_false, Bool.not_true, Bool.not_false, pr_not, nilv_some, bp_lss, bp_leq, bp_gtr, bp_geq, be_eql, be_neq, bne_self_eq_false, beq_self_eq_true, ldC_some, Option.isNone_none, Option.isNone_some, hp_drew, fa_170_4, ld_4, h3, form_4, hww]
      exact ⟨by rw [last true (.inl rfl) (by simp)], hw0⟩
    | false =>
      rw [hww] at last
      simp -implicitDefEqProofs only [wpB_some', gd_true, gd_false, gd_tf, gd_ft, gd_ut, gd_uf, gv_true, gv_false, gv_tf, gv_ft, gv_ut, gv_uf, gE_true, gE_false, gE_tf, gE_ft, gE_ut, gE_uf, gU_true, gU_false, gU_tf, gU_ft, pickv_true, pickv_false, cnd_true, cnd_false, decide_true, decide_false, Bool.not_true, Bool.not_false, pr_not, nilv_some, bp_lss, bp_leq, bp_gtr, bp_geq, be_eql, be_neq, bne_self_eq_false, beq_self_eq_true, ldC_some, Option.isNone_none, Option.isNone_some, hp_drew, fa_170_4, ld_4, h3, form_4, hww, fa_40_5, ld_38, h1, op_5]
      exact ⟨by rw [last (o.2.2.2.2.2 == 0) (.inl rfl) (by simp)], hw0⟩
  | false =>
    rw [hv] at last no5
    by_cases k5 : o.2.2.2.2.1 = 0
    rotate_left
    · simp -implicitDefEqProofs only [wpB_some', gd_true, gd_false, gd_tf, gd_ft, gd_ut, gd_uf, gv_true, gv_false, gv_tf, gv_ft, gv_ut, gv_uf, gE_true, gE_false, gE_tf, gE_ft, gE_ut, gE_uf, gU_true, gU_false, gU_tf, gU_ft, pickv_true, pickv_false, cnd_true, cnd_false, decide_true, decide_false, Bool.not_true, Bool.not_false, pr_not, nilv_some, bp_lss, bp_leq, bp_gtr, bp_geq, be_eql, be_neq, bne_self_eq_false, beq_self_eq_true, ldC_some, Option.isNone_none, Option.isNone_some, hp_drew, fa_40_4, ld_38, h1, op_4, eqf k5]
      exact ⟨by rw [no5 (by simp [k5])], hw0⟩
    have k5' : (o.2.2.2.2.1 == 0) = true := by rw [k5]; rfl
    cases hww : wB o.1 with
    | true =>
      rw [hww] at last
      simp -implicitDefEqProofs only [wpB_some', gd_true, gd_false, gd_tf, gd_ft, gd_ut, gd_uf, gv_true, gv_false, gv_tf, gv_ft, gv_ut, gv_uf, gE_true, gE_false, gE_tf, gE_ft, gE_ut, gE_uf, gU_true, gU_false, gU_tf, gU_ft, pickv_true, pickv_false, cnd_true, cnd_false, decide_true, decide_false, Bool.not_true, Bool.not_false, pr_not, nilv_some, bp_lss, bp_leq, bp_gtr, bp_geq, be_eql, be_neq, bne_self_eq_false, beq_self_eq_true, ldC_some, Option.isNone_none, Option.isNone_some, hp_drew, fa_40_4, ld_38, h1, op_4, k5', fa_170_4, ld_4, h3, form_4, hww]
      exact ⟨by rw [last true (.inr k5) (by simp)], hw0⟩
    | false =>
      rw [hww] at last
      simp -implicitDefEqProofs only [wpB_some', gd_true, gd_false, gd_tf, gd_ft, gd_ut, gd_uf, gv_true, gv_false, gv_tf, gv_ft, gv_ut, gv_uf, gE_true, gE_false, gE_tf, gE_ft, gE_ut, gE_uf, gU_true, gU_false, gU_tf, gU_ft, pickv_true, pickv_false, cnd_true, cnd_false, decide_true, decide_false, Bool.not_true, Bool.not_false, pr_not, nilv_some, bp_lss, bp_leq, bp_gtr, bp_geq, be_eql, be_neq, bne_self_eq_false, beq_self_eq_true, ldC_some, Option.isNone_none, Option.isNone_some, hp_drew, fa_40_4, ld_38, h1, op_4, k5', fa_170_4, ld_4, h3, form_4, hww, fa_40_5, ld_38, h1, op_5]
      exact ⟨by rw [last (o.2.2.2.2.2 == 0) (.inr k5) (by simp)], hw0⟩
theorem c_opMay (o : OpV) (w : World) : CallR Try.prog 60 [.agg (opC o).toArray] w fun v w' => v = .bool (mayO o) ∧ Chg [] w w' := by
  apply F60_ok
  have h1 : hp (w.alloc (.cells (opC o).toArray 40)) w.heap.size = some (.cells (opC o).toArray 40) := by rw [alloc_heap, if_pos rfl]
  have hc1 : Chg [] w (w.alloc (.cells (opC o).toArray 40)) := (Chg.refl _ _).alloc _
  have hlt : w.heap.size < (w.alloc (.cells (opC o).toArray 40)).heap.size := by simp
  simp -implicitDefEqProofs only [F60, effv_box, cells_agg, wpB_some', gd_true, gd_false, gd_tf, gd_ft, gd_ut, gd_uf, gv_true, gv_false, gv_tf, gv_ft, gv_ut, gv_uf, gE_true, gE_false, gE_tf, gE_ft, gE_ut, gE_uf, gU_true, gU_false, gU_tf, gU_ft, pickv_true, pickv_false, cnd_true, cnd_false, decide_true, decide_false, Bool.not_true, Bool.not_false, pr_not, nilv_some, bp_lss, bp_leq, bp_gtr, bp_geq, be_eql, be_neq, bne_self_eq_false, beq_self_eq_true, ldC_some, Option.isNone_none, Option.isNone_some, hp_drew, fa_40_0, ld_3, h1, op_0]
  generalize w.alloc (.cells (opC o).toArray 40) = w1 at *
  generalize hg : w.heap.size = g1 at *
  refine (c_formOf o.1 w1).mono ?_
  rintro v w2 ⟨rfl, hc2⟩
  simp -implicitDefEqProofs only [al_170]
  rw [st_170 (by rfl) (by rfl) (by rw [alloc_heap, if_pos rfl]; rfl) (by rw [alloc_heap, if_pos rfl]; rfl), alloc_heap, if_pos rfl]
  simp -implicitDefEqProofs only [getE_some]
  generalize hz : w2.alloc _ = wa
  have hca : Chg [] w2 wa := by rw [← hz]; exact (Chg.refl _ _).alloc _
  have hza : wa.heap.size = w2.heap.size + 1 := by rw [← hz]; simp
  have hcp : Chg [] w2 (put wa w2.heap.size (formC o.1).toArray 170) := hca.put (.inr (Nat.le_refl _)) _ _
  have h3 : hp (put wa w2.heap.size (formC o.1).toArray 170) w2.heap.size = some (.cells (formC o.1).toArray 170) := by rw [put_heap, if_pos rfl, if_pos (by omega)]
  have h1 := (hc2.trans hcp).at h1 (by simp)
  have hcc := (hc1.trans hc2).trans hcp
  clear hz hca hza hcp
  generalize put wa w2.heap.size (formC o.1).toArray 170 = w3 at *
  generalize w2.heap.size = g3 at *
  simp -implicitDefEqProofs only [wpB_some', gd_true, gd_false, gd_tf, gd_ft, gd_ut, gd_uf, gv_true, gv_false, gv_tf, gv_ft, gv_ut, gv_uf, gE_true, gE_false, gE_tf, gE_ft, gE_ut, gE_uf, gU_true, gU_false, gU_tf, gU_ft, pickv_true, pickv_false, cnd_true, cnd_false, decide_true, decide_false, Bool.not_true, Bool.not_false, pr_not, nilv_some, bp_lss, bp_leq, bp_gtr, bp_geq, be_eql, be_neq, bne_self_eq_false, beq_self_eq_true, ldC_some, Option.isNone_none, Option.isNone_some, hp_drew, fa_170_1, ld_3, h3, form_1]
  have zero : ∀ f a : Int, f = frM o.1 → a = atM o.1 → P60_0 (.pointer (some ⟨g1, 0, none⟩)) (.pointer (some ⟨g3, 0, none⟩)) (.int .i64 f) (.int .i64 a) (.int .i64 0) w3 fun v w' => v = .bool (mayO o) ∧ Chg [] w w' := by
    intro f a hf ha
    subst hf; subst ha
    apply L60_0_ok
    by_cases k1 : o.1 = 1
    · have k1' : (o.1 == 1) = true := by rw [k1]; rfl
      have e : (3 : Int) = nM o.1 := by simp [nM, k1]
      simp -implicitDefEqProofs only [L60_0, wpB_some', gd_true, gd_false, gd_tf, gd_ft, gd_ut, gd_uf, gv_true, gv_false, gv_tf, gv_ft, gv_ut, gv_uf, gE_true, gE_false, gE_tf, gE_ft, gE_ut, gE_uf, gU_true, gU_false, gU_tf, gU_ft, pickv_true, pickv_false, cnd_true, cnd_false, decide_true, decide_false, Bool.not_true, Bool.not_false, pr_not, nilv_some, bp_lss, bp_leq, bp_gtr, bp_geq, be_eql, be_neq, bne_self_eq_false, beq_self_eq_true, ldC_some, Option.isNone_none, Option.isNone_some, hp_drew, fa_40_0, ld_3, h1, op_0, k1']
      rw [e]
      exact l_opMay1 hcc h1 h3
    · cases hn : nB o.1 with
      | true =>
        have e : (65535 : Int) = nM o.1 := by simp [nM, k1, hn]
        simp -implicitDefEqProofs only [L60_0, wpB_some', gd_true, gd_false, gd_tf, gd_ft, gd_ut, gd_uf, gv_true, gv_false, gv_tf, gv_ft, gv_ut, gv_uf, gE_true, gE_false, gE_tf, gE_ft, gE_ut, gE_uf, gU_true, gU_false, gU_tf, gU_ft, pickv_true, pickv_false, cnd_true, cnd_false, decide_true, decide_false, Bool.not_true, Bool.not_false, pr_not, nilv_some, bp_lss, bp_leq, bp_gtr, bp_geq, be_eql, be_neq, bne_self_eq_false, beq_self_eq_true, ldC_some, Option.isNone_none, Option.isNone_some, hp_drew, fa_40_0, ld_3, h1, op_0, eqf k1, fa_170_2, ld_4, h3, form_2, hn]
        rw [e]
        exact l_opMay1 hcc h1 h3
      | false =>
        have e : (0 : Int) = nM o.1 := by simp [nM, k1, hn]
        simp -implicitDefEqProofs only [L60_0, wpB_some', gd_true, gd_false, gd_tf, gd_ft, gd_ut, gd_uf, gv_true, gv_false, gv_tf, gv_ft, gv_ut, gv_uf, gE_true, gE_false, gE_tf, gE_ft, gE_ut, gE_uf, gU_true, gU_false, gU_tf, gU_ft, pickv_true, pickv_false, cnd_true, cnd_false, decide_true, decide_false, Bool.not_true, Bool.not_false, pr_not, nilv_some, bp_lss, bp_leq, bp_gtr, bp_geq, be_eql, be_neq, bne_self_eq_false, beq_self_eq_true, ldC_some, Option.isNone_none, Option.isNone_some, hp_drew, fa_40_0, ld_3, h1, op_0, eqf k1, fa_170_2, ld_4, h3, form_2, hn]
        have := l_opMay1 (w0 := w) hcc h1 h3
        rw [← e] at this
        exact this
  by_cases k : ofK o.1 = 0
  · have k' : (ofK o.1 != 0) = false := by rw [k]; rfl
    simp -implicitDefEqProofs only [k', wpB_some', gd_true, gd_false, gd_tf, gd_ft, gd_ut, gd_uf, gv_true, gv_false, gv_tf, gv_ft, gv_ut, gv_uf, gE_true, gE_false, gE_tf, gE_ft, gE_ut, gE_uf, gU_true, gU_false, gU_tf, gU_ft, pickv_true, pickv_false, cnd_true, cnd_false, decide_true, decide_false, Bool.not_true, Bool.not_false, pr_not, nilv_some, bp_lss, bp_leq, bp_gtr, bp_geq, be_eql, be_neq, bne_self_eq_false, beq_self_eq_true, ldC_some, Option.isNone_none, Option.isNone_some, hp_drew]
    exact zero 0 0 (by simp [frM, k]) (by simp [atM, k])
  · simp -implicitDefEqProofs only [bne_iff_ne.2 k, wpB_some', gd_true, gd_false, gd_tf, gd_ft, gd_ut, gd_uf, gv_true, gv_false, gv_tf, gv_ft, gv_ut, gv_uf, gE_true, gE_false, gE_tf, gE_ft, gE_ut, gE_uf, gU_true, gU_false, gU_tf, gU_ft, pickv_true, pickv_false, cnd_true, cnd_false, decide_true, decide_false, Bool.not_true, Bool.not_false, pr_not, nilv_some, bp_lss, bp_leq, bp_gtr, bp_geq, be_eql, be_neq, bne_self_eq_false, beq_self_eq_true, ldC_some, Option.isNone_none, Option.isNone_some, hp_drew]
    exact zero 63 999 (by simp [frM, k]) (by simp [atM, k])
set_option maxHeartbeats 1000000 in
theorem l_refMay {w : World} {o : OpV} {g1 : Nat} (h1 : hp w g1 = some (.cells (opC o).toArray 40)) :
    P53_0 (.pointer (some ⟨g1, 0, none⟩)) (.int .i64 (nM o.1)) w fun v w' => v = .bool (mayO o) ∧ w' = w := by
  apply L53_0_ok
  simp -implicitDefEqProofs only [L53_0, wpB_some', gd_true, gd_false, gd_tf, gd_ft, gd_ut, gd_uf, gv_true, gv_false, gv_tf, gv_ft, gv_ut, gv_uf, gE_true, gE_false, gE_tf, gE_ft, gE_ut, gE_uf, gU_true, gU_false, gU_tf, gU_ft, pickv_true, pickv_false, cnd_true, cnd_false, decide_true, decide_false, Bool.not_true, Bool.not_false, pr_not, nilv_some, bp_lss, bp_leq, bp_gtr, bp_geq, be_eql, be_neq, bne_self_eq_false, beq_self_eq_true, ldC_some, Option.isNone_none, Option.isNone_some, hp_drew, fa_40_0, ld_3, h1, op_0]
  refine (c_in18 _ _ _ _).step ?_
  have no : ¬ ((1 ≤ o.1 ∧ o.1 ≤ 12) ∧ (0 ≤ o.2.1 ∧ o.2.1 ≤ frM o.1) ∧ (0 ≤ o.2.2.1 ∧ o.2.2.1 ≤ atM o.1) ∧ (0 ≤ o.2.2.2.1 ∧ o.2.2.2.1 ≤ nM o.1) ∧ (vB o.1 = true ∨ o.2.2.2.2.1 = 0) ∧ (wB o.1 = true ∨ o.2.2.2.2.2 = 0)) → mayO o = false := fun h => mayO_eq o ⟨fun h' => absurd h' h, fun h => by cases h⟩
  by_cases k1 : 1 ≤ o.1 ∧ o.1 ≤ 12
  rotate_left
  · simp -implicitDefEqProofs only [decide_eq_false k1, wpB_some', gd_true, gd_false, gd_tf, gd_ft, gd_ut, gd_uf, gv_true, gv_false, gv_tf, gv_ft, gv_ut, gv_uf, gE_true, gE_false, gE_tf, gE_ft, gE_ut, gE_uf, gU_true, gU_false, gU_tf, gU_ft, pickv_true, pickv_false, cnd_true, cnd_false, decide_true, decide_false, Bool.not_true, Bool.not_false, pr_not, nilv_some, bp_lss, bp_leq, bp_gtr, bp_geq, be_eql, be_neq, bne_self_eq_false, beq_self_eq_true, ldC_some, Option.isNone_none, Option.isNone_some, hp_drew]
    exact ⟨by rw [no fun h => k1 h.1], trivial⟩
  simp -implicitDefEqProofs only [decide_eq_true k1, wpB_some', gd_true, gd_false, gd_tf, gd_ft, gd_ut, gd_uf, gv_true, gv_false, gv_tf, gv_ft, gv_ut, gv_uf, gE_true, gE_false, gE_tf, gE_ft, gE_ut, gE_uf, gU_true, gU_false, gU_tf, gU_ft, pickv_true, pickv_false, cnd_true, cnd_false, decide_true, decide_false, Bool.not_true, Bool.not_false, pr_not, nilv_some, bp_lss, bp_leq, bp_gtr, bp_geq, be_eql, be_neq, bne_self_eq_false, beq_self_eq_true, ldC_some, Option.isNone_none, Option.isNone_some, hp_drew, fa_40_3, ld_3, h1, op_3]
  refine (c_in18 _ _ _ _).step ?_
  by_cases k4 : 0 ≤ o.2.2.2.1 ∧ o.2.2.2.1 ≤ nM o.1
  rotate_left
  · simp -implicitDefEqProofs only [decide_eq_false k4, wpB_some', gd_true, gd_false, gd_tf, gd_ft, gd_ut, gd_uf, gv_true, gv_false, gv_tf, gv_ft, gv_ut, gv_uf, gE_true, gE_false, gE_tf, gE_ft, gE_ut, gE_uf, gU_true, gU_false, gU_tf, gU_ft, pickv_true, pickv_false, cnd_true, cnd_false, decide_true, decide_false, Bool.not_true, Bool.not_false, pr_not, nilv_some, bp_lss, bp_leq, bp_gtr, bp_geq, be_eql, be_neq, bne_self_eq_false, beq_self_eq_true, ldC_some, Option.isNone_none, Option.isNone_some, hp_drew]
    exact ⟨by rw [no fun h => k4 h.2.2.2.1], trivial⟩
  simp -implicitDefEqProofs only [decide_eq_true k4, wpB_some', gd_true, gd_false, gd_tf, gd_ft, gd_ut, gd_uf, gv_true, gv_false, gv_tf, gv_ft, gv_ut, gv_uf, gE_true, gE_false, gE_tf, gE_ft, gE_ut, gE_uf, gU_true, gU_false, gU_tf, gU_ft, pickv_true, pickv_false, cnd_true, cnd_false, decide_true, decide_false, Bool.not_true, Bool.not_false, pr_not, nilv_some, bp_lss, bp_leq, bp_gtr, bp_geq, be_eql, be_neq, bne_self_eq_false, beq_self_eq_true, ldC_some, Option.isNone_none, Option.isNone_some, hp_drew, fa_40_0, ld_3, h1, op_0]
  refine (c_HasV _ _).step ?_
  -- what is left once v and w were looked at
  have rest : (vB o.1 = true ∨ o.2.2.2.2.1 = 0) → (wB o.1 = true ∨ o.2.2.2.2.2 = 0) →
      (wpB (pureRun Try.prog (Instr.fieldAt 40 (.pointer (some ⟨g1, 0, none⟩)) 0)) fun t44 =>
       wpB (ldv Try.prog 3 t44 w) fun t45 =>
       CallR Try.prog 63 [t45] w fun t46 w1 =>
       wpB (be Try.prog .eql 3 (.tmp 46) (.const (.int .i64 0)) t46 (.int .i64 0)) fun t47 =>
       cnd t47
        (wpB (pureRun Try.prog (Instr.fieldAt 40 (.pointer (some ⟨g1, 0, none⟩)) 1)) fun t48 =>
         wpB (ldv Try.prog 3 t48 w1) fun t49 =>
         wpB (be Try.prog .eql 3 (.tmp 49) (.const (.int .i64 0)) t49 (.int .i64 0)) fun t50 =>
         wpB (gd t50 true (pureRun Try.prog (Instr.fieldAt 40 (.pointer (some ⟨g1, 0, none⟩)) 2))) fun t52 =>
         wpB (gd t50 true (ldv Try.prog 3 t52 w1)) fun t53 =>
         wpB (gd t50 true (be Try.prog .eql 3 (.tmp 53) (.const (.int .i64 0)) t53 (.int .i64 0))) fun t54 =>
         wpB (pickv t50 (some t54) (some (.bool false))) fun t55 => t55 = .bool (mayO o) ∧ w1 = w)
        (wpB (pureRun Try.prog (Instr.fieldAt 40 (.pointer (some ⟨g1, 0, none⟩)) 1)) fun t56 =>
         wpB (ldv Try.prog 3 t56 w1) fun t57 =>
         CallR Try.prog 66 [t57, .int .i64 0, .int .i64 63] w1 fun t58 w' =>
         wpB (gd t58 true (pureRun Try.prog (Instr.fieldAt 40 (.pointer (some ⟨g1, 0, none⟩)) 2))) fun t60 =>
         wpB (gd t58 true (ldv Try.prog 3 t60 w')) fun t61 =>
         gE t58 true (CallR Try.prog 66 [t61, .int .i64 0, .int .i64 999] w') (fun t62 w' =>
         wpB (pickv t58 (some t62) (some (.bool false))) fun t63 => t63 = .bool (mayO o) ∧ w' = w) w')) := by
    intro h5 h6
    simp -implicitDefEqProofs only [wpB_some', gd_true, gd_false, gd_tf, gd_ft, gd_ut, gd_uf, gv_true, gv_false, gv_tf, gv_ft, gv_ut, gv_uf, gE_true, gE_false, gE_tf, gE_ft, gE_ut, gE_uf, gU_true, gU_false, gU_tf, gU_ft, pickv_true, pickv_false, cnd_true, cnd_false, decide_true, decide_false, Bool.not_true, Bool.not_false, pr_not, nilv_some, bp_lss, bp_leq, bp_gtr, bp_geq, be_eql, be_neq, bne_self_eq_false, beq_self_eq_true, ldC_some, Option.isNone_none, Option.isNone_some, hp_drew, fa_40_0, ld_3, h1, op_0]
    refine (c_Of _ _).step ?_
    have fin : ∀ b : Bool, (((0 ≤ o.2.1 ∧ o.2.1 ≤ frM o.1) ∧ (0 ≤ o.2.2.1 ∧ o.2.2.1 ≤ atM o.1)) ↔ b = true) → mayO o = b := fun b h => mayO_eq o ⟨fun h' => h.1 ⟨h'.2.1, h'.2.2.1⟩, fun h' => ⟨k1, (h.2 h').1, (h.2 h').2, k4, h5, h6⟩⟩
    by_cases k : ofK o.1 = 0
    · have k' : (ofK o.1 == 0) = true := by rw [k]; rfl
      have ef : frM o.1 = 0 := by simp [frM, k]
      have ea : atM o.1 = 0 := by simp [atM, k]
      rw [ef, ea] at fin
      by_cases z1 : o.2.1 = 0
      · have z1' : (o.2.1 == 0) = true := by rw [z1]; rfl
        simp -implicitDefEqProofs only [k', wpB_some', gd_true, gd_false, gd_tf, gd_ft, gd_ut, gd_uf, gv_true, gv_false, gv_tf, gv_ft, gv_ut, gv_uf, gE_true, gE_false, gE_tf, gE_ft, gE_ut, gE_uf, gU_true, gU_false, gU_tf, gU_ft, pickv_true, pickv_false, cnd_true, cnd_false, decide_true, decide_false, Bool.not_true, Bool.not_false, pr_not, nilv_some, bp_lss, bp_leq, bp_gtr, bp_geq, be_eql, be_neq, bne_self_eq_false, beq_self_eq_true, ldC_some, Option.isNone_none, Option.isNone_some, hp_drew, fa_40_1, fa_40_2, ld_3, h1, op_1, op_2, z1']
        exact ⟨by rw [fin (o.2.2.1 == 0) (by simp; omega)], trivial⟩
      · simp -implicitDefEqProofs only [k', wpB_some', gd_true, gd_false, gd_tf, gd_ft, gd_ut, gd_uf, gv_true, gv_false, gv_tf, gv_ft, gv_ut, gv_uf, gE_true, gE_false, gE_tf, gE_ft, gE_ut, gE_uf, gU_true, gU_false, gU_tf, gU_ft, pickv_true, pickv_false, cnd_true, cnd_false, decide_true, decide_false, Bool.not_true, Bool.not_false, pr_not, nilv_some, bp_lss, bp_leq, bp_gtr, bp_geq, be_eql, be_neq, bne_self_eq_false, beq_self_eq_true, ldC_some, Option.isNone_none, Option.isNone_some, hp_drew, fa_40_1, fa_40_2, ld_3, h1, op_1, op_2, eqf z1]
        exact ⟨by rw [fin false (by simp; omega)], trivial⟩
    · have ef : frM o.1 = 63 := by simp [frM, k]
      have ea : atM o.1 = 999 := by simp [atM, k]
      rw [ef, ea] at fin
      simp -implicitDefEqProofs only [eqf k, wpB_some', gd_true, gd_false, gd_tf, gd_ft, gd_ut, gd_uf, gv_true, gv_false, gv_tf, gv_ft, gv_ut, gv_uf, gE_true, gE_false, gE_tf, gE_ft, gE_ut, gE_uf, gU_true, gU_false, gU_tf, gU_ft, pickv_true, pickv_false, cnd_true, cnd_false, decide_true, decide_false, Bool.not_true, Bool.not_false, pr_not, nilv_some, bp_lss, bp_leq, bp_gtr, bp_geq, be_eql, be_neq, bne_self_eq_false, beq_self_eq_true, ldC_some, Option.isNone_none, Option.isNone_some, hp_drew, fa_40_1, fa_40_2, ld_3, h1, op_1, op_2]
      refine (c_in18 _ _ _ _).step ?_
      by_cases z1 : 0 ≤ o.2.1 ∧ o.2.1 ≤ 63
      · simp -implicitDefEqProofs only [decide_eq_true z1, wpB_some', gd_true, gd_false, gd_tf, gd_ft, gd_ut, gd_uf, gv_true, gv_false, gv_tf, gv_ft, gv_ut, gv_uf, gE_true, gE_false, gE_tf, gE_ft, gE_ut, gE_uf, gU_true, gU_false, gU_tf, gU_ft, pickv_true, pickv_false, cnd_true, cnd_false, decide_true, decide_false, Bool.not_true, Bool.not_false, pr_not, nilv_some, bp_lss, bp_leq, bp_gtr, bp_geq, be_eql, be_neq, bne_self_eq_false, beq_self_eq_true, ldC_some, Option.isNone_none, Option.isNone_some, hp_drew, fa_40_2, ld_3, h1, op_2]
        refine (c_in18 _ _ _ _).step ?_
        simp -implicitDefEqProofs only [wpB_some', gd_true, gd_false, gd_tf, gd_ft, gd_ut, gd_uf, gv_true, gv_false, gv_tf, gv_ft, gv_ut, gv_uf, gE_true, gE_false, gE_tf, gE_ft, gE_ut, gE_uf, gU_true, gU_false, gU_tf, gU_ft, pickv_true, pickv_false, cnd_true, cnd_false, decide_true, decide_false, Bool.not_true, Bool.not_false, pr_not, nilv_some, bp_lss, bp_leq, bp_gtr, bp_geq, be_eql, be_neq, bne_self_eq_false, beq_self_eq_true, ldC_some, Option.isNone_none, Option.isNone_some, hp_drew]
        exact ⟨by rw [fin (decide (0 ≤ o.2.2.1 ∧ o.2.2.1 ≤ 999)) (by simp; omega)], trivial⟩
      · simp -implicitDefEqProofs only [decide_eq_false z1, wpB_some', gd_true, gd_false, gd_tf, gd_ft, gd_ut, gd_uf, gv_true, gv_false, gv_tf, gv_ft, gv_ut, gv_uf, gE_true, gE_false, gE_tf, gE_ft, gE_ut, gE_uf, gU_true, gU_false, gU_tf, gU_ft, pickv_true, pickv_false, cnd_true, cnd_false, decide_true, decide_false, Bool.not_true, Bool.not_false, pr_not, nilv_some, bp_lss, bp_leq, bp_gtr, bp_geq, be_eql, be_neq, bne_self_eq_false, beq_self_eq_true, ldC_some, Option.isNone_none, Option.isNone_some, hp_drew]
        exact ⟨by rw [fin false (by simp; omega)], trivial⟩
  simp -implicitDefEqProofs only [wpB_some', gd_true, gd_false, gd_tf, gd_ft, gd_ut, gd_uf, gv_true, gv_false, gv_tf, gv_ft, gv_ut, gv_uf, gE_true, gE_false, gE_tf, gE_ft, gE_ut, gE_uf, gU_true, gU_false, gU_tf, gU_ft, pickv_true, pickv_false, cnd_true, cnd_false, decide_true, decide_false, Bool.not_true, Bool.not_false, pr_not, nilv_some, bp_lss, bp_leq, bp_gtr, bp_geq, be_eql, be_neq, bne_self_eq_false, beq_self_eq_true, ldC_some, Option.isNone_none, Option.isNone_some, hp_drew, fa_40_0, ld_3, h1, op_0] at rest
  have wq : wB o.1 = decide (o.1 = 9) := rfl
  have six : (vB o.1 = true ∨ o.2.2.2.2.1 = 0) → (o.1 = 9 ∨ o.2.2.2.2.2 = 0 → wB o.1 = true ∨ o.2.2.2.2.2 = 0) := fun _ h => by rw [wq]; simpa using h
  by_cases k9 : o.1 = 9
  · have k9' : (o.1 != 9) = false := by rw [k9]; rfl
    have hv : vB o.1 = true := by rw [k9]; decide
    rw [hv]
    have := rest (.inl hv) (.inl (by rw [wq]; simpa using k9))
    simp -implicitDefEqProofs only [wpB_some', gd_true, gd_false, gd_tf, gd_ft, gd_ut, gd_uf, gv_true, gv_false, gv_tf, gv_ft, gv_ut, gv_uf, gE_true, gE_false, gE_tf, gE_ft, gE_ut, gE_uf, gU_true, gU_false, gU_tf, gU_ft, pickv_true, pickv_false, cnd_true, cnd_false, decide_true, decide_false, Bool.not_true, Bool.not_false, pr_not, nilv_some, bp_lss, bp_leq, bp_gtr, bp_geq, be_eql, be_neq, bne_self_eq_false, beq_self_eq_true, ldC_some, Option.isNone_none, Option.isNone_some, hp_drew, fa_40_0, ld_3, h1, op_0, k9']
    exact this
  · cases hv : vB o.1 with
    | true =>
      by_cases k5 : o.2.2.2.2.2 = 0
      · have k5' : (o.2.2.2.2.2 != 0) = false := by rw [k5]; rfl
        have := rest (.inl hv) (.inr k5)
        simp -implicitDefEqProofs only [wpB_some', gd_true, gd_false, gd_tf, gd_ft, gd_ut, gd_uf, gv_true, gv_false, gv_tf, gv_ft, gv_ut, gv_uf, gE_true, gE_false, gE_tf, gE_ft, gE_ut, gE_uf, gU_true, gU_false, gU_tf, gU_ft, pickv_true, pickv_false, cnd_true, cnd_false, decide_true, decide_false, Bool.not_true, Bool.not_false, pr_not, nilv_some, bp_lss, bp_leq, bp_gtr, bp_geq, be_eql, be_neq, bne_self_eq_false, beq_self_eq_true, ldC_some, Option.isNone_none, Option.isNone_some, hp_drew, fa_40_0, fa_40_5, ld_3, ld_38, h1, op_0, op_5, bne_iff_ne.2 k9, k5']
        exact this
      · simp -implicitDefEqProofs only [wpB_some', gd_true, gd_false, gd_tf, gd_ft, gd_ut, gd_uf, gv_true, gv_false, gv_tf, gv_ft, gv_ut, gv_uf, gE_true, gE_false, gE_tf, gE_ft, gE_ut, gE_uf, gU_true, gU_false, gU_tf, gU_ft, pickv_true, pickv_false, cnd_true, cnd_false, decide_true, decide_false, Bool.not_true, Bool.not_false, pr_not, nilv_some, bp_lss, bp_leq, bp_gtr, bp_geq, be_eql, be_neq, bne_self_eq_false, beq_self_eq_true, ldC_some, Option.isNone_none, Option.isNone_some, hp_drew, fa_40_0, fa_40_5, ld_3, ld_38, h1, op_0, op_5, bne_iff_ne.2 k9, bne_iff_ne.2 k5]
        exact ⟨by rw [no fun h => by have := h.2.2.2.2.2; rw [wq] at this; simp [k9, k5] at this], trivial⟩
    | false =>
      by_cases k6 : o.2.2.2.2.1 = 0
      · have k6' : (o.2.2.2.2.1 != 0) = false := by rw [k6]; rfl
        by_cases k5 : o.2.2.2.2.2 = 0
        · have k5' : (o.2.2.2.2.2 != 0) = false := by rw [k5]; rfl
          have := rest (.inr k6) (.inr k5)
          simp -implicitDefEqProofs only [wpB_some', gd_true, gd_false, gd_tf, gd_ft, gd_ut, gd_uf, gv_true, gv_false, gv_tf, gv_ft, gv_ut, gv_uf, gE_true, gE_false, gE_tf, gE_ft, gE_ut, gE_uf, gU_true, gU_false, gU_tf, gU_ft, pickv_true, pickv_false, cnd_true, cnd_false, decide_true, decide_false, Bool.not_true, Bool.not_false, pr_not, nilv_some, bp_lss, bp_leq, bp_gtr, bp_geq, be_eql, be_neq, bne_self_eq_false, beq_self_eq_true, ldC_some, Option.isNone_none, Option.isNone_some, hp_drew, fa_40_0, fa_40_4, fa_40_5, ld_3, ld_38, h1, op_0, op_4, op_5, bne_iff_ne.2 k9, k5', k6']
          exact this
        · simp -implicitDefEqProofs only [wpB_some', gd_true, gd_false, gd_tf, gd_ft, gd_ut, gd_uf, gv_true, gv_false, gv_tf, gv_ft, gv_ut, gv_uf, gE_true, gE_false, gE_tf, gE_ft, gE_ut, gE_uf, gU_true, gU_false, gU_tf, gU_ft, pickv_true, pickv_false, cnd_true, cnd_false, decide_true, decide_false, Bool.not_true, Bool.not_false, pr_not, nilv_some, bp_lss, bp_leq, bp_gtr, bp_geq, be_eql, be_neq, bne_self_eq_false, beq_self_eq_true, ldC_some, Option.isNone_none, Option.isNone_some, hp_drew, fa_40_0, fa_40_4, fa_40_5, ld_3, ld_38, h1, op_0, op_4, op_5, bne_iff_ne.2 k9, bne_iff_ne.2 k5, k6']
          exact ⟨by rw [no fun h => by have := h.2.2.2.2.2; rw [wq] at this; simp [k9, k5] at this], trivial⟩
      · simp -implicitDefEqProofs only [wpB_some', gd_true, gd_false, gd_tf, gd_ft, gd_ut, gd_uf, gv_true, gv_false, gv_tf, gv_ft, gv_ut, gv_uf, gE_true, gE_false, gE_tf, gE_ft, gE_ut, gE_uf, gU_true, gU_false, gU_tf, gU_ft, pickv_true, pickv_false, cnd_true, cnd_false, decide_true, decide_false, Bool.not_true, Bool.not_false, pr_not, nilv_some, bp_lss, bp_leq, bp_gtr, bp_geq, be_eql, be_neq, bne_self_eq_false, beq_self_eq_true, ldC_some, Option.isNone_none, Option.isNone_some, hp_drew, fa_40_0, fa_40_4, ld_3, ld_38, h1, op_0, op_4, bne_iff_ne.2 k6]
        exact ⟨by rw [no fun h => by have := h.2.2.2.2.1; rw [hv] at this; simp [k6] at this], trivial⟩
theorem c_refMay (o : OpV) (w : World) : CallR Try.prog 53 [.agg (opC o).toArray] w fun v w' => v = .bool (mayO o) ∧ Chg [] w w' := by
  apply F53_ok
  have h1 : hp (w.alloc (.cells (opC o).toArray 40)) w.heap.size = some (.cells (opC o).toArray 40) := by rw [alloc_heap, if_pos rfl]
  have hc1 : Chg [] w (w.alloc (.cells (opC o).toArray 40)) := (Chg.refl _ _).alloc _
  have fin : P53_0 (.pointer (some ⟨w.heap.size, 0, none⟩)) (.int .i64 (nM o.1)) (w.alloc (.cells (opC o).toArray 40)) fun v w' => v = .bool (mayO o) ∧ Chg [] w w' := by
    have := l_refMay h1
    exact Part.mono this fun v w' ⟨h, e⟩ => ⟨h, by rw [e]; exact hc1⟩
  by_cases k1 : o.1 = 1
  · have k1' : (o.1 == 1) = true := by rw [k1]; rfl
    have e : nM o.1 = 3 := by simp [nM, k1]
    simp -implicitDefEqProofs only [F53, effv_box, cells_agg, wpB_some', gd_true, gd_false, gd_tf, gd_ft, gd_ut, gd_uf, gv_true, gv_false, gv_tf, gv_ft, gv_ut, gv_uf, gE_true, gE_false, gE_tf, gE_ft, gE_ut, gE_uf, gU_true, gU_false, gU_tf, gU_ft, pickv_true, pickv_false, cnd_true, cnd_false, decide_true, decide_false, Bool.not_true, Bool.not_false, pr_not, nilv_some, bp_lss, bp_leq, bp_gtr, bp_geq, be_eql, be_neq, bne_self_eq_false, beq_self_eq_true, ldC_some, Option.isNone_none, Option.isNone_some, hp_drew, fa_40_0, ld_3, h1, op_0, k1']
    rw [e] at fin
    exact fin
  · simp -implicitDefEqProofs only [F53, effv_box, cells_agg, wpB_some', gd_true, gd_false, gd_tf, gd_ft, gd_ut, gd_uf, gv_true, gv_false, gv_tf, gv_ft, gv_ut, gv_uf, gE_true, gE_false, gE_tf, gE_ft, gE_ut, gE_uf, gU_true, gU_false, gU_tf, gU_ft, pickv_true, pickv_false, cnd_true, cnd_false, decide_true, decide_false, Bool.not_true, Bool.not_false, pr_not, nilv_some, bp_lss, bp_leq, bp_gtr, bp_geq, be_eql, be_neq, bne_self_eq_false, beq_self_eq_true, ldC_some, Option.isNone_none, Option.isNone_some, hp_drew, fa_40_0, ld_3, h1, op_0, eqf k1]
    refine (c_HasN _ _).step ?_
    cases hn : nB o.1 with
    | true =>
      have e : nM o.1 = 65535 := by simp [nM, k1, hn]
      rw [e] at fin
      simp -implicitDefEqProofs only [wpB_some', gd_true, gd_false, gd_tf, gd_ft, gd_ut, gd_uf, gv_true, gv_false, gv_tf, gv_ft, gv_ut, gv_uf, gE_true, gE_false, gE_tf, gE_ft, gE_ut, gE_uf, gU_true, gU_false, gU_tf, gU_ft, pickv_true, pickv_false, cnd_true, cnd_false, decide_true, decide_false, Bool.not_true, Bool.not_false, pr_not, nilv_some, bp_lss, bp_leq, bp_gtr, bp_geq, be_eql, be_neq, bne_self_eq_false, beq_self_eq_true, ldC_some, Option.isNone_none, Option.isNone_some, hp_drew]
      exact fin
    | false =>
      have e : nM o.1 = 0 := by simp [nM, k1, hn]
      rw [e] at fin
      simp -implicitDefEqProofs only [wpB_some', gd_true, gd_false, gd_tf, gd_ft, gd_ut, gd_uf, gv_true, gv_false, gv_tf, gv_ft, gv_ut, gv_uf, gE_true, gE_false, gE_tf, gE_ft, gE_ut, gE_uf, gU_true, gU_false, gU_tf, gU_ft, pickv_true, pickv_false, cnd_true, cnd_false, decide_true, decide_false, Bool.not_true, Bool.not_false, pr_not, nilv_some, bp_lss, bp_leq, bp_gtr, bp_geq, be_eql, be_neq, bne_self_eq_false, beq_self_eq_true, ldC_some, Option.isNone_none, Option.isNone_some, hp_drew]
      exact fin
end Go.Proofs.Ytgamnncehjcdiaa
