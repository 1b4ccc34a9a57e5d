/- The call of SizeEdges answers true. -/
import Derived.Test.YtkploakfdlnbbaaCa
namespace Go.Proofs.Ytkploakfdlnbbaa
open Go Ev Go.RowKit
set_option linter.unusedSimpArgs false
set_option linter.unusedVariables false
/-! ### SizeEdges -/
theorem law6 (a0 : Int) (_ : (Lit.int .i64 a0).wf = true) (a1 : Int) (_ : (Lit.int .i64 a1).wf = true) (a2 : Int) (_ : (Lit.int .i64 a2).wf = true) (w : World) : CallR Try.prog 6 [.int .i64 a0, .int .i64 a1, .int .i64 a2] w fun v w' => v = .bool true ∧ Below w.heap.size w w' := by
  apply F6_ok
  unfold F6
  refine (c14 w).mono ?_
  rintro v w ⟨rfl, rfl⟩
  simp
  refine (c23 a0 128 w (by omega) (by omega)).mono ?_
  rintro v w ⟨rfl, rfl⟩
  have t0 := Int.emod_nonneg a0 (b := 128) (by omega)
  have t1 := Int.emod_lt_of_pos a0 (b := 128) (by omega)
  generalize a0 % 128 = t at *
  simp only [bp_add, bp_mul, wpB_some', wrapi (n := 1 + t) (by omega) (by omega), wrapi (n := 8 * (1 + t)) (by omega) (by omega), wrapi (n := 8 * (1 + t) + 1) (by omega) (by omega)]
  obtain ⟨q, hq⟩ : ∃ q, q = 8 * (1 + t) := ⟨_, rfl⟩
  rw [← hq]
  refine (c23 a1 (q + 1) w (by omega) (by omega)).mono ?_
  rintro v w ⟨rfl, rfl⟩
  have o0 := Int.emod_nonneg a1 (b := q + 1) (by omega)
  have o1 := Int.emod_lt_of_pos a1 (b := q + 1) (by omega)
  generalize a1 % (q + 1) = o at *
  refine (c23 a2 q w (by omega) (by omega)).mono ?_
  rintro v w ⟨rfl, rfl⟩
  have n0 := Int.emod_nonneg a2 (b := q) (by omega)
  have n1 := Int.emod_lt_of_pos a2 (b := q) (by omega)
  generalize a2 % q = n at *
  have hd : Int.tdiv q 2 = q / 2 := Int.tdiv_eq_ediv_of_nonneg (by omega)
  have hb : Try.prog.underlying 4 = some .bool := Try.underlying4
  have q2 : ∀ t, bp Try.prog .quo t (.int .i64 q) (.int .i64 2) = some (.int .i64 (q / 2)) := fun t => by rw [bp_quo (by omega), hd, wrapi (by omega) (by omega)]
  have k1 : IntKind.i64.wrap (1 + n) = 1 + n := wrapi (by omega) (by omega)
  have k2 : IntKind.i64.wrap (q - o) = q - o := wrapi (by omega) (by omega)
  have k3 : IntKind.i64.wrap (q / 2 + 1) = q / 2 + 1 := wrapi (by omega) (by omega)
  have k4 : IntKind.i64.wrap (-1 - o) = -1 - o := wrapi (by omega) (by omega)
  have k5 : IntKind.i64.wrap (q + (1 + n)) = q + (1 + n) := wrapi (by omega) (by omega)
  have k6 : IntKind.i64.wrap (0 - (1 + n)) = 0 - (1 + n) := wrapi (by omega) (by omega)
  have b1 : fit q o (1 + n) = decide (1 + n ≤ if q / 2 < q - o then q / 2 else q - o) := by
    unfold fit
    rw [decide_eq_decide]; split <;> omega
  have b2 : aln q (q / 2) = false := by unfold aln; simp only [decide_eq_false_iff_not]; omega
  have b3 : aln q (q / 2 + 1) = true := by unfold aln; simp only [decide_eq_true_eq]; omega
  have b4 : aft q (q / 2) = q / 2 := by unfold aft; rw [if_pos (by omega), if_neg (by omega)]
  have b5 : aft q (q / 2 + 1) = q := by unfold aft; rw [if_pos (by omega), if_pos (by omega)]
  have b6 : fit q (-1 - o) (1 + n) = false := by unfold fit; simp only [decide_eq_false_iff_not]; omega
  have b7 : fit q (q + (1 + n)) (1 + n) = false := by unfold fit; simp only [decide_eq_false_iff_not]; omega
  have b8 : fit q 0 0 = false := by unfold fit; simp only [decide_eq_false_iff_not]; omega
  have b9 : aft q 0 = 0 := by unfold aft; rw [if_neg (by omega)]
  have b10 : aft q (q + (1 + n)) = 0 := by unfold aft; rw [if_neg (by omega)]
  have b11 : aln 0 1 = false := by decide
  have b12 : aln q (0 - (1 + n)) = false := by unfold aln; simp only [decide_eq_false_iff_not]; omega
  simp only [bp_add, bp_sub, wpB_some', q2, k1, k2, pr_min]
  refine (c19 q o (1 + n) w).step ?_
  simp only [gd_true, gv_true, bp_leq, wpB_some', b1, be_eqlb hb, beq_self_eq_true, pickv_true, q2]
  refine (c17 _ _ w).step ?_
  simp only [b2, gd_true, gv_true, pr_not, Bool.not_false, wpB_some', pickv_true, q2, bp_add, k3]
  refine (c17 _ _ w).step ?_
  simp only [b3, gd_true, gv_true, wpB_some', pickv_true, q2]
  refine (c21 _ _ w).step ?_
  simp only [b4, gd_true, gv_true, wpB_some', pickv_true, q2, be_eql, beq_self_eq_true, bp_add, k3]
  refine (c21 _ _ w).step ?_
  simp only [b5, gd_true, gv_true, wpB_some', pickv_true, be_eql, beq_self_eq_true, bp_sub, k4]
  refine (c19 _ _ _ w).step ?_
  simp only [b6, gd_true, gv_true, pr_not, Bool.not_false, wpB_some', pickv_true, bp_add, k5]
  refine (c19 _ _ _ w).step ?_
  simp only [b7, gd_true, gv_true, pr_not, Bool.not_false, wpB_some', pickv_true]
  refine (c19 _ _ _ w).step ?_
  simp only [b8, gd_true, gv_true, pr_not, Bool.not_false, wpB_some', pickv_true]
  refine (c21 _ _ w).step ?_
  simp only [b9, gd_true, gv_true, wpB_some', pickv_true, be_eql, beq_self_eq_true, bp_add, k5]
  refine (c21 _ _ w).step ?_
  simp only [b10, gd_true, gv_true, wpB_some', pickv_true, be_eql, beq_self_eq_true]
  refine (c17 _ _ w).step ?_
  simp only [b11, gd_true, gv_true, pr_not, Bool.not_false, wpB_some', pickv_true, pr_neg, k6]
  refine (c17 _ _ w).step ?_
  simp only [b12, gd_true, gv_true, pr_not, Bool.not_false, wpB_some', pickv_true]
  exact ⟨trivial, Below.refl _ _⟩
end Go.Proofs.Ytkploakfdlnbbaa
