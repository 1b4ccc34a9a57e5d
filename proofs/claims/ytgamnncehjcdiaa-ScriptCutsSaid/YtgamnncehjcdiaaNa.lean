/- Numbers out of numbers: rundalemake.Number. -/
import Derived.Test.YtgamnncehjcdiaaTb
import Derived.Test.YtgamnncehjcdiaaGs
namespace Go.Proofs.Ytgamnncehjcdiaa
open Go Ev Go.RowKit
set_option linter.unusedSimpArgs false
set_option linter.unusedVariables false
set_option maxRecDepth 10000

theorem tmod_cases2 (a m : Int) (hm : 0 < m) : (0 ≤ a.tmod m ∧ a.tmod m = a % m) ∨ (a.tmod m < 0 ∧ a.tmod m + m = a % m) := by
  have h1 := Int.emod_lt_of_pos a hm
  have h2 := Int.emod_nonneg a (b := m) (by omega)
  rcases Int.lt_or_le a 0 with h | h
  · have h5 := Int.tmod_eq_emod (a := a) (b := m)
    by_cases hd : 0 ≤ a ∨ m ∣ a
    · rw [if_pos hd] at h5
      left; omega
    · rw [if_neg hd] at h5
      have h6 : (m.natAbs : Int) = m := by omega
      rw [h6] at h5
      right; omega
  · left
    rw [Int.tmod_eq_emod_of_nonneg h]; omega
theorem c_Number (a m : Int) (w : World) (hm : 0 < m) (hm2 : m ≤ 4611686018427387904) : CallR Try.prog 22 [.int .i64 a, .int .i64 m] w fun v w' => v = .int .i64 (a % m) ∧ w' = w := by
  apply F22_ok
  have hlt := Int.emod_lt_of_pos a hm
  have hge := Int.emod_nonneg a (b := m) (by omega)
  simp -implicitDefEqProofs only [F22, bp_rem (show m ≠ 0 by omega), wpB_some', gd_true, gd_false, gd_tf, gd_ft, gd_ut, gd_uf, gv_true, gv_false, gv_tf, gv_ft, gv_ut, gv_uf, gE_true, gE_false, gE_tf, gE_ft, gE_ut, gE_uf, gU_true, gU_false, gU_tf, gU_ft, pickv_true, pickv_false, cnd_true, cnd_false, decide_true, decide_false, Bool.not_true, Bool.not_false, pr_not, nilv_some, bp_lss, bp_leq, bp_gtr, bp_geq, be_eql, be_neq, bne_self_eq_false, beq_self_eq_true, ldC_some, Option.isNone_none, Option.isNone_some, hp_drew]
  rcases tmod_cases2 a m hm with ⟨h1, h2⟩ | ⟨h1, h2⟩
  · simp -implicitDefEqProofs only [show ¬ a.tmod m < 0 by omega, wpB_some', gd_true, gd_false, gd_tf, gd_ft, gd_ut, gd_uf, gv_true, gv_false, gv_tf, gv_ft, gv_ut, gv_uf, gE_true, gE_false, gE_tf, gE_ft, gE_ut, gE_uf, gU_true, gU_false, gU_tf, gU_ft, pickv_true, pickv_false, cnd_true, cnd_false, decide_true, decide_false, Bool.not_true, Bool.not_false, pr_not, nilv_some, bp_lss, bp_leq, bp_gtr, bp_geq, be_eql, be_neq, bne_self_eq_false, beq_self_eq_true, ldC_some, Option.isNone_none, Option.isNone_some, hp_drew]
    apply L22_0_ok
    simp -implicitDefEqProofs only [L22_0, h2, and_self]
  · simp -implicitDefEqProofs only [h1, wpB_some', gd_true, gd_false, gd_tf, gd_ft, gd_ut, gd_uf, gv_true, gv_false, gv_tf, gv_ft, gv_ut, gv_uf, gE_true, gE_false, gE_tf, gE_ft, gE_ut, gE_uf, gU_true, gU_false, gU_tf, gU_ft, pickv_true, pickv_false, cnd_true, cnd_false, decide_true, decide_false, Bool.not_true, Bool.not_false, pr_not, nilv_some, bp_lss, bp_leq, bp_gtr, bp_geq, be_eql, be_neq, bne_self_eq_false, beq_self_eq_true, ldC_some, Option.isNone_none, Option.isNone_some, hp_drew, bp_add]
    apply L22_0_ok
    simp -implicitDefEqProofs only [L22_0, h2, wrapi (n := a % m) (by omega) (by omega), and_self]
end Go.Proofs.Ytgamnncehjcdiaa
