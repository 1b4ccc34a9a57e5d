/- The call of SizeFills answers true: requests one behind the other in one chunk. -/
import Derived.Test.YtkploakfdlnbbaaCe
namespace Go.Proofs.Ytkploakfdlnbbaa
open Go Ev Go.RowKit
set_option linter.unusedSimpArgs false
set_option linter.unusedVariables false

theorem u4 : Try.prog.underlying 4 = some .bool := Try.underlying4
theorem rnd_bounds (c n m : Int) (h1 : 1 ≤ n) (h2 : n ≤ m) (h8 : m % 8 = 0) (hm : m ≤ 1024) : 1 ≤ rnd c n ∧ rnd c n ≤ m := by
  unfold rnd
  rw [if_neg (by omega), if_neg (by omega)]
  rcases stp_cases c with h | h | h | h <;> rw [h] <;> omega
theorem l5 {q : Int} (hq0 : 8 ≤ q) (hq1 : q ≤ 1024) (hq8 : q % 8 = 0) {xs : List Int} (hl : xs.length ≤ 100) {A : Option Addr} {c : Nat} {w : World} (hr : RdI .i64 w A xs) : ∀ (d i : Nat) (off : Int), 0 ≤ off → off ≤ q → i + d = xs.length →
    P5_0 (.int .i64 q) (.slice A xs.length c) (.bool true) (.int .i64 off) (.int .i64 i) w fun v w' => v = .bool true ∧ w' = w
  | 0, i, off, h0, h1, hd => by
    apply L5_0_ok
    have : ¬ ((i : Int) < xs.length) := by omega
    simp only [L5_0, len28, wpB_some', bp_lss, this, decide_false, cnd_false, gd_true, gv_true, bp_leq, h1, decide_true, pickv_true]
    simp
  | d + 1, i, off, h0, h1, hd => by
    apply L5_0_ok
    have hlt : (i : Int) < xs.length := by omega
    obtain ⟨p, hq1', hq2⟩ := hr.at (P := Try.prog) (c := c) (j := .i64) u28 u3 s3 (i := (i : Int)) (by omega) hlt
    simp only [L5_0, len28, wpB_some', bp_lss, hlt, decide_true, cnd_true, bp_rem (show (4 : Int) ≠ 0 by omega), hq1', hq2]
    refine (c23 _ q w (by omega) (by omega)).step ?_
    have n0 := Int.emod_nonneg (xs.getD (i : Int).toNat 0) (b := q) (by omega)
    have n1 := Int.emod_lt_of_pos (xs.getD (i : Int).toNat 0) (b := q) (by omega)
    generalize xs.getD (i : Int).toNat 0 % q = n at *
    simp only [bp_add, wpB_some', wrapi (n := 1 + n) (by omega) (by omega)]
    refine (c15 _ _ w).step ?_
    obtain ⟨b0, b1⟩ := rnd_bounds ((i : Int).tmod 4) (1 + n) q (by omega) (by omega) hq8 hq1
    generalize rnd ((i : Int).tmod 4) (1 + n) = need at *
    have e1 : ¬ need < 1 := by omega
    have e2 : ¬ q < need := by omega
    simp only [bp_lss, e1, decide_false, wpB_some', gd_false, gv_false, bp_gtr, e2, pickv_false, cnd_false]
    refine (c19 _ _ _ w).step ?_
    refine (c17 _ _ w).step ?_
    have a1 : aln q need = decide (q < 2 * need) := by unfold aln; rw [decide_eq_decide]; omega
    have a2 : fit q off need = decide (2 * need ≤ q ∧ off ≤ q - need) := by unfold fit; rw [decide_eq_decide]; omega
    have a3 : aft q need = if 2 * need > q then q else need := by unfold aft; rw [if_pos (by omega)]
    have next : ∀ o, 0 ≤ o → o ≤ q → P5_1 (.int .i64 q) (.slice A xs.length c) (.bool true) (.int .i64 o) (.int .i64 i) w fun v w' => v = .bool true ∧ w' = w := by
      intro o ho0 ho1
      apply L5_1_ok
      simp only [L5_1, bp_add, wpB_some', wrapi (n := (i : Int) + 1) (by omega) (by omega)]
      exact l5 hq0 hq1 hq8 hl hr d (i + 1) o ho0 ho1 (by omega)
    rw [a1]
    simp only [bp_mul, wpB_some', wrapi (n := 2 * need) (by omega) (by omega), bp_gtr, be_neqb u4, bne_self_eq_false, gE_false, gv_false]
    refine (c17 _ _ w).step ?_
    rw [a1, a2]
    by_cases h2 : q < 2 * need
    · have h3 : ¬ (2 * need ≤ q ∧ off ≤ q - need) := by omega
      simp only [h2, h3, decide_true, decide_false, gv_true, gE_false, gv_false]
      refine (c21 _ _ w).step ?_
      rw [a3, if_pos (by omega)]
      simp only [gd_false, gv_false, be_neq, bne_self_eq_false, wpB_some', gd_true, gv_true, pickv_false, pickv_true, gd_ft, cnd_false, gv_ft]
      refine (c21 _ _ w).step ?_
      rw [a3, if_pos (by omega)]
      simp only [bp_lss, e2, decide_false, wpB_some', gE_false, gv_false]
      refine (c21 _ _ w).step ?_
      rw [a3, if_pos (by omega)]
      simp only [gd_false, gv_false, bp_gtr, Int.lt_irrefl, decide_false, wpB_some', pickv_false, cnd_false]
      refine (c21 _ _ w).step ?_
      rw [a3, if_pos (by omega)]
      exact next _ (by omega) (by omega)
    · by_cases h3 : 2 * need ≤ q ∧ off ≤ q - need
      · have e3 : ¬ q < off + need := by omega
        simp only [h2, h3, and_self, decide_true, decide_false, gv_ft, gE_uf, gd_uf, wpB_some', gd_ft, gd_false, pickv_false, gv_false, gv_true, gd_true, bp_add, wrapi (n := off + need) (by omega) (by omega), bp_gtr, e3, pickv_true, cnd_false, cnd_true]
        exact next _ (by omega) (by omega)
      · simp only [h2, h3, decide_false, gv_ft, gE_uf, gd_uf, wpB_some', gd_ft, gd_false, pickv_false, gv_false, gv_true, gd_true, pickv_true, cnd_false, cnd_true]
        refine (c21 _ _ w).step ?_
        rw [a3, if_neg (by omega)]
        simp only [bp_lss, Int.lt_irrefl, decide_false, wpB_some', gE_false, gv_false]
        refine (c21 _ _ w).step ?_
        rw [a3, if_neg (by omega)]
        simp only [gd_false, gv_false, bp_gtr, e2, decide_false, wpB_some', pickv_false, cnd_false]
        refine (c21 _ _ w).step ?_
        rw [a3, if_neg (by omega)]
        exact next _ (by omega) (by omega)
theorem law5 {W : World} (a0 : Int) (_ : (Lit.int .i64 a0).wf = true) (A : Option Addr) (n c : Nat) (zs : List Int) (h : InInts .i64 W A n c zs) :
    CallR Try.prog 5 [.int .i64 a0, .slice A n c] W fun v w' => v = .bool true ∧ Below W.heap.size W w' := by
  obtain ⟨h1, h2, _, _, _⟩ := h.rd
  apply F5_ok
  refine (c14 W).step ?_
  simp only [pr_not, Bool.not_true, wpB_some', cnd_false]
  refine (c23 _ 20 W (by omega) (by omega)).step ?_
  have n0 := Int.emod_nonneg a0 (b := 20) (by omega)
  have n1 := Int.emod_lt_of_pos a0 (b := 20) (by omega)
  generalize a0 % 20 = t at *
  simp only [bp_mul, bp_add, wpB_some', wrapi (n := 8 * t) (by omega) (by omega), wrapi (n := 8 + 8 * t) (by omega) (by omega), len28, bp_gtr]
  by_cases h3 : (100 : Int) < n
  · simp only [h3, decide_true, cnd_true]
    exact ⟨trivial, Below.refl _ _⟩
  · simp only [h3, decide_false, cnd_false]
    have := l5 (c := c) (q := 8 + 8 * t) (by omega) (by omega) (by omega) (by omega) h1 (zs.take n).length 0 0 (by omega) (by omega) (by omega)
    rw [h2] at this
    refine Part.mono this ?_
    rintro v w ⟨rfl, rfl⟩
    exact ⟨rfl, Below.refl _ _⟩
end Go.Proofs.Ytkploakfdlnbbaa
