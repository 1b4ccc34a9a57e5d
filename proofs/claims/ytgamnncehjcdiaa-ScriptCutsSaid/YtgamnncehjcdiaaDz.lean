/- Two lists of numbers, the same? -/
import Derived.Test.YtgamnncehjcdiaaDd
namespace Go.Proofs.Ytgamnncehjcdiaa
open Go Ev Go.RowKit
set_option linter.unusedSimpArgs false
set_option linter.unusedVariables false
set_option maxRecDepth 10000

theorem l_SameInts {xs ys : List Int} (hl : xs.length ≤ 4611686018427387904) (he : xs.length = ys.length) {A B : Option Addr} {c d : Nat} (w0 : World) : ∀ (e i : Nat) (w : World), RdI .i64 w A xs → RdI .i64 w B ys → Below w0.heap.size w0 w →
    (∀ j, j < i → xs.getD j 0 = ys.getD j 0) → i + e = xs.length → P67_0 (.slice A xs.length c) (.slice B ys.length d) (.int .i64 i) w fun v w' => v = .bool (decide (xs = ys)) ∧ Below w0.heap.size w0 w'
  | 0, i, w, hx, hy, hb, hs, hd => by
    apply L67_0_ok
    have : ¬ ((i : Int) < xs.length) := by omega
    have heq : xs = ys := List.ext_getElem he fun j h1 h2 => by
      have := hs j (by omega)
      simpa [List.getD_eq_getElem?_getD, h1, h2] using this
    simp -implicitDefEqProofs only [L67_0, len_23, wpB_some', gd_true, gd_false, gd_tf, gd_ft, gd_ut, gd_uf, gv_true, gv_false, gv_tf, gv_ft, gv_ut, gv_uf, gE_true, gE_false, gE_tf, gE_ft, gE_ut, gE_uf, gU_true, gU_false, gU_tf, gU_ft, pickv_true, pickv_false, cnd_true, cnd_false, decide_true, decide_false, Bool.not_true, Bool.not_false, pr_not, nilv_some, bp_lss, bp_leq, bp_gtr, bp_geq, be_eql, be_neq, bne_self_eq_false, beq_self_eq_true, ldC_some, Option.isNone_none, Option.isNone_some, hp_drew, this]
    exact ⟨by simp [heq], hb⟩
  | e + 1, i, w, hx, hy, hb, hs, hd => by
    apply L67_0_ok
    have hlt : (i : Int) < xs.length := by omega
    obtain ⟨q, hq1, hq2⟩ := (hx.drew).at (P := Try.prog) (c := c) (j := .i64) Try.underlying23 Try.underlying3 sz_3 (i := (i : Int)) (by omega) hlt
    obtain ⟨r, hr1, hr2⟩ := (hy.drew).at (P := Try.prog) (c := d) (j := .i64) Try.underlying23 Try.underlying3 sz_3 (i := (i : Int)) (by omega) (by omega)
    simp -implicitDefEqProofs only [L67_0, len_23, wpB_some', gd_true, gd_false, gd_tf, gd_ft, gd_ut, gd_uf, gv_true, gv_false, gv_tf, gv_ft, gv_ut, gv_uf, gE_true, gE_false, gE_tf, gE_ft, gE_ut, gE_uf, gU_true, gU_false, gU_tf, gU_ft, pickv_true, pickv_false, cnd_true, cnd_false, decide_true, decide_false, Bool.not_true, Bool.not_false, pr_not, nilv_some, bp_lss, bp_leq, bp_gtr, bp_geq, be_eql, be_neq, bne_self_eq_false, beq_self_eq_true, ldC_some, Option.isNone_none, Option.isNone_some, hp_drew, hlt, hq1, hq2, hr1, hr2, Int.toNat_natCast, bp_add, wrapi (n := (i : Int) + 1) (by omega) (by omega)]
    by_cases h1 : xs.getD i 0 = ys.getD i 0
    · simp -implicitDefEqProofs only [h1, wpB_some', gd_true, gd_false, gd_tf, gd_ft, gd_ut, gd_uf, gv_true, gv_false, gv_tf, gv_ft, gv_ut, gv_uf, gE_true, gE_false, gE_tf, gE_ft, gE_ut, gE_uf, gU_true, gU_false, gU_tf, gU_ft, pickv_true, pickv_false, cnd_true, cnd_false, decide_true, decide_false, Bool.not_true, Bool.not_false, pr_not, nilv_some, bp_lss, bp_leq, bp_gtr, bp_geq, be_eql, be_neq, bne_self_eq_false, beq_self_eq_true, ldC_some, Option.isNone_none, Option.isNone_some, hp_drew]
      have := l_SameInts (c := c) (d := d) hl he w0 e (i + 1) _ hx.drew hy.drew hb.drew (fun j hj => by
        rcases Nat.lt_or_ge j i with h | h
        · exact hs j h
        · rw [show j = i by omega]; exact h1) (by omega)
      rw [Int.natCast_add i 1] at this
      exact this
    · simp -implicitDefEqProofs only [bne_iff_ne.2 h1, wpB_some', gd_true, gd_false, gd_tf, gd_ft, gd_ut, gd_uf, gv_true, gv_false, gv_tf, gv_ft, gv_ut, gv_uf, gE_true, gE_false, gE_tf, gE_ft, gE_ut, gE_uf, gU_true, gU_false, gU_tf, gU_ft, pickv_true, pickv_false, cnd_true, cnd_false, decide_true, decide_false, Bool.not_true, Bool.not_false, pr_not, nilv_some, bp_lss, bp_leq, bp_gtr, bp_geq, be_eql, be_neq, bne_self_eq_false, beq_self_eq_true, ldC_some, Option.isNone_none, Option.isNone_some, hp_drew]
      refine ⟨?_, hb.drew⟩
      have : xs ≠ ys := fun h => h1 (by rw [h])
      simp [this]
theorem c_SameInts {xs ys : List Int} (hl : xs.length ≤ 4611686018427387904) {u v : Value} {w : World} (hx : SlI w u xs) (hy : SlI w v ys) : CallR Try.prog 67 [u, v] w fun r w' => r = .bool (decide (xs = ys)) ∧ Below w.heap.size w w' := by
  obtain ⟨A, c, rfl, hx⟩ := hx
  obtain ⟨B, d, rfl, hy⟩ := hy
  apply F67_ok
  by_cases he : xs.length = ys.length
  · have h1 : ((xs.length : Int) != ys.length) = false := by rw [he]; simp
    simp -implicitDefEqProofs only [F67, len_23, wpB_some', gd_true, gd_false, gd_tf, gd_ft, gd_ut, gd_uf, gv_true, gv_false, gv_tf, gv_ft, gv_ut, gv_uf, gE_true, gE_false, gE_tf, gE_ft, gE_ut, gE_uf, gU_true, gU_false, gU_tf, gU_ft, pickv_true, pickv_false, cnd_true, cnd_false, decide_true, decide_false, Bool.not_true, Bool.not_false, pr_not, nilv_some, bp_lss, bp_leq, bp_gtr, bp_geq, be_eql, be_neq, bne_self_eq_false, beq_self_eq_true, ldC_some, Option.isNone_none, Option.isNone_some, hp_drew, h1]
    exact l_SameInts hl he w xs.length 0 w hx hy (Below.refl _ _) (fun j hj => by omega) (by omega)
  · have h1 : ((xs.length : Int) != ys.length) = true := by rw [bne_iff_ne]; omega
    simp -implicitDefEqProofs only [F67, len_23, wpB_some', gd_true, gd_false, gd_tf, gd_ft, gd_ut, gd_uf, gv_true, gv_false, gv_tf, gv_ft, gv_ut, gv_uf, gE_true, gE_false, gE_tf, gE_ft, gE_ut, gE_uf, gU_true, gU_false, gU_tf, gU_ft, pickv_true, pickv_false, cnd_true, cnd_false, decide_true, decide_false, Bool.not_true, Bool.not_false, pr_not, nilv_some, bp_lss, bp_leq, bp_gtr, bp_geq, be_eql, be_neq, bne_self_eq_false, beq_self_eq_true, ldC_some, Option.isNone_none, Option.isNone_some, hp_drew, h1]
    have : xs ≠ ys := fun h => he (by rw [h])
    exact ⟨by simp [this], Below.refl _ _⟩
end Go.Proofs.Ytgamnncehjcdiaa
