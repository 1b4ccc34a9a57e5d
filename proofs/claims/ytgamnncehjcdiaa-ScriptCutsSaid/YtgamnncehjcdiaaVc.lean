/- Operations out of numbers (rundalemake): the whole of Op. -/
import Derived.Test.YtgamnncehjcdiaaVb
namespace Go.Proofs.Ytgamnncehjcdiaa
open Go Ev Go.RowKit
set_option linter.unusedSimpArgs false
set_option linter.unusedVariables false
set_option maxRecDepth 10000
section
variable {W w : World} {q g4 g6 : Nat} {A : Option Addr} {c : Nat} {xs : List Int} {a0 at' : Nat} {o : OpV} {x1 : Value} {L : List (List OpV)}
set_option maxHeartbeats 4000000 in
theorem Gen.three (E : Env W q A xs x1 L) (h : Gen W w q g4 g6 A c xs a0 at' o) (ho : Half o) (hat : at' + 5 ≤ 900000000) {m : Nat} (hm : at' + 5 ≤ a0 + m) (want : Int) : P90_3 (.pointer (some ⟨q, 0, none⟩)) x1 (.pointer (some ⟨g4, 0, none⟩)) (.pointer (some ⟨g6, 0, none⟩)) (.int .i64 want) w (GenP W q A c xs a0 m) := by
  apply L90_3_ok
  by_cases k9 : o.1 = 9
  · simp -implicitDefEqProofs only [L90_3, wpB_some', gd_true, gd_false, gd_tf, gd_ft, gd_ut, gd_uf, gv_true, gv_false, gv_tf, gv_ft, gv_ut, gv_uf, gE_true, gE_false, gE_tf, gE_ft, gE_ut, gE_uf, gU_true, gU_false, gU_tf, gU_ft, pickv_true, pickv_false, cnd_true, cnd_false, decide_true, decide_false, Bool.not_true, Bool.not_false, pr_not, nilv_some, bp_lss, bp_leq, bp_gtr, bp_geq, be_eql, be_neq, bne_self_eq_false, beq_self_eq_true, ldC_some, Option.isNone_none, Option.isNone_some, hp_drew, fa_40_0, fa_40_5, ld_3, h.h6, op_0, k9]
    refine h.next E (by omega) (by decide) (by decide) fun r w1 hr h1 c1 => ?_
    obtain ⟨k, f, a, n, v, u⟩ := o
    simp -implicitDefEqProofs only [wpB_some', gd_true, gd_false, gd_tf, gd_ft, gd_ut, gd_uf, gv_true, gv_false, gv_tf, gv_ft, gv_ut, gv_uf, gE_true, gE_false, gE_tf, gE_ft, gE_ut, gE_uf, gU_true, gU_false, gU_tf, gU_ft, pickv_true, pickv_false, cnd_true, cnd_false, decide_true, decide_false, Bool.not_true, Bool.not_false, pr_not, nilv_some, bp_lss, bp_leq, bp_gtr, bp_geq, be_eql, be_neq, bne_self_eq_false, beq_self_eq_true, ldC_some, Option.isNone_none, Option.isNone_some, hp_drew, fa_40_5, cv_3_38, wrapu (n := (r : Int)) (by omega) (by omega)]
    rw [h1.stu (i := 1) (by omega), set_5]
    obtain ⟨b1, b2, b3, b4, b5, b6, b7⟩ := ho
    simp only at k9
    exact (h1.set E (k, f, a, n, v, r)).four E ⟨b1, b2, b3, b4, b5, .inl (by simp [wB, k9]), b7.1, by simp only; omega⟩ (by omega) (by omega) want
  · simp -implicitDefEqProofs only [L90_3, wpB_some', gd_true, gd_false, gd_tf, gd_ft, gd_ut, gd_uf, gv_true, gv_false, gv_tf, gv_ft, gv_ut, gv_uf, gE_true, gE_false, gE_tf, gE_ft, gE_ut, gE_uf, gU_true, gU_false, gU_tf, gU_ft, pickv_true, pickv_false, cnd_true, cnd_false, decide_true, decide_false, Bool.not_true, Bool.not_false, pr_not, nilv_some, bp_lss, bp_leq, bp_gtr, bp_geq, be_eql, be_neq, bne_self_eq_false, beq_self_eq_true, ldC_some, Option.isNone_none, Option.isNone_some, hp_drew, fa_40_0, ld_3, h.h6, op_0, eqf k9]
    exact h.four E ho (by omega) (by omega) want
set_option maxHeartbeats 4000000 in
theorem Gen.one (E : Env W q A xs x1 L) (h : Gen W w q g4 g6 A c xs a0 at' o) (ho : Half o) (hat : at' + 6 ≤ 900000000) {m : Nat} (hm : at' + 6 ≤ a0 + m) (want : Int) : P90_1 (.pointer (some ⟨q, 0, none⟩)) x1 (.pointer (some ⟨g4, 0, none⟩)) (.pointer (some ⟨g6, 0, none⟩)) (.int .i64 want) w (GenP W q A c xs a0 m) := by
  apply L90_1_ok
  have yesC : vB o.1 = true → CallR Try.prog 50 [.pointer (some ⟨q, 0, none⟩), .int .i64 3] w fun t68 w =>
      wpB (pureRun Try.prog (convert 3 38 t68)) fun t69 =>
      effu Try.prog (Instr.storeAt 38 (.pointer (some ⟨g6, 0 + 4, none⟩)) t69) w fun w =>
      P90_3 (.pointer (some ⟨q, 0, none⟩)) x1 (.pointer (some ⟨g4, 0, none⟩)) (.pointer (some ⟨g6, 0, none⟩)) (.int .i64 want) w (GenP W q A c xs a0 m) := by
    intro kv
    refine h.next E (by omega) (by decide) (by decide) fun r w1 hr h1 c1 => ?_
    obtain ⟨k, f, a, n, v, u⟩ := o
    simp -implicitDefEqProofs only [wpB_some', gd_true, gd_false, gd_tf, gd_ft, gd_ut, gd_uf, gv_true, gv_false, gv_tf, gv_ft, gv_ut, gv_uf, gE_true, gE_false, gE_tf, gE_ft, gE_ut, gE_uf, gU_true, gU_false, gU_tf, gU_ft, pickv_true, pickv_false, cnd_true, cnd_false, decide_true, decide_false, Bool.not_true, Bool.not_false, pr_not, nilv_some, bp_lss, bp_leq, bp_gtr, bp_geq, be_eql, be_neq, bne_self_eq_false, beq_self_eq_true, ldC_some, Option.isNone_none, Option.isNone_some, hp_drew, cv_3_38, wrapu (n := (r : Int)) (by omega) (by omega)]
    rw [h1.stu (i := 0) (by omega), set_4]
    obtain ⟨b1, b2, b3, b4, b5, b6, b7⟩ := ho
    exact (h1.set E (k, f, a, n, r, u)).three E ⟨b1, b2, b3, b4, .inl kv, b6, by simp only; omega, b7.2⟩ (by omega) (by omega) want
  by_cases k7 : o.1 = 7
  · simp -implicitDefEqProofs only [L90_1, wpB_some', gd_true, gd_false, gd_tf, gd_ft, gd_ut, gd_uf, gv_true, gv_false, gv_tf, gv_ft, gv_ut, gv_uf, gE_true, gE_false, gE_tf, gE_ft, gE_ut, gE_uf, gU_true, gU_false, gU_tf, gU_ft, pickv_true, pickv_false, cnd_true, cnd_false, decide_true, decide_false, Bool.not_true, Bool.not_false, pr_not, nilv_some, bp_lss, bp_leq, bp_gtr, bp_geq, be_eql, be_neq, bne_self_eq_false, beq_self_eq_true, ldC_some, Option.isNone_none, Option.isNone_some, hp_drew, fa_40_0, fa_40_4, ld_3, h.h6, op_0, k7, Int.reduceBEq]
    exact yesC (by rw [k7]; rfl)
  by_cases k8 : o.1 = 8
  · simp -implicitDefEqProofs only [L90_1, wpB_some', gd_true, gd_false, gd_tf, gd_ft, gd_ut, gd_uf, gv_true, gv_false, gv_tf, gv_ft, gv_ut, gv_uf, gE_true, gE_false, gE_tf, gE_ft, gE_ut, gE_uf, gU_true, gU_false, gU_tf, gU_ft, pickv_true, pickv_false, cnd_true, cnd_false, decide_true, decide_false, Bool.not_true, Bool.not_false, pr_not, nilv_some, bp_lss, bp_leq, bp_gtr, bp_geq, be_eql, be_neq, bne_self_eq_false, beq_self_eq_true, ldC_some, Option.isNone_none, Option.isNone_some, hp_drew, fa_40_0, fa_40_4, ld_3, h.h6, op_0, k8, Int.reduceBEq]
    exact yesC (by rw [k8]; rfl)
  by_cases k9 : o.1 = 9
  · simp -implicitDefEqProofs only [L90_1, wpB_some', gd_true, gd_false, gd_tf, gd_ft, gd_ut, gd_uf, gv_true, gv_false, gv_tf, gv_ft, gv_ut, gv_uf, gE_true, gE_false, gE_tf, gE_ft, gE_ut, gE_uf, gU_true, gU_false, gU_tf, gU_ft, pickv_true, pickv_false, cnd_true, cnd_false, decide_true, decide_false, Bool.not_true, Bool.not_false, pr_not, nilv_some, bp_lss, bp_leq, bp_gtr, bp_geq, be_eql, be_neq, bne_self_eq_false, beq_self_eq_true, ldC_some, Option.isNone_none, Option.isNone_some, hp_drew, fa_40_0, fa_40_4, ld_3, h.h6, op_0, k9, Int.reduceBEq]
    exact yesC (by rw [k9]; rfl)
  simp -implicitDefEqProofs only [L90_1, wpB_some', gd_true, gd_false, gd_tf, gd_ft, gd_ut, gd_uf, gv_true, gv_false, gv_tf, gv_ft, gv_ut, gv_uf, gE_true, gE_false, gE_tf, gE_ft, gE_ut, gE_uf, gU_true, gU_false, gU_tf, gU_ft, pickv_true, pickv_false, cnd_true, cnd_false, decide_true, decide_false, Bool.not_true, Bool.not_false, pr_not, nilv_some, bp_lss, bp_leq, bp_gtr, bp_geq, be_eql, be_neq, bne_self_eq_false, beq_self_eq_true, ldC_some, Option.isNone_none, Option.isNone_some, hp_drew, fa_40_0, fa_40_4, ld_3, h.h6, op_0, eqf k7, eqf k8, eqf k9]
  exact h.three E ho (by omega) (by omega) want
def list9 : List Int := [1, 2, 3, 5, 8, 9, 16, 17, 0]
theorem list9_at : ∀ r : Nat, r < 9 → 0 ≤ list9.getD r 0 ∧ list9.getD r 0 ≤ 17 := by decide
theorem list2_at : ∀ r : Nat, r < 2 → 0 ≤ [(1 : Int), 2].getD r 0 ∧ [(1 : Int), 2].getD r 0 ≤ 2 := by decide
theorem wfo0 (k n : Int) : WfO' (k, 0, 0, n, 0, 0) := ⟨⟨Int.le_refl 0, by show (0 : Int) < _; omega⟩, Int.le_refl 0, by show (0 : Int) < _; omega⟩
theorem mayO0 {k : Int} (h1 : 1 ≤ k) (h2 : k ≤ 12) {n : Int} (h0 : 0 ≤ n) (hn : n ≤ nM k) : GenO (k, 0, 0, n, 0, 0) :=
  ⟨.inr (mayO_of h1 h2 ⟨by omega, by rw [frM]; split <;> omega⟩ ⟨by omega, by rw [atM]; split <;> omega⟩ ⟨h0, hn⟩ (.inr rfl) (.inr rfl)), wfo0 k n⟩
theorem genO0 {k : Int} (hk : k = 0 ∨ 1 ≤ k ∧ k ≤ 12) : GenO (k, 0, 0, 0, 0, 0) := by
  rcases hk with rfl | ⟨h1, h2⟩
  · exact ⟨.inl rfl, wfo0 0 0⟩
  · exact mayO0 h1 h2 (by omega) (by rw [nM]; repeat' (split; first | omega | skip); all_goals omega)
theorem half0 {k n : Int} (hk : k = 2 ∨ k = 5 ∨ k = 10 ∨ k = 12 ∨ 6 ≤ k ∧ k ≤ 9) (h0 : 0 ≤ n) (hn : n ≤ nM k) : Half (k, 0, 0, n, 0, 0) := by
  have ho : ofK k ≠ 0 := by
    rw [ofK]; split
    · omega
    · split
      · omega
      · split <;> omega
  exact ⟨⟨by simp only; omega, by simp only; omega⟩, by simp [frM, ho], by simp [atM, ho], ⟨h0, hn⟩, .inr rfl, .inr rfl, wfo0 k n⟩
theorem nM_b {k : Int} (h : nB k = true) (h1 : k ≠ 1) : nM k = 65535 := by simp [nM, h1, h]
set_option maxHeartbeats 8000000 in
theorem Gen.zero (E : Env W q A xs x1 L) {k : Int} (hk : k = 0 ∨ 1 ≤ k ∧ k ≤ 12) (hk1 : k ≠ 1) (h : Gen W w q g4 g6 A c xs a0 at' (k, 0, 0, 0, 0, 0)) (hat : at' + 7 ≤ 900000000) {m : Nat} (hm : at' + 7 ≤ a0 + m) {b : Bool} (hb : b = decide (6 ≤ k ∧ k ≤ 9)) : P90_0 (.pointer (some ⟨q, 0, none⟩)) x1 (.pointer (some ⟨g4, 0, none⟩)) (.pointer (some ⟨g6, 0, none⟩)) (.int .i64 1) (.int .i64 k) (.bool b) w (GenP W q A c xs a0 m) := by
  apply L90_0_ok
  by_cases k69 : 6 ≤ k ∧ k ≤ 9
  · have hb' : b = true := by rw [hb]; simp [k69]
    subst hb'
    simp -implicitDefEqProofs only [L90_0, wpB_some', gd_true, gd_false, gd_tf, gd_ft, gd_ut, gd_uf, gv_true, gv_false, gv_tf, gv_ft, gv_ut, gv_uf, gE_true, gE_false, gE_tf, gE_ft, gE_ut, gE_uf, gU_true, gU_false, gU_tf, gU_ft, pickv_true, pickv_false, cnd_true, cnd_false, decide_true, decide_false, Bool.not_true, Bool.not_false, pr_not, nilv_some, bp_lss, bp_leq, bp_gtr, bp_geq, be_eql, be_neq, bne_self_eq_false, beq_self_eq_true, ldC_some, Option.isNone_none, Option.isNone_some, hp_drew]
    refine h.next E (by omega) (by decide) (by decide) fun r w1 hr h1 c1 => ?_
    simp -implicitDefEqProofs only [wpB_some', gd_true, gd_false, gd_tf, gd_ft, gd_ut, gd_uf, gv_true, gv_false, gv_tf, gv_ft, gv_ut, gv_uf, gE_true, gE_false, gE_tf, gE_ft, gE_ut, gE_uf, gU_true, gU_false, gU_tf, gU_ft, pickv_true, pickv_false, cnd_true, cnd_false, decide_true, decide_false, Bool.not_true, Bool.not_false, pr_not, nilv_some, bp_lss, bp_leq, bp_gtr, bp_geq, be_eql, be_neq, bne_self_eq_false, beq_self_eq_true, ldC_some, Option.isNone_none, Option.isNone_some, hp_drew, fa_40_3]
    rw [h1.st (i := 2) (by omega), set_3]
    have hn : nM k = 65535 := nM_b (by simp [nB]; omega) (by omega)
    exact (h1.set E (k, 0, 0, r, 0, 0)).one E (half0 (by omega) (by omega) (by omega)) (by omega) (by omega) 2
  have hb' : b = false := by rw [hb]; simp [k69]
  subst hb'
  by_cases k2 : k = 2
  · subst k2
    simp -implicitDefEqProofs only [L90_0, wpB_some', gd_true, gd_false, gd_tf, gd_ft, gd_ut, gd_uf, gv_true, gv_false, gv_tf, gv_ft, gv_ut, gv_uf, gE_true, gE_false, gE_tf, gE_ft, gE_ut, gE_uf, gU_true, gU_false, gU_tf, gU_ft, pickv_true, pickv_false, cnd_true, cnd_false, decide_true, decide_false, Bool.not_true, Bool.not_false, pr_not, nilv_some, bp_lss, bp_leq, bp_gtr, bp_geq, be_eql, be_neq, bne_self_eq_false, beq_self_eq_true, ldC_some, Option.isNone_none, Option.isNone_some, hp_drew, bs_23_9]
    generalize hz : w.alloc _ = w1
    have c1 : Chg [] w w1 := by rw [← hz]; exact (Chg.refl _ _).alloc _
    have hl : hp w1 w.heap.size = some (.cells (ints list9).toArray 3) := by rw [← hz, alloc_heap, if_pos rfl]; rfl
    refine (h.grow c1).next E (by omega) (by decide) (by decide) fun r w2 hr h2 c2 => ?_
    have qW : w.heap.size ≠ q := by have := E.qW; have := h.ch.size; omega
    have hl2 := c2.at hl (by simpa using qW)
    have hr' : r < 9 := by omega
    have la := lit_at hl2 (n := 9) rfl hr'
    have lb := list9_at r hr'
    simp -implicitDefEqProofs only [wpB_some', gd_true, gd_false, gd_tf, gd_ft, gd_ut, gd_uf, gv_true, gv_false, gv_tf, gv_ft, gv_ut, gv_uf, gE_true, gE_false, gE_tf, gE_ft, gE_ut, gE_uf, gU_true, gU_false, gU_tf, gU_ft, pickv_true, pickv_false, cnd_true, cnd_false, decide_true, decide_false, Bool.not_true, Bool.not_false, pr_not, nilv_some, bp_lss, bp_leq, bp_gtr, bp_geq, be_eql, be_neq, bne_self_eq_false, beq_self_eq_true, ldC_some, Option.isNone_none, Option.isNone_some, hp_drew, la.1, ld_3, la.2, fa_40_3]
    rw [h2.st (i := 2) (by omega), set_3]
    exact (h2.set E (2, 0, 0, list9.getD r 0, 0, 0)).one E (half0 (by omega) (by omega) (by rw [nM_b (by rfl) (by decide)]; omega)) (by omega) (by omega) 1
  by_cases k5 : k = 5
  · subst k5
    simp -implicitDefEqProofs only [L90_0, wpB_some', gd_true, gd_false, gd_tf, gd_ft, gd_ut, gd_uf, gv_true, gv_false, gv_tf, gv_ft, gv_ut, gv_uf, gE_true, gE_false, gE_tf, gE_ft, gE_ut, gE_uf, gU_true, gU_false, gU_tf, gU_ft, pickv_true, pickv_false, cnd_true, cnd_false, decide_true, decide_false, Bool.not_true, Bool.not_false, pr_not, nilv_some, bp_lss, bp_leq, bp_gtr, bp_geq, be_eql, be_neq, bne_self_eq_false, beq_self_eq_true, ldC_some, Option.isNone_none, Option.isNone_some, hp_drew, bs_23_2, Int.reduceBEq]
    generalize hz : w.alloc _ = w1
    have c1 : Chg [] w w1 := by rw [← hz]; exact (Chg.refl _ _).alloc _
    have hl : hp w1 w.heap.size = some (.cells (ints [1, 2]).toArray 3) := by rw [← hz, alloc_heap, if_pos rfl]; rfl
    refine (h.grow c1).next E (by omega) (by decide) (by decide) fun r w2 hr h2 c2 => ?_
    have qW : w.heap.size ≠ q := by have := E.qW; have := h.ch.size; omega
    have hl2 := c2.at hl (by simpa using qW)
    have hr' : r < 2 := by omega
    have la := lit_at hl2 (n := 2) rfl hr'
    simp -implicitDefEqProofs only [wpB_some', gd_true, gd_false, gd_tf, gd_ft, gd_ut, gd_uf, gv_true, gv_false, gv_tf, gv_ft, gv_ut, gv_uf, gE_true, gE_false, gE_tf, gE_ft, gE_ut, gE_uf, gU_true, gU_false, gU_tf, gU_ft, pickv_true, pickv_false, cnd_true, cnd_false, decide_true, decide_false, Bool.not_true, Bool.not_false, pr_not, nilv_some, bp_lss, bp_leq, bp_gtr, bp_geq, be_eql, be_neq, bne_self_eq_false, beq_self_eq_true, ldC_some, Option.isNone_none, Option.isNone_some, hp_drew, la.1, ld_3, la.2]
    exact h2.one E (half0 (by omega) (by omega) (by rw [nM]; repeat' (split; first | omega | skip); all_goals omega)) (by omega) (by omega) _
  have two : ∀ b : Bool, (b = true → k = 10 ∨ k = 12) → P90_2 (.pointer (some ⟨q, 0, none⟩)) x1 (.pointer (some ⟨g4, 0, none⟩)) (.pointer (some ⟨g6, 0, none⟩)) (.bool b) w (GenP W q A c xs a0 m) := by
    intro b hb
    apply L90_2_ok
    cases b with
    | true =>
      simp -implicitDefEqProofs only [L90_2, wpB_some', gd_true, gd_false, gd_tf, gd_ft, gd_ut, gd_uf, gv_true, gv_false, gv_tf, gv_ft, gv_ut, gv_uf, gE_true, gE_false, gE_tf, gE_ft, gE_ut, gE_uf, gU_true, gU_false, gU_tf, gU_ft, pickv_true, pickv_false, cnd_true, cnd_false, decide_true, decide_false, Bool.not_true, Bool.not_false, pr_not, nilv_some, bp_lss, bp_leq, bp_gtr, bp_geq, be_eql, be_neq, bne_self_eq_false, beq_self_eq_true, ldC_some, Option.isNone_none, Option.isNone_some, hp_drew]
      exact h.one E (half0 (by have := hb rfl; omega) (by omega) (by rw [nM]; repeat' (split; first | omega | skip); all_goals omega)) (by omega) (by omega) 1
    | false =>
      simp -implicitDefEqProofs only [L90_2, cnd_false]
      exact h.ans E (genO0 hk) (by omega)
  by_cases k10 : k = 10
  · subst k10
    simp -implicitDefEqProofs only [L90_0, wpB_some', gd_true, gd_false, gd_tf, gd_ft, gd_ut, gd_uf, gv_true, gv_false, gv_tf, gv_ft, gv_ut, gv_uf, gE_true, gE_false, gE_tf, gE_ft, gE_ut, gE_uf, gU_true, gU_false, gU_tf, gU_ft, pickv_true, pickv_false, cnd_true, cnd_false, decide_true, decide_false, Bool.not_true, Bool.not_false, pr_not, nilv_some, bp_lss, bp_leq, bp_gtr, bp_geq, be_eql, be_neq, bne_self_eq_false, beq_self_eq_true, ldC_some, Option.isNone_none, Option.isNone_some, hp_drew]
    exact two true fun _ => .inl rfl
  by_cases k12 : k = 12
  · subst k12
    simp -implicitDefEqProofs only [L90_0, wpB_some', gd_true, gd_false, gd_tf, gd_ft, gd_ut, gd_uf, gv_true, gv_false, gv_tf, gv_ft, gv_ut, gv_uf, gE_true, gE_false, gE_tf, gE_ft, gE_ut, gE_uf, gU_true, gU_false, gU_tf, gU_ft, pickv_true, pickv_false, cnd_true, cnd_false, decide_true, decide_false, Bool.not_true, Bool.not_false, pr_not, nilv_some, bp_lss, bp_leq, bp_gtr, bp_geq, be_eql, be_neq, bne_self_eq_false, beq_self_eq_true, ldC_some, Option.isNone_none, Option.isNone_some, hp_drew]
    exact two true fun _ => .inr rfl
  simp -implicitDefEqProofs only [L90_0, wpB_some', gd_true, gd_false, gd_tf, gd_ft, gd_ut, gd_uf, gv_true, gv_false, gv_tf, gv_ft, gv_ut, gv_uf, gE_true, gE_false, gE_tf, gE_ft, gE_ut, gE_uf, gU_true, gU_false, gU_tf, gU_ft, pickv_true, pickv_false, cnd_true, cnd_false, decide_true, decide_false, Bool.not_true, Bool.not_false, pr_not, nilv_some, bp_lss, bp_leq, bp_gtr, bp_geq, be_eql, be_neq, bne_self_eq_false, beq_self_eq_true, ldC_some, Option.isNone_none, Option.isNone_some, hp_drew, eqf k2, eqf k5, eqf k10, eqf k12]
  exact two false fun h => by cases h
end
theorem opC0 (k : Int) : (#[Value.int .i64 k, .int .i64 0, .int .i64 0, .int .i64 0, .int .u64 0, .int .u64 0] : Array Value) = (opC (k, 0, 0, 0, 0, 0)).toArray := rfl
set_option maxHeartbeats 8000000 in
theorem c_genOp {W : World} {q : Nat} {A : Option Addr} {c : Nat} {xs : List Int} {a0 : Nat} {x1 : Value} {L : List (List OpV)} (E : Env W q A xs x1 L) (hs : hp W q = some (.cells #[.slice A xs.length c, .int .i64 (a0 : Int)] 100)) (ha : a0 ≤ 800000000) :
    CallR Try.prog 90 [.pointer (some ⟨q, 0, none⟩), x1] W (GenP W q A c xs a0 12) := by
  apply F90_ok
  simp -implicitDefEqProofs only [F90, wpB_some', gd_true, gd_false, gd_tf, gd_ft, gd_ut, gd_uf, gv_true, gv_false, gv_tf, gv_ft, gv_ut, gv_uf, gE_true, gE_false, gE_tf, gE_ft, gE_ut, gE_uf, gU_true, gU_false, gU_tf, gU_ft, pickv_true, pickv_false, cnd_true, cnd_false, decide_true, decide_false, Bool.not_true, Bool.not_false, pr_not, nilv_some, bp_lss, bp_leq, bp_gtr, bp_geq, be_eql, be_neq, bne_self_eq_false, beq_self_eq_true, ldC_some, Option.isNone_none, Option.isNone_some, hp_drew, al_40]
  generalize hz : W.alloc _ = w1
  have c1 : Chg [] W w1 := by rw [← hz]; exact (Chg.refl _ _).alloc _
  have z1 : w1.heap.size = W.heap.size + 1 := by rw [← hz]; simp
  have h4 : hp w1 W.heap.size = some (.cells (opC oZero).toArray 40) := by rw [← hz, alloc_heap, if_pos rfl]; rfl
  clear hz
  refine (c_kinds w1).mono ?_
  rintro _ w2 ⟨rfl, hk2, c2⟩
  simp -implicitDefEqProofs only [wpB_some', gd_true, gd_false, gd_tf, gd_ft, gd_ut, gd_uf, gv_true, gv_false, gv_tf, gv_ft, gv_ut, gv_uf, gE_true, gE_false, gE_tf, gE_ft, gE_ut, gE_uf, gU_true, gU_false, gU_tf, gU_ft, pickv_true, pickv_false, cnd_true, cnd_false, decide_true, decide_false, Bool.not_true, Bool.not_false, pr_not, nilv_some, bp_lss, bp_leq, bp_gtr, bp_geq, be_eql, be_neq, bne_self_eq_false, beq_self_eq_true, ldC_some, Option.isNone_none, Option.isNone_some, hp_drew, len_23]
  have E2 : Env w2 q A xs x1 L := ⟨E.hA.keep (c1.trans c2).below, E.hne, E.il.keep ((c1.trans c2).mono (by simp)), by have := E.qW; have := c2.size; omega, E.hL, E.hll, E.hT⟩
  refine (c_SeqN ((c1.trans c2).at hs (by simp)) E2.hA E2.hne (by omega) (m := 23) (by decide) (by decide)).mono ?_
  rintro _ w3 ⟨⟨r, rfl, hr⟩, hs3, c3⟩
  have nq : w1.heap.size ≠ q := by have := E.qW; omega
  have nq4 : W.heap.size ≠ q := by have := E.qW; omega
  have hr' : r < 23 := by omega
  have la := lit_at (c3.at hk2 (by simpa using nq)) (n := 23) rfl hr'
  have lb := kinds_at r hr'
  have h43 := c3.at (c2.at h4 (by simp)) (by simpa using nq4)
  have z3 : W.heap.size + 1 ≤ w3.heap.size := by have := c2.size; have := c3.size; omega
  have c13 : Chg [q] W w3 := ((c1.trans c2).mono (by simp)).trans c3
  generalize kindsL.getD r 0 = k at *
  simp -implicitDefEqProofs only [wpB_some', gd_true, gd_false, gd_tf, gd_ft, gd_ut, gd_uf, gv_true, gv_false, gv_tf, gv_ft, gv_ut, gv_uf, gE_true, gE_false, gE_tf, gE_ft, gE_ut, gE_uf, gU_true, gU_false, gU_tf, gU_ft, pickv_true, pickv_false, cnd_true, cnd_false, decide_true, decide_false, Bool.not_true, Bool.not_false, pr_not, nilv_some, bp_lss, bp_leq, bp_gtr, bp_geq, be_eql, be_neq, bne_self_eq_false, beq_self_eq_true, ldC_some, Option.isNone_none, Option.isNone_some, hp_drew, la.1, ld_3, la.2, bd_40_0, al_40]
  rw [st_40 (by rfl) (by rfl) (by rw [alloc_heap, if_pos rfl]; rfl) (by rw [alloc_heap, if_pos rfl]; rfl), alloc_heap, if_pos rfl, opC0 k]
  simp -implicitDefEqProofs only [getE_some]
  generalize hzz : w3.alloc _ = wa
  have hca : Chg [] w3 wa := by rw [← hzz]; exact (Chg.refl _ _).alloc _
  have hza : wa.heap.size = w3.heap.size + 1 := by rw [← hzz]; simp
  have hcp : Chg [] w3 (put wa w3.heap.size (opC (k, 0, 0, 0, 0, 0)).toArray 40) := hca.put (.inr (Nat.le_refl _)) _ _
  have h6 : hp (put wa w3.heap.size (opC (k, 0, 0, 0, 0, 0)).toArray 40) w3.heap.size = some (.cells (opC (k, 0, 0, 0, 0, 0)).toArray 40) := by rw [put_heap, if_pos rfl, if_pos (by omega)]
  have G : Gen W (put wa w3.heap.size (opC (k, 0, 0, 0, 0, 0)).toArray 40) q W.heap.size w3.heap.size A c xs a0 (a0 + 1) (k, 0, 0, 0, 0, 0) :=
    ⟨hcp.at hs3 (by simp), hcp.at h43 (by simp), h6, by omega, Nat.le_refl _, by omega, c13.trans (hcp.mono (by simp)), by omega, by omega⟩
  clear hzz hca hza hcp
  generalize put wa w3.heap.size (opC (k, 0, 0, 0, 0, 0)).toArray 40 = w4 at *
  have hk : k = 0 ∨ 1 ≤ k ∧ k ≤ 12 := by omega
  have op0 : (opC (k, 0, 0, 0, 0, 0)).toArray[0 + 0]? = some (.int .i64 k) := rfl
  by_cases k1 : k = 1
  · subst k1
    simp -implicitDefEqProofs only [wpB_some', gd_true, gd_false, gd_tf, gd_ft, gd_ut, gd_uf, gv_true, gv_false, gv_tf, gv_ft, gv_ut, gv_uf, gE_true, gE_false, gE_tf, gE_ft, gE_ut, gE_uf, gU_true, gU_false, gU_tf, gU_ft, pickv_true, pickv_false, cnd_true, cnd_false, decide_true, decide_false, Bool.not_true, Bool.not_false, pr_not, nilv_some, bp_lss, bp_leq, bp_gtr, bp_geq, be_eql, be_neq, bne_self_eq_false, beq_self_eq_true, ldC_some, Option.isNone_none, Option.isNone_some, hp_drew, fa_40_0, ld_3, h6, op0, Int.reduceBEq]
    refine G.next E (m := 4) (by omega) (by decide) (by decide) fun r2 w5 hr2 h5 c5 => ?_
    simp -implicitDefEqProofs only [wpB_some', gd_true, gd_false, gd_tf, gd_ft, gd_ut, gd_uf, gv_true, gv_false, gv_tf, gv_ft, gv_ut, gv_uf, gE_true, gE_false, gE_tf, gE_ft, gE_ut, gE_uf, gU_true, gU_false, gU_tf, gU_ft, pickv_true, pickv_false, cnd_true, cnd_false, decide_true, decide_false, Bool.not_true, Bool.not_false, pr_not, nilv_some, bp_lss, bp_leq, bp_gtr, bp_geq, be_eql, be_neq, bne_self_eq_false, beq_self_eq_true, ldC_some, Option.isNone_none, Option.isNone_some, hp_drew, fa_40_3]
    rw [h5.st (i := 2) (by omega), set_3]
    exact (h5.set E (1, 0, 0, r2, 0, 0)).ans E (mayO0 (by decide) (by decide) (by omega) (by show (r2 : Int) ≤ nM 1; rw [nM, if_pos rfl]; omega)) (by omega)
  by_cases k6 : k = 6
  · subst k6
    simp -implicitDefEqProofs only [wpB_some', gd_true, gd_false, gd_tf, gd_ft, gd_ut, gd_uf, gv_true, gv_false, gv_tf, gv_ft, gv_ut, gv_uf, gE_true, gE_false, gE_tf, gE_ft, gE_ut, gE_uf, gU_true, gU_false, gU_tf, gU_ft, pickv_true, pickv_false, cnd_true, cnd_false, decide_true, decide_false, Bool.not_true, Bool.not_false, pr_not, nilv_some, bp_lss, bp_leq, bp_gtr, bp_geq, be_eql, be_neq, bne_self_eq_false, beq_self_eq_true, ldC_some, Option.isNone_none, Option.isNone_some, hp_drew, fa_40_0, ld_3, h6, op0, Int.reduceBEq]
    exact G.zero (m := 12) (at' := a0 + 1) E hk k1 (by omega) (by omega) rfl
  by_cases k7 : k = 7
  · subst k7
    simp -implicitDefEqProofs only [wpB_some', gd_true, gd_false, gd_tf, gd_ft, gd_ut, gd_uf, gv_true, gv_false, gv_tf, gv_ft, gv_ut, gv_uf, gE_true, gE_false, gE_tf, gE_ft, gE_ut, gE_uf, gU_true, gU_false, gU_tf, gU_ft, pickv_true, pickv_false, cnd_true, cnd_false, decide_true, decide_false, Bool.not_true, Bool.not_false, pr_not, nilv_some, bp_lss, bp_leq, bp_gtr, bp_geq, be_eql, be_neq, bne_self_eq_false, beq_self_eq_true, ldC_some, Option.isNone_none, Option.isNone_some, hp_drew, fa_40_0, ld_3, h6, op0, Int.reduceBEq]
    exact G.zero (m := 12) (at' := a0 + 1) E hk k1 (by omega) (by omega) rfl
  by_cases k8 : k = 8
  · subst k8
    simp -implicitDefEqProofs only [wpB_some', gd_true, gd_false, gd_tf, gd_ft, gd_ut, gd_uf, gv_true, gv_false, gv_tf, gv_ft, gv_ut, gv_uf, gE_true, gE_false, gE_tf, gE_ft, gE_ut, gE_uf, gU_true, gU_false, gU_tf, gU_ft, pickv_true, pickv_false, cnd_true, cnd_false, decide_true, decide_false, Bool.not_true, Bool.not_false, pr_not, nilv_some, bp_lss, bp_leq, bp_gtr, bp_geq, be_eql, be_neq, bne_self_eq_false, beq_self_eq_true, ldC_some, Option.isNone_none, Option.isNone_some, hp_drew, fa_40_0, ld_3, h6, op0, Int.reduceBEq]
    exact G.zero (m := 12) (at' := a0 + 1) E hk k1 (by omega) (by omega) rfl
  by_cases k9 : k = 9
  · subst k9
    simp -implicitDefEqProofs only [wpB_some', gd_true, gd_false, gd_tf, gd_ft, gd_ut, gd_uf, gv_true, gv_false, gv_tf, gv_ft, gv_ut, gv_uf, gE_true, gE_false, gE_tf, gE_ft, gE_ut, gE_uf, gU_true, gU_false, gU_tf, gU_ft, pickv_true, pickv_false, cnd_true, cnd_false, decide_true, decide_false, Bool.not_true, Bool.not_false, pr_not, nilv_some, bp_lss, bp_leq, bp_gtr, bp_geq, be_eql, be_neq, bne_self_eq_false, beq_self_eq_true, ldC_some, Option.isNone_none, Option.isNone_some, hp_drew, fa_40_0, ld_3, h6, op0, Int.reduceBEq]
    exact G.zero (m := 12) (at' := a0 + 1) E hk k1 (by omega) (by omega) rfl
  simp -implicitDefEqProofs only [wpB_some', gd_true, gd_false, gd_tf, gd_ft, gd_ut, gd_uf, gv_true, gv_false, gv_tf, gv_ft, gv_ut, gv_uf, gE_true, gE_false, gE_tf, gE_ft, gE_ut, gE_uf, gU_true, gU_false, gU_tf, gU_ft, pickv_true, pickv_false, cnd_true, cnd_false, decide_true, decide_false, Bool.not_true, Bool.not_false, pr_not, nilv_some, bp_lss, bp_leq, bp_gtr, bp_geq, be_eql, be_neq, bne_self_eq_false, beq_self_eq_true, ldC_some, Option.isNone_none, Option.isNone_some, hp_drew, fa_40_0, ld_3, h6, op0, eqf k1, eqf k6, eqf k7, eqf k8, eqf k9]
  exact G.zero (m := 12) (at' := a0 + 1) E hk k1 (by omega) (by omega) (decide_eq_false (by omega)).symm
end Go.Proofs.Ytgamnncehjcdiaa
