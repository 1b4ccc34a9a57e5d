/- The call of RecordRefuses answers true. -/
import Derived.Test.YtgamnncehjcdiaaTe
namespace Go.Proofs.Ytgamnncehjcdiaa
open Go Ev Go.RowKit
set_option linter.unusedSimpArgs false
set_option linter.unusedVariables false
set_option maxRecDepth 10000

/-- a call that tells nothing: what it stands on is the same record -/
theorem bool_neg1 (s : SpV) : (spA s)[12 + 6]? = some (.int .i64 s.re.2.2.1) := rfl
def opZ : OpV := (0, 0, 0, 0, 0, 0)
def resN (n : Int) : ResV := (0, (0, 0, 0, 0, 0), n, 0)
def refSp (s p r : Int) (n : Int) : SpV := ⟨1, 7, opPin, s, p, -1, r, resN n⟩
set_option maxHeartbeats 4000000 in
theorem l_Refuses0 {W : World} {s : Int} (hs : 1 ≤ s) (hs2 : s ≤ 1000) {w : World} {r : Nat} {F : List Nat} (hR : RecI w r F [refSp s (-1) (-1) 0] [-1, 0] s) (hF : ∀ k ∈ F, W.heap.size ≤ k) (hW : Chg [] W w) :
    P9_0 (.bool true) (.pointer (some ⟨r, 0, none⟩)) (.int .i64 s) (.int .i64 0) (.int .i64 0) (.int .i64 0) (.int .i64 1) (.int .i64 0) (.int .i64 1) (.int .i64 0) (.int .i64 1) (.int .i64 0) (.int .i64 1) (.bool true) (.bool true) w (OkT W) := by
  apply L9_0_ok
  have b0 : pureRun Try.prog (Instr.build 53 #[]) = some (.agg (resA resO)) := bd_53_
  have b3 : ∀ n : Int, pureRun Try.prog (Instr.build 53 #[(2, .int .i64 n)]) = some (.agg (resA (resN n))) := fun n => bd_53_2
  simp -implicitDefEqProofs only [L9_0, b3, wpB_some', gd_true, gd_false, gd_tf, gd_ft, gd_ut, gd_uf, gv_true, gv_false, gv_tf, gv_ft, gv_ut, gv_uf, gE_true, gE_false, gE_tf, gE_ft, gE_ut, gE_uf, gU_true, gU_false, gU_tf, gU_ft, pickv_true, pickv_false, cnd_true, cnd_false, decide_true, decide_false, Bool.not_true, Bool.not_false, pr_not, nilv_some, bp_lss, bp_leq, bp_gtr, bp_geq, be_eql, be_neq, bne_self_eq_false, beq_self_eq_true, ldC_some, Option.isNone_none, Option.isNone_some, hp_drew]
  refine (c_Point hR 0 s (resN 3)).mono ?_
  rintro v w1 ⟨rfl, F1, R1, u1⟩
  have sp0' : ∀ x : SpV, spAt [x] 0 = x := fun _ => rfl
  have ok0 : ∀ x : SpV, x.rs < 0 → spanOk [x] 0 := fun x hx => ⟨Int.le_refl _, by simp, hx⟩
  have e1 : pPoint ([refSp s (-1) (-1) 0], [-1, 0], s) 0 s (resN 3) = (0, ([refSp s s (-1) 3], [-1, 0], s)) := by
    unfold pPoint
    rw [if_pos ⟨ok0 _ (by show (-1 : Int) < 0; omega), by show (-1 : Int) < 0; omega, Int.le_refl _⟩]; rfl
  rw [e1] at R1 ⊢
  simp -implicitDefEqProofs only [wpB_some', gd_true, gd_false, gd_tf, gd_ft, gd_ut, gd_uf, gv_true, gv_false, gv_tf, gv_ft, gv_ut, gv_uf, gE_true, gE_false, gE_tf, gE_ft, gE_ut, gE_uf, gU_true, gU_false, gU_tf, gU_ft, pickv_true, pickv_false, cnd_true, cnd_false, decide_true, decide_false, Bool.not_true, Bool.not_false, pr_not, nilv_some, bp_lss, bp_leq, bp_gtr, bp_geq, be_eql, be_neq, bne_self_eq_false, beq_self_eq_true, ldC_some, Option.isNone_none, Option.isNone_some, hp_drew, b0]
  refine (c_Point R1 0 s resO).mono ?_
  rintro v w2 ⟨rfl, F2, R2, u2⟩
  have e2 : pPoint ([refSp s s (-1) 3], [-1, 0], s) 0 s resO = (1, ([refSp s s (-1) 3], [-1, 0], s)) := by
    unfold pPoint
    rw [if_neg fun h => by have h := h.2.1; simp only [sp0', refSp] at h; omega]
  rw [e2] at R2 ⊢
  simp -implicitDefEqProofs only [wpB_some', gd_true, gd_false, gd_tf, gd_ft, gd_ut, gd_uf, gv_true, gv_false, gv_tf, gv_ft, gv_ut, gv_uf, gE_true, gE_false, gE_tf, gE_ft, gE_ut, gE_uf, gU_true, gU_false, gU_tf, gU_ft, pickv_true, pickv_false, cnd_true, cnd_false, decide_true, decide_false, Bool.not_true, Bool.not_false, pr_not, nilv_some, bp_lss, bp_leq, bp_gtr, bp_geq, be_eql, be_neq, bne_self_eq_false, beq_self_eq_true, ldC_some, Option.isNone_none, Option.isNone_some, hp_drew, b0, b3, bp_add, wrapi (n := s + 1) (by omega) (by omega)]
  refine (c_End R2 0 (s + 1) (resN 4) (fun _ => ⟨by show (0 : Int) ≤ 1; omega, by show (1 : Int) < 2; omega⟩)).mono ?_
  rintro v w3 ⟨rfl, F3, R3, u3⟩
  have e3 : pEnd ([refSp s s (-1) 3], [-1, 0], s) 0 (s + 1) (resN 4) = (0, ([refSp s s (s + 1) 4], [-1, -1], s + 1)) := by
    unfold pEnd
    rw [if_pos ⟨ok0 _ (by show (-1 : Int) < 0; omega), by show (0 : Int) ≤ s; omega, by show s ≤ s + 1; omega⟩]; rfl
  rw [e3] at R3 ⊢
  have nok : ¬ spanOk [refSp s s (s + 1) 4] 0 := fun h => by have h := h.2.2; simp only [sp0', refSp] at h; omega
  simp -implicitDefEqProofs only [wpB_some', gd_true, gd_false, gd_tf, gd_ft, gd_ut, gd_uf, gv_true, gv_false, gv_tf, gv_ft, gv_ut, gv_uf, gE_true, gE_false, gE_tf, gE_ft, gE_ut, gE_uf, gU_true, gU_false, gU_tf, gU_ft, pickv_true, pickv_false, cnd_true, cnd_false, decide_true, decide_false, Bool.not_true, Bool.not_false, pr_not, nilv_some, bp_lss, bp_leq, bp_gtr, bp_geq, be_eql, be_neq, bne_self_eq_false, beq_self_eq_true, ldC_some, Option.isNone_none, Option.isNone_some, hp_drew, b0, b3, bp_add, wrapi (n := s + 1) (by omega) (by omega)]
  refine (c_End R3 0 (s + 1) resO (fun h => absurd h nok)).mono ?_
  rintro v w4 ⟨rfl, F4, R4, u4⟩
  have e4 : pEnd ([refSp s s (s + 1) 4], [-1, -1], s + 1) 0 (s + 1) resO = (1, ([refSp s s (s + 1) 4], [-1, -1], s + 1)) := by
    unfold pEnd
    rw [if_neg fun h => nok h.1]
  rw [e4] at R4 ⊢
  simp -implicitDefEqProofs only [wpB_some', gd_true, gd_false, gd_tf, gd_ft, gd_ut, gd_uf, gv_true, gv_false, gv_tf, gv_ft, gv_ut, gv_uf, gE_true, gE_false, gE_tf, gE_ft, gE_ut, gE_uf, gU_true, gU_false, gU_tf, gU_ft, pickv_true, pickv_false, cnd_true, cnd_false, decide_true, decide_false, Bool.not_true, Bool.not_false, pr_not, nilv_some, bp_lss, bp_leq, bp_gtr, bp_geq, be_eql, be_neq, bne_self_eq_false, beq_self_eq_true, ldC_some, Option.isNone_none, Option.isNone_some, hp_drew, b0, b3, bp_add, wrapi (n := s + 1) (by omega) (by omega)]
  refine (c_Back R4 0 (s + 1)).mono ?_
  rintro v w5 ⟨rfl, F5, R5, u5⟩
  have e5 : pBack ([refSp s s (s + 1) 4], [-1, -1], s + 1) 0 (s + 1) = (1, ([refSp s s (s + 1) 4], [-1, -1], s + 1)) := by
    unfold pBack
    rw [if_neg fun h => nok h.1]
  rw [e5] at R5 ⊢
  simp -implicitDefEqProofs only [wpB_some', gd_true, gd_false, gd_tf, gd_ft, gd_ut, gd_uf, gv_true, gv_false, gv_tf, gv_ft, gv_ut, gv_uf, gE_true, gE_false, gE_tf, gE_ft, gE_ut, gE_uf, gU_true, gU_false, gU_tf, gU_ft, pickv_true, pickv_false, cnd_true, cnd_false, decide_true, decide_false, Bool.not_true, Bool.not_false, pr_not, nilv_some, bp_lss, bp_leq, bp_gtr, bp_geq, be_eql, be_neq, bne_self_eq_false, beq_self_eq_true, ldC_some, Option.isNone_none, Option.isNone_some, hp_drew]
  refine (c_List R5 (by show 1 ≤ 1000; omega)).mono ?_
  rintro v w6 ⟨hv, c6⟩
  have hv : w6.ownsRow w5.heap.size 58 20 v 1 ([refSp s s (s + 1) 4].flatMap spC) := hv
  have R6 := R5.keep c6 (Dis.nil _)
  have uu := (((u1.trans u2).trans u3).trans u4).trans u5
  have hc : Chg [] W w6 := (hW.upd uu fun k hk => .inr (hF k hk)).trans c6
  obtain ⟨g, c, rfl, hg, q1, q2, q3⟩ := sp_own hv rfl (id := 0) (by omega) (by show (0 : Int) < 1; omega)
  have f9 := q2 9 (by omega)
  have f11 := q2 11 (by omega)
  have f18 := q2 (12 + 6) (by omega)
  rw [sp9, sp0'] at f9
  rw [sp11, sp0'] at f11
  rw [bool_neg1, sp0', ← Nat.add_assoc] at f18
  have r9 : (refSp s s (s + 1) 4).pt = s := rfl
  have r11 : (refSp s s (s + 1) 4).rs = s + 1 := rfl
  have r18 : (refSp s s (s + 1) 4).re.2.2.1 = 4 := rfl
  have one : (((1 : Nat) : Int) == 1) = true := rfl
  simp -implicitDefEqProofs only [wpB_some', gd_true, gd_false, gd_tf, gd_ft, gd_ut, gd_uf, gv_true, gv_false, gv_tf, gv_ft, gv_ut, gv_uf, gE_true, gE_false, gE_tf, gE_ft, gE_ut, gE_uf, gU_true, gU_false, gU_tf, gU_ft, pickv_true, pickv_false, cnd_true, cnd_false, decide_true, decide_false, Bool.not_true, Bool.not_false, pr_not, nilv_some, bp_lss, bp_leq, bp_gtr, bp_geq, be_eql, be_neq, bne_self_eq_false, beq_self_eq_true, ldC_some, Option.isNone_none, Option.isNone_some, hp_drew, len_54, one, q1, fa_58_7, fa_58_4, fa_58_6, fa_53_2, ld_3, f9, f11, f18, r9, r11, r18, bp_add, wrapi (n := s + 1) (by omega) (by omega)]
  refine (c_Open R6 1).step ?_
  have o1 : pOpen [-1, -1] 1 = -1 := by decide
  have o0 : pOpen [-1, -1] 0 = -1 := by decide
  simp -implicitDefEqProofs only [wpB_some', gd_true, gd_false, gd_tf, gd_ft, gd_ut, gd_uf, gv_true, gv_false, gv_tf, gv_ft, gv_ut, gv_uf, gE_true, gE_false, gE_tf, gE_ft, gE_ut, gE_uf, gU_true, gU_false, gU_tf, gU_ft, pickv_true, pickv_false, cnd_true, cnd_false, decide_true, decide_false, Bool.not_true, Bool.not_false, pr_not, nilv_some, bp_lss, bp_leq, bp_gtr, bp_geq, be_eql, be_neq, bne_self_eq_false, beq_self_eq_true, ldC_some, Option.isNone_none, Option.isNone_some, hp_drew, o1]
  refine (c_Open R6 0).step ?_
  simp -implicitDefEqProofs only [wpB_some', gd_true, gd_false, gd_tf, gd_ft, gd_ut, gd_uf, gv_true, gv_false, gv_tf, gv_ft, gv_ut, gv_uf, gE_true, gE_false, gE_tf, gE_ft, gE_ut, gE_uf, gU_true, gU_false, gU_tf, gU_ft, pickv_true, pickv_false, cnd_true, cnd_false, decide_true, decide_false, Bool.not_true, Bool.not_false, pr_not, nilv_some, bp_lss, bp_leq, bp_gtr, bp_geq, be_eql, be_neq, bne_self_eq_false, beq_self_eq_true, ldC_some, Option.isNone_none, Option.isNone_some, hp_drew, o0]
  exact ⟨rfl, hc.below⟩
set_option maxHeartbeats 8000000 in
theorem lawRefuses {W : World} (a0 : Int) (_ : (Lit.int .i64 a0).wf = true) (a1 : Int) (_ : (Lit.int .i64 a1).wf = true) (a2 : Int) (_ : (Lit.int .i64 a2).wf = true) :
    CallR Try.prog 9 [.int .i64 a0, .int .i64 a1, .int .i64 a2] W fun v w' => v = .bool true ∧ Below W.heap.size W w' := by
  apply F9_ok
  have b0 : pureRun Try.prog (Instr.build 53 #[]) = some (.agg (resA resO)) := bd_53_
  have c0 : pureRun Try.prog (Instr.build 40 #[]) = some (.agg (opC opZ).toArray) := bd_40_
  have c3 : pureRun Try.prog (Instr.build 40 #[(0, .int .i64 3)]) = some (.agg (opC opPin).toArray) := bd_40_0
  refine (c_firstR W).mono ?_
  rintro v w ⟨rfl, hc0⟩
  simp -implicitDefEqProofs only [F9, wpB_some', gd_true, gd_false, gd_tf, gd_ft, gd_ut, gd_uf, gv_true, gv_false, gv_tf, gv_ft, gv_ut, gv_uf, gE_true, gE_false, gE_tf, gE_ft, gE_ut, gE_uf, gU_true, gU_false, gU_tf, gU_ft, pickv_true, pickv_false, cnd_true, cnd_false, decide_true, decide_false, Bool.not_true, Bool.not_false, pr_not, nilv_some, bp_lss, bp_leq, bp_gtr, bp_geq, be_eql, be_neq, bne_self_eq_false, beq_self_eq_true, ldC_some, Option.isNone_none, Option.isNone_some, hp_drew]
  refine (c_New 2 w).mono ?_
  rintro v w1 ⟨r, F1, rfl, R1, n1, c1⟩
  have e1 : neg1s (min (max (2 : Int) 1) 64).toNat = [-1, -1] := by decide
  rw [e1] at R1
  simp -implicitDefEqProofs only [be_eqlp Try.underlying43, wpB_some', gd_true, gd_false, gd_tf, gd_ft, gd_ut, gd_uf, gv_true, gv_false, gv_tf, gv_ft, gv_ut, gv_uf, gE_true, gE_false, gE_tf, gE_ft, gE_ut, gE_uf, gU_true, gU_false, gU_tf, gU_ft, pickv_true, pickv_false, cnd_true, cnd_false, decide_true, decide_false, Bool.not_true, Bool.not_false, pr_not, nilv_some, bp_lss, bp_leq, bp_gtr, bp_geq, be_eql, be_neq, bne_self_eq_false, beq_self_eq_true, ldC_some, Option.isNone_none, Option.isNone_some, hp_drew]
  refine (c_Number a1 1000 w1 (by omega) (by omega)).step ?_
  obtain ⟨s, hs⟩ : ∃ s, 1 + a1 % 1000 = s := ⟨_, rfl⟩
  simp -implicitDefEqProofs only [bp_add, hs, wrapi (n := s) (by omega) (by omega), wpB_some', gd_true, gd_false, gd_tf, gd_ft, gd_ut, gd_uf, gv_true, gv_false, gv_tf, gv_ft, gv_ut, gv_uf, gE_true, gE_false, gE_tf, gE_ft, gE_ut, gE_uf, gU_true, gU_false, gU_tf, gU_ft, pickv_true, pickv_false, cnd_true, cnd_false, decide_true, decide_false, Bool.not_true, Bool.not_false, pr_not, nilv_some, bp_lss, bp_leq, bp_gtr, bp_geq, be_eql, be_neq, bne_self_eq_false, beq_self_eq_true, ldC_some, Option.isNone_none, Option.isNone_some, hp_drew, c3]
  have hs1 : 1 ≤ s := by omega
  have hs2 : s ≤ 1000 := by omega
  clear hs
  refine (c_Begin R1 (by decide) (by decide) 1 7 opPin s).mono ?_
  rintro v w2 ⟨rfl, F2, R2, u2⟩
  have e2 : pBegin ([], [-1, -1], 0) 1 7 opPin s = ((0, 0), ([refSp s (-1) (-1) 0], [-1, 0], s)) := by
    unfold pBegin
    rw [if_neg (by show ¬ (_ ∨ _ ∨ _ ∨ _); simp; omega)]; rfl
  rw [e2] at R2 ⊢
  simp -implicitDefEqProofs only [tup0, tup1, wpB_some', gd_true, gd_false, gd_tf, gd_ft, gd_ut, gd_uf, gv_true, gv_false, gv_tf, gv_ft, gv_ut, gv_uf, gE_true, gE_false, gE_tf, gE_ft, gE_ut, gE_uf, gU_true, gU_false, gU_tf, gU_ft, pickv_true, pickv_false, cnd_true, cnd_false, decide_true, decide_false, Bool.not_true, Bool.not_false, pr_not, nilv_some, bp_lss, bp_leq, bp_gtr, bp_geq, be_eql, be_neq, bne_self_eq_false, beq_self_eq_true, ldC_some, Option.isNone_none, Option.isNone_some, hp_drew]
  refine (c_List R2 (by show 1 ≤ 1000; omega)).mono ?_
  rintro vl w3 ⟨hv, c3'⟩
  have hv : w3.ownsRow w2.heap.size 58 20 vl 1 ([refSp s (-1) (-1) 0].flatMap spC) := hv
  have R3 := R2.keep c3' (Dis.nil _)
  have u3 := u2.grow (H := []) c3'
  have hvd : ∀ k, vl.ownBlock = some k → k ∉ F2 := fun k hk hm => by have := (hv.lt k hk).1; have := R2.lt k hm; omega
  clear R2 u2
  refine (c_Number a0 1000 w3 (by omega) (by omega)).step ?_
  obtain ⟨n, hn⟩ : ∃ n, 2 + a0 % 1000 = n := ⟨_, rfl⟩
  simp -implicitDefEqProofs only [bp_add, hn, wrapi (n := n) (by omega) (by omega), wpB_some', gd_true, gd_false, gd_tf, gd_ft, gd_ut, gd_uf, gv_true, gv_false, gv_tf, gv_ft, gv_ut, gv_uf, gE_true, gE_false, gE_tf, gE_ft, gE_ut, gE_uf, gU_true, gU_false, gU_tf, gU_ft, pickv_true, pickv_false, cnd_true, cnd_false, decide_true, decide_false, Bool.not_true, Bool.not_false, pr_not, nilv_some, bp_lss, bp_leq, bp_gtr, bp_geq, be_eql, be_neq, bne_self_eq_false, beq_self_eq_true, ldC_some, Option.isNone_none, Option.isNone_some, hp_drew]
  refine (c_Number a2 1000 w3 (by omega) (by omega)).step ?_
  obtain ⟨i, hi⟩ : ∃ i, 1 + a2 % 1000 = i := ⟨_, rfl⟩
  have hn1 : 2 ≤ n := by omega
  have hn2 : n ≤ 1001 := by omega
  have hi1 : 1 ≤ i := by omega
  have hi2 : i ≤ 1000 := by omega
  simp -implicitDefEqProofs only [bp_add, hi, wrapi (n := i) (by omega) (by omega), wpB_some', gd_true, gd_false, gd_tf, gd_ft, gd_ut, gd_uf, gv_true, gv_false, gv_tf, gv_ft, gv_ut, gv_uf, gE_true, gE_false, gE_tf, gE_ft, gE_ut, gE_uf, gU_true, gU_false, gU_tf, gU_ft, pickv_true, pickv_false, cnd_true, cnd_false, decide_true, decide_false, Bool.not_true, Bool.not_false, pr_not, nilv_some, bp_lss, bp_leq, bp_gtr, bp_geq, be_eql, be_neq, bne_self_eq_false, beq_self_eq_true, ldC_some, Option.isNone_none, Option.isNone_some, hp_drew, c0]
  clear hn hi
  have st : ∀ (wk ix t : Int), (wk < 0 ∨ 2 ≤ wk ∨ wk = 1 ∨ t < s) → pBegin ([refSp s (-1) (-1) 0], [-1, 0], s) wk ix opZ t = ((0, 1), ([refSp s (-1) (-1) 0], [-1, 0], s)) := by
    intro wk ix t h
    unfold pBegin
    refine if_pos ?_
    rcases h with h | h | h | h
    · exact .inl h
    · exact .inr (.inl h)
    · subst h; exact .inr (.inr (.inl (by show (0 : Int) ≤ 0; omega)))
    · exact .inr (.inr (.inr h))
  refine (c_Begin R3 (by show 1 ≤ 1000; omega) (by show 2 ≤ 1000; omega) n 0 opZ s).mono ?_
  rintro v w4 ⟨rfl, F4, R4, u4⟩
  rw [st n 0 s (.inr (.inl hn1))] at R4 ⊢
  simp -implicitDefEqProofs only [tup0, tup1, wpB_some', gd_true, gd_false, gd_tf, gd_ft, gd_ut, gd_uf, gv_true, gv_false, gv_tf, gv_ft, gv_ut, gv_uf, gE_true, gE_false, gE_tf, gE_ft, gE_ut, gE_uf, gU_true, gU_false, gU_tf, gU_ft, pickv_true, pickv_false, cnd_true, cnd_false, decide_true, decide_false, Bool.not_true, Bool.not_false, pr_not, nilv_some, bp_lss, bp_leq, bp_gtr, bp_geq, be_eql, be_neq, bne_self_eq_false, beq_self_eq_true, ldC_some, Option.isNone_none, Option.isNone_some, hp_drew, c0]
  refine (c_Begin R4 (by show 1 ≤ 1000; omega) (by show 2 ≤ 1000; omega) 1 8 opZ s).mono ?_
  rintro v w5 ⟨rfl, F5, R5, u5⟩
  rw [st 1 8 s (.inr (.inr (.inl rfl)))] at R5 ⊢
  simp -implicitDefEqProofs only [tup0, tup1, wpB_some', gd_true, gd_false, gd_tf, gd_ft, gd_ut, gd_uf, gv_true, gv_false, gv_tf, gv_ft, gv_ut, gv_uf, gE_true, gE_false, gE_tf, gE_ft, gE_ut, gE_uf, gU_true, gU_false, gU_tf, gU_ft, pickv_true, pickv_false, cnd_true, cnd_false, decide_true, decide_false, Bool.not_true, Bool.not_false, pr_not, nilv_some, bp_lss, bp_leq, bp_gtr, bp_geq, be_eql, be_neq, bne_self_eq_false, beq_self_eq_true, ldC_some, Option.isNone_none, Option.isNone_some, hp_drew, c0, bp_sub, wrapi (n := s - 1) (by omega) (by omega)]
  refine (c_Begin R5 (by show 1 ≤ 1000; omega) (by show 2 ≤ 1000; omega) 0 0 opZ (s - 1)).mono ?_
  rintro v w6 ⟨rfl, F6, R6, u6⟩
  rw [st 0 0 (s - 1) (.inr (.inr (.inr (by omega))))] at R6 ⊢
  simp -implicitDefEqProofs only [tup0, tup1, wpB_some', gd_true, gd_false, gd_tf, gd_ft, gd_ut, gd_uf, gv_true, gv_false, gv_tf, gv_ft, gv_ut, gv_uf, gE_true, gE_false, gE_tf, gE_ft, gE_ut, gE_uf, gU_true, gU_false, gU_tf, gU_ft, pickv_true, pickv_false, cnd_true, cnd_false, decide_true, decide_false, Bool.not_true, Bool.not_false, pr_not, nilv_some, bp_lss, bp_leq, bp_gtr, bp_geq, be_eql, be_neq, bne_self_eq_false, beq_self_eq_true, ldC_some, Option.isNone_none, Option.isNone_some, hp_drew, c0, pr_neg, wrapi (n := 0 - n) (by omega) (by omega)]
  refine (c_Begin R6 (by show 1 ≤ 1000; omega) (by show 2 ≤ 1000; omega) (0 - n) 0 opZ s).mono ?_
  rintro v w7 ⟨rfl, F7, R7, u7⟩
  rw [st (0 - n) 0 s (.inl (by omega))] at R7 ⊢
  simp -implicitDefEqProofs only [tup0, tup1, wpB_some', gd_true, gd_false, gd_tf, gd_ft, gd_ut, gd_uf, gv_true, gv_false, gv_tf, gv_ft, gv_ut, gv_uf, gE_true, gE_false, gE_tf, gE_ft, gE_ut, gE_uf, gU_true, gU_false, gU_tf, gU_ft, pickv_true, pickv_false, cnd_true, cnd_false, decide_true, decide_false, Bool.not_true, Bool.not_false, pr_not, nilv_some, bp_lss, bp_leq, bp_gtr, bp_geq, be_eql, be_neq, bne_self_eq_false, beq_self_eq_true, ldC_some, Option.isNone_none, Option.isNone_some, hp_drew]
  have sp0' : ∀ x : SpV, spAt [x] 0 = x := fun _ => rfl
  refine (c_Back R7 0 s).mono ?_
  rintro v w8 ⟨rfl, F8, R8, u8⟩
  have e8 : pBack ([refSp s (-1) (-1) 0], [-1, 0], s) 0 s = (1, ([refSp s (-1) (-1) 0], [-1, 0], s)) := if_neg fun h => by have h := h.2.1; simp only [sp0', refSp] at h; omega
  rw [e8] at R8 ⊢
  simp -implicitDefEqProofs only [wpB_some', gd_true, gd_false, gd_tf, gd_ft, gd_ut, gd_uf, gv_true, gv_false, gv_tf, gv_ft, gv_ut, gv_uf, gE_true, gE_false, gE_tf, gE_ft, gE_ut, gE_uf, gU_true, gU_false, gU_tf, gU_ft, pickv_true, pickv_false, cnd_true, cnd_false, decide_true, decide_false, Bool.not_true, Bool.not_false, pr_not, nilv_some, bp_lss, bp_leq, bp_gtr, bp_geq, be_eql, be_neq, bne_self_eq_false, beq_self_eq_true, ldC_some, Option.isNone_none, Option.isNone_some, hp_drew, b0]
  refine (c_End R8 0 s resO (fun _ => ⟨by show (0 : Int) ≤ 1; omega, by show (1 : Int) < 2; omega⟩)).mono ?_
  rintro v w9 ⟨rfl, F9, R9, u9⟩
  have e9 : pEnd ([refSp s (-1) (-1) 0], [-1, 0], s) 0 s resO = (1, ([refSp s (-1) (-1) 0], [-1, 0], s)) := if_neg fun h => by have h := h.2.1; simp only [sp0', refSp] at h; omega
  rw [e9] at R9 ⊢
  simp -implicitDefEqProofs only [wpB_some', gd_true, gd_false, gd_tf, gd_ft, gd_ut, gd_uf, gv_true, gv_false, gv_tf, gv_ft, gv_ut, gv_uf, gE_true, gE_false, gE_tf, gE_ft, gE_ut, gE_uf, gU_true, gU_false, gU_tf, gU_ft, pickv_true, pickv_false, cnd_true, cnd_false, decide_true, decide_false, Bool.not_true, Bool.not_false, pr_not, nilv_some, bp_lss, bp_leq, bp_gtr, bp_geq, be_eql, be_neq, bne_self_eq_false, beq_self_eq_true, ldC_some, Option.isNone_none, Option.isNone_some, hp_drew, b0]
  have nop : ∀ (id t : Int) (re : ResV), (1 ≤ id ∨ id < 0 ∨ t < s) → pPoint ([refSp s (-1) (-1) 0], [-1, 0], s) id t re = (1, ([refSp s (-1) (-1) 0], [-1, 0], s)) := fun id t re h => if_neg fun h' => by
    have h1 := h'.1.1
    have h2 := h'.1.2.1
    have h3 := h'.2.2
    simp at h2 h3
    omega
  refine (c_Point R9 i s resO).mono ?_
  rintro v w10 ⟨rfl, F10, R10, u10⟩
  rw [nop i s resO (.inl hi1)] at R10 ⊢
  simp -implicitDefEqProofs only [wpB_some', gd_true, gd_false, gd_tf, gd_ft, gd_ut, gd_uf, gv_true, gv_false, gv_tf, gv_ft, gv_ut, gv_uf, gE_true, gE_false, gE_tf, gE_ft, gE_ut, gE_uf, gU_true, gU_false, gU_tf, gU_ft, pickv_true, pickv_false, cnd_true, cnd_false, decide_true, decide_false, Bool.not_true, Bool.not_false, pr_not, nilv_some, bp_lss, bp_leq, bp_gtr, bp_geq, be_eql, be_neq, bne_self_eq_false, beq_self_eq_true, ldC_some, Option.isNone_none, Option.isNone_some, hp_drew, b0, pr_neg, wrapi (n := 0 - i) (by omega) (by omega)]
  refine (c_Point R10 (0 - i) s resO).mono ?_
  rintro v w11 ⟨rfl, F11, R11, u11⟩
  rw [nop (0 - i) s resO (.inr (.inl (by omega)))] at R11 ⊢
  simp -implicitDefEqProofs only [wpB_some', gd_true, gd_false, gd_tf, gd_ft, gd_ut, gd_uf, gv_true, gv_false, gv_tf, gv_ft, gv_ut, gv_uf, gE_true, gE_false, gE_tf, gE_ft, gE_ut, gE_uf, gU_true, gU_false, gU_tf, gU_ft, pickv_true, pickv_false, cnd_true, cnd_false, decide_true, decide_false, Bool.not_true, Bool.not_false, pr_not, nilv_some, bp_lss, bp_leq, bp_gtr, bp_geq, be_eql, be_neq, bne_self_eq_false, beq_self_eq_true, ldC_some, Option.isNone_none, Option.isNone_some, hp_drew, b0, bp_sub, wrapi (n := s - 1) (by omega) (by omega)]
  refine (c_Point R11 0 (s - 1) resO).mono ?_
  rintro v w12 ⟨rfl, F12, R12, u12⟩
  rw [nop 0 (s - 1) resO (.inr (.inr (by omega)))] at R12 ⊢
  have ua := (((((((((u4.trans u5).trans u6).trans u7).trans u8).trans u9).trans u10).trans u11).trans u12))
  have hv12 := ownsRow_chg hv ua.chg hvd
  have hc12 : Chg [] W w12 := (hc0.trans c1).upd (u3.trans ua) fun k hk => .inr (Nat.le_trans hc0.size (n1 k hk))
  have n12 : ∀ k ∈ F12, W.heap.size ≤ k := (u3.trans ua).news (Nat.le_trans hc0.size c1.size) fun k hk => Nat.le_trans hc0.size (n1 k hk)
  clear ua u3 u4 u5 u6 u7 u8 u9 u10 u11 u12 R4 R5 R6 R7 R8 R9 R10 R11 R3 hv hvd c3' c1
  have R12d := R12.keep (Chg.refl [] w12).drew (Dis.nil _)
  have hvD := ownsRow_drew hv12
  obtain ⟨g, c, rfl, hg, q1, q2, q3⟩ := sp_own hvD rfl (id := 0) (by omega) (by show (0 : Int) < 1; omega)
  have one : (((1 : Nat) : Int) == 1) = true := rfl
  have hlen : ([refSp s (-1) (-1) 0] : List SpV).length = 1 := rfl
  simp -implicitDefEqProofs only [wpB_some', gd_true, gd_false, gd_tf, gd_ft, gd_ut, gd_uf, gv_true, gv_false, gv_tf, gv_ft, gv_ut, gv_uf, gE_true, gE_false, gE_tf, gE_ft, gE_ut, gE_uf, gU_true, gU_false, gU_tf, gU_ft, pickv_true, pickv_false, cnd_true, cnd_false, decide_true, decide_false, Bool.not_true, Bool.not_false, pr_not, nilv_some, bp_lss, bp_leq, bp_gtr, bp_geq, be_eql, be_neq, bne_self_eq_false, beq_self_eq_true, ldC_some, Option.isNone_none, Option.isNone_some, hp_drew, len_54, one]
  have ldOf : ∀ {w' : World} {g' c' : Nat} {base : Nat}, w'.ownsRow base 58 20 (.slice (some ⟨g', 0, none⟩) 1 c') 1 ([refSp s (-1) (-1) 0].flatMap spC) → pureRun Try.prog (Instr.indexAt 54 (.slice (some ⟨g', 0, none⟩) 1 c') (.int .i64 0)) = some (.pointer (some ⟨g', (0 : Int).toNat * 20, none⟩)) ∧ ldv Try.prog 58 (.pointer (some ⟨g', (0 : Int).toNat * 20, none⟩)) w' = some (.agg (spA (refSp s (-1) (-1) 0))) := by
    intro w' g' c' base ho
    obtain ⟨g2, c2, e2, hg2, z1, z2, z3⟩ := sp_own ho rfl (id := 0) (by omega) (by show (0 : Int) < 1; omega)
    simp only [Value.slice.injEq, Option.some.injEq, Addr.mk.injEq, and_true, true_and] at e2
    obtain ⟨rfl, rfl⟩ := e2
    exact ⟨z1 _, by rw [ld_58, z3]; rfl⟩
  have heq : be Try.prog .eql 58 (.tmp 135) (.tmp 138) (.agg (spA (refSp s (-1) (-1) 0))) (.agg (spA (refSp s (-1) (-1) 0))) = some (.bool true) := by
    have := be_eql_58 (x := .tmp 135) (y := .tmp 138) (x0 := 1) (y0 := 1) (x1 := 7) (y1 := 7) (x2 := 3) (y2 := 3) (x3 := 0) (y3 := 0) (x4 := 0) (y4 := 0) (x5 := 0) (y5 := 0) (x6 := 0) (y6 := 0) (x7 := 0) (y7 := 0)
      (x8 := s) (y8 := s) (x9 := -1) (y9 := -1) (x10 := -1) (y10 := -1) (x11 := -1) (y11 := -1) (x12 := 0) (y12 := 0) (x13 := 0) (y13 := 0) (x14 := 0) (y14 := 0) (x15 := 0) (y15 := 0) (x16 := 0) (y16 := 0) (x17 := 0) (y17 := 0) (x18 := 0) (y18 := 0) (x19 := 0) (y19 := 0)
    simp only [beq_self_eq_true, Bool.and_self, Bool.not_true] at this
    exact this
  have fin : ∀ w', RecI w' r F12 [refSp s (-1) (-1) 0] [-1, 0] s → Chg [] W w' → P9_0 (.bool true) (.pointer (some ⟨r, 0, none⟩)) (.int .i64 s) (.int .i64 0) (.int .i64 0) (.int .i64 0) (.int .i64 1) (.int .i64 0) (.int .i64 1) (.int .i64 0) (.int .i64 1) (.int .i64 0) (.int .i64 1) (.bool true) (.bool true) w' (OkT W) := fun w' h1 h2 => l_Refuses0 hs1 hs2 h1 n12 h2
  constructor
  all_goals
    refine (c_List R12d (by show 1 ≤ 1000; omega)).mono ?_
    rintro v2 wa ⟨ha, ca⟩
    have ha : wa.ownsRow w12.drew.heap.size 58 20 v2 1 ([refSp s (-1) (-1) 0].flatMap spC) := ha
    obtain ⟨A2, cA2, rfl, _⟩ := rdV_of_own ha
    have Ra := R12d.keep ca (Dis.nil _)
    have hva := ownsRow_chg hvD ca (by simp)
    obtain ⟨y1, y2⟩ := ldOf hva
    simp -implicitDefEqProofs only [wpB_some', gd_true, gd_false, gd_tf, gd_ft, gd_ut, gd_uf, gv_true, gv_false, gv_tf, gv_ft, gv_ut, gv_uf, gE_true, gE_false, gE_tf, gE_ft, gE_ut, gE_uf, gU_true, gU_false, gU_tf, gU_ft, pickv_true, pickv_false, cnd_true, cnd_false, decide_true, decide_false, Bool.not_true, Bool.not_false, pr_not, nilv_some, bp_lss, bp_leq, bp_gtr, bp_geq, be_eql, be_neq, bne_self_eq_false, beq_self_eq_true, ldC_some, Option.isNone_none, Option.isNone_some, hp_drew, len_54, one, y1, y2]
    refine (c_List Ra (by show 1 ≤ 1000; omega)).mono ?_
    rintro v3 wb ⟨hb, cb⟩
    have hb : wb.ownsRow wa.heap.size 58 20 v3 1 ([refSp s (-1) (-1) 0].flatMap spC) := hb
    obtain ⟨g3, c3, rfl, _⟩ := sp_own hb rfl (id := 0) (by omega) (by show (0 : Int) < 1; omega)
    obtain ⟨z1, z2⟩ := ldOf hb
    have hvb := ownsRow_chg hva cb (by simp)
    obtain ⟨x1, x2⟩ := ldOf hvb
    simp -implicitDefEqProofs only [wpB_some', gd_true, gd_false, gd_tf, gd_ft, gd_ut, gd_uf, gv_true, gv_false, gv_tf, gv_ft, gv_ut, gv_uf, gE_true, gE_false, gE_tf, gE_ft, gE_ut, gE_uf, gU_true, gU_false, gU_tf, gU_ft, pickv_true, pickv_false, cnd_true, cnd_false, decide_true, decide_false, Bool.not_true, Bool.not_false, pr_not, nilv_some, bp_lss, bp_leq, bp_gtr, bp_geq, be_eql, be_neq, bne_self_eq_false, beq_self_eq_true, ldC_some, Option.isNone_none, Option.isNone_some, hp_drew, z1, z2, x1, x2, heq]
    exact fin wb (Ra.keep cb (Dis.nil _)) (((hc12.drew).trans ca).trans cb)
end Go.Proofs.Ytgamnncehjcdiaa
