/- The call of ScriptPuts answers true. -/
import Derived.Test.YtgamnncehjcdiaaSh
import Derived.ChangeSlices
namespace Go.Proofs.Ytgamnncehjcdiaa
open Go Ev Go.RowKit Go.ChangeShapes
set_option linter.unusedSimpArgs false
set_option linter.unusedVariables false
set_option maxRecDepth 10000

def OkS (W : World) (v : Value) (w' : World) : Prop := v = .bool true ∧ Below W.heap.size W w'
/-- so many operations, as the statement counts them -/
def cnt : List (List OpV) → Nat
  | [] => 0
  | l :: L => min l.length 1001 + cnt L
theorem cnt_snoc (L : List (List OpV)) (l : List OpV) : cnt (L ++ [l]) = cnt L + min l.length 1001 := by
  induction L with
  | nil => simp [cnt]
  | cons x xs ih => simp [cnt, ih]; omega
theorem cnt_le {L : List (List OpV)} {l : List OpV} (h : l ∈ L) : min l.length 1001 ≤ cnt L := by
  induction L with
  | nil => simp at h
  | cons x xs ih =>
    rcases List.mem_cons.1 h with rfl | h
    · simp [cnt]
    · have := ih h; simp [cnt]; omega
theorem flat_encO_len (l : List OpV) : (l.flatMap encO).length ≤ 22 * l.length := by
  induction l with
  | nil => simp
  | cons o l ih =>
    have := encO_len o
    simp only [List.flatMap_cons, List.length_append, List.length_cons]; omega
theorem flat_encL_len (L : List (List OpV)) (h : cnt L ≤ 300) : (L.flatMap encL).length ≤ 2 * L.length + 22 * cnt L := by
  induction L with
  | nil => simp
  | cons l L ih =>
    simp only [cnt] at h
    have := ih (by omega)
    have := flat_encO_len l
    simp only [List.flatMap_cons, List.length_append, List.length_cons, len_encL, cnt]; omega
theorem encS_small {s : ScV} (h1 : s.1.length ≤ 70) (h2 : cnt s.1 ≤ 300) (h3 : s.2.length ≤ 300) : (encS s).length ≤ 700000 := by
  have := flat_encL_len s.1 h2
  simp only [encS, List.length_append, List.length_singleton]; omega
set_option maxHeartbeats 4000000 in
theorem l_Puts1 {W w : World} {s : ScV} (hwf : WfS s) (h1 : s.1.length ≤ 70) (h2 : cnt s.1 ≤ 300) (h3 : s.2.length ≤ 300) {x : Value} {g1 : Nat} {v : Value} (hv : IsS w v s) (hld : ∀ w', Chg [] w w' → ldv Try.prog 25 (.pointer (some ⟨g1, 0, none⟩)) w' = some v) (hx : w.ownsRow 0 5 1 x (pPut s).1.length (u8s (pPut s).1)) (hW : Chg [] W w) :
    P3_1 (.pointer (some ⟨g1, 0, none⟩)) (.bool true) x (.int .i64 (pPut s).2) (.bool false) w (OkS W) := by
  apply L3_1_ok
  have hd : Chg [] w w.drew := (Chg.refl _ _).drew
  by_cases h0 : (pPut s).2 = 0
  · have h0' : ((pPut s).2 != 0) = false := by rw [h0]; rfl
    have hmo : mayS s = true ∧ okS s = true := by
      unfold pPut at h0
      split at h0
      · split at h0
        · exact ⟨by assumption, by assumption⟩
        · cases h0
      · cases h0
    rw [putS_t hmo.1 hmo.2] at hx
    have hb := encS_bytes hmo.1 hmo.2
    have hsl : SlB w x (encS s) := by
      obtain ⟨A, c, e1, e2, e3, e4⟩ := rdV_of_own hx
      refine ⟨A, c, e1, e2, ?_, fun p hp _ => (e3 p hp).2⟩
      rcases hx.2 with ⟨e5, e6⟩ | ⟨g, cap, cur, e5, _, _, hnc, _⟩
      · simp only at e6; omega
      · rw [e1] at e5; cases e5; exact hnc
    have hsld := hsl.chg hd
    have hlls : ∀ l ∈ s.1, l.length ≤ 4611686018427387904 := fun l hl => by have := cnt_le hl; omega
    have tail : ∀ (t81 : Value) (w1 : World), IsS w1 t81 s → Chg [] w w1 → CallR Try.prog 19 [t81, v] w1 fun t83 w => wpB (gd (.bool true) true (pickv (gv (.bool true) true (.bool false)) (some (.bool true)) (some t83))) fun t84 => wpB (pickv (.bool true) (some t84) (some (.bool false))) fun t85 => OkS W t85 w := by
      intro t81 w1 hs1 hc1
      refine (c_SameScript (s := s) (t := s) (by omega) hlls (by omega) hs1 (hv.keep hc1.below)).mono ?_
      rintro _ w2 ⟨rfl, hb2⟩
      simp -implicitDefEqProofs only [scEq_self, wpB_some', gd_true, gd_false, gd_tf, gd_ft, gd_ut, gd_uf, gv_true, gv_false, gv_tf, gv_ft, gv_ut, gv_uf, gE_true, gE_false, gE_tf, gE_ft, gE_ut, gE_uf, gU_true, gU_false, gU_tf, gU_ft, pickv_true, pickv_false, cnd_true, cnd_false, decide_true, decide_false, Bool.not_true, Bool.not_false, pr_not, nilv_some, bp_lss, bp_leq, bp_gtr, bp_geq, be_eql, be_neq, bne_self_eq_false, beq_self_eq_true, ldC_some, Option.isNone_none, Option.isNone_some, hp_drew]
      exact ⟨rfl, ((hW.trans hc1).trans (Chg.of_below hb2 _)).below⟩
    have rd : ∀ {K : Value → World → Prop}, (∀ t81 w1, IsS w1 t81 s → Chg [] w w1 → K t81 w1) → CallR Try.prog 20 [x] w.drew K := by
      intro K hk
      refine (c_Read hsld hb).mono ?_
      rintro t w1 ⟨hs1, hc1⟩
      rw [pRead_encS hmo.1 hmo.2 hwf] at hs1
      exact hk t w1 hs1 (hd.trans hc1)
    simp -implicitDefEqProofs only [L3_1, wpB_some', gd_true, gd_false, gd_tf, gd_ft, gd_ut, gd_uf, gv_true, gv_false, gv_tf, gv_ft, gv_ut, gv_uf, gE_true, gE_false, gE_tf, gE_ft, gE_ut, gE_uf, gU_true, gU_false, gU_tf, gU_ft, pickv_true, pickv_false, cnd_true, cnd_false, decide_true, decide_false, Bool.not_true, Bool.not_false, pr_not, nilv_some, bp_lss, bp_leq, bp_gtr, bp_geq, be_eql, be_neq, bne_self_eq_false, beq_self_eq_true, ldC_some, Option.isNone_none, Option.isNone_some, hp_drew, h0', hld _ hd]
    simp -implicitDefEqProofs only [wpB_some', gd_true, gd_false, gd_tf, gd_ft, gd_ut, gd_uf, gv_true, gv_false, gv_tf, gv_ft, gv_ut, gv_uf, gE_true, gE_false, gE_tf, gE_ft, gE_ut, gE_uf, gU_true, gU_false, gU_tf, gU_ft, pickv_true, pickv_false, cnd_true, cnd_false, decide_true, decide_false, Bool.not_true, Bool.not_false, pr_not, nilv_some, bp_lss, bp_leq, bp_gtr, bp_geq, be_eql, be_neq, bne_self_eq_false, beq_self_eq_true, ldC_some, Option.isNone_none, Option.isNone_some, hp_drew] at tail
    constructor
    · exact rd fun t81 w1 a b => tail t81 w1 a b
    · refine rd fun t81 w1 a b => ?_
      simp -implicitDefEqProofs only [hld _ b, wpB_some', gd_true, gd_false, gd_tf, gd_ft, gd_ut, gd_uf, gv_true, gv_false, gv_tf, gv_ft, gv_ut, gv_uf, gE_true, gE_false, gE_tf, gE_ft, gE_ut, gE_uf, gU_true, gU_false, gU_tf, gU_ft, pickv_true, pickv_false, cnd_true, cnd_false, decide_true, decide_false, Bool.not_true, Bool.not_false, pr_not, nilv_some, bp_lss, bp_leq, bp_gtr, bp_geq, be_eql, be_neq, bne_self_eq_false, beq_self_eq_true, ldC_some, Option.isNone_none, Option.isNone_some, hp_drew]
      exact tail t81 w1 a b
  · simp -implicitDefEqProofs only [L3_1, wpB_some', gd_true, gd_false, gd_tf, gd_ft, gd_ut, gd_uf, gv_true, gv_false, gv_tf, gv_ft, gv_ut, gv_uf, gE_true, gE_false, gE_tf, gE_ft, gE_ut, gE_uf, gU_true, gU_false, gU_tf, gU_ft, pickv_true, pickv_false, cnd_true, cnd_false, decide_true, decide_false, Bool.not_true, Bool.not_false, pr_not, nilv_some, bp_lss, bp_leq, bp_gtr, bp_geq, be_eql, be_neq, bne_self_eq_false, beq_self_eq_true, ldC_some, Option.isNone_none, Option.isNone_some, hp_drew, bne_iff_ne.2 h0]
    exact ⟨⟨rfl, hW.drew.below⟩, ⟨rfl, hW.drew.below⟩⟩
set_option maxHeartbeats 4000000 in
theorem l_Puts0 {W w : World} {s : ScV} (hwf : WfS s) (hl : s.1.length ≤ 9223372036854775807) {A B : Option Addr} {c cp : Nat} {vs : List Value} {g1 : Nat} (h1 : hp w g1 = some (.cells #[.slice A s.1.length c, .slice B s.2.length cp] 25)) (h2 : RdV w A vs) (h3 : vs.length = s.1.length)
    (hv : IsS w (.agg #[.slice A s.1.length c, .slice B s.2.length cp]) s) (h4 : ∀ (j : Nat) (x : Value) (ops : List OpV), vs[j]? = some x → s.1[j]? = some ops → SlO w x ops) (hW : Chg [] W w) :
    ∀ (d i : Nat), cnt (s.1.take i) ≤ 1301 → i + d = s.1.length →
      P3_0 (.pointer (some ⟨g1, 0, none⟩)) (.bool true) (.int .i64 (cnt (s.1.take i) : Nat)) (.int .i64 i) w (OkS W) := by
  have hld : ∀ w', Chg [] w w' → ldv Try.prog 25 (.pointer (some ⟨g1, 0, none⟩)) w' = some (.agg #[.slice A s.1.length c, .slice B s.2.length cp]) := fun w' hc => ldv_whole ag_25 sz_25 (hc.at h1 (by simp))
  have over : ∀ i, i ≤ s.1.length → (i = s.1.length ∨ 300 < cnt (s.1.take i)) → cnt (s.1.take i) ≤ 1301 →
      (wpB (pureRun Try.prog (Instr.fieldAt 25 (.pointer (some ⟨g1, 0, none⟩)) 0)) fun t33 =>
       wpB (ldv Try.prog 22 t33 w) fun t34 =>
       wpB (pureRun Try.prog (Builtin.len_ #[22] 3 #[t34])) fun t35 =>
       wpB (bp Try.prog .gtr 3 t35 (.int .i64 70)) fun t36 => t36 = .bool (decide (70 < (s.1.length : Int)))) := by
    intro i _ _ _
    simp -implicitDefEqProofs only [wpB_some', gd_true, gd_false, gd_tf, gd_ft, gd_ut, gd_uf, gv_true, gv_false, gv_tf, gv_ft, gv_ut, gv_uf, gE_true, gE_false, gE_tf, gE_ft, gE_ut, gE_uf, gU_true, gU_false, gU_tf, gU_ft, pickv_true, pickv_false, cnd_true, cnd_false, decide_true, decide_false, Bool.not_true, Bool.not_false, pr_not, nilv_some, bp_lss, bp_leq, bp_gtr, bp_geq, be_eql, be_neq, bne_self_eq_false, beq_self_eq_true, ldC_some, Option.isNone_none, Option.isNone_some, hp_drew, fa_25_0, ld_22, h1, t2_0, len_22]
  intro d
  induction d with
  | zero =>
    intro i hcn hi
    obtain rfl : i = s.1.length := by omega
    rw [List.take_length] at hcn ⊢
    apply L3_0_ok
    by_cases k1 : (70 : Int) < s.1.length
    · simp -implicitDefEqProofs only [L3_0, wpB_some', gd_true, gd_false, gd_tf, gd_ft, gd_ut, gd_uf, gv_true, gv_false, gv_tf, gv_ft, gv_ut, gv_uf, gE_true, gE_false, gE_tf, gE_ft, gE_ut, gE_uf, gU_true, gU_false, gU_tf, gU_ft, pickv_true, pickv_false, cnd_true, cnd_false, decide_true, decide_false, Bool.not_true, Bool.not_false, pr_not, nilv_some, bp_lss, bp_leq, bp_gtr, bp_geq, be_eql, be_neq, bne_self_eq_false, beq_self_eq_true, ldC_some, Option.isNone_none, Option.isNone_some, hp_drew, fa_25_0, ld_22, h1, t2_0, len_22, Int.lt_irrefl, k1]
      exact ⟨rfl, hW.below⟩
    by_cases k2 : (300 : Int) < (cnt s.1 : Nat)
    · simp -implicitDefEqProofs only [L3_0, wpB_some', gd_true, gd_false, gd_tf, gd_ft, gd_ut, gd_uf, gv_true, gv_false, gv_tf, gv_ft, gv_ut, gv_uf, gE_true, gE_false, gE_tf, gE_ft, gE_ut, gE_uf, gU_true, gU_false, gU_tf, gU_ft, pickv_true, pickv_false, cnd_true, cnd_false, decide_true, decide_false, Bool.not_true, Bool.not_false, pr_not, nilv_some, bp_lss, bp_leq, bp_gtr, bp_geq, be_eql, be_neq, bne_self_eq_false, beq_self_eq_true, ldC_some, Option.isNone_none, Option.isNone_some, hp_drew, fa_25_0, ld_22, h1, t2_0, len_22, Int.lt_irrefl, k1, k2]
      exact ⟨rfl, hW.below⟩
    by_cases k3 : (300 : Int) < s.2.length
    · simp -implicitDefEqProofs only [L3_0, wpB_some', gd_true, gd_false, gd_tf, gd_ft, gd_ut, gd_uf, gv_true, gv_false, gv_tf, gv_ft, gv_ut, gv_uf, gE_true, gE_false, gE_tf, gE_ft, gE_ut, gE_uf, gU_true, gU_false, gU_tf, gU_ft, pickv_true, pickv_false, cnd_true, cnd_false, decide_true, decide_false, Bool.not_true, Bool.not_false, pr_not, nilv_some, bp_lss, bp_leq, bp_gtr, bp_geq, be_eql, be_neq, bne_self_eq_false, beq_self_eq_true, ldC_some, Option.isNone_none, Option.isNone_some, hp_drew, fa_25_0, fa_25_1, ld_22, ld_23, h1, t2_0, t2_1, len_22, len_23, Int.lt_irrefl, k1, k2, k3]
      exact ⟨rfl, hW.below⟩
    have hsm := encS_small (s := s) (by omega) (by omega) (by omega)
    simp -implicitDefEqProofs only [L3_0, wpB_some', gd_true, gd_false, gd_tf, gd_ft, gd_ut, gd_uf, gv_true, gv_false, gv_tf, gv_ft, gv_ut, gv_uf, gE_true, gE_false, gE_tf, gE_ft, gE_ut, gE_uf, gU_true, gU_false, gU_tf, gU_ft, pickv_true, pickv_false, cnd_true, cnd_false, decide_true, decide_false, Bool.not_true, Bool.not_false, pr_not, nilv_some, bp_lss, bp_leq, bp_gtr, bp_geq, be_eql, be_neq, bne_self_eq_false, beq_self_eq_true, ldC_some, Option.isNone_none, Option.isNone_some, hp_drew, fa_25_0, fa_25_1, ld_22, ld_23, h1, t2_0, t2_1, len_22, len_23, Int.lt_irrefl, k1, k2, k3, hld _ (Chg.refl _ _)]
    refine (c_Put hwf (by omega) (by omega) hv).mono ?_
    rintro _ w1 ⟨x, rfl, o1, c1⟩
    simp -implicitDefEqProofs only [tup0, tup1, wpB_some', gd_true, gd_false, gd_tf, gd_ft, gd_ut, gd_uf, gv_true, gv_false, gv_tf, gv_ft, gv_ut, gv_uf, gE_true, gE_false, gE_tf, gE_ft, gE_ut, gE_uf, gU_true, gU_false, gU_tf, gU_ft, pickv_true, pickv_false, cnd_true, cnd_false, decide_true, decide_false, Bool.not_true, Bool.not_false, pr_not, nilv_some, bp_lss, bp_leq, bp_gtr, bp_geq, be_eql, be_neq, bne_self_eq_false, beq_self_eq_true, ldC_some, Option.isNone_none, Option.isNone_some, hp_drew, hld _ c1]
    refine (c_PutScript hwf hsm (by omega) (by omega) (hv.keep c1.below)).mono ?_
    rintro _ w2 ⟨y, rfl, o2, c2⟩
    simp -implicitDefEqProofs only [tup0, tup1, wpB_some', gd_true, gd_false, gd_tf, gd_ft, gd_ut, gd_uf, gv_true, gv_false, gv_tf, gv_ft, gv_ut, gv_uf, gE_true, gE_false, gE_tf, gE_ft, gE_ut, gE_uf, gU_true, gU_false, gU_tf, gU_ft, pickv_true, pickv_false, cnd_true, cnd_false, decide_true, decide_false, Bool.not_true, Bool.not_false, pr_not, nilv_some, bp_lss, bp_leq, bp_gtr, bp_geq, be_eql, be_neq, bne_self_eq_false, beq_self_eq_true, ldC_some, Option.isNone_none, Option.isNone_some, hp_drew]
    have o1' := ownsRow_chg o1 c2 (by simp)
    obtain ⟨A1, d1, rfl, r1, _⟩ := rdV_of_own o1'
    obtain ⟨A2, d2, rfl, r2, _⟩ := rdV_of_own o2
    have hd : Chg [] w2 w2.drew := (Chg.refl _ _).drew
    have sx : ∀ K, effv Try.prog (convert 28 9 (.slice A1 (pPut s).1.length d1)) w2.drew K = K (.string (strOfNums (pPut s).1)) w2.drew := fun K => effv_str Try.underlying28 Try.underlying5 Try.underlying9 r1
    have sy : ∀ K, effv Try.prog (convert 28 9 (.slice A2 (pPut s).1.length d2)) w2.drew K = K (.string (strOfNums (pPut s).1)) w2.drew := fun K => effv_str Try.underlying28 Try.underlying5 Try.underlying9 r2
    have c12d := (c1.trans c2).trans hd
    have tail : CallR Try.prog 17 [.agg #[.slice A s.1.length c, .slice B s.2.length cp]] w2.drew fun t70 w3 => CallR Try.prog 18 [.agg #[.slice A s.1.length c, .slice B s.2.length cp]] w3 fun t72 w4 => wpB (be Try.prog .neq 4 (.tmp 70) (.tmp 72) t70 t72) fun t73 => P3_1 (.pointer (some ⟨g1, 0, none⟩)) (.bool true) (.slice A1 (pPut s).1.length d1) (.int .i64 (pPut s).2) t73 w4 (OkS W) := by
      refine (c_SMay (s := s) (by omega) (hv.keep c12d.below)).mono ?_
      rintro _ w3 ⟨rfl, b3⟩
      have c3 := Chg.of_below b3 []
      refine (c_RMay18 (s := s) (by omega) (by omega) (hv.keep (c12d.trans c3).below)).mono ?_
      rintro _ w4 ⟨rfl, c4⟩
      simp -implicitDefEqProofs only [be_neqb Try.underlying4, wpB_some', gd_true, gd_false, gd_tf, gd_ft, gd_ut, gd_uf, gv_true, gv_false, gv_tf, gv_ft, gv_ut, gv_uf, gE_true, gE_false, gE_tf, gE_ft, gE_ut, gE_uf, gU_true, gU_false, gU_tf, gU_ft, pickv_true, pickv_false, cnd_true, cnd_false, decide_true, decide_false, Bool.not_true, Bool.not_false, pr_not, nilv_some, bp_lss, bp_leq, bp_gtr, bp_geq, be_eql, be_neq, bne_self_eq_false, beq_self_eq_true, ldC_some, Option.isNone_none, Option.isNone_some, hp_drew]
      have c5 := (c12d.trans c3).trans c4
      exact l_Puts1 hwf (by omega) (by omega) (by omega) (hv.keep c5.below) (fun w' hc => hld w' (c5.trans hc)) (ownsRow_mono (ownsRow_chg o1' ((hd.trans c3).trans c4) (by simp)) (Nat.zero_le _)) (hW.trans c5)
    simp -implicitDefEqProofs only [sx, sy, be_neqstr, beq_self_eq_true, wpB_some', gd_true, gd_false, gd_tf, gd_ft, gd_ut, gd_uf, gv_true, gv_false, gv_tf, gv_ft, gv_ut, gv_uf, gE_true, gE_false, gE_tf, gE_ft, gE_ut, gE_uf, gU_true, gU_false, gU_tf, gU_ft, pickv_true, pickv_false, cnd_true, cnd_false, decide_true, decide_false, Bool.not_true, Bool.not_false, pr_not, nilv_some, bp_lss, bp_leq, bp_gtr, bp_geq, be_eql, be_neq, bne_self_eq_false, beq_self_eq_true, ldC_some, Option.isNone_none, Option.isNone_some, hp_drew, hld _ c12d]
    have half : CallR Try.prog 17 [.agg #[.slice A s.1.length c, .slice B s.2.length cp]] w2.drew fun t70 w3 => wpB (ldv Try.prog 25 (.pointer (some ⟨g1, 0, none⟩)) w3) fun t71 => CallR Try.prog 18 [t71] w3 fun t72 w4 => wpB (be Try.prog .neq 4 (.tmp 70) (.tmp 72) t70 t72) fun t73 => P3_1 (.pointer (some ⟨g1, 0, none⟩)) (.bool true) (.slice A1 (pPut s).1.length d1) (.int .i64 (pPut s).2) t73 w4 (OkS W) := by
      refine (c_SMay (s := s) (by omega) (hv.keep c12d.below)).mono ?_
      rintro _ w3 ⟨rfl, b3⟩
      have c3 := Chg.of_below b3 []
      simp -implicitDefEqProofs only [hld _ (c12d.trans c3), wpB_some']
      refine (c_RMay18 (s := s) (by omega) (by omega) (hv.keep (c12d.trans c3).below)).mono ?_
      rintro _ w4 ⟨rfl, c4⟩
      simp -implicitDefEqProofs only [be_neqb Try.underlying4, wpB_some', gd_true, gd_false, gd_tf, gd_ft, gd_ut, gd_uf, gv_true, gv_false, gv_tf, gv_ft, gv_ut, gv_uf, gE_true, gE_false, gE_tf, gE_ft, gE_ut, gE_uf, gU_true, gU_false, gU_tf, gU_ft, pickv_true, pickv_false, cnd_true, cnd_false, decide_true, decide_false, Bool.not_true, Bool.not_false, pr_not, nilv_some, bp_lss, bp_leq, bp_gtr, bp_geq, be_eql, be_neq, bne_self_eq_false, beq_self_eq_true, ldC_some, Option.isNone_none, Option.isNone_some, hp_drew]
      have c5 := (c12d.trans c3).trans c4
      exact l_Puts1 hwf (by omega) (by omega) (by omega) (hv.keep c5.below) (fun w' hc => hld w' (c5.trans hc)) (ownsRow_mono (ownsRow_chg o1' ((hd.trans c3).trans c4) (by simp)) (Nat.zero_le _)) (hW.trans c5)
    exact ⟨⟨tail, half⟩, ⟨tail, half⟩⟩
  | succ d ih =>
    intro i hcn hi
    apply L3_0_ok
    have hlt : (i : Int) < s.1.length := by omega
    have hil : i < s.1.length := by omega
    by_cases k0 : (cnt (s.1.take i) : Nat) ≤ 300
    · have k0' : ((cnt (s.1.take i) : Nat) : Int) ≤ 300 := by omega
      obtain ⟨A', c', hx, hO⟩ := IsS.list (A := A) (c := c) (vp := .slice B s.2.length cp) h3 h4 hil
      obtain ⟨b, o, q1, q2⟩ := val_at (c := c) (j := .i64) h2 h3 hx
      have hcn' : cnt (s.1.take (i + 1)) = cnt (s.1.take i) + min (s.1[i]).length 1001 := by rw [take_snoc hil, cnt_snoc]
      have hmin : (if (1001 : Int) < (s.1[i]).length then 1001 else ((s.1[i]).length : Int)) = ((min (s.1[i]).length 1001 : Nat) : Int) := by split <;> omega
      have hsum : ((cnt (s.1.take i) : Nat) : Int) + ((min (s.1[i]).length 1001 : Nat) : Int) = ((cnt (s.1.take (i + 1)) : Nat) : Int) := by rw [hcn']; omega
      simp -implicitDefEqProofs only [L3_0, wpB_some', gd_true, gd_false, gd_tf, gd_ft, gd_ut, gd_uf, gv_true, gv_false, gv_tf, gv_ft, gv_ut, gv_uf, gE_true, gE_false, gE_tf, gE_ft, gE_ut, gE_uf, gU_true, gU_false, gU_tf, gU_ft, pickv_true, pickv_false, cnd_true, cnd_false, decide_true, decide_false, Bool.not_true, Bool.not_false, pr_not, nilv_some, bp_lss, bp_leq, bp_gtr, bp_geq, be_eql, be_neq, bne_self_eq_false, beq_self_eq_true, ldC_some, Option.isNone_none, Option.isNone_some, hp_drew, fa_25_0, ld_22, ld_27, h1, t2_0, len_22, hlt, k0', q1, q2, len_27, pr_min, hmin, bp_add, hsum, wrapi (n := ((cnt (s.1.take (i + 1)) : Nat) : Int)) (by omega) (by omega), wrapi (n := (i : Int) + 1) (by omega) (by omega)]
      have := ih (i + 1) (by omega) (by omega)
      rw [Int.natCast_add i 1] at this
      exact this
    · have k0' : ¬ ((cnt (s.1.take i) : Nat) : Int) ≤ 300 := by omega
      have k2 : (300 : Int) < (cnt (s.1.take i) : Nat) := by omega
      by_cases k1 : (70 : Int) < s.1.length
      · simp -implicitDefEqProofs only [L3_0, wpB_some', gd_true, gd_false, gd_tf, gd_ft, gd_ut, gd_uf, gv_true, gv_false, gv_tf, gv_ft, gv_ut, gv_uf, gE_true, gE_false, gE_tf, gE_ft, gE_ut, gE_uf, gU_true, gU_false, gU_tf, gU_ft, pickv_true, pickv_false, cnd_true, cnd_false, decide_true, decide_false, Bool.not_true, Bool.not_false, pr_not, nilv_some, bp_lss, bp_leq, bp_gtr, bp_geq, be_eql, be_neq, bne_self_eq_false, beq_self_eq_true, ldC_some, Option.isNone_none, Option.isNone_some, hp_drew, fa_25_0, ld_22, h1, t2_0, len_22, hlt, k0', k1]
        exact ⟨rfl, hW.below⟩
      · simp -implicitDefEqProofs only [L3_0, wpB_some', gd_true, gd_false, gd_tf, gd_ft, gd_ut, gd_uf, gv_true, gv_false, gv_tf, gv_ft, gv_ut, gv_uf, gE_true, gE_false, gE_tf, gE_ft, gE_ut, gE_uf, gU_true, gU_false, gU_tf, gU_ft, pickv_true, pickv_false, cnd_true, cnd_false, decide_true, decide_false, Bool.not_true, Bool.not_false, pr_not, nilv_some, bp_lss, bp_leq, bp_gtr, bp_geq, be_eql, be_neq, bne_self_eq_false, beq_self_eq_true, ldC_some, Option.isNone_none, Option.isNone_some, hp_drew, fa_25_0, ld_22, h1, t2_0, len_22, hlt, k0', k1, k2]
        exact ⟨rfl, hW.below⟩
theorem lawPuts {W : World} (s : ScV) (v : Value) (hv : IsS W v s) (hwf : WfS s) (hl : s.1.length ≤ maxLen) :
    CallR Try.prog 3 [v] W fun v w' => v = .bool true ∧ Below W.heap.size W w' := by
  obtain ⟨A, c, vs, vp, rfl, h2, h3, h4, h5⟩ := hv.ex
  obtain ⟨B, cp, rfl, hB⟩ := h5
  apply F3_ok
  have hc1 : Chg [] W (W.alloc (.cells #[.slice A s.1.length c, .slice B s.2.length cp] 25)) := (Chg.refl _ _).alloc _
  have h1 : hp (W.alloc (.cells #[.slice A s.1.length c, .slice B s.2.length cp] 25)) W.heap.size = some (.cells #[.slice A s.1.length c, .slice B s.2.length cp] 25) := by rw [alloc_heap, if_pos rfl]
  simp -implicitDefEqProofs only [F3, effv_box, cells_agg]
  generalize W.alloc (.cells #[.slice A s.1.length c, .slice B s.2.length cp] 25) = w1 at *
  refine (c_first20 w1).mono ?_
  rintro _ w2 ⟨rfl, c2⟩
  simp -implicitDefEqProofs only [wpB_some', gd_true, gd_false, gd_tf, gd_ft, gd_ut, gd_uf, gv_true, gv_false, gv_tf, gv_ft, gv_ut, gv_uf, gE_true, gE_false, gE_tf, gE_ft, gE_ut, gE_uf, gU_true, gU_false, gU_tf, gU_ft, pickv_true, pickv_false, cnd_true, cnd_false, decide_true, decide_false, Bool.not_true, Bool.not_false, pr_not, nilv_some, bp_lss, bp_leq, bp_gtr, bp_geq, be_eql, be_neq, bne_self_eq_false, beq_self_eq_true, ldC_some, Option.isNone_none, Option.isNone_some, hp_drew]
  have cc := hc1.trans c2
  exact l_Puts0 hwf (by unfold maxLen at hl; omega) (c2.at h1 (by simp)) (h2.keep cc.below) h3 (hv.keep cc.below) (fun j x ops a b => (h4 j x ops a b).keep cc.below) cc s.1.length 0 (by simp [cnt]) (by omega)
/-! ### a script that comes in -/
theorem opDec (ns : List Int) (h : ns.length = 6) (hw : ∀ (j : Nat) (k : IntKind) (n : Int), ([.i64, .i64, .i64, .i64, .u64, .u64] : List IntKind)[j]? = some k → ns[j]? = some n → (Lit.int k n).wf = true) : ∃ s : { o : OpV // WfO o }, opC s.1 = List.zipWith Value.int [.i64, .i64, .i64, .i64, .u64, .u64] ns := by
  match ns, h with
  | [a, b, c, d, e, f], _ =>
    have h4 := hw 4 .u64 e rfl rfl
    have h5 := hw 5 .u64 f rfl rfl
    simp [Lit.wf] at h4 h5
    have m0 : IntKind.u64.min = 0 := rfl
    have m1 : IntKind.u64.max = 18446744073709551615 := rfl
    exact ⟨⟨(a, b, c, d, e, f), ⟨⟨by simp only; omega, by simp only; omega⟩, ⟨by simp only; omega, by simp only; omega⟩⟩⟩, rfl⟩
theorem open_ops {H : Type} {enc : TypeId × Value → H} {w : World} {base : Nat} {spare : Nat → Bool} {held : Bool} {fuel : Nat} {a : Option Addr} {len cap : Nat} {x : DataW H × List MemPlace}
    (h : DataW.trod enc Try.prog w base spare held fuel 27 [.slice a len cap] = some x) : ∃ S : List OpV, S.length = len ∧ RdV w a (S.flatMap opC) ∧ (∀ o ∈ S, WfO o) ∧ len ≤ maxLen := by
  obtain ⟨S, h1, h2, h3, h4⟩ := open_flat (α := { o : OpV // WfO o }) (dec := fun s => opC s.1) (d := 4) (z := 6) (ks := [.i64, .i64, .i64, .i64, .u64, .u64]) Try.underlying27 (by kernel_rfl) (by kernel_rfl) (fun ns h hw => opDec ns h hw) (fun s => opC_len s.1) h
  refine ⟨S.map (·.1), by simpa using h1, by simpa [List.flatMap_map] using h2, fun o ho => ?_, Nat.le_trans h3 h4⟩
  obtain ⟨s, _, rfl⟩ := List.mem_map.1 ho
  exact s.2
/-- a slice of slices of operations -/
theorem open_lists {H : Type} {enc : TypeId × Value → H} {w : World} {base : Nat} {spare : Nat → Bool} {held : Bool} {fuel : Nat} {a : Option Addr} {len cap : Nat} {x : DataW H × List MemPlace}
    (h : DataW.trod enc Try.prog w base spare held fuel 22 [.slice a len cap] = some x) : ∃ (S : List (List OpV)) (vs : List Value), S.length = len ∧ RdV w a vs ∧ vs.length = len ∧ (∀ (j : Nat) (y : Value) (ops : List OpV), vs[j]? = some y → S[j]? = some ops → SlO w y ops) ∧ (∀ l ∈ S, ∀ o ∈ l, WfO o) ∧ len ≤ maxLen := by
  rcases DataW.trod_slice Try.underlying22 h with ⟨h0, _⟩ | ⟨a', len', cap', elems, rest, n, _, h1, _, hb, hl, hm, hel, hall, _⟩
  · simp only [List.cons.injEq, Value.slice.injEq, and_true] at h0
    obtain ⟨rfl, rfl, rfl⟩ := h0
    exact ⟨[], [], rfl, RdV.nil _ _, rfl, fun j y ops hy => by simp at hy, fun l hl => by simp at hl, Nat.zero_le _⟩
  · simp only [List.cons.injEq, Value.slice.injEq, and_true] at h1
    obtain ⟨rfl, rfl, rfl⟩ := h1
    have hc1 : Try.prog.cellsOf 27 = 1 := by kernel_rfl
    obtain ⟨P, hP, hp⟩ := list_choice (p := fun i (s : Value × List OpV) => w.cell? (a'.add i) = some s.1 ∧ SlO w s.1 s.2 ∧ ∀ o ∈ s.2, WfO o) len fun i hi => by
      have h2 := hall i hi
      rw [List.getElem?_eq_getElem (by omega), Option.bind_eq_some_iff, hc1, Nat.mul_one] at h2
      obtain ⟨cs, h3, h4⟩ := h2
      have h5 := World.cells?_some h3
      obtain ⟨v, rfl⟩ : ∃ v, cs = [v] := by
        match cs, h5.2.1 with
        | [v], _ => exact ⟨v, rfl⟩
      have h6 := h5.2.2 0 (by omega)
      have hz : (a'.add i).add 0 = a'.add i := by rw [add_add, Nat.add_zero]
      rw [hz] at h6
      have h7 : w.cell? (a'.add i) = some v := h6
      rcases DataW.trod_slice Try.underlying27 h4 with ⟨h8, _⟩ | ⟨a2, len2, cap2, _, _, _, _, h8, _⟩
      · cases h8
        exact ⟨(.slice none 0 0, []), h7, ⟨none, 0, rfl, RdV.nil _ _⟩, fun o ho => by simp at ho⟩
      · cases h8
        obtain ⟨S, g1, g2, g3, _⟩ := open_ops h4
        subst g1
        exact ⟨(.slice (some a2) S.length cap2, S), h7, ⟨some a2, cap2, rfl, g2⟩, g3⟩
    refine ⟨P.map (·.2), P.map (·.1), by simpa using hP, fun j u hj => ⟨a', rfl, ?_⟩, by simpa using hP, fun j y ops hy ho => ?_, fun l hl => ?_, Nat.le_trans hl hm⟩
    · rw [List.getElem?_map, Option.map_eq_some_iff] at hj
      obtain ⟨s, hs, rfl⟩ := hj
      exact (hp j s hs).1
    · rw [List.getElem?_map, Option.map_eq_some_iff] at hy ho
      obtain ⟨s, hs, rfl⟩ := hy
      obtain ⟨s', hs', rfl⟩ := ho
      rw [hs] at hs'
      cases hs'
      exact (hp j s hs).2.1
    · obtain ⟨s, hs, rfl⟩ := List.mem_map.1 hl
      obtain ⟨j, hj⟩ := List.getElem?_of_mem hs
      exact (hp j s hj).2.2
/-- a script -/
theorem open_script {H : Type} {enc : TypeId × Value → H} {w : World} {base : Nat} {spare : Nat → Bool} {held : Bool} {fuel : Nat} {cs : Array Value} {x : DataW H × List MemPlace}
    (h : DataW.trod enc Try.prog w base spare held fuel 25 cs.toList = some x) : ∃ s : ScV, IsS w (.agg cs) s ∧ WfS s ∧ s.1.length ≤ maxLen := by
  obtain ⟨xs, m, rfl, _, hl, hxl, hall⟩ := DataW.trod_struct Try.underlying25 h
  have c1 : Try.prog.cellsOf 25 = 2 := by kernel_rfl
  have c2 : Try.prog.cellsOf 22 = 1 := by kernel_rfl
  have c3 : Try.prog.cellsOf 23 = 1 := by kernel_rfl
  rw [c1] at hl
  obtain ⟨v0, v1, rfl⟩ : ∃ v0 v1, cs = #[v0, v1] := by
    obtain ⟨l⟩ := cs
    match l, hl with
    | [a, b], _ => exact ⟨a, b, rfl⟩
  have h0 := hall 0 _ rfl
  have h1 := hall 1 _ rfl
  have hx2 : xs.length = 2 := hxl
  rw [List.getElem?_eq_getElem (by omega)] at h0 h1
  simp only [c2, c3] at h0 h1
  have h0 : DataW.trod enc Try.prog w base spare held m 22 [v0] = some xs[0] := h0
  have h1 : DataW.trod enc Try.prog w base spare held m 23 [v1] = some xs[1] := h1
  obtain ⟨A, n, c, rfl⟩ : ∃ A n c, v0 = .slice A n c := by
    rcases DataW.trod_slice Try.underlying22 h0 with ⟨e, _⟩ | ⟨a2, len2, cap2, _, _, _, _, e, _⟩
    · cases e; exact ⟨_, _, _, rfl⟩
    · cases e; exact ⟨_, _, _, rfl⟩
  obtain ⟨S, vs, g1, g2, g3, g4, g5, g6⟩ := open_lists h0
  obtain ⟨ps, hps⟩ : ∃ ps : List Int, SlI w v1 ps := by
    rcases open_ints Try.underlying23 Try.underlying3 (by kernel_rfl) h1 with ⟨e, _⟩ | ⟨a, l, c', zs, e, _, hlc, hm, hz, _, hcell, hwz⟩
    · cases e; exact ⟨[], none, 0, rfl, fun i hi => by simp at hi⟩
    · cases e
      have hzl : l ≤ zs.length := by
        rw [hz]; split <;> omega
      refine ⟨zs.take l, some a, c', by rw [List.length_take, Nat.min_eq_left hzl], fun i hi => ⟨a, rfl, ?_⟩⟩
      rw [List.length_take] at hi
      rw [hcell i (by omega)]
      simp [List.getD_eq_getElem?_getD, show i < l by omega]
  subst g1
  exact ⟨(S, ps), ⟨⟨A, c, vs, v1, rfl, g2, g3, g4, hps⟩⟩, g5, g6⟩
end Go.Proofs.Ytgamnncehjcdiaa
