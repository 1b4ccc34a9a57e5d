/- The call of ScriptBack answers true: the walk. -/
import Derived.Test.YtgamnncehjcdiaaVg
namespace Go.Proofs.Ytgamnncehjcdiaa
open Go Ev Go.RowKit Go.ChangeShapes
set_option linter.unusedSimpArgs false
set_option linter.unusedVariables false
set_option maxRecDepth 10000

set_option maxHeartbeats 4000000 in
theorem l_back {W : World} {A0 A1 A2 A3 : Option Addr} {c0 c1 c2 c3 : Nat} {x0 x1 x2 x3 : List Int} (h0 : RdI .i64 W A0 x0) (h1 : RdI .i64 W A1 x1) (h2 : RdI .i64 W A2 x2) (h3 : RdI .i64 W A3 x3) (m : Int) :
    CallR Try.prog 4 [.slice A0 x0.length c0, .slice A1 x1.length c1, .slice A2 x2.length c2, .slice A3 x3.length c3, .int .i64 m] W (OkS W) := by
  apply F4_ok
  simp -implicitDefEqProofs only [F4]
  refine (c_first20 W).mono ?_
  rintro _ w1 ⟨rfl, d1⟩
  by_cases k0 : (200 : Int) < x0.length
  · simp -implicitDefEqProofs only [wpB_some', gd_true, gd_false, gd_tf, gd_ft, gd_ut, gd_uf, gv_true, gv_false, gv_tf, gv_ft, gv_ut, gv_uf, gE_true, gE_false, gE_tf, gE_ft, gE_ut, gE_uf, gU_true, gU_false, gU_tf, gU_ft, pickv_true, pickv_false, cnd_true, cnd_false, decide_true, decide_false, Bool.not_true, Bool.not_false, pr_not, nilv_some, bp_lss, bp_leq, bp_gtr, bp_geq, be_eql, be_neq, bne_self_eq_false, beq_self_eq_true, ldC_some, Option.isNone_none, Option.isNone_some, hp_drew, len_23, k0]
    exact ⟨rfl, d1.below⟩
  by_cases k1 : (200 : Int) < x1.length
  · simp -implicitDefEqProofs only [wpB_some', gd_true, gd_false, gd_tf, gd_ft, gd_ut, gd_uf, gv_true, gv_false, gv_tf, gv_ft, gv_ut, gv_uf, gE_true, gE_false, gE_tf, gE_ft, gE_ut, gE_uf, gU_true, gU_false, gU_tf, gU_ft, pickv_true, pickv_false, cnd_true, cnd_false, decide_true, decide_false, Bool.not_true, Bool.not_false, pr_not, nilv_some, bp_lss, bp_leq, bp_gtr, bp_geq, be_eql, be_neq, bne_self_eq_false, beq_self_eq_true, ldC_some, Option.isNone_none, Option.isNone_some, hp_drew, len_23, k0, k1]
    exact ⟨rfl, d1.below⟩
  by_cases k2 : (200 : Int) < x2.length
  · simp -implicitDefEqProofs only [wpB_some', gd_true, gd_false, gd_tf, gd_ft, gd_ut, gd_uf, gv_true, gv_false, gv_tf, gv_ft, gv_ut, gv_uf, gE_true, gE_false, gE_tf, gE_ft, gE_ut, gE_uf, gU_true, gU_false, gU_tf, gU_ft, pickv_true, pickv_false, cnd_true, cnd_false, decide_true, decide_false, Bool.not_true, Bool.not_false, pr_not, nilv_some, bp_lss, bp_leq, bp_gtr, bp_geq, be_eql, be_neq, bne_self_eq_false, beq_self_eq_true, ldC_some, Option.isNone_none, Option.isNone_some, hp_drew, len_23, k0, k1, k2]
    exact ⟨rfl, d1.below⟩
  by_cases k3 : (200 : Int) < x3.length
  · simp -implicitDefEqProofs only [wpB_some', gd_true, gd_false, gd_tf, gd_ft, gd_ut, gd_uf, gv_true, gv_false, gv_tf, gv_ft, gv_ut, gv_uf, gE_true, gE_false, gE_tf, gE_ft, gE_ut, gE_uf, gU_true, gU_false, gU_tf, gU_ft, pickv_true, pickv_false, cnd_true, cnd_false, decide_true, decide_false, Bool.not_true, Bool.not_false, pr_not, nilv_some, bp_lss, bp_leq, bp_gtr, bp_geq, be_eql, be_neq, bne_self_eq_false, beq_self_eq_true, ldC_some, Option.isNone_none, Option.isNone_some, hp_drew, len_23, k0, k1, k2, k3]
    exact ⟨rfl, d1.below⟩
  simp -implicitDefEqProofs only [wpB_some', gd_true, gd_false, gd_tf, gd_ft, gd_ut, gd_uf, gv_true, gv_false, gv_tf, gv_ft, gv_ut, gv_uf, gE_true, gE_false, gE_tf, gE_ft, gE_ut, gE_uf, gU_true, gU_false, gU_tf, gU_ft, pickv_true, pickv_false, cnd_true, cnd_false, decide_true, decide_false, Bool.not_true, Bool.not_false, pr_not, nilv_some, bp_lss, bp_leq, bp_gtr, bp_geq, be_eql, be_neq, bne_self_eq_false, beq_self_eq_true, ldC_some, Option.isNone_none, Option.isNone_some, hp_drew, len_23, k0, k1, k2, k3]
  refine (c_made20 (h0.keep d1.below) (h1.keep d1.below) (by omega) m).mono ?_
  intro v1 w2 hm1
  obtain ⟨s1, f1, i1, d2⟩ := made_fine (by omega) (by omega) hm1
  have d12 := d1.trans d2
  refine (c_made20 (h2.keep d12.below) (h3.keep d12.below) (by omega) m).mono ?_
  intro v2 w3 hm2
  obtain ⟨s2, f2, i2, d3⟩ := made_fine (by omega) (by omega) hm2
  have i1 := i1.keep d3.below
  have d13 := d12.trans d3
  obtain ⟨E1, e1, E2, e2, rfl⟩ := isS_shape i1
  obtain ⟨G1, g1, G2, g2, rfl⟩ := isS_shape i2
  refine box_sc2 ?_
  intro t12 t13 w4 d4 ld12 ld13
  have i1 := i1.keep d4.below
  have i2 := i2.keep d4.below
  have d14 := d13.trans d4
  simp -implicitDefEqProofs only [wpB_some', gd_true, gd_false, gd_tf, gd_ft, gd_ut, gd_uf, gv_true, gv_false, gv_tf, gv_ft, gv_ut, gv_uf, gE_true, gE_false, gE_tf, gE_ft, gE_ut, gE_uf, gU_true, gU_false, gU_tf, gU_ft, pickv_true, pickv_false, cnd_true, cnd_false, decide_true, decide_false, Bool.not_true, Bool.not_false, pr_not, nilv_some, bp_lss, bp_leq, bp_gtr, bp_geq, be_eql, be_neq, bne_self_eq_false, beq_self_eq_true, ldC_some, Option.isNone_none, Option.isNone_some, hp_drew, ld12 _ (Chg.refl _ _)]
  refine put_fine f1 i1 ?_
  intro B1 b1 w5 p1 d5
  simp -implicitDefEqProofs only [wpB_some', gd_true, gd_false, gd_tf, gd_ft, gd_ut, gd_uf, gv_true, gv_false, gv_tf, gv_ft, gv_ut, gv_uf, gE_true, gE_false, gE_tf, gE_ft, gE_ut, gE_uf, gU_true, gU_false, gU_tf, gU_ft, pickv_true, pickv_false, cnd_true, cnd_false, decide_true, decide_false, Bool.not_true, Bool.not_false, pr_not, nilv_some, bp_lss, bp_leq, bp_gtr, bp_geq, be_eql, be_neq, bne_self_eq_false, beq_self_eq_true, ldC_some, Option.isNone_none, Option.isNone_some, hp_drew, tup0, tup1, ld13 _ d5]
  refine put_fine f2 (i2.keep d5.below) ?_
  intro B2 b2 w6 p2 d6
  have d46 := d5.trans d6
  have p1 := p1.chg d6
  have z0 : ((0 : Int) != 0) = false := rfl
  have z1 : ((0 : Int) == 0) = true := rfl
  simp -implicitDefEqProofs only [wpB_some', gd_true, gd_false, gd_tf, gd_ft, gd_ut, gd_uf, gv_true, gv_false, gv_tf, gv_ft, gv_ut, gv_uf, gE_true, gE_false, gE_tf, gE_ft, gE_ut, gE_uf, gU_true, gU_false, gU_tf, gU_ft, pickv_true, pickv_false, cnd_true, cnd_false, decide_true, decide_false, Bool.not_true, Bool.not_false, pr_not, nilv_some, bp_lss, bp_leq, bp_gtr, bp_geq, be_eql, be_neq, bne_self_eq_false, beq_self_eq_true, ldC_some, Option.isNone_none, Option.isNone_some, hp_drew, tup0, tup1, z0]
  refine read_fine f1 p1 ?_
  intro v3 w7 i3 d7
  obtain ⟨H1, q1, H2, q2, rfl⟩ := isS_shape i3
  refine box_sc ?_
  intro w8 d8 ld18
  have d78 := d7.trans d8
  simp -implicitDefEqProofs only [wpB_some', gd_true, gd_false, gd_tf, gd_ft, gd_ut, gd_uf, gv_true, gv_false, gv_tf, gv_ft, gv_ut, gv_uf, gE_true, gE_false, gE_tf, gE_ft, gE_ut, gE_uf, gU_true, gU_false, gU_tf, gU_ft, pickv_true, pickv_false, cnd_true, cnd_false, decide_true, decide_false, Bool.not_true, Bool.not_false, pr_not, nilv_some, bp_lss, bp_leq, bp_gtr, bp_geq, be_eql, be_neq, bne_self_eq_false, beq_self_eq_true, ldC_some, Option.isNone_none, Option.isNone_some, hp_drew, ld18 _ (Chg.refl _ _)]
  refine put_fine f1 (i3.keep d8.below) ?_
  intro B3 b3 w9 p3 d9
  have d79 := d78.trans d9
  have d49 := d46.trans d79
  have ldA := fun w' (h : Chg [] w9 w') => ld12 w' (d49.trans h)
  have ldB := fun w' (h : Chg [] w9 w') => ld13 w' (d49.trans h)
  have ldR := fun w' (h : Chg [] w9 w') => ld18 w' (d9.trans h)
  have p1 := p1.chg d79
  have p2 := p2.chg d79
  have i1 := i1.keep d49.below
  have i2 := i2.keep d49.below
  have i3 := i3.keep (d8.trans d9).below
  have dW := d14.trans d49
  have cd : Chg [] w9 w9.drew := (Chg.refl _ _).drew
  have cvA : ∀ {K : Value → World → Prop} (w : World), Chg [] w9 w → effv Try.prog (convert 28 9 (.slice B1 (encS s1).length b1)) w K = K (.string (strOfNums (encS s1))) w := fun w h => str_sl p1 h
  have cvB : ∀ {K : Value → World → Prop} (w : World), Chg [] w9 w → effv Try.prog (convert 28 9 (.slice B2 (encS s2).length b2)) w K = K (.string (strOfNums (encS s2))) w := fun w h => str_sl p2 h
  have cvC : ∀ {K : Value → World → Prop} (w : World), Chg [] w9 w → effv Try.prog (convert 28 9 (.slice B3 (encS s1).length b3)) w K = K (.string (strOfNums (encS s1))) w := fun w h => str_sl p3 h
  have key := str_enc f1.m f1.o f1.w f2.m f2.o f2.w
  clear ld12 ld13 ld18 p1 p2 p3 h0 h1 h2 h3 hm1 hm2
  simp -implicitDefEqProofs only [wpB_some', gd_true, gd_false, gd_tf, gd_ft, gd_ut, gd_uf, gv_true, gv_false, gv_tf, gv_ft, gv_ut, gv_uf, gE_true, gE_false, gE_tf, gE_ft, gE_ut, gE_uf, gU_true, gU_false, gU_tf, gU_ft, pickv_true, pickv_false, cnd_true, cnd_false, decide_true, decide_false, Bool.not_true, Bool.not_false, pr_not, nilv_some, bp_lss, bp_leq, bp_gtr, bp_geq, be_eql, be_neq, bne_self_eq_false, beq_self_eq_true, ldC_some, Option.isNone_none, Option.isNone_some, hp_drew, tup0, tup1, z1, cvA _ cd, cvB _ cd, cvC _ cd, ldA _ cd, ldB _ cd, ldR _ cd, be_eqlstr, beq_self_eq_true]
  repeat' (with_reducible apply And.intro)
  all_goals
    refine same_fine f1 (i3.keep cd.below) (i1.keep cd.below) ?_
    intro wa da
    have da := cd.trans da
    simp -implicitDefEqProofs only [wpB_some', gd_true, gd_false, gd_tf, gd_ft, gd_ut, gd_uf, gv_true, gv_false, gv_tf, gv_ft, gv_ut, gv_uf, gE_true, gE_false, gE_tf, gE_ft, gE_ut, gE_uf, gU_true, gU_false, gU_tf, gU_ft, pickv_true, pickv_false, cnd_true, cnd_false, decide_true, decide_false, Bool.not_true, Bool.not_false, pr_not, nilv_some, bp_lss, bp_leq, bp_gtr, bp_geq, be_eql, be_neq, bne_self_eq_false, beq_self_eq_true, ldC_some, Option.isNone_none, Option.isNone_some, hp_drew, scEq_self, cvA _ da, cvB _ da, cvC _ da, ldA _ da, ldB _ da, ldR _ da, be_eqlstr, key]
    refine same_fine f1 (i1.keep da.below) (i2.keep da.below) ?_
    intro wb db
    have db := da.trans db
    simp -implicitDefEqProofs only [wpB_some', gd_true, gd_false, gd_tf, gd_ft, gd_ut, gd_uf, gv_true, gv_false, gv_tf, gv_ft, gv_ut, gv_uf, gE_true, gE_false, gE_tf, gE_ft, gE_ut, gE_uf, gU_true, gU_false, gU_tf, gU_ft, pickv_true, pickv_false, cnd_true, cnd_false, decide_true, decide_false, Bool.not_true, Bool.not_false, pr_not, nilv_some, bp_lss, bp_leq, bp_gtr, bp_geq, be_eql, be_neq, bne_self_eq_false, beq_self_eq_true, ldC_some, Option.isNone_none, Option.isNone_some, hp_drew, cvA _ db, cvB _ db, cvC _ db, ldA _ db, ldB _ db, ldR _ db, be_eqlstr, be_eqlb Try.underlying4, key, beq_self_eq_true]
    exact ⟨rfl, (dW.trans db).below⟩
/-- the call answers true -/
theorem lawBack {W : World} (A0 : Option Addr) (n0 c0 : Nat) (z0 : List Int) (h0 : InInts .i64 W A0 n0 c0 z0) (A1 : Option Addr) (n1 c1 : Nat) (z1 : List Int) (h1 : InInts .i64 W A1 n1 c1 z1) (A2 : Option Addr) (n2 c2 : Nat) (z2 : List Int) (h2 : InInts .i64 W A2 n2 c2 z2) (A3 : Option Addr) (n3 c3 : Nat) (z3 : List Int) (h3 : InInts .i64 W A3 n3 c3 z3) (m : Int) (hm : (Lit.int .i64 m).wf = true) :
    CallR Try.prog 4 [.slice A0 n0 c0, .slice A1 n1 c1, .slice A2 n2 c2, .slice A3 n3 c3, .int .i64 m] W fun v w' => v = .bool true ∧ Below W.heap.size W w' := by
  obtain ⟨r0, l0, _⟩ := h0.rd
  obtain ⟨r1, l1, _⟩ := h1.rd
  obtain ⟨r2, l2, _⟩ := h2.rd
  obtain ⟨r3, l3, _⟩ := h3.rd
  clear h0 h1 h2 h3
  generalize z0.take n0 = x0 at *
  generalize z1.take n1 = x1 at *
  generalize z2.take n2 = x2 at *
  generalize z3.take n3 = x3 at *
  subst l0; subst l1; subst l2; subst l3
  exact l_back r0 r1 r2 r3 m
end Go.Proofs.Ytgamnncehjcdiaa
