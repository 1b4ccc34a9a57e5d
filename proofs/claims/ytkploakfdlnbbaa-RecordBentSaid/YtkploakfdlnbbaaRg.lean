/- Spans: the reference's MayRecord. -/
import Derived.Test.YtkploakfdlnbbaaRf
namespace Go.Proofs.Ytkploakfdlnbbaa
open Go Ev Go.RowKit
set_option linter.unusedSimpArgs false
set_option linter.unusedVariables false
set_option maxRecDepth 10000

theorem l_Ref1 {l : List SpV} (hl : l.length ≤ 1000000) {A : Option Addr} {c i : Nat} (hi : i < l.length) (hri : right l[i] = true) {W : World} (r : Bool) (hr : (∃ k a, k < i ∧ l[k]? = some a ∧ clash a l[i] = true) → r = false)
    (next : (∀ k a, k < i → l[k]? = some a → clash a l[i] = false) → ∀ w, RdV w A (l.flatMap spC) → Chg [] W w → P43_0 (.slice A l.length c) (.int .i64 ((i : Int) + 1)) w fun v w' => v = .bool r ∧ Chg [] W w') :
    ∀ (d k : Nat) (w : World), RdV w A (l.flatMap spC) → Chg [] W w → (∀ k' a, k' < k → l[k']? = some a → clash a l[i] = false) → k + d = i →
      P43_1 (.slice A l.length c) (.int .i64 i) (.int .i64 k) w fun v w' => v = .bool r ∧ Chg [] W w' := by
  intro d
  induction d with
  | zero =>
    intro k w hA hW hno hk
    apply L43_1_ok
    have : ¬ ((k : Int) < i) := by omega
    simp -implicitDefEqProofs only [L43_1, wpB_some', bp_lss, this, decide_false, cnd_false, bp_add, wrapi (n := (i : Int) + 1) (by omega) (by omega)]
    exact next (fun k' a hk' ha => hno k' a (by omega) ha) w hA hW
  | succ d ih =>
    intro k w hA hW hno hk
    apply L43_1_ok
    have hlt : (k : Int) < i := by omega
    have hkl : k < l.length := by omega
    obtain ⟨b, o, q1, q2⟩ := sp_at' (c := c) (j := .i64) (i := k) hA hkl
    obtain ⟨b', o', p1, p2⟩ := sp_at' (c := c) (j := .i64) (i := i) hA hi
    have go : clash l[k] l[i] = false → ∀ w', Chg [] w w' → P43_1 (.slice A l.length c) (.int .i64 i) (.int .i64 ((k : Int) + 1)) w' fun v w' => v = .bool r ∧ Chg [] W w' := by
      intro hcl w' hc
      have h := ih (k + 1) w' (hA.keep hc.below) (hW.trans hc) (fun k' a hk' ha => by
        rcases Nat.lt_or_ge k' k with h | h
        · exact hno k' a h ha
        · have : k' = k := by omega
          subst this
          rw [List.getElem?_eq_getElem hkl] at ha
          rw [← Option.some.inj ha]; exact hcl) (by omega)
      rw [Int.natCast_add k 1] at h
      exact h
    have stop : clash l[k] l[i] = true → r = false := fun hcl => hr ⟨k, l[k], by omega, List.getElem?_eq_getElem hkl, hcl⟩
    have hse : shrd l[k] l[i] = shar l[i] l[k] := shr_eq hri
    generalize hs : l[i] = s at *
    generalize ha : l[k] = a at *
    simp -implicitDefEqProofs only [L43_1, wpB_some', bp_lss, hlt, decide_true, cnd_true, q1, p1, (q2.keep (Chg.refl [] w).drew).ld, (p2.keep (Chg.refl [] w).drew).ld]
    refine (c_share s a w.drew).mono ?_
    rintro v w1 ⟨rfl, hc1⟩
    have hc1 : Chg [] w w1 := (Chg.refl _ _).drew.trans hc1
    have q3 := q2.keep hc1
    have p3 := p2.keep hc1
    cases hsh : shar s a with
    | true =>
      simp -implicitDefEqProofs only [gd_tf, gv_tf, gd_ut, gv_ut, gd_uf, gv_uf, gE_ut, wpB_some', pickv_true, cnd_true]
      exact ⟨by rw [stop (by simp [clash, hse, hsh])], hW.trans hc1⟩
    | false =>
      by_cases h1 : a.wk = s.wk
      · have e1 : (a.wk == s.wk) = true := by rw [h1]; simp
        simp -implicitDefEqProofs only [gd_false, gv_false, q1, p1, fa_59_0, ld_3, q3.f0, p3.f0, wpB_some', be_eql, e1, gd_true, gv_true, q3.ld, p3.ld, gE_true]
        refine (c_AheadRef a s w1).mono ?_
        rintro v w2 ⟨rfl, hc2⟩
        have q4 := q3.keep hc2
        have p4 := p3.keep hc2
        cases hah : ahead a s with
        | false =>
          simp -implicitDefEqProofs only [pr_not, Bool.not_false, gd_true, gd_false, gd_tf, gv_tf, wpB_some', pickv_true, pickv_false, cnd_true]
          exact ⟨by rw [stop (by simp [clash, h1, hah])], (hW.trans hc1).trans hc2⟩
        | true =>
          by_cases h2 : s.ix ≤ a.ix
          · simp -implicitDefEqProofs only [pr_not, Bool.not_true, gd_true, gd_false, gv_true, gv_false, fa_59_1, ld_3, q1, p1, q4.f1, p4.f1, bp_leq, h2, decide_true, wpB_some', pickv_true, pickv_false, cnd_true]
            exact ⟨by rw [stop (by simp [clash, h1, h2])], (hW.trans hc1).trans hc2⟩
          · simp -implicitDefEqProofs only [pr_not, Bool.not_true, gd_true, gd_false, gv_true, gv_false, fa_59_1, ld_3, q1, p1, q4.f1, p4.f1, bp_leq, h2, decide_false, wpB_some', pickv_true, pickv_false, cnd_false, bp_add, wrapi (n := (k : Int) + 1) (by omega) (by omega)]
            exact go (by simp [clash, hah, h2, hse, hsh]) w2 (hc1.trans hc2)
      · simp -implicitDefEqProofs only [gd_false, gv_false, q1, p1, fa_59_0, ld_3, q3.f0, p3.f0, wpB_some', be_eql, eqf h1, gd_ft, gv_ft, gd_uf, gv_uf, gd_ut, gv_ut, gE_ft, pickv_false, cnd_false, bp_add, wrapi (n := (k : Int) + 1) (by omega) (by omega)]
        exact go (by simp [clash, h1, hse, hsh]) w1 hc1
theorem l_Ref0 {l : List SpV} (hl : l.length ≤ 1000000) {A : Option Addr} {c : Nat} {W : World} : ∀ (d i : Nat) (w : World), RdV w A (l.flatMap spC) → Chg [] W w → (∀ j, j < i → okAt l j) → i + d = l.length →
    P43_0 (.slice A l.length c) (.int .i64 i) w fun v w' => v = .bool (mayB l) ∧ Chg [] W w' := by
  intro d
  induction d with
  | zero =>
    intro i w hA hW hok hi
    apply L43_0_ok
    have : ¬ ((i : Int) < l.length) := by omega
    simp -implicitDefEqProofs only [L43_0, len_48, wpB_some', bp_lss, this, decide_false, cnd_false]
    exact ⟨by rw [mayB_t fun j hj => hok j (by omega)], hW⟩
  | succ d ih =>
    intro i w hA hW hok hi
    apply L43_0_ok
    have hlt : (i : Int) < l.length := by omega
    have hil : i < l.length := by omega
    obtain ⟨b, o, q1, q2⟩ := sp_at' (c := c) (j := .i64) (i := i) hA hil
    simp -implicitDefEqProofs only [L43_0, len_48, wpB_some', bp_lss, hlt, decide_true, cnd_true, q1, (q2.keep (Chg.refl [] w).drew).ld]
    refine (c_one l[i] w.drew).mono ?_
    rintro v w2 ⟨rfl, hc2⟩
    have hc2 : Chg [] w w2 := (Chg.refl _ _).drew.trans hc2
    have hA2 := hA.keep hc2.below
    have q3 := q2.keep hc2
    have bad : ¬ okAt l i → mayB l = false := fun h => mayB_f hil h
    have ge : l[i]? = some l[i] := List.getElem?_eq_getElem hil
    have inner : right l[i] = true → (∀ p, 0 < i → l[i - 1]? = some p → p.iv < l[i].iv) → P43_1 (.slice A l.length c) (.int .i64 i) (.int .i64 0) w2 fun v w' => v = .bool (mayB l) ∧ Chg [] W w' := by
      intro h1 h2
      refine l_Ref1 (W := W) hl hil h1 (mayB l) (fun ⟨k, a, hk, ha, hcl⟩ => bad fun hokk => by
        have := (hokk l[i] ge).2.2 k a hk ha
        rw [hcl] at this; cases this) (fun hno w' hA' hW' => ?_) i 0 w2 hA2 (hW.trans hc2) (fun k' a hk' => by omega) (by omega)
      have h := ih (i + 1) w' hA' hW' (fun j hj => by
        rcases Nat.lt_or_ge j i with h | h
        · exact hok j h
        · have : j = i := by omega
          subst this
          intro s hs
          rw [ge] at hs
          cases hs
          exact ⟨h1, h2, hno⟩) (by omega)
      rw [Int.natCast_add i 1] at h
      exact h
    cases hr : right l[i] with
    | false =>
      simp -implicitDefEqProofs only [pr_not, Bool.not_false, wpB_some', gd_tf, gv_tf, pickv_true, cnd_true, gd_ut, gv_ut]
      exact ⟨by rw [bad fun h => by have := (h l[i] ge).1; rw [hr] at this; cases this], hW.trans hc2⟩
    | true =>
      by_cases h0 : (0 : Int) < i
      · have hi1 : i - 1 < l.length := by omega
        obtain ⟨b1, o1, r1, r2⟩ := sp_at' (c := c) (j := .i64) (i := i - 1) hA2 hi1
        rw [show ((i - 1 : Nat) : Int) = (i : Int) - 1 by omega] at r1
        by_cases hle : l[i].iv ≤ l[i - 1].iv
        · simp -implicitDefEqProofs only [pr_not, Bool.not_true, wpB_some', gd_false, gv_false, bp_gtr, h0, decide_true, gd_true, gv_true, q1, fa_59_3, ld_3, q3.f8, bp_sub, wrapi (n := (i : Int) - 1) (by omega) (by omega), r1, r2.f8, bp_leq, hle, pickv_true, pickv_false, cnd_true]
          exact ⟨by rw [bad fun h => by have := (h l[i] ge).2.1 l[i - 1] (by omega) (List.getElem?_eq_getElem hi1); omega], hW.trans hc2⟩
        · simp -implicitDefEqProofs only [pr_not, Bool.not_true, wpB_some', gd_false, gv_false, bp_gtr, h0, decide_true, decide_false, gd_true, gv_true, q1, fa_59_3, ld_3, q3.f8, bp_sub, wrapi (n := (i : Int) - 1) (by omega) (by omega), r1, r2.f8, bp_leq, hle, pickv_true, pickv_false, cnd_false]
          exact inner hr fun p _ hp => by
            rw [List.getElem?_eq_getElem hi1] at hp
            cases hp; omega
      · simp -implicitDefEqProofs only [pr_not, Bool.not_true, wpB_some', gd_false, gv_false, bp_gtr, h0, decide_false, gd_ft, gv_ft, pickv_false, cnd_false]
        exact inner hr fun p h _ => by omega
theorem c_RMayRef {l : List SpV} (hl : l.length ≤ 1000000) {v : Value} {w : World} (hv : SlP w v l) : CallR Try.prog 43 [v] w fun r w' => r = .bool (mayB l) ∧ Chg [] w w' := by
  obtain ⟨A, c, rfl, hA⟩ := hv
  apply F43_ok
  simp -implicitDefEqProofs only [F43]
  exact l_Ref0 hl l.length 0 w hA (Chg.refl _ _) (fun j hj => by omega) (by omega)
end Go.Proofs.Ytkploakfdlnbbaa
