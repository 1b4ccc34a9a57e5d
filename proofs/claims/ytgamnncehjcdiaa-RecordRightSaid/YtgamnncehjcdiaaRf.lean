/- Spans: the program's May, its outer loop. -/
import Derived.Test.YtgamnncehjcdiaaRe
namespace Go.Proofs.Ytgamnncehjcdiaa
open Go Ev Go.RowKit
set_option linter.unusedSimpArgs false
set_option linter.unusedVariables false
set_option maxRecDepth 10000

theorem l_May0 {l : List SpV} (hl : l.length ≤ 1000000) {A : Option Addr} {c : Nat} {W : World} : ∀ (d i : Nat) (w : World), RdV w A (l.flatMap spC) → Chg [] W w → (∀ j, j < i → okAt l j) → i + d = l.length →
    P30_0 (.slice A l.length c) (.slice A l.length c) (.int .i64 l.length) (.int .i64 i) w fun v w' => v = .bool (mayB l) ∧ Chg [] W w' := by
  intro d
  induction d with
  | zero =>
    intro i w hA hW hok hi
    apply L30_0_ok
    have : ¬ ((i : Int) < l.length) := by omega
    simp -implicitDefEqProofs only [L30_0, wpB_some', bp_lss, this, decide_false, cnd_false]
    exact ⟨by rw [mayB_t fun j hj => hok j (by omega)], hW⟩
  | succ d ih =>
    intro i w hA hW hok hi
    apply L30_0_ok
    have hlt : (i : Int) < l.length := by omega
    have hil : i < l.length := by omega
    obtain ⟨b, o, q1, q2⟩ := sp_at' (c := c) (j := .i64) (i := i) hA hil
    simp -implicitDefEqProofs only [L30_0, wpB_some', bp_lss, hlt, decide_true, cnd_true, q1, q2.ld, al_58]
    rw [st_58 (by rfl) (by rfl) (by rw [alloc_heap, if_pos rfl]; rfl) (by rw [alloc_heap, if_pos rfl]; rfl), alloc_heap, if_pos rfl]
    simp -implicitDefEqProofs only [getE_some]
    have hcz : ∀ z : Array Value, Chg [] w (put (w.alloc (.cells z 58)) w.heap.size (spA l[i]) 58) ∧ hp (put (w.alloc (.cells z 58)) w.heap.size (spA l[i]) 58) w.heap.size = some (.cells (spA l[i]) 58) := fun z =>
      ⟨((Chg.refl _ _).alloc _).put (.inr (Nat.le_refl _)) _ _, by rw [put_heap, if_pos rfl, if_pos (by simp)]⟩
    obtain ⟨hc0, hg⟩ := hcz #[.int .i64 0, .int .i64 0, .int .i64 0, .int .i64 0, .int .i64 0, .int .i64 0, .int .u64 0, .int .u64 0, .int .i64 0, .int .i64 0, .int .i64 0, .int .i64 0, .int .i64 0, .int .i64 0, .int .i64 0, .int .i64 0, .int .i64 0, .int .i64 0, .int .i64 0, .int .u64 0]
    generalize put (w.alloc (.cells #[.int .i64 0, .int .i64 0, .int .i64 0, .int .i64 0, .int .i64 0, .int .i64 0, .int .u64 0, .int .u64 0, .int .i64 0, .int .i64 0, .int .i64 0, .int .i64 0, .int .i64 0, .int .i64 0, .int .i64 0, .int .i64 0, .int .i64 0, .int .i64 0, .int .i64 0, .int .u64 0] 58)) w.heap.size (spA l[i]) 58 = w1 at *
    generalize w.heap.size = g at *
    have hgs := at_blk hg
    simp -implicitDefEqProofs only [(hgs.keep (Chg.refl [] w1).drew).ld, wpB_some']
    refine (c_right l[i] w1.drew).mono ?_
    rintro v w2 ⟨rfl, hc2⟩
    have hc2 : Chg [] w1 w2 := (Chg.refl _ _).drew.trans hc2
    have hc02 := hc0.trans hc2
    have hA2 := hA.keep hc02.below
    have hg2 := hgs.keep hc2
    have bad : ¬ okAt l i → mayB l = false := fun h => mayB_f hil h
    have ge : l[i]? = some l[i] := List.getElem?_eq_getElem hil
    have inner : right l[i] = true → (∀ p, 0 < i → l[i - 1]? = some p → p.iv < l[i].iv) → P30_1 (.slice A l.length c) (.pointer (some ⟨g, 0, none⟩)) (.slice A l.length c) (.int .i64 l.length) (.int .i64 i) (.int .i64 i) (.int .i64 0) w2 fun v w' => v = .bool (mayB l) ∧ Chg [] W w' := by
      intro h1 h2
      refine l_May1 (W := W) hl hil (mayB l) (fun ⟨k, a, hk, ha, hcl⟩ => bad fun hokk => by
        have := (hokk l[i] ge).2.2 k a hk ha
        rw [hcl] at this; cases this) (fun hno w' hA' hW' => ?_) i 0 w2 hA2 (hc2.at hg (by simp)) (hW.trans hc02) (fun k' a hk' => by omega) (by omega)
      have h := ih (i + 1) w' hA' hW' (fun j hj => by
        rcases Nat.lt_or_ge j i with h | h
        · exact hok j h
        · have : j = i := by omega
          subst this
          intro s hs
          rw [ge] at hs
          cases hs
          exact ⟨h1, h2, hno⟩) (by omega)
      rw [Int.natCast_add i 1] at h
      exact h
    cases hr : right l[i] with
    | false =>
      simp -implicitDefEqProofs only [pr_not, Bool.not_false, wpB_some', gd_tf, gv_tf, pickv_true, cnd_true, gd_ut, gv_ut]
      exact ⟨by rw [bad fun h => by have := (h l[i] ge).1; rw [hr] at this; cases this], hW.trans hc02⟩
    | true =>
      by_cases h0 : (0 : Int) < i
      · have hi1 : i - 1 < l.length := by omega
        obtain ⟨b1, o1, r1, r2⟩ := sp_at' (c := c) (j := .i64) (i := i - 1) hA2 hi1
        rw [show ((i - 1 : Nat) : Int) = (i : Int) - 1 by omega] at r1
        by_cases hle : l[i].iv ≤ l[i - 1].iv
        · simp -implicitDefEqProofs only [pr_not, Bool.not_true, wpB_some', gd_false, gv_false, bp_gtr, h0, decide_true, gd_true, gv_true, fa_58_3, ld_3, hg2.f8, bp_sub, wrapi (n := (i : Int) - 1) (by omega) (by omega), r1, r2.f8, bp_leq, hle, pickv_true, pickv_false, cnd_true]
          exact ⟨by rw [bad fun h => by have := (h l[i] ge).2.1 l[i - 1] (by omega) (List.getElem?_eq_getElem hi1); omega], hW.trans hc02⟩
        · simp -implicitDefEqProofs only [pr_not, Bool.not_true, wpB_some', gd_false, gv_false, bp_gtr, h0, decide_true, decide_false, gd_true, gv_true, fa_58_3, ld_3, hg2.f8, bp_sub, wrapi (n := (i : Int) - 1) (by omega) (by omega), r1, r2.f8, bp_leq, hle, pickv_true, pickv_false, cnd_false]
          exact inner hr fun p _ hp => by
            rw [List.getElem?_eq_getElem hi1] at hp
            cases hp; omega
      · simp -implicitDefEqProofs only [pr_not, Bool.not_true, wpB_some', gd_false, gv_false, bp_gtr, h0, decide_false, gd_ft, gv_ft, pickv_false, cnd_false]
        exact inner hr fun p h _ => by omega
theorem c_RMay {l : List SpV} (hl : l.length ≤ 1000000) {v : Value} {w : World} (hv : SlP w v l) : CallR Try.prog 30 [v] w fun r w' => r = .bool (mayB l) ∧ Chg [] w w' := by
  obtain ⟨A, c, rfl, hA⟩ := hv
  apply F30_ok
  simp -implicitDefEqProofs only [F30, len_54, wpB_some']
  exact l_May0 hl l.length 0 w hA (Chg.refl _ _) (fun j hj => by omega) (by omega)
end Go.Proofs.Ytgamnncehjcdiaa
