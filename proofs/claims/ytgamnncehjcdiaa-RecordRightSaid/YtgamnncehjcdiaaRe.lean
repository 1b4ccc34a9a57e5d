/- Spans: the program's May. -/
import Derived.Test.YtgamnncehjcdiaaRd
namespace Go.Proofs.Ytgamnncehjcdiaa
open Go Ev Go.RowKit
set_option linter.unusedSimpArgs false
set_option linter.unusedVariables false
set_option maxRecDepth 10000

noncomputable def mayB (l : List SpV) : Bool := @decide (mayL l) (Classical.propDecidable _)
theorem mayB_f {l : List SpV} {i : Nat} (hi : i < l.length) (h : ¬ okAt l i) : mayB l = false := by
  unfold mayB
  exact @decide_eq_false _ (Classical.propDecidable _) fun hm => h (hm i hi)
theorem mayB_t {l : List SpV} (h : mayL l) : mayB l = true := by
  unfold mayB
  exact @decide_eq_true _ (Classical.propDecidable _) h
theorem ldC_keep {w w' : World} (hc : Chg [] w w') {b o : Nat} {v : Value} (h : ldC (hp w b) o = some v) : ldC (hp w' b) o = some v := by
  cases hb : hp w b with
  | none => rw [hb] at h; cases h
  | some x => rw [hc.at hb (by simp), ← hb]; exact h
theorem ldL_keep {w w' : World} (hc : Chg [] w w') {b : Nat} : ∀ (n o : Nat) (vs : List Value), ldL (hp w b) o n = some vs → ldL (hp w' b) o n = some vs
  | 0, o, vs, h => h
  | n + 1, o, vs, h => by
    rw [ldL] at h ⊢
    cases h1 : ldC (hp w b) o with
    | none => rw [h1] at h; cases h
    | some v =>
      cases h2 : ldL (hp w b) (o + 1) n with
      | none => rw [h1, h2] at h; cases h
      | some us =>
        rw [h1, h2] at h
        rw [ldC_keep hc h1, ldL_keep hc n (o + 1) us h2]; exact h
/-- a span's place: what is read there, in this world and in later ones -/
structure At (w : World) (b o : Nat) (s : SpV) : Prop where
  l : ldL (hp w b) o 20 = some (spC s)
  f : ∀ k, k < 20 → ldC (hp w b) (o + k) = (spA s)[k]?
theorem At.keep {w w' : World} {b o : Nat} {s : SpV} (h : At w b o s) (hc : Chg [] w w') : At w' b o s := by
  refine ⟨ldL_keep hc _ _ _ h.l, fun k hk => ?_⟩
  have hk' : k < (spC s).length := hk
  have e : (spA s)[k]? = some ((spC s)[k]'hk') := by simp [spA]
  have := h.f k hk
  rw [e] at this ⊢
  exact ldC_keep hc this
theorem At.ld {w : World} {b o : Nat} {s : SpV} (h : At w b o s) : ldv Try.prog 58 (.pointer (some ⟨b, o, none⟩)) w = some (.agg (spA s)) := by
  rw [ld_58, h.l]; rfl
theorem At.f0 {w : World} {b o : Nat} {s : SpV} (h : At w b o s) : ldC (hp w b) (o + 0) = some (.int .i64 s.wk) := (h.f 0 (by omega)).trans (sp0 s)
theorem At.f1 {w : World} {b o : Nat} {s : SpV} (h : At w b o s) : ldC (hp w b) (o + 1) = some (.int .i64 s.ix) := (h.f 1 (by omega)).trans (sp1 s)
theorem At.f8 {w : World} {b o : Nat} {s : SpV} (h : At w b o s) : ldC (hp w b) (o + 8) = some (.int .i64 s.iv) := (h.f 8 (by omega)).trans (sp8 s)
theorem at_blk {w : World} {b : Nat} {s : SpV} {e : TypeId} (h : hp w b = some (.cells (spA s) e)) : At w b 0 s :=
  ⟨by rw [h]; exact ldL_some (c := spA s) (Nat.le_refl _), fun k hk => by rw [h, ldC_some, Nat.zero_add]⟩
theorem sp_at' {w : World} {A : Option Addr} {l : List SpV} {c i : Nat} {j : IntKind} (h : RdV w A (l.flatMap spC)) (hi : i < l.length) :
    ∃ b o, pureRun Try.prog (Instr.indexAt 54 (.slice A l.length c) (.int j i)) = some (.pointer (some ⟨b, o, none⟩)) ∧ At w b o l[i] := by
  obtain ⟨b, o, h1, h2, h3, _⟩ := h.elem (P := Try.prog) (c := c) (n := l.length) (i := (i : Int)) (j := j) Try.underlying54 sz_58 (by omega) (by rw [flat_len spC_len]; exact Nat.le_refl _) (by omega) (by omega)
  rw [Int.toNat_natCast, flat_at spC_len l i hi] at h3
  refine ⟨b, o, h1, h3, fun k hk => ?_⟩
  rw [h2 k hk, Int.toNat_natCast, flat_get spC_len l i hi k hk]
  simp [spA]
theorem l_May1 {l : List SpV} (hl : l.length ≤ 1000000) {A : Option Addr} {c i g : Nat} (hi : i < l.length) {W : World} (r : Bool) (hr : (∃ k a, k < i ∧ l[k]? = some a ∧ clash a l[i] = true) → r = false)
    (next : (∀ k a, k < i → l[k]? = some a → clash a l[i] = false) → ∀ w, RdV w A (l.flatMap spC) → Chg [] W w → P30_0 (.slice A l.length c) (.slice A l.length c) (.int .i64 l.length) (.int .i64 ((i : Int) + 1)) w fun v w' => v = .bool r ∧ Chg [] W w') :
    ∀ (d k : Nat) (w : World), RdV w A (l.flatMap spC) → hp w g = some (.cells (spA l[i]) 58) → Chg [] W w → (∀ k' a, k' < k → l[k']? = some a → clash a l[i] = false) → k + d = i →
      P30_1 (.slice A l.length c) (.pointer (some ⟨g, 0, none⟩)) (.slice A l.length c) (.int .i64 l.length) (.int .i64 i) (.int .i64 i) (.int .i64 k) w fun v w' => v = .bool r ∧ Chg [] W w' := by
  intro d
  induction d with
  | zero =>
    intro k w hA hg hW hno hk
    apply L30_1_ok
    have : ¬ ((k : Int) < i) := by omega
    simp -implicitDefEqProofs only [L30_1, wpB_some', bp_lss, this, decide_false, cnd_false, bp_add, wrapi (n := (i : Int) + 1) (by omega) (by omega)]
    exact next (fun k' a hk' ha => hno k' a (by omega) ha) w hA hW
  | succ d ih =>
    intro k w hA hg hW hno hk
    apply L30_1_ok
    have hlt : (k : Int) < i := by omega
    have hkl : k < l.length := by omega
    obtain ⟨b, o, q1, q2⟩ := sp_at' (c := c) (j := .i64) (i := k) hA hkl
    have hgs := at_blk hg
    have go : clash l[k] l[i] = false → ∀ w', Chg [] w w' → P30_1 (.slice A l.length c) (.pointer (some ⟨g, 0, none⟩)) (.slice A l.length c) (.int .i64 l.length) (.int .i64 i) (.int .i64 i) (.int .i64 ((k : Int) + 1)) w' fun v w' => v = .bool r ∧ Chg [] W w' := by
      intro hcl w' hc
      have h := ih (k + 1) w' (hA.keep hc.below) (hc.at hg (by simp)) (hW.trans hc) (fun k' a hk' ha => by
        rcases Nat.lt_or_ge k' k with h | h
        · exact hno k' a h ha
        · have : k' = k := by omega
          subst this
          rw [List.getElem?_eq_getElem hkl] at ha
          rw [← Option.some.inj ha]; exact hcl) (by omega)
      rw [Int.natCast_add k 1] at h
      exact h
    have stop : clash l[k] l[i] = true → r = false := fun hcl => hr ⟨k, l[k], by omega, List.getElem?_eq_getElem hkl, hcl⟩
    generalize hs : l[i] = s at *
    generalize ha : l[k] = a at *
    -- the shared steps, behind the first test
    have tail : ∀ w', Chg [] w w' → (∀ b : Bool, shrd a s = b → clash a s = b) → CallR Try.prog 77 [.agg (spA a), .agg (spA s)] w' fun t68 w => wpB (pickv (.bool false) (some (Go.Value.bool true)) (some t68)) fun t69 => cnd t69 ((Go.Value.bool false) = .bool r ∧ Chg [] W w)
        (wpB (bp Try.prog .add 3 (.int .i64 k) (Go.Value.int Go.IntKind.i64 1)) fun t70 => P30_1 (.slice A l.length c) (.pointer (some ⟨g, 0, none⟩)) (.slice A l.length c) (.int .i64 l.length) (.int .i64 i) (.int .i64 i) t70 w fun v w' => v = .bool r ∧ Chg [] W w') := by
      intro w' hc hcl
      refine (c_shared a s w').mono ?_
      rintro v w2 ⟨rfl, hc2⟩
      cases hsh : shrd a s with
      | true =>
        simp -implicitDefEqProofs only [pickv_false, wpB_some', cnd_true]
        exact ⟨by rw [stop (hcl true hsh)], hW.trans (hc.trans hc2)⟩
      | false =>
        simp -implicitDefEqProofs only [pickv_false, wpB_some', cnd_false, bp_add, wrapi (n := (k : Int) + 1) (by omega) (by omega)]
        exact go (hcl false hsh) w2 (hc.trans hc2)
    simp -implicitDefEqProofs only [L30_1, wpB_some', bp_lss, hlt, decide_true, cnd_true, q1, fa_58_0, ld_3, hp_drew, q2.f0, hgs.f0, be_eql]
    by_cases h1 : a.wk = s.wk
    · have e1 : (a.wk == s.wk) = true := by rw [h1]; simp
      simp -implicitDefEqProofs only [e1, gd_true, gv_true, q1, (q2.keep (Chg.refl [] w).drew).ld, (hgs.keep (Chg.refl [] w).drew).ld, wpB_some', gE_true]
      refine (c_Ahead a s w.drew).mono ?_
      rintro v w1 ⟨rfl, hc1⟩
      have hc1 : Chg [] w w1 := (Chg.refl _ _).drew.trans hc1
      have q3 := q2.keep hc1
      have hg3 := hgs.keep hc1
      cases hah : ahead a s with
      | false =>
        simp -implicitDefEqProofs only [pr_not, Bool.not_false, gd_true, gd_tf, gv_tf, wpB_some', pickv_true, gE_tf, cnd_true]
        exact ⟨by rw [stop (by simp [clash, h1, hah])], hW.trans hc1⟩
      | true =>
        by_cases h2 : s.ix ≤ a.ix
        · simp -implicitDefEqProofs only [pr_not, Bool.not_true, gd_true, gd_false, gv_true, gv_false, fa_58_1, ld_3, hg3.f1, q1, q3.f1, bp_leq, h2, decide_true, wpB_some', pickv_true, pickv_false, gd_tf, gv_tf, gE_tf, cnd_true]
          exact ⟨by rw [stop (by simp [clash, h1, h2])], hW.trans hc1⟩
        · simp -implicitDefEqProofs only [pr_not, Bool.not_true, gd_true, gd_false, gv_true, gv_false, fa_58_1, ld_3, hg3.f1, q1, q3.f1, bp_leq, h2, decide_false, wpB_some', pickv_true, pickv_false, q3.ld, hg3.ld, gE_false]
          exact tail w1 hc1 fun b hb => by simp [clash, hah, h2, hb]
    · simp -implicitDefEqProofs only [eqf h1, gd_ft, gv_ft, gE_ft, gd_uf, gv_uf, wpB_some', pickv_false, gd_false, gv_false, q1, (q2.keep (Chg.refl [] w).drew).ld, (hgs.keep (Chg.refl [] w).drew).ld, gE_false]
      exact tail w.drew (Chg.refl _ _).drew fun b hb => by simp [clash, h1, hb]
end Go.Proofs.Ytgamnncehjcdiaa
